/- Small code over the abstract heap: what a step answers, what a piece of code comes to. No condition. -/
import Derived.Test.YtllkdoefonehoaaGreatDoorA1
import Derived.Laws.Entries
set_option linter.unusedVariables false
set_option linter.unusedSimpArgs false
namespace Go.Proofs.YtllkdoefonehoaaGreatDoor.Abs
open Go Go.RowKit

inductive IOpd where
  | tmp (t : Nat)
  | const (v : AV)
  deriving Inhabited
abbrev Tms := Nat → AV
def IOpd.ev (tm : Tms) : IOpd → AV
  | .tmp t => tm t
  | .const v => v
def upd (tm : Tms) (d : Nat) (v : AV) : Tms := fun t => if t = d then v else tm t
theorem upd_same (tm : Tms) (d : Nat) (v : AV) : upd tm d v d = v := if_pos rfl
theorem upd_ne (tm : Tms) {d t : Nat} (v : AV) (h : t ≠ d) : upd tm d v t = tm t := if_neg h
def put (tm : Tms) (d : Option Nat) (v : AV) : Tms :=
  match d with
  | some d => upd tm d v
  | none => tm

/-- How two values of a type are held against each other. -/
inductive EqK where
  | bool | int | str | ptr | map | slice | func
  | iface (lit : Bool) (ints : List Nat)
  deriving Inhabited, DecidableEq

inductive NOp where
  | mv (x : IOpd)
  | pick (c a b : IOpd)
  | bin (op : BinOp) (x y : IOpd)
  | eq (k : EqK) (neg : Bool) (x y : IOpd)
  | eqs (ks : List EqK) (neg : Bool) (x y : IOpd)
  | un (op : UnOp) (x : IOpd)
  | wrap (k : IntKind) (x : IOpd)
  | same (x : IOpd)
  | b2s (x : IOpd)
  | s2b (t : TypeId) (x : IOpd)
  | faddr (x : IOpd) (off : Nat)
  | fld (x : IOpd) (off : Nat) (n : Option Nat)
  | ext (x : IOpd) (i : Nat)
  | bld (zero : List AV) (parts : List (Nat × Nat × IOpd))
  | slc (size : Nat) (x : IOpd) (lo hi mx : Option IOpd)
  | sstr (x : IOpd) (lo hi : Option IOpd)
  | sarr (n size : Nat) (x : IOpd) (lo hi mx : Option IOpd)
  | idxs (x i : IOpd)
  | idxa (len size : Nat) (n : Option Nat) (x i : IOpd)
  | iaddr (size : Nat) (x i : IOpd)
  | iaddra (len size : Nat) (x i : IOpd)
  | mki (t : TypeId) (x : IOpd)
  | mkf (fn : Fn) (first captured : List IOpd)
  | lens (x : IOpd)
  | len (x : IOpd)
  | lenm (x : IOpd)
  | nilck (x : IOpd)
  | tas (t : TypeId) (zero : AV) (ok : Bool) (x : IOpd)
  | tasi (yes no : List TypeId) (ok : Bool) (x : IOpd)
  | load (n : Option Nat) (x : IOpd)
  | lkp (zero : AV) (ok : Bool) (x key : IOpd)
  | mx (args : List IOpd)
  | mn (args : List IOpd)
  | new (t : TypeId) (cells : List AV)
  | box (t : TypeId) (x : IOpd)
  | bsl (t : TypeId) (size len : Nat) (zero : List AV) (parts : List (Nat × IOpd))
  | mks (t : TypeId) (size bytes : Nat) (zero : List AV) (l c : IOpd)
  | mkm
  deriving Inhabited

def ibin (op : BinOp) (k : IntKind) (x y : Int) : Option AV :=
  match op with
  | .add => some (.int k (k.wrap (x + y)))
  | .sub => some (.int k (k.wrap (x - y)))
  | .mul => some (.int k (k.wrap (x * y)))
  | .quo => if y = 0 then none else some (.int k (k.wrap (x.tdiv y)))
  | .rem => if y = 0 then none else some (.int k (x.tmod y))
  | .and => some (.int k (bits .and k x y))
  | .or => some (.int k (bits .or k x y))
  | .xor => some (.int k (bits .xor k x y))
  | .andNot => some (.int k (bits .andNot k x y))
  | .eql => some (.bool (decide (x = y)))
  | .neq => some (.bool (decide (x ≠ y)))
  | .lss => some (.bool (decide (x < y)))
  | .leq => some (.bool (decide (x ≤ y)))
  | .gtr => some (.bool (decide (x > y)))
  | .geq => some (.bool (decide (x ≥ y)))
  | _ => none
def ishift (op : BinOp) (k : IntKind) (x y : Int) : Option AV :=
  if y < 0 then none else
  match op with
  | .shl => some (.int k (k.wrap (x * 2 ^ (min y.toNat k.bits))))
  | .shr => some (.int k (x.fdiv (2 ^ (min y.toNat k.bits))))
  | _ => none
def sbin (op : BinOp) (x y : List UInt8) : Option AV :=
  match op with
  | .add => if x.length + y.length ≤ 9223372036854775807 then some (.str (x ++ y)) else none
  | .eql => some (.bool (decide (x = y)))
  | .neq => some (.bool (decide (x ≠ y)))
  | .lss => some (.bool (Op.bytesLess x y))
  | .leq => some (.bool (Op.bytesLess x y || decide (x = y)))
  | .gtr => some (.bool (!(Op.bytesLess x y || decide (x = y))))
  | .geq => some (.bool (!Op.bytesLess x y))
  | _ => none
def abin (op : BinOp) (x y : AV) : Option AV :=
  match x, y with
  | .int k a, .int k' b => match op with
    | .shl => ishift .shl k a b
    | .shr => ishift .shr k a b
    | op => if k = k' then ibin op k a b else none
  | .str a, .str b => sbin op a b
  | _, _ => none
def aun (op : UnOp) (x : AV) : Option AV :=
  match op, x with
  | .neg, .int k n => some (.int k (k.wrap (0 - n)))
  | .xor, .int k n => some (.int k (bits .xor k (if k.signed then -1 else k.max) n))
  | .not, .bool b => some (.bool (!b))
  | _, _ => none
def part (l : List AV) (off : Nat) : Option Nat → Option AV
  | none => l[off]?
  | some n => if off + n ≤ l.length then some (.agg ((l.drop off).take n)) else none
def intEq : AV → AV → Option Bool
  | .int k a, .int k' b => if k = k' then some (decide (a = b)) else none
  | _, _ => none
def aeq1 (k : EqK) (x y : AV) : Option Bool :=
  match k, x, y with
  | .bool, .bool a, .bool b => some (decide (a = b))
  | .int, .int k a, .int k' b => if k = k' then some (decide (a = b)) else none
  | .str, .str a, .str b => some (decide (a = b))
  | .ptr, .pnil, .pnil => some true
  | .ptr, .pnil, .ptr _ _ => some false
  | .ptr, .ptr _ _, .pnil => some false
  | .ptr, .ptr b o, .ptr c p => if b = c then some (decide (o = p)) else none
  | .map, .mnil, .mnil => some true
  | .map, .mnil, .map _ => some false
  | .map, .map _, .mnil => some false
  | .slice, .snil, .snil => some true
  | .slice, .snil, .slice _ _ _ _ => some false
  | .slice, .snil, .sempty => some false
  | .slice, .snil, .szero => some false
  | .slice, .slice _ _ _ _, .snil => some false
  | .slice, .sempty, .snil => some false
  | .slice, .szero, .snil => some false
  | .func, .nilFunc, .nilFunc => some true
  | .func, .nilFunc, .func _ _ _ => some false
  | .func, .func _ _ _, .nilFunc => some false
  | .iface lit _, .nilIface, .nilIface => if lit then some true else none
  | .iface _ _, .nilIface, .iface _ _ => some false
  | .iface _ _, .iface _ _, .nilIface => some false
  | .iface _ ints, .iface t v, .iface u w => if t = u then (if ints.contains t then intEq v w else none) else some false
  | _, _, _ => none
def aeqs : List EqK → List AV → List AV → Option Bool
  | [], [], [] => some true
  | k :: ks, x :: xs, y :: ys => (aeq1 k x y).bind fun b => (aeqs ks xs ys).map (b && ·)
  | _, _, _ => none

/-- Cells of a row, if all are known. -/
def rowGet (g : Nat → Option AV) (o : Nat) : Nat → Option (List AV)
  | 0 => some []
  | n + 1 => (rowGet g o n).bind fun l => (g (o + n)).map fun v => l ++ [v]
def loadC (H : AH) (b o : Nat) : Option Nat → Option AV
  | none => match H.at_ b with
    | some (.cells _ _ cs) => cs[o]?
    | some (.row g) => g o
    | _ => none
  | some n => match H.at_ b with
    | some (.cells _ _ cs) => if o + n ≤ cs.length then some (.agg ((cs.drop o).take n)) else none
    | some (.row g) => if n = 0 then none else (rowGet g o n).map .agg
    | _ => none
def setRange (l : List AV) (off : Nat) : List AV → List AV
  | [] => l
  | v :: vs => setRange (l.set off v) (off + 1) vs
def fillA (cells : List AV) : List (Nat × Nat × AV) → Option (List AV)
  | [] => some cells
  | (off, size, v) :: rest => if v.cells.length = size ∧ off + size ≤ cells.length then fillA (setRange cells off v.cells) rest else none
def optI (ev : IOpd → AV) : Option IOpd → Option (Option Int)
  | none => some none
  | some x => match ev x with
    | .int _ n => some (some n)
    | _ => none
/-- The bounds of a slice expression over len elements. -/
def bounds (len : Nat) (lo hi mx : Option Int) : Option (Nat × Nat) :=
  if mx.isSome && hi.isNone then none else
  let h : Int := hi.getD len
  let l : Int := lo.getD 0
  let m : Int := mx.getD len
  if 0 ≤ l ∧ l ≤ h ∧ h ≤ m ∧ m ≤ len then some (l.toNat, h.toNat) else none
def zeros (zero : List AV) (n : Nat) : List AV :=
  match zero with
  | [z] => List.replicate n z
  | zero => (List.replicate n zero).flatten

def slcA (size : Nat) (lo hi mx : Option Int) : AV → Option AV
  | .slice b o n e => if e = size then (bounds n lo hi mx).map fun (l, h) => if h = l then (if mx = some (l : Int) then .szero else .sempty) else .slice b (o + l * size) (h - l) size else none
  | .snil => (bounds 0 lo hi mx).map fun _ => .snil
  | .sempty => (bounds 0 lo hi mx).map fun _ => if mx = some 0 then .szero else .sempty
  | .szero => (bounds 0 lo hi mx).map fun _ => .szero
  | _ => none
def isByte : AV → Bool
  | .int .u8 _ => true
  | _ => false
def byteOf : AV → UInt8
  | .int .u8 n => UInt8.ofNat n.toNat
  | _ => 0
def b2sA (H : AH) : AV → Option AV
  | .snil => some (.str [])
  | .sempty => some (.str [])
  | .szero => some (.str [])
  | .slice b o n _ => match loadC H b o (some n) with
    | some (.agg cs) => if cs.all isByte then some (.str (cs.map byteOf)) else none
    | _ => none
  | _ => none
def tasA (t : TypeId) (zero : AV) (ok : Bool) : AV → Option AV
  | .iface u v => if u = t then some (if ok then .tuple [v, .bool true] else v) else if ok then some (.tuple [zero, .bool false]) else none
  | .nilIface => if ok then some (.tuple [zero, .bool false]) else none
  | _ => none
def tasiA (yes no : List TypeId) (ok : Bool) : AV → Option AV
  | .iface u v => if yes.contains u then some (if ok then .tuple [.iface u v, .bool true] else .iface u v) else if ok && no.contains u then some (.tuple [.nilIface, .bool false]) else none
  | .nilIface => if ok then some (.tuple [.nilIface, .bool false]) else none
  | _ => none

def mmA (f : AV → AV → Option AV) : AV → List AV → Option AV
  | a, [] => some a
  | a, b :: l => (f a b).bind fun c => mmA f c l
def mmA1 (f : AV → AV → Option AV) : List AV → Option AV
  | [] => none
  | a :: l => mmA f a l
def mx2 : AV → AV → Option AV
  | .int k x, .int k' y => if k = k' then some (.int k (max x y)) else none
  | _, _ => none
def mn2 : AV → AV → Option AV
  | .int k x, .int k' y => if k = k' then some (.int k (min x y)) else none
  | _, _ => none
/-- The entry of a map at a number. -/
def findA (k : IntKind) (n : Int) : List AEntry → Nat → Option (Option (Nat × AV))
  | [], _ => some none
  | e :: es, i => match e.key with
    | .int k' m => if k' = k then (if n = m then some (some (i, e.val)) else findA k n es (i + 1)) else none
    | _ => none
def lkpR (zero : AV) (ok : Bool) : Option (Nat × AV) → AV
  | some (_, v) => if ok then .tuple [v, .bool true] else v
  | none => if ok then .tuple [zero, .bool false] else zero
def lkpA (H : AH) (zero : AV) (ok : Bool) : AV → AV → Option AV
  | .mnil, .int _ _ => some (lkpR zero ok none)
  | .map b, .int k n => match H.at_ b with
    | some (.map es _) => (findA k n es 0).map (lkpR zero ok)
    | _ => none
  | _, _ => none
def nop (ev : IOpd → AV) (H : AH) (id : Nat) : NOp → Option (AV × Option AObj)
  | .mv x => some (ev x, none)
  | .same x => match ev x with
    | .str l => some (.str l, none)
    | _ => none
  | .pick c a b => match ev c with
    | .bool t => some (if t then ev a else ev b, none)
    | _ => none
  | .bin op x y => (abin op (ev x) (ev y)).map (·, none)
  | .eq k neg x y => (aeq1 k (ev x) (ev y)).map fun b => (.bool (if neg then !b else b), none)
  | .eqs ks neg x y => match ev x, ev y with
    | .agg xs, .agg ys => (aeqs ks xs ys).map fun b => (.bool (if neg then !b else b), none)
    | _, _ => none
  | .un op x => (aun op (ev x)).map (·, none)
  | .wrap k x => match ev x with
    | .int _ n => some (.int k (k.wrap n), none)
    | _ => none
  | .faddr x off => match ev x with
    | .ptr b o => some (.ptr b (o + off), none)
    | _ => none
  | .fld x off n => match ev x with
    | .agg l => (part l off n).map (·, none)
    | _ => none
  | .ext x i => match ev x with
    | .tuple l => l[i]?.map (·, none)
    | _ => none
  | .bld zero parts => (fillA zero (parts.map fun (o, s, x) => (o, s, ev x))).map (.agg ·, none)
  | .slc size x lo hi mx => (optI ev lo).bind fun lo => (optI ev hi).bind fun hi => (optI ev mx).bind fun mx => (slcA size lo hi mx (ev x)).map (·, none)
  | .sstr x lo hi => (optI ev lo).bind fun lo => (optI ev hi).bind fun hi => match ev x with
    | .str l => (bounds l.length lo hi none).map fun (a, b) => (.str ((l.take b).drop a), none)
    | _ => none
  | .sarr len size x lo hi mx => (optI ev lo).bind fun lo => (optI ev hi).bind fun hi => (optI ev mx).bind fun mx => match ev x with
    | .ptr b o => match loadC H b o (some (len * size)) with
      | some _ => (bounds len lo hi mx).map fun (l, h) => (if h = l then .sempty else .slice b (o + l * size) (h - l) size, none)
      | none => none
    | _ => none
  | .idxs x i => match ev x, ev i with
    | .str l, .int _ n => if 0 ≤ n then (l[n.toNat]?).map fun c => (.int .u8 (c.toNat : Int), none) else none
    | _, _ => none
  | .idxa len size n x i => match ev x, ev i with
    | .agg l, .int _ m => if 0 ≤ m ∧ m < len then (part l (m.toNat * size) n).map (·, none) else none
    | _, _ => none
  | .iaddr size x i => match ev x, ev i with
    | .slice b o n _, .int _ m => if 0 ≤ m ∧ m < n then some (.ptr b (o + m.toNat * size), none) else none
    | _, _ => none
  | .iaddra len size x i => match ev x, ev i with
    | .ptr b o, .int _ m => if 0 ≤ m ∧ m < len then some (.ptr b (o + m.toNat * size), none) else none
    | _, _ => none
  | .mki t x => some (.iface t (ev x), none)
  | .mkf fn first captured => if Fn.notYield fn then some (.func fn (first.map ev) (captured.map ev), none) else none
  | .lens x => match ev x with
    | .str l => some (.int .i64 (l.length : Int), none)
    | _ => none
  | .len x => match ev x with
    | .slice _ _ n _ => some (.int .i64 (n : Int), none)
    | .snil => some (.int .i64 0, none)
    | .sempty => some (.int .i64 0, none)
    | .szero => some (.int .i64 0, none)
    | _ => none
  | .lenm x => match ev x with
    | .mnil => some (.int .i64 0, none)
    | .map b => match H.at_ b with
      | some (.map es _) => some (.int .i64 (es.length : Int), none)
      | _ => none
    | _ => none
  | .nilck x => match ev x with
    | .ptr b o => some (.ptr b o, none)
    | .iface t v => some (.iface t v, none)
    | .func (.func f) a c => some (.func (.func f) a c, none)
    | _ => none
  | .tas t zero ok x => (tasA t zero ok (ev x)).map (·, none)
  | .tasi yes no ok x => (tasiA yes no ok (ev x)).map (·, none)
  | .load n x => match ev x with
    | .ptr b o => (loadC H b o n).map (·, none)
    | _ => none
  | .new t cells => some (.ptr id 0, some (.cells false t cells))
  | .box t x => some (.ptr id 0, some (.cells false t (ev x).cells))
  | .bsl t size len zero parts => (fillA (zeros zero len) (parts.map fun (o, x) => (o * size, size, ev x))).map fun cs => (.slice id 0 len size, some (.cells false t cs))
  | .mks t size bytes zero l c => match ev l, ev c with
    | .int _ l, .int _ c => if 0 ≤ l ∧ l ≤ c ∧ c ≤ 281474976710656 ∧ c * bytes ≤ 281474976710656 then some (.slice id 0 l.toNat size, some (.cells false t (zeros zero l.toNat))) else none
    | _, _ => none
  | .s2b t x => match ev x with
    | .str l => if l.length ≤ 9223372036854775807 then some (.slice id 0 l.length 1, some (.cells false t (l.map fun c => .int .u8 (c.toNat : Int)))) else none
    | _ => none
  | .b2s x => (b2sA H (ev x)).map (·, none)
  | .mkm => some (.map id, some (.map [] 0))
  | .lkp zero ok x key => (lkpA H zero ok (ev x) (ev key)).map (·, none)
  | .mx args => (mmA1 mx2 (args.map ev)).map (·, none)
  | .mn args => (mmA1 mn2 (args.map ev)).map (·, none)

inductive EOp where
  | store (n : Nat) (x v : IOpd)
  | call (f : FuncId) (args : List IOpd)
  | callv (x : IOpd) (args : List IOpd)
  | invoke (name : String) (x : IOpd) (args : List IOpd)
  | xcall (f : FuncId) (args : List IOpd)
  | never
  | append (str : Bool) (t : TypeId) (size bytes : Nat) (s x : IOpd)
  | copy (size : Nat) (d s : IOpd)
  | clear (size : Nat) (zero : List AV) (x : IOpd)
  | cap (x : IOpd)
  | mapset (m key val : IOpd)
  deriving Inhabited

def bodyP (P : Program) (f : FuncId) : Bool :=
  match P.funcs[f]? with
  | some fn => fn.body.isSome && fn.name != "runtime.NumGoroutine"
  | none => false
/-- A call with related arguments in a world for which H stands comes back with what Q says. -/
def ACall (P : Program) (f : FuncId) (args : List AV) (H : AH) (Q : AV → AH → Prop) : Prop :=
  bodyP P f = true ∧ ∀ (j : Inj) (w : World) (cargs : Array Value), Rel P j H w → VRs j args cargs.toList →
    Calls P f cargs w fun e w' => ∃ v vc j' H', e = .returned vc ∧ Q v H' ∧ Post P j H w j' H' w' ∧ VR j' v vc
theorem ACall.mono {P : Program} {f : FuncId} {args : List AV} {H : AH} {Q Q' : AV → AH → Prop} (h : ACall P f args H Q) (hq : ∀ v H', Q v H' → Q' v H') : ACall P f args H Q' :=
  ⟨h.1, fun j w cargs hr hv => (h.2 j w cargs hr hv).mono fun e w' ⟨v, vc, j', H', he, q, hp, hvr⟩ => ⟨v, vc, j', H', he, hq v H' q, hp, hvr⟩⟩

/-- The cells that an append or a copy takes. -/
def srcCells (H : AH) (size : Nat) (m : Nat) : AV → Option (List AV)
  | .str l => some ((l.take m).map fun c => .int .u8 (c.toNat : Int))
  | .slice b o _ _ => match loadC H b o (some (m * size)) with
    | some (.agg cs) => some cs
    | _ => none
  | .snil => some []
  | .sempty => some []
  | .szero => some []
  | _ => none
def lenA : AV → Option Nat
  | .str l => some l.length
  | .slice _ _ n _ => some n
  | .snil => some 0
  | .sempty => some 0
  | .szero => some 0
  | _ => none
def storeC (H : AH) (b o : Nat) (vs : List AV) : Option AH :=
  match H.at_ b with
  | some (.cells false t cs) => if o + vs.length ≤ cs.length ∧ vs.all AV.one then some (H.set b (some (.cells false t (setRange cs o vs)))) else none
  | _ => none
def appendA (H : AH) (t : TypeId) (size bytes : Nat) (s x : AV) : Option (AV × AH) :=
  (lenA x).bind fun m => if m = 0 then (match s with
      | .slice b o n e => some (.slice b o n e, H)
      | .snil => some (.snil, H)
      | .sempty => some (.sempty, H)
      | .szero => some (.szero, H)
      | _ => none)
  else (srcCells H size m x).bind fun xs => if xs.all AV.one then (match s with
      | .snil => if m * bytes ≤ 70368744177664 ∧ m ≤ 70368744177664 then some (.slice H.next 0 m size, H.new (.cells false t xs)) else none
      | .szero => if m * bytes ≤ 70368744177664 ∧ m ≤ 70368744177664 then some (.slice H.next 0 m size, H.new (.cells false t xs)) else none
      | .slice b o n e => match H.at_ b with
        | some (.cells false u cs) => if o = 0 ∧ e = size ∧ u = t ∧ cs.length = n * size ∧ (n + m) * bytes ≤ 70368744177664 ∧ n + m ≤ 70368744177664 then some (.slice H.next 0 (n + m) size, (H.set b none).new (.cells false t (cs ++ xs))) else none
        | _ => none
      | _ => none) else none
def isStrV : AV → Bool
  | .str _ => true
  | _ => false
def appendK (H : AH) (str : Bool) (t : TypeId) (size bytes : Nat) (s x : AV) : Option (AV × AH) :=
  if isStrV x = str then appendA H t size bytes s x else none
def copyA (H : AH) (size : Nat) (d s : AV) : Option (AV × AH) :=
  (lenA s).bind fun n => (lenA d).bind fun k => (srcCells H size (min n k) s).bind fun cs => match d with
    | .slice b o _ _ => (storeC H b o cs).map fun H' => (.int .i64 ((min n k : Nat) : Int), H')
    | .snil => some (.int .i64 0, H)
    | .sempty => some (.int .i64 0, H)
    | .szero => some (.int .i64 0, H)
    | _ => none

def clearA (H : AH) (size : Nat) (zero : List AV) : AV → Option AH
  | .slice b o n e => if e = size ∧ 0 < n then storeC H b o (zeros zero n) else none
  | .snil => some H
  | .sempty => some H
  | .szero => some H
  | _ => none
/-- How much room a slice has: as much as it holds, or more. -/
def CapA (H : AH) (K : AV → AH → Prop) : AV → Prop
  | .snil => K (.int .i64 0) H
  | .szero => K (.int .i64 0) H
  | .sempty => ∀ k : Nat, K (.int .i64 (k : Int)) H
  | .slice _ _ n _ => ∀ k : Nat, n ≤ k → K (.int .i64 (k : Int)) H
  | _ => False
/-- A number that is new to a map. -/
def msetA (H : AH) : AV → AV → AV → Option AH
  | .map b, .int k n, v => match H.at_ b with
    | some (.map es c) => (match findA k n es 0 with
      | some none => some (H.set b (some (.map (es ++ [⟨.int k n, v, c⟩]) (c + 1))))
      | _ => none)
    | _ => none
  | _, _, _ => none
/-- A type's own method, of a receiver as it is. -/
def methF (P : Program) (t : TypeId) (nm : String) : Option FuncId :=
  (P.info? t).bind fun i => (i.methods.find? (·.name == nm)).bind fun m => if m.path.isEmpty then (match m.func with
    | some (f, p) => (match P.underlying t with
      | some (.pointer _) => if p then some f else none
      | some _ => if p then none else some f
      | none => none)
    | none => none) else none
/-- A call of what has no text: the model's own entry. -/
def XCall (P : Program) (f : FuncId) (args : List AV) (H : AH) (Q : AV → AH → Prop) : Prop :=
  ∀ (j : Inj) (w : World) (cargs : Array Value), Rel P j H w → VRs j args cargs.toList →
    ∃ vc w' v j' H', (callFunc f cargs).run P w = .ok (.value vc) w' ∧ Q v H' ∧ Post P j H w j' H' w' ∧ VR j' v vc
theorem XCall.mono {P : Program} {f : FuncId} {args : List AV} {H : AH} {Q Q' : AV → AH → Prop} (h : XCall P f args H Q) (hq : ∀ v H', Q v H' → Q' v H') : XCall P f args H Q' :=
  fun j w cargs hr hv => by
    obtain ⟨vc, w', v, j', H', h1, q, h2, h3⟩ := h j w cargs hr hv
    exact ⟨vc, w', v, j', H', h1, hq v H' q, h2, h3⟩
/-- A type's method by its name, and its receiver. -/
def MethR (P : Program) (t : TypeId) (nm : String) (v : AV) (f : FuncId) (v' : AV) : Prop :=
  ∀ (j : Inj) (w : World) (u : Value), VR j v u → ∃ u', (method (P.types.size + Made.depth) t u nm).run P w = .ok (f, u') w ∧ VR j v' u'
def CallI (P : Program) (t : TypeId) (nm : String) (v : AV) (args : List AV) (H : AH) (Q : AV → AH → Prop) : Prop :=
  ∃ f v', MethR P t nm v f v' ∧ (ACall P f (v' :: args) H Q ∨ XCall P f (v' :: args) H Q)
def estep (P : Program) (ev : IOpd → AV) (H : AH) (K : AV → AH → Prop) : EOp → Prop
  | .store n x v => match ev x with
    | .ptr b o => if (ev v).cells.length = n then (match storeC H b o (ev v).cells with
      | some H' => K .undef H'
      | none => False) else False
    | _ => False
  | .call f args => ACall P f (args.map ev) H K
  | .callv x args => match ev x with
    | .func (.func f) first captured => ACall P f (first ++ args.map ev ++ captured) H K
    | _ => False
  | .invoke nm x args => match ev x with
    | .iface t v => CallI P t nm v (args.map ev) H K
    | _ => False
  | .xcall f args => XCall P f (args.map ev) H K
  | .never => False
  | .append str t size bytes s x => match appendK H str t size bytes (ev s) (ev x) with
    | some (v, H') => K v H'
    | none => False
  | .copy size d s => match copyA H size (ev d) (ev s) with
    | some (v, H') => K v H'
    | none => False
  | .clear size zero x => match clearA H size zero (ev x) with
    | some H' => K (.tuple []) H'
    | none => False
  | .cap x => CapA H K (ev x)
  | .mapset m key val => match msetA H (ev m) (ev key) (ev val) with
    | some H' => K .undef H'
    | none => False

abbrev Guard := Option (Nat × Bool)
def wantedA (tm : Tms) : Guard → Option Bool
  | none => some true
  | some (g, want) => match tm g with
    | .bool b => some (b == want)
    | .tuple [] => some false
    | _ => none

/-- A step of a region: a quiet one; a quiet one whose block is laid later; the laying of such a block; one that acts (and the quiet ones that may come behind it). -/
inductive IStep where
  | n (dst : Option Nat) (g : Guard) (o : NOp)
  | late (key : Nat) (dst : Option Nat) (g : Guard) (o : NOp)
  | act (key : Nat)
  | e (dst : Option Nat) (g : Guard) (o : EOp) (re : List (Nat × Guard × NOp))
  deriving Inhabited
abbrev Pend := List (Nat × Nat × AObj)
def stays (tm : Tms) (H : AH) (r : Nat × Guard × NOp) : Prop :=
  wantedA tm r.2.1 = some false ∨ nop (·.ev tm) H 0 r.2.2 = some (tm r.1, none)

def IRun (P : Program) (K : Tms → AH → Prop) : List IStep → Pend → Tms → AH → Prop
  | [], pd, tm, H => K tm H
  | .n dst g o :: rest, pd, tm, H => match wantedA tm g with
    | some true => (match nop (·.ev tm) H H.next o with
      | some (v, none) => IRun P K rest pd (put tm dst v) H
      | some (v, some b) => IRun P K rest pd (put tm dst v) (H.new b)
      | none => False)
    | some false => IRun P K rest pd (put tm dst .undef) H
    | none => False
  | .late key dst g o :: rest, pd, tm, H => match wantedA tm g with
    | some true => (match nop (·.ev tm) H H.next o with
      | some (v, some b) => IRun P K rest ((key, H.next, b) :: pd) (put tm dst v) H.bump
      | _ => False)
    | some false => IRun P K rest pd (put tm dst .undef) H
    | none => False
  | .act key :: rest, pd, tm, H => match pd.lookup key with
    | some (id, b) => IRun P K rest pd tm (H.set id (some b))
    | none => IRun P K rest pd tm H
  | .e dst g o re :: rest, pd, tm, H => match wantedA tm g with
    | some true => estep P (·.ev tm) H (fun v H' => (∀ r ∈ re, stays (put tm dst v) H' r) ∧ IRun P K rest pd (put tm dst v) H') o
    | some false => IRun P K rest pd (put tm dst .undef) H
    | none => False

inductive ICode where
  | skip
  | reg (steps : List IStep)
  | seq (a b : ICode)
  | cond (c : IOpd) (a b : ICode)
  | block (id : Nat) (a : ICode)
  | loop (a : ICode)
  | exit (id : Nat)
  | ret
  | never
  deriving Inhabited
inductive IEx where
  | normal
  | exit (id : Nat)
  | ret

abbrev IPost := IEx → Tms → AH → Prop
def IPost.then (next : Tms → AH → Prop) (Q : IPost) : IPost
  | .normal, tm, H => next tm H
  | e, tm, H => Q e tm H
def IPost.inBlock (id : Nat) (Q : IPost) : IPost
  | .exit k, tm, H => if k = id then Q .normal tm H else Q (.exit k) tm H
  | e, tm, H => Q e tm H

def IWP (P : Program) : ICode → IPost → Tms → AH → Prop
  | .skip, Q, tm, H => Q .normal tm H
  | .reg steps, Q, tm, H => IRun P (Q .normal) steps [] tm H
  | .seq a b, Q, tm, H => IWP P a (IPost.then (IWP P b Q) Q) tm H
  | .cond c a b, Q, tm, H => match c.ev tm with
    | .bool true => IWP P a Q tm H
    | .bool false => IWP P b Q tm H
    | _ => False
  | .block id a, Q, tm, H => IWP P a (IPost.inBlock id Q) tm H
  | .loop a, Q, tm, H => ∃ I : Nat → Tms → AH → Prop, (∃ n, I n tm H) ∧ ∀ n tm H, I n tm H → IWP P a (IPost.then (fun tm' H' => ∃ m, m < n ∧ I m tm' H') Q) tm H
  | .exit id, Q, tm, H => Q (.exit id) tm H
  | .ret, Q, tm, H => Q .ret tm H
  | .never, Q, tm, H => False

end Go.Proofs.YtllkdoefonehoaaGreatDoor.Abs

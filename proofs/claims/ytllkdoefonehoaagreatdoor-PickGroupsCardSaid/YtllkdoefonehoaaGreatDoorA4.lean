/- What the quiet steps are compiled from. No condition. -/
import Derived.Test.YtllkdoefonehoaaGreatDoorA3
set_option linter.unusedVariables false
set_option linter.unusedSimpArgs false
namespace Go.Proofs.YtllkdoefonehoaaGreatDoor.Abs
open Go Go.RowKit

/-- The leaves of a type whose values are held against each other cell by cell. -/
def leafK (P : Program) (lit : Bool) (t : TypeId) : Option EqK :=
  match P.underlying t with
  | some .bool => some .bool
  | some (.int _) => some .int
  | some .string => some .str
  | some (.pointer e) => (sizeP P e).bind fun n => if n = 0 then none else some .ptr
  | some (.interface ms) => some (.iface (lit || ms.isEmpty) [])
  | some (.slice _) => some .slice
  | some (.map _ _) => some .map
  | some (.func _ _ _) => some .func
  | _ => none
def intT (P : Program) (t : TypeId) : Bool := (match P.underlying t with
  | some (.int _) => true
  | _ => false) && (match P.info? t with
  | some i => i.comparable
  | none => false)
def intTypes (P : Program) : List Nat := (List.range P.types.size).filter (intT P)
def withInts (P : Program) : EqK → EqK
  | .iface l _ => .iface l (intTypes P)
  | k => k
/-- As leafK; numbers of a type of their own behind an interface may be held against each other, too. -/
def leafT (P : Program) (lit : Bool) (t : TypeId) : Option EqK := (leafK P lit t).map (withInts P)
def fieldsKs (P : Program) (K : TypeId → Option (List EqK)) : List Field → Nat → Option (List EqK)
  | [], _ => some []
  | f :: fs, off => if f.name ≠ "_" ∧ f.offset = off then (K f.type).bind fun ks => if sizeP P f.type = some ks.length ∧ ks.length ≠ 0 then (fieldsKs P K fs (off + ks.length)).map (ks ++ ·) else none else none
def isStructT (P : Program) (t : TypeId) : Bool :=
  match P.underlying t with
  | some (.struct _) => true
  | _ => false
def kindsK (P : Program) : Nat → TypeId → Option (List EqK)
  | 0, _ => none
  | n + 1, t => match P.underlying t with
    | some (.struct fs) => if P.stoodInHeld t then none else fieldsKs P (kindsK P n) fs.toList 0
    | _ => (leafK P false t).map ([·])
def structK (P : Program) (t : TypeId) : Option (List EqK) := if P.eqGuardType P.depth t then none else kindsK P 5 t

def compParts (P : Program) (place : Nat → Option (Nat × Nat)) : List (Nat × Operand) → Option (List (Nat × Nat × IOpd))
  | [] => some []
  | (i, x) :: rest => (place i).bind fun (o, s) => (compO P x).bind fun a => (compParts P place rest).map ((o, s, a) :: ·)
def places (P : Program) (fs : List Field) : Option (List (Nat × Nat)) := fs.mapM (fun f => (P.info? f.type).map fun i => (f.offset, i.size))
def compSParts (P : Program) : List (Nat × Operand) → Option (List (Nat × IOpd))
  | [] => some []
  | (i, x) :: rest => (compO P x).bind fun a => (compSParts P rest).map ((i, a) :: ·)
def isIface (P : Program) (t : TypeId) : Bool :=
  match P.underlying t with
  | some (.interface _) => true
  | _ => false
def isConstO : Operand → Bool
  | .const _ => true
  | _ => false
/-- Has a method set all that is wanted? -/
def hasAll (want : Array (String × TypeId)) (got : Array Method) : Bool := want.toList.all fun x => got.any fun m => m.name == x.1 && m.sig == x.2
def implList (P : Program) (want : Array (String × TypeId)) (yes : Bool) : List TypeId :=
  (List.range P.types.size).filter fun t => match P.info? t with
    | some i => hasAll want i.methods == yes
    | none => false

def compN (P : Program) : Op → Option NOp
  | .move x => (compO P x).map .mv
  | .assign x => (compO P x).map .mv
  | .pick c a b => (compO P c).bind fun c => (compO P a).bind fun a => (compO P b).map fun b => .pick c a b
  | .binOp op t x y _ => (compO P x).bind fun a => (compO P y).bind fun b => match P.underlying t with
    | some (.int _) => some (.bin op a b)
    | some .string => some (.bin op a b)
    | some (.struct _) => (structK P t).bind fun ks => (match op with
      | .eql => some (.eqs ks false a b)
      | .neq => some (.eqs ks true a b)
      | _ => none)
    | _ => (leafT P (isConstO x || isConstO y) t).bind fun k => (match op with
      | .eql => some (.eq k false a b)
      | .neq => some (.eq k true a b)
      | _ => none)
  | .unOp op _ x => (compO P x).map (.un op)
  | .convert src dst x => (compO P x).bind fun a => match P.underlying src, P.underlying dst with
    | some (.int _), some (.int k) => some (.wrap k a)
    | some .string, some .string => some (.same a)
    | some .string, some (.slice e) => (match P.underlying e with
      | some (.int .u8) => some (.s2b e a)
      | _ => none)
    | some (.slice e), some .string => (match P.underlying e with
      | some (.int .u8) => some (.b2s a)
      | _ => none)
    | _, _ => none
  | .makeInterface t x => if (P.underlying t).isSome && !isIface P t then (compO P x).map (.mki t) else none
  | .makeFunc fn first captured => (compOs P first.toList).bind fun a => (compOs P captured.toList).map fun b => .mkf fn a b
  | .makeMap t none => some .mkm
  | .makeSlice t l c => match P.underlying t with
    | some (.slice e) => (sizeP P e).bind fun s => (bytesP P e).bind fun b => (zeroP P e).bind fun z => (compO P l).bind fun l => (compO P c).bind fun c => if z.cells.length = s then some (.mks e s b z.cells l c) else none
    | _ => none
  | .slice t x lo hi mx => (compO P x).bind fun a => (compOp P lo).bind fun lo => (compOp P hi).bind fun hi => (compOp P mx).bind fun mx => match P.underlying t with
    | some (.array n e) => (sizeP P e).map fun s => .sarr n s a lo hi mx
    | some .string => if mx.isNone then some (.sstr a lo hi) else none
    | some (.slice e) => (sizeP P e).map fun s => .slc s a lo hi mx
    | _ => none
  | .fieldAddr s x f => (compO P x).bind fun a => match P.underlying s with
    | some (.struct fs) => (fs[f]?).bind fun f => (sizeP P f.type).bind fun n => if n = 0 then none else some (.faddr a f.offset)
    | _ => none
  | .field t x f => (compO P x).bind fun a => match P.underlying t with
    | some (.struct fs) => (fs[f]?).bind fun f => (aggP P f.type).map fun n => .fld a f.offset n
    | _ => none
  | .indexAddr t x i => (compO P x).bind fun a => (compO P i).bind fun i => match P.underlying t with
    | some (.array n e) => (sizeP P e).map fun s => .iaddra n s a i
    | some (.slice e) => (sizeP P e).map fun s => .iaddr s a i
    | _ => none
  | .index t x i => (compO P x).bind fun a => (compO P i).bind fun i => match P.underlying t with
    | some (.array n e) => (sizeP P e).bind fun s => (aggP P e).map fun k => .idxa n s k a i
    | some .string => some (.idxs a i)
    | _ => none
  | .extract x i => (compO P x).map (.ext · i)
  | .nilCheck x => (compO P x).map .nilck
  | .typeAssert x xt t ok => (compO P x).bind fun a => match P.underlying t with
    | some (.interface want) => if (match zeroP P t with | some .nilIface => true | _ => false) then some (.tasi (implList P want true) (implList P want false) ok a) else none
    | some _ => (zeroP P t).map fun z => .tas t z ok a
    | none => none
  | .lookup t x i ok => match P.underlying t with
    | some (.map k e) => (match P.underlying k with
      | some (.int _) => (zeroP P e).bind fun z => (compO P x).bind fun a => (compO P i).map fun i => .lkp z ok a i
      | _ => none)
    | _ => none
  | .load t x => (compO P x).bind fun a => (aggP P t).map fun n => .load n a
  | .alloc t => (zeroP P t).map fun z => .new t z.cells
  | .box t x => (compO P x).map (.box t)
  | .build t parts => (zeroP P t).bind fun z => if z.one then none else match P.underlying t with
    | some (.struct fs) => (places P fs.toList).bind fun pl => (compParts P (pl.toArray[·]?) parts.toList).map fun ps => .bld z.cells ps
    | some (.array _ e) => (sizeP P e).bind fun s => (compParts P (fun i => some (i * s, s)) parts.toList).map fun ps => .bld z.cells ps
    | _ => none
  | .buildSlice t len parts => match P.underlying t with
    | some (.slice e) => (sizeP P e).bind fun s => (zeroP P e).bind fun z => (compSParts P parts.toList).bind fun ps => if z.cells.length = s ∧ len * s ≤ 2 ^ 24 then some (.bsl e s len z.cells ps) else none
    | _ => none
  | .call { callee := .builtin .len, args := args, argTypes := ts } => match args.toList, (ts[0]?).bind P.underlying with
    | [x], some .string => (compO P x).map .lens
    | [x], some (.slice _) => (compO P x).map .len
    | [x], some (.map _ _) => (compO P x).map .lenm
    | _, _ => none
  | .call { callee := .builtin .max, args := args, argTypes := _ } => (compOs P args.toList).map .mx
  | .call { callee := .builtin .min, args := args, argTypes := _ } => (compOs P args.toList).map .mn
  | _ => none

end Go.Proofs.YtllkdoefonehoaaGreatDoor.Abs

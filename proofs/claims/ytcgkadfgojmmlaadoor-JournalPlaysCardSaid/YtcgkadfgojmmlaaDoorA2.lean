/- An abstract heap and how it stands for a world; small code over it: what a step answers, what a piece of code comes to. No condition. -/
import Derived.Calls
import Derived.Below
import Derived.Laws.Sem
import Derived.Laws.Entries
import Derived.CallsIn
set_option linter.unusedVariables false
set_option linter.unusedSimpArgs false
namespace Go.Proofs.YtcgkadfgojmmlaaDoor.Abs
open Go Go.RowKit

/-- A value: no capacities, texts as lists of bytes. -/
inductive AV where
  | bool (b : Bool)
  | int (k : IntKind) (n : Int)
  | str (l : List UInt8)
  | ptr (b o : Nat)
  | pnil
  | slice (b o n e : Nat)
  | snil
  | sempty
  | szero
  | hdl (g t : Nat)
  | map (b : Nat)
  | mnil
  | func (fn : Fn) (first captured : List AV)
  | yield (b : Nat)
  | nilFunc
  | iface (t : TypeId) (v : AV)
  | nilIface
  | agg (l : List AV)
  | tuple (l : List AV)
  deriving Inhabited

abbrev AV.undef : AV := .tuple []
def AV.cells : AV → List AV
  | .agg l => l
  | v => [v]
def AV.one : AV → Bool
  | .agg _ => false
  | .tuple _ => false
  | _ => true

/-- A block's number in the world, and how many cells it has there. -/
abbrev Inj := Nat → Option (Nat × Nat)
def Inj.le (j j' : Inj) : Prop := ∀ a c, j a = some c → j' a = some c
theorem Inj.le_refl (j : Inj) : j.le j := fun _ _ h => h
theorem Inj.le_trans {j j' j'' : Inj} (h : j.le j') (k : j'.le j'') : j.le j'' := fun a c e => k a c (h a c e)

def Fn.notYield : Fn → Bool
  | .yield _ => false
  | _ => true

inductive VR (j : Inj) : AV → Value → Prop
  | bool (b) : VR j (.bool b) (.bool b)
  | int (k n) : VR j (.int k n) (.int k n)
  | str (s : ByteArray) : VR j (.str s.data.toList) (.string s)
  | pnil : VR j .pnil (.pointer none)
  | ptr {b c z o : Nat} (h : j b = some (c, z)) : VR j (.ptr b o) (.pointer (some ⟨c, o, none⟩))
  | snil : VR j .snil (.slice none 0 0)
  | slice {b c z o n e k : Nat} (h : j b = some (c, z)) (hk : n ≤ k) (hz : o + k * e ≤ z) : VR j (.slice b o n e) (.slice (some ⟨c, o, none⟩) n k)
  | sempty {a : Addr} {k : Nat} : VR j .sempty (.slice (some a) 0 k)
  | szero {a : Addr} : VR j .szero (.slice (some a) 0 0)
  | hdl {g t : Nat} : VR j (.hdl g t) (.pointer (some ⟨g, t, none⟩))
  | mnil : VR j .mnil (.map none)
  | map {b c z : Nat} (h : j b = some (c, z)) : VR j (.map b) (.map (some c))
  | func {fn : Fn} {f1 c1 : List AV} {f2 c2 : Array Value} (hn : Fn.notYield fn = true) (hf : f1.length = f2.size)
      (h1 : ∀ (i : Nat) a b, f1[i]? = some a → f2[i]? = some b → VR j a b) (hc : c1.length = c2.size)
      (h2 : ∀ (i : Nat) a b, c1[i]? = some a → c2[i]? = some b → VR j a b) : VR j (.func fn f1 c1) (.func fn f2 c2)
  | yield {b c z : Nat} (h : j b = some (c, z)) : VR j (.yield b) (.func (.yield c) #[] #[])
  | nilFunc : VR j .nilFunc .nilFunc
  | iface {t : TypeId} {v : AV} {v' : Value} (h : VR j v v') : VR j (.iface t v) (.iface t v')
  | nilIface : VR j .nilIface .nilIface
  | agg {l : List AV} {r : Array Value} (hs : l.length = r.size) (h : ∀ (i : Nat) a b, l[i]? = some a → r[i]? = some b → VR j a b) : VR j (.agg l) (.agg r)
  | tuple {l : List AV} {r : Array Value} (hs : l.length = r.size) (h : ∀ (i : Nat) a b, l[i]? = some a → r[i]? = some b → VR j a b) : VR j (.tuple l) (.tuple r)

theorem VR.mono {j j' : Inj} (hj : j.le j') {a : AV} {v : Value} (h : VR j a v) : VR j' a v := by
  induction h with
  | bool b => exact .bool b
  | int k n => exact .int k n
  | str s => exact .str s
  | pnil => exact .pnil
  | ptr h => exact .ptr (hj _ _ h)
  | snil => exact .snil
  | slice h hk hz => exact .slice (hj _ _ h) hk hz
  | sempty => exact .sempty
  | szero => exact .szero
  | hdl => exact .hdl
  | mnil => exact .mnil
  | map h => exact .map (hj _ _ h)
  | func hn hf _ hc _ ih1 ih2 => exact .func hn hf ih1 hc ih2
  | yield h => exact .yield (hj _ _ h)
  | nilFunc => exact .nilFunc
  | iface _ ih => exact .iface ih
  | nilIface => exact .nilIface
  | agg hs _ ih => exact .agg hs ih
  | tuple hs _ ih => exact .tuple hs ih

theorem VR.undef {j : Inj} : VR j .undef Go.undef := .tuple (by simp) (by simp)

/-- Rows of values. -/
def VRs (j : Inj) (l : List AV) (r : List Value) : Prop := l.length = r.length ∧ ∀ (i : Nat) a b, l[i]? = some a → r[i]? = some b → VR j a b
theorem VRs.nil {j : Inj} : VRs j [] [] := ⟨rfl, by simp⟩
theorem VRs.cons {j : Inj} {a : AV} {b : Value} {l : List AV} {r : List Value} (h : VR j a b) (hs : VRs j l r) : VRs j (a :: l) (b :: r) := by
  refine ⟨by simp [hs.1], fun i x y hx hy => ?_⟩
  cases i with
  | zero => simp at hx hy; subst hx; subst hy; exact h
  | succ i => simp at hx hy; exact hs.2 i x y hx hy
theorem VRs.mono {j j' : Inj} (hj : j.le j') {l : List AV} {r : List Value} (h : VRs j l r) : VRs j' l r := ⟨h.1, fun i a b x y => (h.2 i a b x y).mono hj⟩
theorem VRs.head {j : Inj} {a : AV} {b : Value} {l : List AV} {r : List Value} (h : VRs j (a :: l) (b :: r)) : VR j a b := h.2 0 a b rfl rfl
theorem VRs.tail {j : Inj} {a : AV} {b : Value} {l : List AV} {r : List Value} (h : VRs j (a :: l) (b :: r)) : VRs j l r :=
  ⟨by have := h.1; simpa using this, fun i x y hx hy => h.2 (i + 1) x y (by simpa using hx) (by simpa using hy)⟩
theorem VRs.nil_right {j : Inj} {r : List Value} (h : VRs j [] r) : r = [] := List.eq_nil_of_length_eq_zero (by rw [← h.1]; rfl)
theorem VRs.cons_left {j : Inj} {a : AV} {l : List AV} {r : List Value} (h : VRs j (a :: l) r) : ∃ b r', r = b :: r' ∧ VR j a b ∧ VRs j l r' := by
  cases r with
  | nil => have := h.1; simp at this
  | cons b r' => exact ⟨b, r', rfl, h.head, h.tail⟩
theorem VRs.get {j : Inj} {l : List AV} {r : List Value} (h : VRs j l r) {i : Nat} {a : AV} (ha : l[i]? = some a) : ∃ b, r[i]? = some b ∧ VR j a b := by
  have hi : i < l.length := (List.getElem?_eq_some_iff.1 ha).1
  have : i < r.length := by rw [← h.1]; exact hi
  exact ⟨r[i], List.getElem?_eq_getElem this, h.2 i a _ ha (List.getElem?_eq_getElem this)⟩
theorem VRs.append {j : Inj} {l l' : List AV} {r r' : List Value} (h : VRs j l r) (h' : VRs j l' r') : VRs j (l ++ l') (r ++ r') := by
  induction l generalizing r with
  | nil => rw [h.nil_right]; exact h'
  | cons a l ih => obtain ⟨b, r2, rfl, hb, ht⟩ := h.cons_left; exact .cons hb (ih ht)
theorem VRs.take {j : Inj} {l : List AV} {r : List Value} (h : VRs j l r) (n : Nat) : VRs j (l.take n) (r.take n) := by
  refine ⟨by simp [h.1], fun i a b hx hy => ?_⟩
  rw [List.getElem?_take] at hx hy
  split at hx
  · rename_i hi; rw [if_pos hi] at hy; exact h.2 i a b hx hy
  · cases hx
theorem VRs.drop {j : Inj} {l : List AV} {r : List Value} (h : VRs j l r) (n : Nat) : VRs j (l.drop n) (r.drop n) := by
  refine ⟨by simp [h.1], fun i a b hx hy => ?_⟩
  rw [List.getElem?_drop] at hx hy
  exact h.2 _ a b hx hy
theorem VRs.set {j : Inj} {l : List AV} {r : List Value} (h : VRs j l r) (n : Nat) {a : AV} {b : Value} (hab : VR j a b) : VRs j (l.set n a) (r.set n b) := by
  refine ⟨by simp [h.1], fun i x y hx hy => ?_⟩
  rw [List.getElem?_set] at hx hy
  by_cases e : n = i
  · subst e
    rw [if_pos rfl] at hx hy
    split at hx
    · rename_i h1
      split at hy
      · cases hx; cases hy; exact hab
      · cases hy
    · cases hx
  · rw [if_neg e] at hx hy; exact h.2 i x y hx hy
theorem VRs.replicate {j : Inj} (n : Nat) {a : AV} {b : Value} (h : VR j a b) : VRs j (List.replicate n a) (List.replicate n b) := by
  induction n with
  | zero => exact .nil
  | succ n ih => exact .cons h ih
theorem VR.agg_list {j : Inj} {l : List AV} {r : Array Value} (h : VRs j l r.toList) : VR j (.agg l) (.agg r) :=
  .agg (by simpa using h.1) fun i a b hx hy => h.2 i a b hx (by simpa using hy)
theorem VR.tuple_list {j : Inj} {l : List AV} {r : Array Value} (h : VRs j l r.toList) : VR j (.tuple l) (.tuple r) :=
  .tuple (by simpa using h.1) fun i a b hx hy => h.2 i a b hx (by simpa using hy)
theorem VRs.of_agg {j : Inj} {l : List AV} {r : Array Value} (hs : l.length = r.size) (h : ∀ (i : Nat) a b, l[i]? = some a → r[i]? = some b → VR j a b) : VRs j l r.toList :=
  ⟨by simpa using hs, fun i a b hx hy => h i a b hx (by simpa using hy)⟩
theorem VR.cells {j : Inj} {a : AV} {v : Value} (h : VR j a v) : VRs j a.cells v.cells.toList := by
  cases h with
  | agg hs h => exact VRs.of_agg hs h
  | _ => exact .cons (by constructor <;> assumption) .nil
theorem VR.one {j : Inj} {a : AV} {v : Value} (h : VR j a v) : a.one = v.oneCell' := by cases h <;> rfl

/-! ### Blocks -/
structure AEntry where
  key : AV
  val : AV
  born : Nat
  deriving Inhabited

inductive AObj where
  | cells (ro : Bool) (t : TypeId) (cs : List AV)
  | map (es : List AEntry) (clock : Nat)
  | iter (s : ByteArray) (pos : Nat)
  | row (get : Nat → Option AV)
  | lrec (fn : FuncId) (N : Nat) (tm : Nat → AV) (ps : Array Tmp) (assign body : Code) (pend : Option Code)
  deriving Inhabited
def AObj.ro : AObj → Bool
  | .cells ro _ _ => ro
  | .row _ => true
  | _ => false

def csize : Obj → Nat
  | .cells c _ _ => c.size
  | _ => 0
def ORel (j : Inj) : AObj → Obj → Prop
  | .cells ro t cs, .cells c t' fz => t' = t ∧ cs.length ≤ c.size ∧ (∀ (i : Nat) a v, cs[i]? = some a → c[i]? = some v → VR j a v) ∧ (ro = false → fz.2 ≤ fz.1 ∨ c.size ≤ fz.1)
  | .map es n, .map ds m => n = m ∧ es.length = ds.size ∧ ∀ (i : Nat) e d, es[i]? = some e → ds[i]? = some d → VR j e.key d.key ∧ VR j e.val d.val ∧ e.born = d.born
  | .iter s p, .stringIter s' p' => s = s' ∧ p = p'
  | .row g, .cells c _ _ => ∀ (i : Nat) a, g i = some a → ∃ v, c[i]? = some v ∧ VR j a v
  | .lrec fn N tm ps a b pd, .loop r => (r.state = if pd.isNone then .ready else .done) ∧ r.pending = pd ∧ r.fn = fn ∧ r.params = ps ∧ r.assign = a ∧ r.body = b ∧ r.tmps.size = N ∧ ∀ t, VR j (tm t) (r.tmps.getD t Go.undef)
  | _, _ => False

theorem ORel.mono {j j' : Inj} (hj : j.le j') {o : AObj} {x : Obj} (h : ORel j o x) : ORel j' o x := by
  cases o <;> cases x <;> simp only [ORel] at h ⊢
  · exact ⟨h.1, h.2.1, fun i a v ha hv => (h.2.2.1 i a v ha hv).mono hj, h.2.2.2⟩
  · exact ⟨h.1, h.2.1, fun i a v ha hv => ⟨(h.2.2 i a v ha hv).1.mono hj, (h.2.2 i a v ha hv).2.1.mono hj, (h.2.2 i a v ha hv).2.2⟩⟩
  · exact h
  · exact fun i a hi => by obtain ⟨v, hv, h2⟩ := h i a hi; exact ⟨v, hv, h2.mono hj⟩
  · exact ⟨h.1, h.2.1, h.2.2.1, h.2.2.2.1, h.2.2.2.2.1, h.2.2.2.2.2.1, h.2.2.2.2.2.2.1, fun t => (h.2.2.2.2.2.2.2 t).mono hj⟩

structure AH where
  next : Nat
  at_ : Nat → Option AObj

def AH.set (H : AH) (b : Nat) (o : Option AObj) : AH := ⟨H.next, fun k => if k = b then o else H.at_ k⟩
def AH.bump (H : AH) : AH := ⟨H.next + 1, H.at_⟩
/-- A new block. -/
def AH.new (H : AH) (o : AObj) : AH := ⟨H.next + 1, fun k => if k = H.next then some o else H.at_ k⟩
theorem AH.set_next (H : AH) (b : Nat) (o : Option AObj) : (H.set b o).next = H.next := rfl
theorem AH.new_next (H : AH) (o : AObj) : (H.new o).next = H.next + 1 := rfl
theorem AH.set_at (H : AH) (b : Nat) (o : Option AObj) (k : Nat) : (H.set b o).at_ k = if k = b then o else H.at_ k := rfl
theorem AH.new_at (H : AH) (o : AObj) (k : Nat) : (H.new o).at_ k = if k = H.next then some o else H.at_ k := rfl
theorem AH.set_same (H : AH) (b : Nat) (o : Option AObj) : (H.set b o).at_ b = o := by rw [AH.set_at, if_pos rfl]
theorem AH.set_ne (H : AH) {b : Nat} (o : Option AObj) {k : Nat} (h : k ≠ b) : (H.set b o).at_ k = H.at_ k := by rw [AH.set_at, if_neg h]
theorem AH.new_same (H : AH) (o : AObj) : (H.new o).at_ H.next = some o := by rw [AH.new_at, if_pos rfl]
theorem AH.new_ne (H : AH) (o : AObj) {k : Nat} (h : k ≠ H.next) : (H.new o).at_ k = H.at_ k := by rw [AH.new_at, if_neg h]

def AH.wr (H : AH) (a : Nat) : Prop := ∃ o, H.at_ a = some o ∧ o.ro = false
def AH.live (H : AH) (a : Nat) : Prop := (H.at_ a).isSome = true

/-- A package variable's cells. -/
def gsz (P : Program) (g : Nat) : Nat := match ((begin P (fun _ _ => 0) default).world.heap[g]?).bind Obj.row? with
  | some (zero, _) => zero.size
  | none => 0
structure Rel (P : Program) (j : Inj) (H : AH) (w : World) : Prop where
  dom : ∀ a c z, j a = some (c, z) → a < H.next ∧ c < w.heap.size
  inj : ∀ a b c y z, j a = some (c, y) → j b = some (c, z) → H.live a → H.live b → a = b
  obj : ∀ a o, H.at_ a = some o → ∃ c x, j a = some (c, csize x) ∧ w.heap[c]? = some x ∧ ORel j o x
  glob : ∀ g, g < P.globals.size → j g = some (g, gsz P g)

theorem Rel.globE {P : Program} {j : Inj} {H : AH} {w : World} (h : Rel P j H w) : ∀ g, g < P.globals.size → ∃ z, j g = some (g, z) := fun g hg => ⟨_, h.glob g hg⟩

/-- Only blocks that may be written are written. -/
structure Keeps (j : Inj) (H : AH) (w w' : World) : Prop where
  os : w'.os = w.os
  tape : w'.tape = w.tape
  output : w'.output = w.output
  size : w.heap.size ≤ w'.heap.size
  block : ∀ c, c < w.heap.size → (∀ a z, H.wr a → j a ≠ some (c, z)) → w'.heap[c]? = w.heap[c]?

structure PostW (P : Program) (j : Inj) (H : AH) (w : World) (j' : Inj) (H' : AH) (w' : World) : Prop where
  ext : j.le j'
  rel : Rel P j' H' w'
  keeps : Keeps j H w w'
  next : H.next ≤ H'.next
  orig : ∀ a c z, j' a = some (c, z) → H'.live a → c < w.heap.size → ∃ b y, H.live b ∧ j b = some (c, y) ∧ (H'.wr a → H.wr b)

/-- .. and new numbers alone are given out. -/
structure Post (P : Program) (j : Inj) (H : AH) (w : World) (j' : Inj) (H' : AH) (w' : World) : Prop extends PostW P j H w j' H' w' where
  fresh : ∀ a, a < H.next → j' a = j a

theorem Keeps.refl (j : Inj) (H : AH) (w : World) : Keeps j H w w := ⟨rfl, rfl, rfl, Nat.le_refl _, fun _ _ _ => rfl⟩
theorem Post.refl {P : Program} {j : Inj} {H : AH} {w : World} (h : Rel P j H w) : Post P j H w j H w :=
  ⟨⟨Inj.le_refl j, h, .refl j H w, Nat.le_refl _, fun a c z hc hl _ => ⟨a, z, hl, hc, id⟩⟩, fun _ _ => rfl⟩
theorem PostW.trans {P : Program} {j j1 j2 : Inj} {H H1 H2 : AH} {w w1 w2 : World} (h : PostW P j H w j1 H1 w1) (k : PostW P j1 H1 w1 j2 H2 w2) : PostW P j H w j2 H2 w2 := by
  refine ⟨Inj.le_trans h.ext k.ext, k.rel, ⟨k.keeps.os.trans h.keeps.os, k.keeps.tape.trans h.keeps.tape, k.keeps.output.trans h.keeps.output, Nat.le_trans h.keeps.size k.keeps.size, ?_⟩, Nat.le_trans h.next k.next, ?_⟩
  · intro c hc hn
    rw [k.keeps.block c (Nat.lt_of_lt_of_le hc h.keeps.size) ?_, h.keeps.block c hc hn]
    intro a z hw ha
    obtain ⟨o, ho, hr⟩ := hw
    obtain ⟨b, y, _, hb, hwb⟩ := h.orig a c z ha (by unfold AH.live; rw [ho]; rfl) hc
    exact hn b y (hwb ⟨o, ho, hr⟩) hb
  · intro a c z ha hl hc
    obtain ⟨b, y, hlb, hb, hwb⟩ := k.orig a c z ha hl (Nat.lt_of_lt_of_le hc h.keeps.size)
    obtain ⟨d, x, hld, hd, hwd⟩ := h.orig b c y hb hlb hc
    exact ⟨d, x, hld, hd, fun q => hwd (hwb q)⟩

theorem Post.trans {P : Program} {j j1 j2 : Inj} {H H1 H2 : AH} {w w1 w2 : World} (h : Post P j H w j1 H1 w1) (k : Post P j1 H1 w1 j2 H2 w2) : Post P j H w j2 H2 w2 :=
  ⟨h.toPostW.trans k.toPostW, fun a ha => (k.fresh a (Nat.lt_of_lt_of_le ha h.next)).trans (h.fresh a ha)⟩
theorem Post.transW {P : Program} {j j1 j2 : Inj} {H H1 H2 : AH} {w w1 w2 : World} (h : Post P j H w j1 H1 w1) (k : PostW P j1 H1 w1 j2 H2 w2) (hf : ∀ a, a < H.next → j2 a = j1 a) : Post P j H w j2 H2 w2 :=
  ⟨h.toPostW.trans k, fun a ha => (hf a ha).trans (h.fresh a ha)⟩

theorem AH.live_of {H : AH} {a : Nat} {o : AObj} (h : H.at_ a = some o) : H.live a := by unfold AH.live; rw [h]; rfl
theorem AH.live_obj {H : AH} {a : Nat} (h : H.live a) : ∃ o, H.at_ a = some o := Option.isSome_iff_exists.1 h
/-- Blocks may be forgotten. -/
theorem Rel.forget {P : Program} {j : Inj} {H H' : AH} {w : World} (h : Rel P j H w) (hn : H.next ≤ H'.next) (hs : ∀ a o, H'.at_ a = some o → H.at_ a = some o) : Rel P j H' w := by
  refine ⟨fun a c z x => ⟨Nat.lt_of_lt_of_le (h.dom a c z x).1 hn, (h.dom a c z x).2⟩, fun a b c y z ha hb la lb => h.inj a b c y z ha hb ?_ ?_, fun a o ho => h.obj a o (hs a o ho), h.glob⟩
  · obtain ⟨o, ho⟩ := AH.live_obj la; exact AH.live_of (hs a o ho)
  · obtain ⟨o, ho⟩ := AH.live_obj lb; exact AH.live_of (hs b o ho)

/-- A call that keeps all that was leaves all as it stood. -/
theorem Rel.below {P : Program} {j : Inj} {H : AH} {w w' : World} (h : Rel P j H w) (hb : Below w.heap.size w w') : Rel P j H w' := by
  refine ⟨fun a c z x => ⟨(h.dom a c z x).1, Nat.lt_of_lt_of_le (h.dom a c z x).2 hb.size⟩, h.inj, fun a o ho => ?_, h.glob⟩
  obtain ⟨c, x, hc, hx, ho⟩ := h.obj a o ho
  exact ⟨c, x, hc, (hb.block c (h.dom a c _ hc).2).trans hx, ho⟩
theorem Post.below {P : Program} {j : Inj} {H : AH} {w w' : World} (h : Rel P j H w) (hb : Below w.heap.size w w') : Post P j H w j H w' :=
  ⟨⟨Inj.le_refl j, h.below hb, ⟨hb.os, hb.tape, hb.output, hb.size, fun c hc _ => hb.block c hc⟩, Nat.le_refl _, fun a c z hc hl _ => ⟨a, z, hl, hc, id⟩⟩, fun _ _ => rfl⟩

end Go.Proofs.YtcgkadfgojmmlaaDoor.Abs
set_option linter.unusedVariables false
set_option linter.unusedSimpArgs false
namespace Go.Proofs.YtcgkadfgojmmlaaDoor.Abs
open Go Go.RowKit

inductive IOpd where
  | tmp (t : Nat)
  | const (v : AV)
  deriving Inhabited
abbrev Tms := Nat → AV
def IOpd.ev (tm : Tms) : IOpd → AV
  | .tmp t => tm t
  | .const v => v
def upd (tm : Tms) (d : Nat) (v : AV) : Tms := fun t => if t = d then v else tm t
theorem upd_same (tm : Tms) (d : Nat) (v : AV) : upd tm d v d = v := if_pos rfl
theorem upd_ne (tm : Tms) {d t : Nat} (v : AV) (h : t ≠ d) : upd tm d v t = tm t := if_neg h
def put (tm : Tms) (d : Option Nat) (v : AV) : Tms :=
  match d with
  | some d => upd tm d v
  | none => tm

/-- How two values of a type are held against each other. -/
inductive EqK where
  | bool | int | str | ptr | map | slice | func
  | iface (lit : Bool) (ints : List Nat)
  deriving Inhabited, DecidableEq

inductive NOp where
  | mv (x : IOpd)
  | pick (c a b : IOpd)
  | bin (op : BinOp) (x y : IOpd)
  | eq (k : EqK) (neg : Bool) (x y : IOpd)
  | eqs (ks : List EqK) (neg : Bool) (x y : IOpd)
  | un (op : UnOp) (x : IOpd)
  | wrap (k : IntKind) (x : IOpd)
  | same (x : IOpd)
  | b2s (x : IOpd)
  | s2b (t : TypeId) (x : IOpd)
  | faddr (x : IOpd) (off : Nat)
  | fld (x : IOpd) (off : Nat) (n : Option Nat)
  | ext (x : IOpd) (i : Nat)
  | bld (zero : List AV) (parts : List (Nat × Nat × IOpd))
  | slc (size : Nat) (x : IOpd) (lo hi mx : Option IOpd)
  | sstr (x : IOpd) (lo hi : Option IOpd)
  | sarr (n size : Nat) (x : IOpd) (lo hi mx : Option IOpd)
  | idxs (x i : IOpd)
  | idxa (len size : Nat) (n : Option Nat) (x i : IOpd)
  | iaddr (size : Nat) (x i : IOpd)
  | iaddra (len size : Nat) (x i : IOpd)
  | mki (t : TypeId) (x : IOpd)
  | mkf (fn : Fn) (first captured : List IOpd)
  | lens (x : IOpd)
  | len (x : IOpd)
  | lenm (x : IOpd)
  | nilck (x : IOpd)
  | tas (t : TypeId) (zero : AV) (ok : Bool) (x : IOpd)
  | tasi (yes no : List TypeId) (ok : Bool) (x : IOpd)
  | load (n : Option Nat) (x : IOpd)
  | lkp (zero : AV) (ok : Bool) (x key : IOpd)
  | mx (args : List IOpd)
  | mn (args : List IOpd)
  | new (t : TypeId) (cells : List AV)
  | box (t : TypeId) (x : IOpd)
  | bsl (t : TypeId) (size len : Nat) (zero : List AV) (parts : List (Nat × IOpd))
  | mks (t : TypeId) (size bytes : Nat) (zero : List AV) (l c : IOpd)
  | mkm
  deriving Inhabited

def ibin (op : BinOp) (k : IntKind) (x y : Int) : Option AV :=
  match op with
  | .add => some (.int k (k.wrap (x + y)))
  | .sub => some (.int k (k.wrap (x - y)))
  | .mul => some (.int k (k.wrap (x * y)))
  | .quo => if y = 0 then none else some (.int k (k.wrap (x.tdiv y)))
  | .rem => if y = 0 then none else some (.int k (x.tmod y))
  | .and => some (.int k (bits .and k x y))
  | .or => some (.int k (bits .or k x y))
  | .xor => some (.int k (bits .xor k x y))
  | .andNot => some (.int k (bits .andNot k x y))
  | .eql => some (.bool (decide (x = y)))
  | .neq => some (.bool (decide (x ≠ y)))
  | .lss => some (.bool (decide (x < y)))
  | .leq => some (.bool (decide (x ≤ y)))
  | .gtr => some (.bool (decide (x > y)))
  | .geq => some (.bool (decide (x ≥ y)))
  | _ => none
def ishift (op : BinOp) (k : IntKind) (x y : Int) : Option AV :=
  if y < 0 then none else
  match op with
  | .shl => some (.int k (k.wrap (x * 2 ^ (min y.toNat k.bits))))
  | .shr => some (.int k (x.fdiv (2 ^ (min y.toNat k.bits))))
  | _ => none
def sbin (op : BinOp) (x y : List UInt8) : Option AV :=
  match op with
  | .add => if x.length + y.length ≤ 9223372036854775807 then some (.str (x ++ y)) else none
  | .eql => some (.bool (decide (x = y)))
  | .neq => some (.bool (decide (x ≠ y)))
  | .lss => some (.bool (Op.bytesLess x y))
  | .leq => some (.bool (Op.bytesLess x y || decide (x = y)))
  | .gtr => some (.bool (!(Op.bytesLess x y || decide (x = y))))
  | .geq => some (.bool (!Op.bytesLess x y))
  | _ => none
def abin (op : BinOp) (x y : AV) : Option AV :=
  match x, y with
  | .int k a, .int k' b => match op with
    | .shl => ishift .shl k a b
    | .shr => ishift .shr k a b
    | op => if k = k' then ibin op k a b else none
  | .str a, .str b => sbin op a b
  | _, _ => none
def aun (op : UnOp) (x : AV) : Option AV :=
  match op, x with
  | .neg, .int k n => some (.int k (k.wrap (0 - n)))
  | .xor, .int k n => some (.int k (bits .xor k (if k.signed then -1 else k.max) n))
  | .not, .bool b => some (.bool (!b))
  | _, _ => none
def part (l : List AV) (off : Nat) : Option Nat → Option AV
  | none => l[off]?
  | some n => if off + n ≤ l.length then some (.agg ((l.drop off).take n)) else none
def intEq : AV → AV → Option Bool
  | .int k a, .int k' b => if k = k' then some (decide (a = b)) else none
  | _, _ => none
def aeq1 (k : EqK) (x y : AV) : Option Bool :=
  match k, x, y with
  | .bool, .bool a, .bool b => some (decide (a = b))
  | .int, .int k a, .int k' b => if k = k' then some (decide (a = b)) else none
  | .str, .str a, .str b => some (decide (a = b))
  | .ptr, .pnil, .pnil => some true
  | .ptr, .pnil, .ptr _ _ => some false
  | .ptr, .ptr _ _, .pnil => some false
  | .ptr, .ptr b o, .ptr c p => if b = c then some (decide (o = p)) else none
  | .map, .mnil, .mnil => some true
  | .map, .mnil, .map _ => some false
  | .map, .map _, .mnil => some false
  | .slice, .snil, .snil => some true
  | .slice, .snil, .slice _ _ _ _ => some false
  | .slice, .snil, .sempty => some false
  | .slice, .snil, .szero => some false
  | .slice, .slice _ _ _ _, .snil => some false
  | .slice, .sempty, .snil => some false
  | .slice, .szero, .snil => some false
  | .func, .nilFunc, .nilFunc => some true
  | .func, .nilFunc, .func _ _ _ => some false
  | .func, .func _ _ _, .nilFunc => some false
  | .iface lit _, .nilIface, .nilIface => if lit then some true else none
  | .iface _ _, .nilIface, .iface _ _ => some false
  | .iface _ _, .iface _ _, .nilIface => some false
  | .iface _ ints, .iface t v, .iface u w => if t = u then (if ints.contains t then intEq v w else none) else some false
  | _, _, _ => none
def aeqs : List EqK → List AV → List AV → Option Bool
  | [], [], [] => some true
  | k :: ks, x :: xs, y :: ys => (aeq1 k x y).bind fun b => (aeqs ks xs ys).map (b && ·)
  | _, _, _ => none

/-- Cells of a row, if all are known. -/
def rowGet (g : Nat → Option AV) (o : Nat) : Nat → Option (List AV)
  | 0 => some []
  | n + 1 => (rowGet g o n).bind fun l => (g (o + n)).map fun v => l ++ [v]
def loadC (H : AH) (b o : Nat) : Option Nat → Option AV
  | none => match H.at_ b with
    | some (.cells _ _ cs) => cs[o]?
    | some (.row g) => g o
    | _ => none
  | some n => match H.at_ b with
    | some (.cells _ _ cs) => if o + n ≤ cs.length then some (.agg ((cs.drop o).take n)) else none
    | some (.row g) => if n = 0 then none else (rowGet g o n).map .agg
    | _ => none
def setRange (l : List AV) (off : Nat) : List AV → List AV
  | [] => l
  | v :: vs => setRange (l.set off v) (off + 1) vs
def fillA (cells : List AV) : List (Nat × Nat × AV) → Option (List AV)
  | [] => some cells
  | (off, size, v) :: rest => if v.cells.length = size ∧ off + size ≤ cells.length then fillA (setRange cells off v.cells) rest else none
def optI (ev : IOpd → AV) : Option IOpd → Option (Option Int)
  | none => some none
  | some x => match ev x with
    | .int _ n => some (some n)
    | _ => none
/-- The bounds of a slice expression over len elements. -/
def bounds (len : Nat) (lo hi mx : Option Int) : Option (Nat × Nat) :=
  if mx.isSome && hi.isNone then none else
  let h : Int := hi.getD len
  let l : Int := lo.getD 0
  let m : Int := mx.getD len
  if 0 ≤ l ∧ l ≤ h ∧ h ≤ m ∧ m ≤ len then some (l.toNat, h.toNat) else none
def zeros (zero : List AV) (n : Nat) : List AV :=
  match zero with
  | [z] => List.replicate n z
  | zero => (List.replicate n zero).flatten

def slcA (size : Nat) (lo hi mx : Option Int) : AV → Option AV
  | .slice b o n e => if e = size then (bounds n lo hi mx).map fun (l, h) => if h = l then (if mx = some (l : Int) then .szero else .sempty) else .slice b (o + l * size) (h - l) size else none
  | .snil => (bounds 0 lo hi mx).map fun _ => .snil
  | .sempty => (bounds 0 lo hi mx).map fun _ => if mx = some 0 then .szero else .sempty
  | .szero => (bounds 0 lo hi mx).map fun _ => .szero
  | _ => none
def isByte : AV → Bool
  | .int .u8 _ => true
  | _ => false
def byteOf : AV → UInt8
  | .int .u8 n => UInt8.ofNat n.toNat
  | _ => 0
def b2sA (H : AH) : AV → Option AV
  | .snil => some (.str [])
  | .sempty => some (.str [])
  | .szero => some (.str [])
  | .slice b o n _ => match loadC H b o (some n) with
    | some (.agg cs) => if cs.all isByte then some (.str (cs.map byteOf)) else none
    | _ => none
  | _ => none
def tasA (t : TypeId) (zero : AV) (ok : Bool) : AV → Option AV
  | .iface u v => if u = t then some (if ok then .tuple [v, .bool true] else v) else if ok then some (.tuple [zero, .bool false]) else none
  | .nilIface => if ok then some (.tuple [zero, .bool false]) else none
  | _ => none
def tasiA (yes no : List TypeId) (ok : Bool) : AV → Option AV
  | .iface u v => if yes.contains u then some (if ok then .tuple [.iface u v, .bool true] else .iface u v) else if ok && no.contains u then some (.tuple [.nilIface, .bool false]) else none
  | .nilIface => if ok then some (.tuple [.nilIface, .bool false]) else none
  | _ => none

def mmA (f : AV → AV → Option AV) : AV → List AV → Option AV
  | a, [] => some a
  | a, b :: l => (f a b).bind fun c => mmA f c l
def mmA1 (f : AV → AV → Option AV) : List AV → Option AV
  | [] => none
  | a :: l => mmA f a l
def mx2 : AV → AV → Option AV
  | .int k x, .int k' y => if k = k' then some (.int k (max x y)) else none
  | _, _ => none
def mn2 : AV → AV → Option AV
  | .int k x, .int k' y => if k = k' then some (.int k (min x y)) else none
  | _, _ => none
/-- The entry of a map at a number. -/
def findA (k : IntKind) (n : Int) : List AEntry → Nat → Option (Option (Nat × AV))
  | [], _ => some none
  | e :: es, i => match e.key with
    | .int k' m => if k' = k then (if n = m then some (some (i, e.val)) else findA k n es (i + 1)) else none
    | _ => none
def lkpR (zero : AV) (ok : Bool) : Option (Nat × AV) → AV
  | some (_, v) => if ok then .tuple [v, .bool true] else v
  | none => if ok then .tuple [zero, .bool false] else zero
def lkpA (H : AH) (zero : AV) (ok : Bool) : AV → AV → Option AV
  | .mnil, .int _ _ => some (lkpR zero ok none)
  | .map b, .int k n => match H.at_ b with
    | some (.map es _) => (findA k n es 0).map (lkpR zero ok)
    | _ => none
  | _, _ => none
def nop (ev : IOpd → AV) (H : AH) (id : Nat) : NOp → Option (AV × Option AObj)
  | .mv x => some (ev x, none)
  | .same x => match ev x with
    | .str l => some (.str l, none)
    | _ => none
  | .pick c a b => match ev c with
    | .bool t => some (if t then ev a else ev b, none)
    | _ => none
  | .bin op x y => (abin op (ev x) (ev y)).map (·, none)
  | .eq k neg x y => (aeq1 k (ev x) (ev y)).map fun b => (.bool (if neg then !b else b), none)
  | .eqs ks neg x y => match ev x, ev y with
    | .agg xs, .agg ys => (aeqs ks xs ys).map fun b => (.bool (if neg then !b else b), none)
    | _, _ => none
  | .un op x => (aun op (ev x)).map (·, none)
  | .wrap k x => match ev x with
    | .int _ n => some (.int k (k.wrap n), none)
    | _ => none
  | .faddr x off => match ev x with
    | .ptr b o => some (.ptr b (o + off), none)
    | _ => none
  | .fld x off n => match ev x with
    | .agg l => (part l off n).map (·, none)
    | _ => none
  | .ext x i => match ev x with
    | .tuple l => l[i]?.map (·, none)
    | _ => none
  | .bld zero parts => (fillA zero (parts.map fun (o, s, x) => (o, s, ev x))).map (.agg ·, none)
  | .slc size x lo hi mx => (optI ev lo).bind fun lo => (optI ev hi).bind fun hi => (optI ev mx).bind fun mx => (slcA size lo hi mx (ev x)).map (·, none)
  | .sstr x lo hi => (optI ev lo).bind fun lo => (optI ev hi).bind fun hi => match ev x with
    | .str l => (bounds l.length lo hi none).map fun (a, b) => (.str ((l.take b).drop a), none)
    | _ => none
  | .sarr len size x lo hi mx => (optI ev lo).bind fun lo => (optI ev hi).bind fun hi => (optI ev mx).bind fun mx => match ev x with
    | .ptr b o => match loadC H b o (some (len * size)) with
      | some _ => (bounds len lo hi mx).map fun (l, h) => (if h = l then .sempty else .slice b (o + l * size) (h - l) size, none)
      | none => none
    | _ => none
  | .idxs x i => match ev x, ev i with
    | .str l, .int _ n => if 0 ≤ n then (l[n.toNat]?).map fun c => (.int .u8 (c.toNat : Int), none) else none
    | _, _ => none
  | .idxa len size n x i => match ev x, ev i with
    | .agg l, .int _ m => if 0 ≤ m ∧ m < len then (part l (m.toNat * size) n).map (·, none) else none
    | _, _ => none
  | .iaddr size x i => match ev x, ev i with
    | .slice b o n _, .int _ m => if 0 ≤ m ∧ m < n then some (.ptr b (o + m.toNat * size), none) else none
    | _, _ => none
  | .iaddra len size x i => match ev x, ev i with
    | .ptr b o, .int _ m => if 0 ≤ m ∧ m < len then some (.ptr b (o + m.toNat * size), none) else none
    | _, _ => none
  | .mki t x => some (.iface t (ev x), none)
  | .mkf fn first captured => if Fn.notYield fn then some (.func fn (first.map ev) (captured.map ev), none) else none
  | .lens x => match ev x with
    | .str l => some (.int .i64 (l.length : Int), none)
    | _ => none
  | .len x => match ev x with
    | .slice _ _ n _ => some (.int .i64 (n : Int), none)
    | .snil => some (.int .i64 0, none)
    | .sempty => some (.int .i64 0, none)
    | .szero => some (.int .i64 0, none)
    | _ => none
  | .lenm x => match ev x with
    | .mnil => some (.int .i64 0, none)
    | .map b => match H.at_ b with
      | some (.map es _) => some (.int .i64 (es.length : Int), none)
      | _ => none
    | _ => none
  | .nilck x => match ev x with
    | .ptr b o => some (.ptr b o, none)
    | .iface t v => some (.iface t v, none)
    | .func (.func f) a c => some (.func (.func f) a c, none)
    | _ => none
  | .tas t zero ok x => (tasA t zero ok (ev x)).map (·, none)
  | .tasi yes no ok x => (tasiA yes no ok (ev x)).map (·, none)
  | .load n x => match ev x with
    | .ptr b o => (loadC H b o n).map (·, none)
    | _ => none
  | .new t cells => some (.ptr id 0, some (.cells false t cells))
  | .box t x => some (.ptr id 0, some (.cells false t (ev x).cells))
  | .bsl t size len zero parts => (fillA (zeros zero len) (parts.map fun (o, x) => (o * size, size, ev x))).map fun cs => (.slice id 0 len size, some (.cells false t cs))
  | .mks t size bytes zero l c => match ev l, ev c with
    | .int _ l, .int _ c => if 0 ≤ l ∧ l ≤ c ∧ c ≤ 281474976710656 ∧ c * bytes ≤ 281474976710656 then some (.slice id 0 l.toNat size, some (.cells false t (zeros zero l.toNat))) else none
    | _, _ => none
  | .s2b t x => match ev x with
    | .str l => if l.length ≤ 9223372036854775807 then some (.slice id 0 l.length 1, some (.cells false t (l.map fun c => .int .u8 (c.toNat : Int)))) else none
    | _ => none
  | .b2s x => (b2sA H (ev x)).map (·, none)
  | .mkm => some (.map id, some (.map [] 0))
  | .lkp zero ok x key => (lkpA H zero ok (ev x) (ev key)).map (·, none)
  | .mx args => (mmA1 mx2 (args.map ev)).map (·, none)
  | .mn args => (mmA1 mn2 (args.map ev)).map (·, none)

inductive EOp where
  | store (n : Nat) (x v : IOpd)
  | call (f : FuncId) (args : List IOpd)
  | callv (x : IOpd) (args : List IOpd)
  | invoke (name : String) (x : IOpd) (args : List IOpd)
  | xcall (f : FuncId) (args : List IOpd)
  | never
  | append (str : Bool) (t : TypeId) (size bytes : Nat) (s x : IOpd)
  | copy (size : Nat) (d s : IOpd)
  | clear (size : Nat) (zero : List AV) (x : IOpd)
  | cap (x : IOpd)
  | mapset (m key val : IOpd)
  deriving Inhabited

def bodyP (P : Program) (f : FuncId) : Bool :=
  match P.funcs[f]? with
  | some fn => fn.body.isSome && fn.name != "runtime.NumGoroutine"
  | none => false
/-- A call with related arguments in a world for which H stands comes back with what Q says. -/
def ACall (P : Program) (f : FuncId) (args : List AV) (H : AH) (Q : AV → AH → Prop) : Prop :=
  bodyP P f = true ∧ ∀ (j : Inj) (w : World) (cargs : Array Value), Rel P j H w → VRs j args cargs.toList →
    Calls P f cargs w fun e w' => ∃ v vc j' H', e = .returned vc ∧ Q v H' ∧ Post P j H w j' H' w' ∧ VR j' v vc
theorem ACall.mono {P : Program} {f : FuncId} {args : List AV} {H : AH} {Q Q' : AV → AH → Prop} (h : ACall P f args H Q) (hq : ∀ v H', Q v H' → Q' v H') : ACall P f args H Q' :=
  ⟨h.1, fun j w cargs hr hv => (h.2 j w cargs hr hv).mono fun e w' ⟨v, vc, j', H', he, q, hp, hvr⟩ => ⟨v, vc, j', H', he, hq v H' q, hp, hvr⟩⟩

/-- A call of yield: a round of the loop whose record is block b. -/
def AYield (P : Program) (b : Nat) (args : List AV) (H : AH) (Q : AV → AH → Prop) : Prop :=
  ∀ (j : Inj) (w : World) (c z : Nat) (cargs : Array Value), Rel P j H w → j b = some (c, z) → VRs j args cargs.toList →
    ∃ (f : FuncId) (tmps : Array Value) (assign body : Code), (Instr.yield c cargs).run P w = .ok (.round c f tmps assign body) w ∧
      RoundIn Fence.wide 0 P c f tmps assign body w fun e w' => ∃ v vc j' H', e = .returned vc ∧ Q v H' ∧ Post P j H w j' H' w' ∧ VR j' v vc
theorem AYield.mono {P : Program} {b : Nat} {args : List AV} {H : AH} {Q Q' : AV → AH → Prop} (h : AYield P b args H Q) (hq : ∀ v H', Q v H' → Q' v H') : AYield P b args H Q' :=
  fun j w c z cargs hr hj hv => by
    obtain ⟨f, tmps, assign, body, h1, h2⟩ := h j w c z cargs hr hj hv
    exact ⟨f, tmps, assign, body, h1, h2.mono fun e w' ⟨v, vc, j', H', he, q, hp, hvr⟩ => ⟨v, vc, j', H', he, hq v H' q, hp, hvr⟩⟩

/-- The cells that an append or a copy takes. -/
def srcCells (H : AH) (size : Nat) (m : Nat) : AV → Option (List AV)
  | .str l => some ((l.take m).map fun c => .int .u8 (c.toNat : Int))
  | .slice b o _ _ => match loadC H b o (some (m * size)) with
    | some (.agg cs) => some cs
    | _ => none
  | .snil => some []
  | .sempty => some []
  | .szero => some []
  | _ => none
def lenA : AV → Option Nat
  | .str l => some l.length
  | .slice _ _ n _ => some n
  | .snil => some 0
  | .sempty => some 0
  | .szero => some 0
  | _ => none
def storeC (H : AH) (b o : Nat) (vs : List AV) : Option AH :=
  match H.at_ b with
  | some (.cells false t cs) => if o + vs.length ≤ cs.length ∧ vs.all AV.one then some (H.set b (some (.cells false t (setRange cs o vs)))) else none
  | _ => none
def appendA (H : AH) (t : TypeId) (size bytes : Nat) (s x : AV) : Option (AV × AH) :=
  (lenA x).bind fun m => if m = 0 then (match s with
      | .slice b o n e => some (.slice b o n e, H)
      | .snil => some (.snil, H)
      | .sempty => some (.sempty, H)
      | .szero => some (.szero, H)
      | _ => none)
  else (srcCells H size m x).bind fun xs => if xs.all AV.one then (match s with
      | .snil => if m * bytes ≤ 70368744177664 ∧ m ≤ 70368744177664 then some (.slice H.next 0 m size, H.new (.cells false t xs)) else none
      | .szero => if m * bytes ≤ 70368744177664 ∧ m ≤ 70368744177664 then some (.slice H.next 0 m size, H.new (.cells false t xs)) else none
      | .slice b o n e => match H.at_ b with
        | some (.cells false u cs) => if o = 0 ∧ e = size ∧ u = t ∧ cs.length = n * size ∧ (n + m) * bytes ≤ 70368744177664 ∧ n + m ≤ 70368744177664 then some (.slice H.next 0 (n + m) size, (H.set b none).new (.cells false t (cs ++ xs))) else none
        | _ => none
      | _ => none) else none
def isStrV : AV → Bool
  | .str _ => true
  | _ => false
def appendK (H : AH) (str : Bool) (t : TypeId) (size bytes : Nat) (s x : AV) : Option (AV × AH) :=
  if isStrV x = str then appendA H t size bytes s x else none
def copyA (H : AH) (size : Nat) (d s : AV) : Option (AV × AH) :=
  (lenA s).bind fun n => (lenA d).bind fun k => (srcCells H size (min n k) s).bind fun cs => match d with
    | .slice b o _ _ => (storeC H b o cs).map fun H' => (.int .i64 ((min n k : Nat) : Int), H')
    | .snil => some (.int .i64 0, H)
    | .sempty => some (.int .i64 0, H)
    | .szero => some (.int .i64 0, H)
    | _ => none

def clearA (H : AH) (size : Nat) (zero : List AV) : AV → Option AH
  | .slice b o n e => if e = size ∧ 0 < n then storeC H b o (zeros zero n) else none
  | .snil => some H
  | .sempty => some H
  | .szero => some H
  | _ => none
/-- How much room a slice has: as much as it holds, or more. -/
def CapA (H : AH) (K : AV → AH → Prop) : AV → Prop
  | .snil => K (.int .i64 0) H
  | .szero => K (.int .i64 0) H
  | .sempty => ∀ k : Nat, K (.int .i64 (k : Int)) H
  | .slice _ _ n _ => ∀ k : Nat, n ≤ k → K (.int .i64 (k : Int)) H
  | _ => False
/-- A number that is new to a map. -/
def msetA (H : AH) : AV → AV → AV → Option AH
  | .map b, .int k n, v => match H.at_ b with
    | some (.map es c) => (match findA k n es 0 with
      | some none => some (H.set b (some (.map (es ++ [⟨.int k n, v, c⟩]) (c + 1))))
      | _ => none)
    | _ => none
  | _, _, _ => none
/-- A type's own method, of a receiver as it is. -/
def methF (P : Program) (t : TypeId) (nm : String) : Option FuncId :=
  (P.info? t).bind fun i => (i.methods.find? (·.name == nm)).bind fun m => if m.path.isEmpty then (match m.func with
    | some (f, p) => (match P.underlying t with
      | some (.pointer _) => if p then some f else none
      | some _ => if p then none else some f
      | none => none)
    | none => none) else none
/-- A call of what has no text: the model's own entry. -/
def XCall (P : Program) (f : FuncId) (args : List AV) (H : AH) (Q : AV → AH → Prop) : Prop :=
  ∀ (j : Inj) (w : World) (cargs : Array Value), Rel P j H w → VRs j args cargs.toList →
    ∃ vc w' v j' H', (callFunc f cargs).run P w = .ok (.value vc) w' ∧ Q v H' ∧ Post P j H w j' H' w' ∧ VR j' v vc
theorem XCall.mono {P : Program} {f : FuncId} {args : List AV} {H : AH} {Q Q' : AV → AH → Prop} (h : XCall P f args H Q) (hq : ∀ v H', Q v H' → Q' v H') : XCall P f args H Q' :=
  fun j w cargs hr hv => by
    obtain ⟨vc, w', v, j', H', h1, q, h2, h3⟩ := h j w cargs hr hv
    exact ⟨vc, w', v, j', H', h1, hq v H' q, h2, h3⟩
/-- A type's method by its name, and its receiver. -/
def MethR (P : Program) (t : TypeId) (nm : String) (v : AV) (f : FuncId) (v' : AV) : Prop :=
  ∀ (j : Inj) (w : World) (u : Value), VR j v u → ∃ u', (method (P.types.size + Made.depth) t u nm).run P w = .ok (f, u') w ∧ VR j v' u'
def CallI (P : Program) (t : TypeId) (nm : String) (v : AV) (args : List AV) (H : AH) (Q : AV → AH → Prop) : Prop :=
  ∃ f v', MethR P t nm v f v' ∧ (ACall P f (v' :: args) H Q ∨ XCall P f (v' :: args) H Q)
def estep (P : Program) (ev : IOpd → AV) (H : AH) (K : AV → AH → Prop) : EOp → Prop
  | .store n x v => match ev x with
    | .ptr b o => if (ev v).cells.length = n then (match storeC H b o (ev v).cells with
      | some H' => K .undef H'
      | none => False) else False
    | _ => False
  | .call f args => ACall P f (args.map ev) H K
  | .callv x args => match ev x with
    | .func (.func f) first captured => ACall P f (first ++ args.map ev ++ captured) H K
    | .yield b => AYield P b (args.map ev) H K
    | _ => False
  | .invoke nm x args => match ev x with
    | .iface t v => CallI P t nm v (args.map ev) H K
    | _ => False
  | .xcall f args => XCall P f (args.map ev) H K
  | .never => False
  | .append str t size bytes s x => match appendK H str t size bytes (ev s) (ev x) with
    | some (v, H') => K v H'
    | none => False
  | .copy size d s => match copyA H size (ev d) (ev s) with
    | some (v, H') => K v H'
    | none => False
  | .clear size zero x => match clearA H size zero (ev x) with
    | some H' => K (.tuple []) H'
    | none => False
  | .cap x => CapA H K (ev x)
  | .mapset m key val => match msetA H (ev m) (ev key) (ev val) with
    | some H' => K .undef H'
    | none => False

abbrev Guard := Option (Nat × Bool)
def wantedA (tm : Tms) : Guard → Option Bool
  | none => some true
  | some (g, want) => match tm g with
    | .bool b => some (b == want)
    | .tuple [] => some false
    | _ => none

/-- A step of a region: a quiet one; a quiet one whose block is laid later; the laying of such a block; one that acts (and the quiet ones that may come behind it). -/
inductive IStep where
  | n (dst : Option Nat) (g : Guard) (o : NOp)
  | late (key : Nat) (dst : Option Nat) (g : Guard) (o : NOp)
  | act (key : Nat)
  | e (dst : Option Nat) (g : Guard) (o : EOp) (re : List (Nat × Guard × NOp))
  deriving Inhabited
abbrev Pend := List (Nat × Nat × AObj)
def stays (tm : Tms) (H : AH) (r : Nat × Guard × NOp) : Prop :=
  wantedA tm r.2.1 = some false ∨ nop (·.ev tm) H 0 r.2.2 = some (tm r.1, none)

def IRun (P : Program) (K : Tms → AH → Prop) : List IStep → Pend → Tms → AH → Prop
  | [], pd, tm, H => K tm H
  | .n dst g o :: rest, pd, tm, H => match wantedA tm g with
    | some true => (match nop (·.ev tm) H H.next o with
      | some (v, none) => IRun P K rest pd (put tm dst v) H
      | some (v, some b) => IRun P K rest pd (put tm dst v) (H.new b)
      | none => False)
    | some false => IRun P K rest pd (put tm dst .undef) H
    | none => False
  | .late key dst g o :: rest, pd, tm, H => match wantedA tm g with
    | some true => (match nop (·.ev tm) H H.next o with
      | some (v, some b) => IRun P K rest ((key, H.next, b) :: pd) (put tm dst v) H.bump
      | _ => False)
    | some false => IRun P K rest pd (put tm dst .undef) H
    | none => False
  | .act key :: rest, pd, tm, H => match pd.lookup key with
    | some (id, b) => IRun P K rest pd tm (H.set id (some b))
    | none => IRun P K rest pd tm H
  | .e dst g o re :: rest, pd, tm, H => match wantedA tm g with
    | some true => estep P (·.ev tm) H (fun v H' => (∀ r ∈ re, stays (put tm dst v) H' r) ∧ IRun P K rest pd (put tm dst v) H') o
    | some false => IRun P K rest pd (put tm dst .undef) H
    | none => False

inductive ICode where
  | skip
  | reg (steps : List IStep)
  | seq (a b : ICode)
  | cond (c : IOpd) (a b : ICode)
  | block (id : Nat) (a : ICode)
  | loop (a : ICode)
  | exit (id : Nat)
  | ret
  | never
  | rangeF (g : IOpd) (ps : List Nat) (a b : ICode)
  deriving Inhabited
inductive IEx where
  | normal
  | exit (id : Nat)
  | ret

abbrev IPost := IEx → Tms → AH → Prop
def IPost.then (next : Tms → AH → Prop) (Q : IPost) : IPost
  | .normal, tm, H => next tm H
  | e, tm, H => Q e tm H
def IPost.inBlock (id : Nat) (Q : IPost) : IPost
  | .exit k, tm, H => if k = id then Q .normal tm H else Q (.exit k) tm H
  | e, tm, H => Q e tm H

/-- How a round ends: the record is laid back, and yield answers. -/
def IPost.round (o : Option IEx → AObj) (b : Nat) (K : AV → AH → Prop) : IPost
  | .normal, _, H => K (.bool true) (H.set b (some (o none)))
  | e, _, H => K (.bool false) (H.set b (some (o (some e))))
def updl : Tms → List Nat → List AV → Tms
  | tm, p :: ps, a :: as => updl (upd tm p a) ps as
  | tm, _, _ => tm
def IPost.none : IPost := fun _ _ _ => False

def IWP (P : Program) : ICode → IPost → Tms → AH → Prop
  | .skip, Q, tm, H => Q .normal tm H
  | .reg steps, Q, tm, H => IRun P (Q .normal) steps [] tm H
  | .seq a b, Q, tm, H => IWP P a (IPost.then (IWP P b Q) Q) tm H
  | .cond c a b, Q, tm, H => match c.ev tm with
    | .bool true => IWP P a Q tm H
    | .bool false => IWP P b Q tm H
    | _ => False
  | .block id a, Q, tm, H => IWP P a (IPost.inBlock id Q) tm H
  | .loop a, Q, tm, H => ∃ I : Nat → Tms → AH → Prop, (∃ n, I n tm H) ∧ ∀ n tm H, I n tm H → IWP P a (IPost.then (fun tm' H' => ∃ m, m < n ∧ I m tm' H') Q) tm H
  | .exit id, Q, tm, H => Q (.exit id) tm H
  | .ret, Q, tm, H => Q .ret tm H
  | .never, Q, tm, H => False
  | .rangeF g ps a b, Q, tm, H => match g.ev tm with
    | .func (.func f) first captured => ∀ o : Option IEx → AObj, (∀ x, (o x).ro = false) →
        (∀ (H' : AH) (args : List AV) (K : AV → AH → Prop), H'.at_ H.next = some (o none) → args.length = ps.length →
          IWP P a (IPost.then (fun t1 H1 => IWP P b (IPost.round o H.next K) t1 H1) IPost.none) (updl tm ps args) (H'.set H.next none) → AYield P H.next args H' K) →
        ACall P f (first ++ .yield H.next :: captured) (H.new (o none)) fun _ H' => ∃ x, H'.at_ H.next = some (o x) ∧ Q (x.getD .normal) tm (H'.set H.next none)
    | _ => False

end Go.Proofs.YtcgkadfgojmmlaaDoor.Abs

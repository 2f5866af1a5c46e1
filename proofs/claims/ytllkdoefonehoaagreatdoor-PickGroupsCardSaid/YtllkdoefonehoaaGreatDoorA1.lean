/- An abstract heap and how it stands for a world: values, blocks, an injection of block numbers. No condition. -/
import Derived.Calls
import Derived.Below
import Derived.Laws.Sem
set_option linter.unusedVariables false
set_option linter.unusedSimpArgs false
namespace Go.Proofs.YtllkdoefonehoaaGreatDoor.Abs
open Go Go.RowKit

/-- A value: no capacities, texts as lists of bytes. -/
inductive AV where
  | bool (b : Bool)
  | int (k : IntKind) (n : Int)
  | str (l : List UInt8)
  | ptr (b o : Nat)
  | pnil
  | slice (b o n e : Nat)
  | snil
  | sempty
  | szero
  | hdl (g t : Nat)
  | map (b : Nat)
  | mnil
  | func (fn : Fn) (first captured : List AV)
  | yield (b : Nat)
  | nilFunc
  | iface (t : TypeId) (v : AV)
  | nilIface
  | agg (l : List AV)
  | tuple (l : List AV)
  deriving Inhabited

abbrev AV.undef : AV := .tuple []
def AV.cells : AV → List AV
  | .agg l => l
  | v => [v]
def AV.one : AV → Bool
  | .agg _ => false
  | .tuple _ => false
  | _ => true

/-- A block's number in the world, and how many cells it has there. -/
abbrev Inj := Nat → Option (Nat × Nat)
def Inj.le (j j' : Inj) : Prop := ∀ a c, j a = some c → j' a = some c
theorem Inj.le_refl (j : Inj) : j.le j := fun _ _ h => h
theorem Inj.le_trans {j j' j'' : Inj} (h : j.le j') (k : j'.le j'') : j.le j'' := fun a c e => k a c (h a c e)

def Fn.notYield : Fn → Bool
  | .yield _ => false
  | _ => true

inductive VR (j : Inj) : AV → Value → Prop
  | bool (b) : VR j (.bool b) (.bool b)
  | int (k n) : VR j (.int k n) (.int k n)
  | str (s : ByteArray) : VR j (.str s.data.toList) (.string s)
  | pnil : VR j .pnil (.pointer none)
  | ptr {b c z o : Nat} (h : j b = some (c, z)) : VR j (.ptr b o) (.pointer (some ⟨c, o, none⟩))
  | snil : VR j .snil (.slice none 0 0)
  | slice {b c z o n e k : Nat} (h : j b = some (c, z)) (hk : n ≤ k) (hz : o + k * e ≤ z) : VR j (.slice b o n e) (.slice (some ⟨c, o, none⟩) n k)
  | sempty {a : Addr} {k : Nat} : VR j .sempty (.slice (some a) 0 k)
  | szero {a : Addr} : VR j .szero (.slice (some a) 0 0)
  | hdl {g t : Nat} : VR j (.hdl g t) (.pointer (some ⟨g, t, none⟩))
  | mnil : VR j .mnil (.map none)
  | map {b c z : Nat} (h : j b = some (c, z)) : VR j (.map b) (.map (some c))
  | func {fn : Fn} {f1 c1 : List AV} {f2 c2 : Array Value} (hn : Fn.notYield fn = true) (hf : f1.length = f2.size)
      (h1 : ∀ (i : Nat) a b, f1[i]? = some a → f2[i]? = some b → VR j a b) (hc : c1.length = c2.size)
      (h2 : ∀ (i : Nat) a b, c1[i]? = some a → c2[i]? = some b → VR j a b) : VR j (.func fn f1 c1) (.func fn f2 c2)
  | yield {b c z : Nat} (h : j b = some (c, z)) : VR j (.yield b) (.func (.yield c) #[] #[])
  | nilFunc : VR j .nilFunc .nilFunc
  | iface {t : TypeId} {v : AV} {v' : Value} (h : VR j v v') : VR j (.iface t v) (.iface t v')
  | nilIface : VR j .nilIface .nilIface
  | agg {l : List AV} {r : Array Value} (hs : l.length = r.size) (h : ∀ (i : Nat) a b, l[i]? = some a → r[i]? = some b → VR j a b) : VR j (.agg l) (.agg r)
  | tuple {l : List AV} {r : Array Value} (hs : l.length = r.size) (h : ∀ (i : Nat) a b, l[i]? = some a → r[i]? = some b → VR j a b) : VR j (.tuple l) (.tuple r)

theorem VR.mono {j j' : Inj} (hj : j.le j') {a : AV} {v : Value} (h : VR j a v) : VR j' a v := by
  induction h with
  | bool b => exact .bool b
  | int k n => exact .int k n
  | str s => exact .str s
  | pnil => exact .pnil
  | ptr h => exact .ptr (hj _ _ h)
  | snil => exact .snil
  | slice h hk hz => exact .slice (hj _ _ h) hk hz
  | sempty => exact .sempty
  | szero => exact .szero
  | hdl => exact .hdl
  | mnil => exact .mnil
  | map h => exact .map (hj _ _ h)
  | func hn hf _ hc _ ih1 ih2 => exact .func hn hf ih1 hc ih2
  | yield h => exact .yield (hj _ _ h)
  | nilFunc => exact .nilFunc
  | iface _ ih => exact .iface ih
  | nilIface => exact .nilIface
  | agg hs _ ih => exact .agg hs ih
  | tuple hs _ ih => exact .tuple hs ih

theorem VR.undef {j : Inj} : VR j .undef Go.undef := .tuple (by simp) (by simp)

/-- Rows of values. -/
def VRs (j : Inj) (l : List AV) (r : List Value) : Prop := l.length = r.length ∧ ∀ (i : Nat) a b, l[i]? = some a → r[i]? = some b → VR j a b
theorem VRs.nil {j : Inj} : VRs j [] [] := ⟨rfl, by simp⟩
theorem VRs.cons {j : Inj} {a : AV} {b : Value} {l : List AV} {r : List Value} (h : VR j a b) (hs : VRs j l r) : VRs j (a :: l) (b :: r) := by
  refine ⟨by simp [hs.1], fun i x y hx hy => ?_⟩
  cases i with
  | zero => simp at hx hy; subst hx; subst hy; exact h
  | succ i => simp at hx hy; exact hs.2 i x y hx hy
theorem VRs.mono {j j' : Inj} (hj : j.le j') {l : List AV} {r : List Value} (h : VRs j l r) : VRs j' l r := ⟨h.1, fun i a b x y => (h.2 i a b x y).mono hj⟩
theorem VRs.head {j : Inj} {a : AV} {b : Value} {l : List AV} {r : List Value} (h : VRs j (a :: l) (b :: r)) : VR j a b := h.2 0 a b rfl rfl
theorem VRs.tail {j : Inj} {a : AV} {b : Value} {l : List AV} {r : List Value} (h : VRs j (a :: l) (b :: r)) : VRs j l r :=
  ⟨by have := h.1; simpa using this, fun i x y hx hy => h.2 (i + 1) x y (by simpa using hx) (by simpa using hy)⟩
theorem VRs.nil_right {j : Inj} {r : List Value} (h : VRs j [] r) : r = [] := List.eq_nil_of_length_eq_zero (by rw [← h.1]; rfl)
theorem VRs.cons_left {j : Inj} {a : AV} {l : List AV} {r : List Value} (h : VRs j (a :: l) r) : ∃ b r', r = b :: r' ∧ VR j a b ∧ VRs j l r' := by
  cases r with
  | nil => have := h.1; simp at this
  | cons b r' => exact ⟨b, r', rfl, h.head, h.tail⟩
theorem VRs.get {j : Inj} {l : List AV} {r : List Value} (h : VRs j l r) {i : Nat} {a : AV} (ha : l[i]? = some a) : ∃ b, r[i]? = some b ∧ VR j a b := by
  have hi : i < l.length := (List.getElem?_eq_some_iff.1 ha).1
  have : i < r.length := by rw [← h.1]; exact hi
  exact ⟨r[i], List.getElem?_eq_getElem this, h.2 i a _ ha (List.getElem?_eq_getElem this)⟩
theorem VRs.append {j : Inj} {l l' : List AV} {r r' : List Value} (h : VRs j l r) (h' : VRs j l' r') : VRs j (l ++ l') (r ++ r') := by
  induction l generalizing r with
  | nil => rw [h.nil_right]; exact h'
  | cons a l ih => obtain ⟨b, r2, rfl, hb, ht⟩ := h.cons_left; exact .cons hb (ih ht)
theorem VRs.take {j : Inj} {l : List AV} {r : List Value} (h : VRs j l r) (n : Nat) : VRs j (l.take n) (r.take n) := by
  refine ⟨by simp [h.1], fun i a b hx hy => ?_⟩
  rw [List.getElem?_take] at hx hy
  split at hx
  · rename_i hi; rw [if_pos hi] at hy; exact h.2 i a b hx hy
  · cases hx
theorem VRs.drop {j : Inj} {l : List AV} {r : List Value} (h : VRs j l r) (n : Nat) : VRs j (l.drop n) (r.drop n) := by
  refine ⟨by simp [h.1], fun i a b hx hy => ?_⟩
  rw [List.getElem?_drop] at hx hy
  exact h.2 _ a b hx hy
theorem VRs.set {j : Inj} {l : List AV} {r : List Value} (h : VRs j l r) (n : Nat) {a : AV} {b : Value} (hab : VR j a b) : VRs j (l.set n a) (r.set n b) := by
  refine ⟨by simp [h.1], fun i x y hx hy => ?_⟩
  rw [List.getElem?_set] at hx hy
  by_cases e : n = i
  · subst e
    rw [if_pos rfl] at hx hy
    split at hx
    · rename_i h1
      split at hy
      · cases hx; cases hy; exact hab
      · cases hy
    · cases hx
  · rw [if_neg e] at hx hy; exact h.2 i x y hx hy
theorem VRs.replicate {j : Inj} (n : Nat) {a : AV} {b : Value} (h : VR j a b) : VRs j (List.replicate n a) (List.replicate n b) := by
  induction n with
  | zero => exact .nil
  | succ n ih => exact .cons h ih
theorem VR.agg_list {j : Inj} {l : List AV} {r : Array Value} (h : VRs j l r.toList) : VR j (.agg l) (.agg r) :=
  .agg (by simpa using h.1) fun i a b hx hy => h.2 i a b hx (by simpa using hy)
theorem VR.tuple_list {j : Inj} {l : List AV} {r : Array Value} (h : VRs j l r.toList) : VR j (.tuple l) (.tuple r) :=
  .tuple (by simpa using h.1) fun i a b hx hy => h.2 i a b hx (by simpa using hy)
theorem VRs.of_agg {j : Inj} {l : List AV} {r : Array Value} (hs : l.length = r.size) (h : ∀ (i : Nat) a b, l[i]? = some a → r[i]? = some b → VR j a b) : VRs j l r.toList :=
  ⟨by simpa using hs, fun i a b hx hy => h i a b hx (by simpa using hy)⟩
theorem VR.cells {j : Inj} {a : AV} {v : Value} (h : VR j a v) : VRs j a.cells v.cells.toList := by
  cases h with
  | agg hs h => exact VRs.of_agg hs h
  | _ => exact .cons (by constructor <;> assumption) .nil
theorem VR.one {j : Inj} {a : AV} {v : Value} (h : VR j a v) : a.one = v.oneCell' := by cases h <;> rfl

/-! ### Blocks -/
structure AEntry where
  key : AV
  val : AV
  born : Nat
  deriving Inhabited

inductive AObj where
  | cells (ro : Bool) (t : TypeId) (cs : List AV)
  | map (es : List AEntry) (clock : Nat)
  | iter (s : ByteArray) (pos : Nat)
  | row (get : Nat → Option AV)
  deriving Inhabited
def AObj.ro : AObj → Bool
  | .cells ro _ _ => ro
  | .row _ => true
  | _ => false

def csize : Obj → Nat
  | .cells c _ _ => c.size
  | _ => 0
def ORel (j : Inj) : AObj → Obj → Prop
  | .cells ro t cs, .cells c t' fz => t' = t ∧ cs.length ≤ c.size ∧ (∀ (i : Nat) a v, cs[i]? = some a → c[i]? = some v → VR j a v) ∧ (ro = false → fz.2 ≤ fz.1 ∨ c.size ≤ fz.1)
  | .map es n, .map ds m => n = m ∧ es.length = ds.size ∧ ∀ (i : Nat) e d, es[i]? = some e → ds[i]? = some d → VR j e.key d.key ∧ VR j e.val d.val ∧ e.born = d.born
  | .iter s p, .stringIter s' p' => s = s' ∧ p = p'
  | .row g, .cells c _ _ => ∀ (i : Nat) a, g i = some a → ∃ v, c[i]? = some v ∧ VR j a v
  | _, _ => False

theorem ORel.mono {j j' : Inj} (hj : j.le j') {o : AObj} {x : Obj} (h : ORel j o x) : ORel j' o x := by
  cases o <;> cases x <;> simp only [ORel] at h ⊢
  · exact ⟨h.1, h.2.1, fun i a v ha hv => (h.2.2.1 i a v ha hv).mono hj, h.2.2.2⟩
  · exact ⟨h.1, h.2.1, fun i a v ha hv => ⟨(h.2.2 i a v ha hv).1.mono hj, (h.2.2 i a v ha hv).2.1.mono hj, (h.2.2 i a v ha hv).2.2⟩⟩
  · exact h
  · exact fun i a hi => by obtain ⟨v, hv, h2⟩ := h i a hi; exact ⟨v, hv, h2.mono hj⟩

structure AH where
  next : Nat
  at_ : Nat → Option AObj

def AH.set (H : AH) (b : Nat) (o : Option AObj) : AH := ⟨H.next, fun k => if k = b then o else H.at_ k⟩
def AH.bump (H : AH) : AH := ⟨H.next + 1, H.at_⟩
/-- A new block. -/
def AH.new (H : AH) (o : AObj) : AH := ⟨H.next + 1, fun k => if k = H.next then some o else H.at_ k⟩
theorem AH.set_next (H : AH) (b : Nat) (o : Option AObj) : (H.set b o).next = H.next := rfl
theorem AH.new_next (H : AH) (o : AObj) : (H.new o).next = H.next + 1 := rfl
theorem AH.set_at (H : AH) (b : Nat) (o : Option AObj) (k : Nat) : (H.set b o).at_ k = if k = b then o else H.at_ k := rfl
theorem AH.new_at (H : AH) (o : AObj) (k : Nat) : (H.new o).at_ k = if k = H.next then some o else H.at_ k := rfl
theorem AH.set_same (H : AH) (b : Nat) (o : Option AObj) : (H.set b o).at_ b = o := by rw [AH.set_at, if_pos rfl]
theorem AH.set_ne (H : AH) {b : Nat} (o : Option AObj) {k : Nat} (h : k ≠ b) : (H.set b o).at_ k = H.at_ k := by rw [AH.set_at, if_neg h]
theorem AH.new_same (H : AH) (o : AObj) : (H.new o).at_ H.next = some o := by rw [AH.new_at, if_pos rfl]
theorem AH.new_ne (H : AH) (o : AObj) {k : Nat} (h : k ≠ H.next) : (H.new o).at_ k = H.at_ k := by rw [AH.new_at, if_neg h]

def AH.wr (H : AH) (a : Nat) : Prop := ∃ o, H.at_ a = some o ∧ o.ro = false
def AH.live (H : AH) (a : Nat) : Prop := (H.at_ a).isSome = true

/-- A package variable's cells. -/
def gsz (P : Program) (g : Nat) : Nat := match ((begin P (fun _ _ => 0) default).world.heap[g]?).bind Obj.row? with
  | some (zero, _) => zero.size
  | none => 0
structure Rel (P : Program) (j : Inj) (H : AH) (w : World) : Prop where
  dom : ∀ a c z, j a = some (c, z) → a < H.next ∧ c < w.heap.size
  inj : ∀ a b c y z, j a = some (c, y) → j b = some (c, z) → H.live a → H.live b → a = b
  obj : ∀ a o, H.at_ a = some o → ∃ c x, j a = some (c, csize x) ∧ w.heap[c]? = some x ∧ ORel j o x
  glob : ∀ g, g < P.globals.size → j g = some (g, gsz P g)

theorem Rel.globE {P : Program} {j : Inj} {H : AH} {w : World} (h : Rel P j H w) : ∀ g, g < P.globals.size → ∃ z, j g = some (g, z) := fun g hg => ⟨_, h.glob g hg⟩

/-- Only blocks that may be written are written. -/
structure Keeps (j : Inj) (H : AH) (w w' : World) : Prop where
  os : w'.os = w.os
  tape : w'.tape = w.tape
  output : w'.output = w.output
  size : w.heap.size ≤ w'.heap.size
  block : ∀ c, c < w.heap.size → (∀ a z, H.wr a → j a ≠ some (c, z)) → w'.heap[c]? = w.heap[c]?

structure PostW (P : Program) (j : Inj) (H : AH) (w : World) (j' : Inj) (H' : AH) (w' : World) : Prop where
  ext : j.le j'
  rel : Rel P j' H' w'
  keeps : Keeps j H w w'
  next : H.next ≤ H'.next
  orig : ∀ a c z, j' a = some (c, z) → H'.live a → c < w.heap.size → ∃ b y, H.live b ∧ j b = some (c, y) ∧ (H'.wr a → H.wr b)

/-- .. and new numbers alone are given out. -/
structure Post (P : Program) (j : Inj) (H : AH) (w : World) (j' : Inj) (H' : AH) (w' : World) : Prop extends PostW P j H w j' H' w' where
  fresh : ∀ a, a < H.next → j' a = j a

theorem Keeps.refl (j : Inj) (H : AH) (w : World) : Keeps j H w w := ⟨rfl, rfl, rfl, Nat.le_refl _, fun _ _ _ => rfl⟩
theorem Post.refl {P : Program} {j : Inj} {H : AH} {w : World} (h : Rel P j H w) : Post P j H w j H w :=
  ⟨⟨Inj.le_refl j, h, .refl j H w, Nat.le_refl _, fun a c z hc hl _ => ⟨a, z, hl, hc, id⟩⟩, fun _ _ => rfl⟩
theorem PostW.trans {P : Program} {j j1 j2 : Inj} {H H1 H2 : AH} {w w1 w2 : World} (h : PostW P j H w j1 H1 w1) (k : PostW P j1 H1 w1 j2 H2 w2) : PostW P j H w j2 H2 w2 := by
  refine ⟨Inj.le_trans h.ext k.ext, k.rel, ⟨k.keeps.os.trans h.keeps.os, k.keeps.tape.trans h.keeps.tape, k.keeps.output.trans h.keeps.output, Nat.le_trans h.keeps.size k.keeps.size, ?_⟩, Nat.le_trans h.next k.next, ?_⟩
  · intro c hc hn
    rw [k.keeps.block c (Nat.lt_of_lt_of_le hc h.keeps.size) ?_, h.keeps.block c hc hn]
    intro a z hw ha
    obtain ⟨o, ho, hr⟩ := hw
    obtain ⟨b, y, _, hb, hwb⟩ := h.orig a c z ha (by unfold AH.live; rw [ho]; rfl) hc
    exact hn b y (hwb ⟨o, ho, hr⟩) hb
  · intro a c z ha hl hc
    obtain ⟨b, y, hlb, hb, hwb⟩ := k.orig a c z ha hl (Nat.lt_of_lt_of_le hc h.keeps.size)
    obtain ⟨d, x, hld, hd, hwd⟩ := h.orig b c y hb hlb hc
    exact ⟨d, x, hld, hd, fun q => hwd (hwb q)⟩

theorem Post.trans {P : Program} {j j1 j2 : Inj} {H H1 H2 : AH} {w w1 w2 : World} (h : Post P j H w j1 H1 w1) (k : Post P j1 H1 w1 j2 H2 w2) : Post P j H w j2 H2 w2 :=
  ⟨h.toPostW.trans k.toPostW, fun a ha => (k.fresh a (Nat.lt_of_lt_of_le ha h.next)).trans (h.fresh a ha)⟩
theorem Post.transW {P : Program} {j j1 j2 : Inj} {H H1 H2 : AH} {w w1 w2 : World} (h : Post P j H w j1 H1 w1) (k : PostW P j1 H1 w1 j2 H2 w2) (hf : ∀ a, a < H.next → j2 a = j1 a) : Post P j H w j2 H2 w2 :=
  ⟨h.toPostW.trans k, fun a ha => (hf a ha).trans (h.fresh a ha)⟩

theorem AH.live_of {H : AH} {a : Nat} {o : AObj} (h : H.at_ a = some o) : H.live a := by unfold AH.live; rw [h]; rfl
theorem AH.live_obj {H : AH} {a : Nat} (h : H.live a) : ∃ o, H.at_ a = some o := Option.isSome_iff_exists.1 h
/-- Blocks may be forgotten. -/
theorem Rel.forget {P : Program} {j : Inj} {H H' : AH} {w : World} (h : Rel P j H w) (hn : H.next ≤ H'.next) (hs : ∀ a o, H'.at_ a = some o → H.at_ a = some o) : Rel P j H' w := by
  refine ⟨fun a c z x => ⟨Nat.lt_of_lt_of_le (h.dom a c z x).1 hn, (h.dom a c z x).2⟩, fun a b c y z ha hb la lb => h.inj a b c y z ha hb ?_ ?_, fun a o ho => h.obj a o (hs a o ho), h.glob⟩
  · obtain ⟨o, ho⟩ := AH.live_obj la; exact AH.live_of (hs a o ho)
  · obtain ⟨o, ho⟩ := AH.live_obj lb; exact AH.live_of (hs b o ho)

/-- A call that keeps all that was leaves all as it stood. -/
theorem Rel.below {P : Program} {j : Inj} {H : AH} {w w' : World} (h : Rel P j H w) (hb : Below w.heap.size w w') : Rel P j H w' := by
  refine ⟨fun a c z x => ⟨(h.dom a c z x).1, Nat.lt_of_lt_of_le (h.dom a c z x).2 hb.size⟩, h.inj, fun a o ho => ?_, h.glob⟩
  obtain ⟨c, x, hc, hx, ho⟩ := h.obj a o ho
  exact ⟨c, x, hc, (hb.block c (h.dom a c _ hc).2).trans hx, ho⟩
theorem Post.below {P : Program} {j : Inj} {H : AH} {w w' : World} (h : Rel P j H w) (hb : Below w.heap.size w w') : Post P j H w j H w' :=
  ⟨⟨Inj.le_refl j, h.below hb, ⟨hb.os, hb.tape, hb.output, hb.size, fun c hc _ => hb.block c hc⟩, Nat.le_refl _, fun a c z hc hl _ => ⟨a, z, hl, hc, id⟩⟩, fun _ _ => rfl⟩

end Go.Proofs.YtllkdoefonehoaaGreatDoor.Abs

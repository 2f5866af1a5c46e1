/- What a step looks at; the order that the edges of a region force. No condition. -/
import Derived.Test.YtllkdoefonehoaaGreatDoorA16
import Derived.Orders
set_option linter.unusedVariables false
set_option linter.unusedSimpArgs false
namespace Go.Proofs.YtllkdoefonehoaaGreatDoor.Abs
open Go Go.RowKit

def IOpd.tmps : IOpd → List Nat
  | .tmp t => [t]
  | .const _ => []
def NOp.opds : NOp → List IOpd
  | .mv x | .un _ x | .wrap _ x | .same x | .b2s x | .s2b _ x | .faddr x _ | .fld x _ _ | .ext x _ | .mki _ x | .lens x | .len x | .lenm x | .nilck x | .tas _ _ _ x | .tasi _ _ _ x | .load _ x | .box _ x => [x]
  | .pick c a b => [c, a, b]
  | .bin _ x y | .eq _ _ x y | .eqs _ _ x y | .idxs x y | .idxa _ _ _ x y | .iaddr _ x y | .iaddra _ _ x y | .lkp _ _ x y | .mks _ _ _ _ x y => [x, y]
  | .bld _ ps => ps.map (·.2.2)
  | .slc _ x lo hi m | .sarr _ _ x lo hi m => x :: (lo.toList ++ hi.toList ++ m.toList)
  | .sstr x lo hi => x :: (lo.toList ++ hi.toList)
  | .mkf _ f c => f ++ c
  | .mx l | .mn l => l
  | .bsl _ _ _ _ ps => ps.map (·.2)
  | .new _ _ | .mkm => []
def EOp.opds : EOp → List IOpd
  | .store _ x v => [x, v]
  | .call _ l => l
  | .callv x l => x :: l
  | .invoke _ x l => x :: l
  | .xcall _ l => l
  | .never => []
  | .append _ _ _ _ s x => [s, x]
  | .copy _ d s => [d, s]
  | .clear _ _ x => [x]
  | .cap x => [x]
  | .mapset m k v => [m, k, v]
def NOp.reads : NOp → Bool
  | .load _ _ | .lkp _ _ _ _ | .lenm _ | .b2s _ | .sarr _ _ _ _ _ _ => true
  | _ => false
def NOp.allocs : NOp → Bool
  | .new _ _ | .box _ _ | .bsl _ _ _ _ _ | .mks _ _ _ _ _ _ | .s2b _ _ | .mkm => true
  | _ => false
def touches : AV → Option Nat
  | .ptr b _ => some b
  | .slice b _ _ _ => some b
  | .map b => some b
  | _ => none
theorem touches_dom {j : Inj} {a : AV} {v : Value} {b : Nat} (h : VR j a v) (ht : touches a = some b) : ∃ c, j b = some c := by
  cases h <;> simp only [touches] at ht <;> first | (cases ht; done) | (cases ht; exact ⟨_, ‹_›⟩)

theorem optI_congr {ev ev' : IOpd → AV} {x : Option IOpd} (h : ∀ y ∈ x.toList, ev y = ev' y) : optI ev x = optI ev' x := by
  cases x with
  | none => rfl
  | some y => simp only [optI, h y (by simp)]
theorem nop_congr {ev ev' : IOpd → AV} {H : AH} {id : Nat} {no : NOp} (h : ∀ x ∈ no.opds, ev x = ev' x) : nop ev H id no = nop ev' H id no := by
  cases no <;> simp only [NOp.opds, List.mem_cons, List.not_mem_nil, or_false, forall_eq_or_imp, forall_eq, false_implies, implies_true] at h <;> simp only [nop] <;> first
    | (simp only [h]; done)
    | skip
  · rename_i zero ps
    have e : (ps.map fun x => match x with | (o, s, x) => (o, s, ev x)) = ps.map fun x => match x with | (o, s, x) => (o, s, ev' x) := by
      apply List.map_congr_left
      rintro ⟨o, s, x⟩ hx
      simp only [Prod.mk.injEq, true_and]
      exact h x (List.mem_map.2 ⟨_, hx, rfl⟩)
    rw [e]
  · rename_i size x lo hi mx
    obtain ⟨h0, h1⟩ := h
    rw [optI_congr (x := lo) (fun y hy => h1 y (List.mem_append.2 (.inl (List.mem_append.2 (.inl hy))))), optI_congr (x := hi) (fun y hy => h1 y (List.mem_append.2 (.inl (List.mem_append.2 (.inr hy))))), optI_congr (x := mx) (fun y hy => h1 y (List.mem_append.2 (.inr hy))), h0]
  · rename_i x lo hi
    obtain ⟨h0, h1⟩ := h
    rw [optI_congr (x := lo) (fun y hy => h1 y (List.mem_append.2 (.inl hy))), optI_congr (x := hi) (fun y hy => h1 y (List.mem_append.2 (.inr hy))), h0]
  · rename_i n size x lo hi mx
    obtain ⟨h0, h1⟩ := h
    rw [optI_congr (x := lo) (fun y hy => h1 y (List.mem_append.2 (.inl (List.mem_append.2 (.inl hy))))), optI_congr (x := hi) (fun y hy => h1 y (List.mem_append.2 (.inl (List.mem_append.2 (.inr hy))))), optI_congr (x := mx) (fun y hy => h1 y (List.mem_append.2 (.inr hy))), h0]
  · rename_i fn f c
    rw [List.map_congr_left (fun x hx => h x (List.mem_append.2 (.inl hx))), List.map_congr_left (fun x hx => h x (List.mem_append.2 (.inr hx)))]
  · rw [List.map_congr_left h]
  · rw [List.map_congr_left h]
  · rename_i t size len zero ps
    have e : (ps.map fun x => match x with | (o, x) => (o * size, size, ev x)) = ps.map fun x => match x with | (o, x) => (o * size, size, ev' x) := by
      apply List.map_congr_left
      rintro ⟨o, x⟩ hx
      simp only [Prod.mk.injEq, true_and]
      exact h x (List.mem_map.2 ⟨_, hx, rfl⟩)
    rw [e]
theorem estep_congr {P : Program} {ev ev' : IOpd → AV} {H : AH} {K : AV → AH → Prop} {eo : EOp} (h : ∀ x ∈ eo.opds, ev x = ev' x) : estep P ev H K eo = estep P ev' H K eo := by
  cases eo <;> simp only [EOp.opds, List.mem_cons, List.not_mem_nil, or_false, forall_eq_or_imp, forall_eq] at h <;> simp only [estep]
  · simp only [h]
  · rw [List.map_congr_left h]
  · rw [h.1, List.map_congr_left h.2]
  · rw [h.1, List.map_congr_left h.2]
  · rw [List.map_congr_left h]
  · simp only [h]
  · simp only [h]
  · simp only [h]
  · simp only [h]
  · simp only [h]
theorem nop_alloc {ev : IOpd → AV} {H : AH} {id : Nat} {no : NOp} {v : AV} {b : Option AObj} (h : nop ev H id no = some (v, b)) : b.isSome = no.allocs := by
  cases no <;> simp only [nop, NOp.allocs, Option.map_eq_some_iff, Option.bind_eq_some_iff] at h ⊢
  all_goals first
    | (cases h; rfl)
    | (obtain ⟨_, _, h⟩ := h; cases h; rfl)
    | skip
  all_goals (repeat' (split at h))
  all_goals (try simp only [Option.map_eq_some_iff, Option.bind_eq_some_iff] at h)
  all_goals first
    | (cases h; done)
    | (cases h; rfl)
    | (obtain ⟨_, _, h⟩ := h; cases h; rfl)
    | (obtain ⟨_, _, _, _, h⟩ := h; cases h; rfl)
    | (obtain ⟨_, _, _, _, _, _, h⟩ := h; cases h; rfl)
    | (obtain ⟨_, _, _, _, _, _, _, _, h⟩ := h; cases h; rfl)
    | (obtain ⟨_, _, _, _, h⟩ := h; cases h; done)
    | (obtain ⟨_, _, _, _, _, _, h⟩ := h; cases h; done)
theorem nop_id {ev : IOpd → AV} {H : AH} {id id' : Nat} {no : NOp} (h : no.allocs = false) : nop ev H id no = nop ev H id' no := by
  cases no <;> first | rfl | cases h
/-- What a quiet step answers hangs on the blocks that its operands lead to. -/
theorem loadC_at {H H' : AH} {b o : Nat} {n : Option Nat} {v : AV} (h : loadC H b o n = some v) (hh : ∀ q, H.at_ b = some q → H'.at_ b = some q) : loadC H' b o n = some v := by
  cases n <;> simp only [loadC] at h ⊢
  all_goals
    split at h
    · rename_i ro t cs hb
      rw [hh _ hb]
      exact h
    · rename_i g hb
      rw [hh _ hb]
      exact h
    · cases h
theorem b2sA_at {H H' : AH} {a v : AV} (h : b2sA H a = some v) (hh : ∀ c, touches a = some c → ∀ q, H.at_ c = some q → H'.at_ c = some q) : b2sA H' a = some v := by
  cases a <;> simp only [b2sA] at h ⊢ <;> first | exact h | skip
  split at h
  · rename_i cs hl
    rw [loadC_at hl (hh _ rfl)]
    exact h
  · cases h
theorem nop_at {ev : IOpd → AV} {H H' : AH} {id : Nat} {no : NOp} {v : AV} {b : Option AObj} (h : nop ev H id no = some (v, b)) (hh : ∀ x ∈ no.opds, ∀ c, touches (ev x) = some c → ∀ q, H.at_ c = some q → H'.at_ c = some q) : nop ev H' id no = some (v, b) := by
  cases no <;> first
    | exact h
    | skip
  · rename_i x
    simp only [nop, Option.map_eq_some_iff] at h ⊢
    obtain ⟨r, hb, h⟩ := h
    exact ⟨r, b2sA_at hb (hh x (by simp [NOp.opds])), h⟩
  · rename_i n size x lo hi mx
    have hx := hh x (by simp [NOp.opds])
    simp only [nop, Option.bind_eq_some_iff] at h ⊢
    obtain ⟨l, hl, hi', hhi, m, hm, h⟩ := h
    refine ⟨l, hl, hi', hhi, m, hm, ?_⟩
    split at h
    · rename_i bb o hev
      rw [hev] at hx
      split at h
      · rename_i q hq
        rw [loadC_at hq (hx _ rfl)]
        exact h
      · cases h
    · cases h
  · rename_i x
    have hx := hh x (by simp [NOp.opds])
    simp only [nop] at h ⊢
    split at h
    · exact h
    · rename_i bb hev
      rw [hev] at hx
      split at h
      · rename_i es clock hb
        rw [hx _ rfl _ hb]
        exact h
      · cases h
    · cases h
  · rename_i n x
    have hx := hh x (by simp [NOp.opds])
    simp only [nop] at h ⊢
    split at h
    · rename_i bb o hev
      rw [hev] at hx
      simp only [Option.map_eq_some_iff] at h ⊢
      obtain ⟨r, hb, h⟩ := h
      exact ⟨r, loadC_at hb (hx _ rfl), h⟩
    · cases h
  · rename_i zero ok x key
    have hx := hh x (by simp [NOp.opds])
    simp only [nop, Option.map_eq_some_iff] at h ⊢
    obtain ⟨r, hb, h⟩ := h
    refine ⟨r, ?_, h⟩
    revert hx hb
    generalize ev x = X
    intro hx hb
    unfold lkpA at hb ⊢
    split at hb
    · exact hb
    · rename_i b k n hkey
      split at hb
      · rename_i es clock hq
        have := hx _ rfl _ hq
        simp only [this]
        exact hb
      · cases hb
    · cases hb
theorem nop_pure {ev : IOpd → AV} {H H' : AH} {id : Nat} {no : NOp} (h : no.reads = false) : nop ev H id no = nop ev H' id no := by
  cases no <;> first | rfl | cases h

/-! ### The order that the edges force -/
inductive Anc (ops : Array Oper) : Nat → Nat → Prop
  | edge {i j : Nat} {o : Oper} {e : Edge} (ho : ops[j]? = some o) (he : e ∈ o.after) (hb : Region.binds .any e = true) (hi : e.on = i) : Anc ops i j
  | step {i k j : Nat} {o : Oper} {e : Edge} (h : Anc ops i k) (ho : ops[j]? = some o) (he : e ∈ o.after) (hb : Region.binds .any e = true) (hk : e.on = k) : Anc ops i j
def ancEdges (acc : List Nat) (s : Nat) : List Edge → Nat
  | [] => s
  | e :: es => ancEdges acc (if Region.binds .any e then (s ||| 2 ^ e.on) ||| acc.getD e.on 0 else s) es
def ancGo (acc : List Nat) : List Oper → List Nat
  | [] => acc
  | o :: os => ancGo (acc ++ [ancEdges acc 0 o.after.toList]) os
/-- The bits of those that stand ahead. -/
def ancM (ops : Array Oper) : List Nat := ancGo [] ops.toList
def ancB (M : List Nat) (i j : Nat) : Bool := (M.getD j 0).testBit i
theorem ancEdges_sound {ops : Array Oper} {acc : List Nat} {j : Nat} {o : Oper} (ho : ops[j]? = some o) (hacc : ∀ k i, (acc.getD k 0).testBit i = true → Anc ops i k) : ∀ (es : List Edge) (s : Nat), (∀ e ∈ es, e ∈ o.after) → (∀ i, s.testBit i = true → Anc ops i j) →
    ∀ i, (ancEdges acc s es).testBit i = true → Anc ops i j
  | [], s, _, hs, i, h => hs i h
  | e :: es, s, hes, hs, i, h => by
    refine ancEdges_sound ho hacc es _ (fun e' he' => hes e' (List.mem_cons_of_mem _ he')) ?_ i h
    intro i hi
    split at hi
    · rename_i hb
      rw [Nat.testBit_or, Nat.testBit_or, Bool.or_eq_true, Bool.or_eq_true] at hi
      rcases hi with (hi | hi) | hi
      · exact hs i hi
      · rw [Nat.testBit_two_pow] at hi
        exact .edge ho (hes e (List.mem_cons_self ..)) hb (by simpa using hi)
      · exact .step (hacc _ _ hi) ho (hes e (List.mem_cons_self ..)) hb rfl
    · exact hs i hi
theorem ancGo_sound {ops : Array Oper} : ∀ (os : List Oper) (acc : List Nat), (∀ k, os[k]? = ops[acc.length + k]?) → (∀ k i, (acc.getD k 0).testBit i = true → Anc ops i k) → ∀ k i, ((ancGo acc os).getD k 0).testBit i = true → Anc ops i k
  | [], acc, _, hacc, k, i, h => hacc k i h
  | o :: os, acc, hos, hacc, k, i, h => by
    have ho : ops[acc.length]? = some o := by have := hos 0; simpa using this.symm
    refine ancGo_sound os _ (fun k => ?_) (fun k i hk => ?_) k i h
    · have := hos (k + 1)
      simp only [List.length_append, List.length_cons, List.length_nil]
      rw [show acc.length + (0 + 1) + k = acc.length + (k + 1) by omega, ← this]
      simp
    · by_cases hlt : k < acc.length
      · rw [List.getD_eq_getElem?_getD, List.getElem?_append_left hlt, ← List.getD_eq_getElem?_getD] at hk
        exact hacc k i hk
      · by_cases he : k = acc.length
        · subst he
          rw [List.getD_eq_getElem?_getD, List.getElem?_append_right (Nat.le_refl _)] at hk
          simp only [Nat.sub_self, List.getElem?_cons_zero, Option.getD_some] at hk
          exact ancEdges_sound ho hacc o.after.toList 0 (fun e he => by simpa using he) (fun i hi => by simp at hi) i hk
        · rw [List.getD_eq_getElem?_getD, List.getElem?_eq_none (by simp; omega)] at hk
          simp at hk
theorem ancB_sound {ops : Array Oper} {i j : Nat} (h : ancB (ancM ops) i j = true) : Anc ops i j :=
  ancGo_sound ops.toList [] (fun k => by simp) (fun k i h => by simp at h) j i h

def Done (listed : Array Bool) (i : Nat) : Prop := listed.getD i false = true
def Closed (ops : Array Oper) (S : Nat → Prop) : Prop := ∀ j o, S j → ops[j]? = some o → ∀ e ∈ o.after, Region.binds .any e = true → S e.on
theorem Closed.anc {ops : Array Oper} {S : Nat → Prop} (h : Closed ops S) {i j : Nat} (ha : Anc ops i j) : (∀ o, ops[j]? = some o → ∀ e ∈ o.after, Region.binds .any e = true → S e.on) → S i := by
  induction ha with
  | edge ho he hb hi => intro hj; subst hi; exact hj _ ho _ he hb
  | step h' ho he hb hk ih =>
    intro hj
    subst hk
    have hs := hj _ ho _ he hb
    exact ih (fun o ho' e he' hb' => h _ o hs ho' e he' hb')
theorem Closed.of_mem {ops : Array Oper} {S : Nat → Prop} (h : Closed ops S) {i j : Nat} (ha : Anc ops i j) (hj : S j) : S i := h.anc ha (fun o ho e he hb => h j o hj ho e he hb)
end Go.Proofs.YtllkdoefonehoaaGreatDoor.Abs

/- Rows of the call's own whose elements have several cells. No condition. -/
import Derived.Test.YtcgkadfgojmmlaaDoorA24
set_option linter.unusedVariables false
set_option linter.unusedSimpArgs false
namespace Go.Proofs.YtcgkadfgojmmlaaDoor.Abs
open Go Go.RowKit
def All (e : Nat) (L : List (List AV)) : Prop := ∀ l ∈ L, l.length = e
theorem All.nil (e : Nat) : All e [] := by intro l h; simp at h
theorem All.cons {e : Nat} {x : List AV} {L : List (List AV)} (h : x.length = e) (hL : All e L) : All e (x :: L) := fun l hl => by
  rcases List.mem_cons.1 hl with rfl | hl
  · exact h
  · exact hL l hl
theorem All.append {e : Nat} {L M : List (List AV)} (h : All e L) (h' : All e M) : All e (L ++ M) := fun l hl => by
  rcases List.mem_append.1 hl with hl | hl
  · exact h l hl
  · exact h' l hl
theorem All.tail {e : Nat} {x : List AV} {L : List (List AV)} (h : All e (x :: L)) : All e L := fun l hl => h l (List.mem_cons_of_mem _ hl)
theorem All.snoc {e : Nat} {x : List AV} {L : List (List AV)} (h : x.length = e) (hL : All e L) : All e (L ++ [x]) := hL.append (.cons h (.nil e))
theorem All.set {e : Nat} {x : List AV} {L : List (List AV)} (h : x.length = e) (hL : All e L) (k : Nat) : All e (L.set k x) := fun l hl => by
  rcases List.mem_or_eq_of_mem_set hl with hl | rfl
  · exact hL l hl
  · exact h
theorem All.take {e : Nat} {L : List (List AV)} (hL : All e L) (k : Nat) : All e (L.take k) := fun l hl => hL l (List.mem_of_mem_take hl)
theorem All.drop {e : Nat} {L : List (List AV)} (hL : All e L) (k : Nat) : All e (L.drop k) := fun l hl => hL l (List.mem_of_mem_drop hl)
theorem All.at {e : Nat} {L : List (List AV)} (hL : All e L) {k : Nat} (hk : k < L.length) : L[k].length = e := hL _ (List.getElem_mem hk)
theorem flat_len {e : Nat} : ∀ {L : List (List AV)}, All e L → L.flatten.length = L.length * e
  | [], _ => by simp
  | l :: L, h => by
    have := flat_len h.tail
    rw [List.flatten_cons, List.length_append, this, h l (List.mem_cons_self ..), List.length_cons, Nat.add_mul]
    omega
theorem flat_part {e : Nat} : ∀ {L : List (List AV)} {k : Nat}, All e L → (hk : k < L.length) → (L.flatten.drop (k * e)).take e = L[k]
  | l :: L, 0, h, hk => by
    have := h l (List.mem_cons_self ..)
    rw [List.flatten_cons, Nat.zero_mul, List.drop_zero, List.take_append_of_le_length (by omega), List.take_of_length_le (by omega)]
    rfl
  | l :: L, k + 1, h, hk => by
    have e1 := h l (List.mem_cons_self ..)
    have := flat_part (k := k) h.tail (by simpa using hk)
    rw [List.flatten_cons, show (k + 1) * e = l.length + k * e by rw [Nat.add_mul]; omega, List.drop_append, List.drop_of_length_le (by omega), List.nil_append, Nat.add_sub_cancel_left, this]
    rfl
theorem mul_lt_len {k n e : Nat} (h : k < n) : k * e + e ≤ n * e := by
  have := Nat.mul_le_mul_right e (Nat.succ_le_of_lt h)
  rw [Nat.succ_mul] at this
  exact this
theorem flat_at {e : Nat} {L : List (List AV)} {k q : Nat} (hL : All e L) (hk : k < L.length) (hq : q < e) : L.flatten[k * e + q]? = L[k][q]? := by
  have := Abs.flat_part hL hk
  have h2 : ((L.flatten.drop (k * e)).take e)[q]? = L[k][q]? := by rw [this]
  rw [← h2, List.getElem?_take, if_pos hq, List.getElem?_drop]
theorem setRange_app (x : List AV) : ∀ (a l : List AV), x.length ≤ l.length → setRange (a ++ l) a.length x = a ++ (x ++ l.drop x.length) := by
  induction x with
  | nil => intro a l h; simp [setRange]
  | cons v x ih =>
    intro a l h
    cases l with
    | nil => simp at h
    | cons y l =>
      have := ih (a ++ [v]) l (by simpa using h)
      rw [setRange, List.set_append_right _ _ (Nat.le_refl _)]
      simp at this ⊢
      exact this
theorem flat_set {e : Nat} {x : List AV} (hx : x.length = e) : ∀ {L : List (List AV)} {k : Nat}, All e L → k < L.length → setRange L.flatten (k * e) x = (L.set k x).flatten := by
  intro L k hL hk
  have h1 : L.flatten = (L.take k).flatten ++ (L.drop k).flatten := by rw [← List.flatten_append, List.take_append_drop]
  have h2 : (L.take k).flatten.length = k * e := by rw [flat_len (hL.take k)]; congr 1; simp; omega
  rw [h1, ← h2, setRange_app]
  · rw [List.drop_eq_getElem_cons hk, List.flatten_cons, List.drop_append_of_le_length (by rw [hL.at hk]; omega), List.drop_of_length_le (by rw [hL.at hk]; omega), List.set_eq_take_append_cons_drop, if_pos hk]
    simp
  · rw [flat_len (hL.drop k), List.length_drop, hx]
    calc e = 1 * e := by omega
      _ ≤ _ := Nat.mul_le_mul_right e (by omega)
theorem flat_mem {L : List (List AV)} (h : ∀ l ∈ L, ∀ x ∈ l, AV.one x = true) : L.flatten.all AV.one = true := by
  rw [List.all_eq_true]
  intro x hx
  obtain ⟨l, hl, hx⟩ := List.mem_flatten.1 hx
  exact h l hl x hx
theorem load_flat {H : AH} {q e k : Nat} {t : TypeId} {ro : Bool} {L : List (List AV)} (h : H.at_ q = some (.cells ro t L.flatten)) (hL : All e L) (hk : k < L.length) : loadC H q (k * e) (some e) = some (.agg L[k]) := by
  unfold loadC
  rw [h]
  simp only
  rw [if_pos (by rw [flat_len hL]; exact mul_lt_len hk), flat_part hL hk]
theorem load_flat1 {H : AH} {q e k i : Nat} {t : TypeId} {ro : Bool} {L : List (List AV)} (h : H.at_ q = some (.cells ro t L.flatten)) (hL : All e L) (hk : k < L.length) (hi : i < e) : loadC H q (k * e + i) none = L[k][i]? := by
  unfold loadC
  rw [h]
  exact flat_at hL hk hi
theorem store_flat {H : AH} {q e k : Nat} {t : TypeId} {L : List (List AV)} {x : List AV} (h : H.at_ q = some (.cells false t L.flatten)) (hL : All e L) (hk : k < L.length) (hx : x.length = e) (h1 : x.all AV.one = true) :
    storeC H q (k * e) x = some (H.set q (some (.cells false t (L.set k x).flatten))) := by
  unfold storeC
  rw [h]
  simp only
  rw [if_pos ⟨by rw [flat_len hL, hx]; exact mul_lt_len hk, h1⟩, flat_set hx hL hk]
/-- A slice of the call's own whose elements have sz cells. -/
def OutF (B : Nat) (H : AH) (t : TypeId) (sz : Nat) (v : AV) (L : List (List AV)) : Prop :=
  L = [] ∧ v = .snil ∨ ∃ q, v = .slice q 0 L.length sz ∧ L ≠ [] ∧ H.at_ q = some (.cells false t L.flatten) ∧ B ≤ q ∧ q < H.next
theorem OutF.sf {B : Nat} {H : AH} {t : TypeId} {sz : Nat} {v : AV} {L : List (List AV)} (h : OutF B H t sz v L) (hL : All sz L) : SF H v sz L := by
  rcases h with ⟨rfl, rfl⟩ | ⟨q, rfl, h1, h2, _⟩
  · exact .inl ⟨rfl, .inl rfl⟩
  · refine .inr ⟨q, 0, rfl, h1, fun i hi => ⟨hL.at hi, fun k hk => ?_⟩⟩
    rw [Nat.zero_add]
    exact load_flat1 h2 hL hi hk
theorem OutF.keeps {B : Nat} {H H1 : AH} {t : TypeId} {sz : Nat} {v : AV} {L : List (List AV)} (h : OutF B H t sz v L) (hk : H.keepsAll H1) (hn : H.next ≤ H1.next) : OutF B H1 t sz v L := by
  rcases h with h | ⟨q, h0, h1, h2, h3, h4⟩
  · exact .inl h
  · exact .inr ⟨q, h0, h1, hk _ _ h2, h3, by omega⟩
theorem OutF.same {B : Nat} {H H1 : AH} {t : TypeId} {sz : Nat} {v : AV} {L : List (List AV)} (h : OutF B H t sz v L) (hn : H.next ≤ H1.next) (hs : ∀ q, q < H.next → H1.at_ q = H.at_ q) : OutF B H1 t sz v L := by
  rcases h with h | ⟨q, h0, h1, h2, h3, h4⟩
  · exact .inl h
  · exact .inr ⟨q, h0, h1, by rw [hs q h4]; exact h2, h3, by omega⟩
theorem OutF.lenS {B : Nat} {H : AH} {t : TypeId} {sz : Nat} {v : AV} {L : List (List AV)} (h : OutF B H t sz v L) : lenS v = some L.length := by
  rcases h with ⟨rfl, rfl⟩ | ⟨q, rfl, _⟩ <;> rfl
/-- One more behind a row of the call's own. -/
theorem appendOutF {B : Nat} {H : AH} {t : TypeId} {sz bytes : Nat} {v : AV} {x : List AV} {L : List (List AV)} (h : OutF B H t sz v L) (hL : All sz L) (hsz : 0 < sz) (hB : B ≤ H.next) (hxl : x.length = sz) (hx : x.all AV.one = true)
    (hb : (L.length + 1) * bytes ≤ 70368744177664) (hl : L.length + 1 ≤ 70368744177664) :
    ∃ v' H', appendK (H.new (.cells false t x)) false t sz bytes v (.slice H.next 0 1 sz) = some (v', H') ∧ OutF B H' t sz v' (L ++ [x]) ∧ H'.next = H.next + 2 ∧ KBel B H H' := by
  have hsrc : loadC (H.new (.cells false t x)) H.next 0 (some (1 * sz)) = some (.agg x) := by
    unfold loadC
    simp [hxl, List.take_of_length_le (Nat.le_of_eq hxl)]
  have hs2 : srcCells (H.new (.cells false t x)) sz 1 (.slice H.next 0 1 sz) = some x := by
    simp only [srcCells, hsrc]
  rcases h with ⟨rfl, rfl⟩ | ⟨q, rfl, h1, h2, h3, h4⟩
  · refine ⟨.slice (H.next + 1) 0 1 sz, (H.new (.cells false t x)).new (.cells false t x), ?_, .inr ⟨H.next + 1, by simp, by simp, by simp, by omega, by simp⟩, by simp, ((KBel.refl B H).new hB).new (by simp; omega)⟩
    simp at hb
    simp only [appendK, isStrV, if_true, appendA, lenA, Option.bind_some, if_neg (show ¬ (1 = 0) by omega), hs2, hx]
    rw [if_pos (by omega)]
    simp
  · have e1 : ¬ (q = H.next) := by omega
    refine ⟨.slice (H.next + 1) 0 (L.length + 1) sz, ((H.new (.cells false t x)).set q none).new (.cells false t (L ++ [x]).flatten), ?_, .inr ⟨H.next + 1, by simp, by simp, by simp, by omega, by simp⟩, by simp, (((KBel.refl B H).new hB).set h3).new (by simp; omega)⟩
    have h2' : (H.new (.cells false t x)).at_ q = some (.cells false t L.flatten) := by rw [AH.new_ne _ _ e1]; exact h2
    simp only [appendK, isStrV, if_true, appendA, lenA, Option.bind_some, if_neg (show ¬ (1 = 0) by omega), hs2, hx, h2']
    rw [if_pos ⟨trivial, trivial, trivial, flat_len hL, hb, hl⟩]
    simp
/-- .. and what becomes of the others. -/
theorem appendOutG {B : Nat} {H : AH} {t : TypeId} {sz bytes : Nat} {v : AV} {x : List AV} {L : List (List AV)} (h : OutF B H t sz v L) (hL : All sz L) (hsz : 0 < sz) (hB : B ≤ H.next) (hxl : x.length = sz) (hx : x.all AV.one = true)
    (hb : (L.length + 1) * bytes ≤ 70368744177664) (hl : L.length + 1 ≤ 70368744177664) :
    ∃ v' H', appendK (H.new (.cells false t x)) false t sz bytes v (.slice H.next 0 1 sz) = some (v', H') ∧ OutF B H' t sz v' (L ++ [x]) ∧ H'.next = H.next + 2 ∧ KBel B H H' ∧ (∀ y o, y < H.next → H.at_ y = some o → (∀ n, v ≠ .slice y 0 n sz) → H'.at_ y = some o) ∧
      v' = .slice (H.next + 1) 0 (L.length + 1) sz := by
  obtain ⟨v', H', a1, o1, n1, k1⟩ := appendOutF (bytes := bytes) h hL hsz hB hxl hx hb hl
  have hsrc : loadC (H.new (.cells false t x)) H.next 0 (some (1 * sz)) = some (.agg x) := by
    unfold loadC
    simp [hxl, List.take_of_length_le (Nat.le_of_eq hxl)]
  have hs2 : srcCells (H.new (.cells false t x)) sz 1 (.slice H.next 0 1 sz) = some x := by
    simp only [srcCells, hsrc]
  refine ⟨v', H', a1, o1, n1, k1, ?_⟩
  rcases h with ⟨rfl, rfl⟩ | ⟨q, rfl, h1, h2, h3, h4⟩
  · simp at hb
    simp only [appendK, isStrV, if_true, appendA, lenA, Option.bind_some, if_neg (show ¬ (1 = 0) by omega), hs2, hx] at a1
    rw [if_pos (by omega)] at a1
    injection a1 with a1
    injection a1 with a2 a3
    subst a2 a3
    refine ⟨fun y o hy ho _ => ?_, by simp⟩
    rw [AH.new_ne _ _ (by simp; omega), AH.new_ne _ _ (by omega)]
    exact ho
  · have e1 : ¬ (q = H.next) := by omega
    have h2' : (H.new (.cells false t x)).at_ q = some (.cells false t L.flatten) := by rw [AH.new_ne _ _ e1]; exact h2
    simp only [appendK, isStrV, if_true, appendA, lenA, Option.bind_some, if_neg (show ¬ (1 = 0) by omega), hs2, hx, h2'] at a1
    rw [if_pos ⟨trivial, trivial, trivial, flat_len hL, hb, hl⟩] at a1
    injection a1 with a1
    injection a1 with a2 a3
    subst a2 a3
    refine ⟨fun y o hy ho hne => ?_, by simp⟩
    have hyq : ¬ y = q := fun e => hne L.length (by rw [e])
    rw [AH.new_ne _ _ (by simp; omega), AH.set_ne _ _ hyq, AH.new_ne _ _ (by omega)]
    exact ho
theorem CallW.okof {P : Program} {f : FuncId} {args : List AV} {H : AH} {Q Q' : AV → AH → Prop} {m : MarkQ H Q'} (h : ACall P f args H Q) (hq : ∀ v H', Q v H' → H'.ok → Q' v H') : CallW P f args H Q' m :=
  ⟨h.1, fun j w cargs hr hv => (h.2 j w cargs hr hv).mono fun e w' ⟨v, vc, j', H', he, q, hp, hvr⟩ => ⟨v, vc, j', H', he, hq v H' q hp.rel.ok, hp, hvr⟩⟩
end Go.Proofs.YtcgkadfgojmmlaaDoor.Abs

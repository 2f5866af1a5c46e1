/- An element put into a row of the call's own by three appends. No condition. -/
import Derived.Test.YtkehijlgbfjmkaaGreatDoorFRow
set_option linter.unusedVariables false
set_option linter.unusedSimpArgs false
namespace Go.Proofs.YtkehijlgbfjmkaaGreatDoor.Abs
open Go Go.RowKit
/-- A row of the call's own, empty or not. -/
def OwnZ (B : Nat) (H : AH) (t : TypeId) (sz : Nat) (v : AV) (L : List (List AV)) : Prop :=
  ∃ q, v = .slice q 0 L.length sz ∧ H.at_ q = some (.cells false t L.flatten) ∧ B ≤ q ∧ q < H.next
theorem load_rows {H : AH} {q sz a m : Nat} {t : TypeId} {ro : Bool} {L : List (List AV)} (h : H.at_ q = some (.cells ro t L.flatten)) (hL : All sz L) (hm : a + m ≤ L.length) :
    loadC H q (a * sz) (some (m * sz)) = some (.agg ((L.drop a).take m).flatten) := by
  have h1 : L = L.take a ++ ((L.drop a).take m ++ (L.drop a).drop m) := by rw [List.take_append_drop, List.take_append_drop]
  have l1 : (L.take a).flatten.length = a * sz := by rw [flat_len (hL.take a)]; congr 1; simp; omega
  have l2 : ((L.drop a).take m).flatten.length = m * sz := by rw [flat_len ((hL.drop a).take m)]; congr 1; simp; omega
  have h2 : L.flatten = (L.take a).flatten ++ (((L.drop a).take m).flatten ++ ((L.drop a).drop m).flatten) := by
    rw [← List.flatten_append, ← List.flatten_append, ← h1]
  have h3 : (L.flatten.drop (a * sz)).take (m * sz) = ((L.drop a).take m).flatten := by
    rw [h2, List.drop_append_of_le_length (by omega), List.drop_of_length_le (by omega), List.nil_append, List.take_append_of_le_length (by omega), List.take_of_length_le (by omega)]
  have h4 : a * sz + m * sz ≤ L.flatten.length := by
    rw [h2, List.length_append, List.length_append, l1, l2]; omega
  unfold loadC
  rw [h]
  simp only
  rw [if_pos h4, h3]
theorem appendZ {B : Nat} {H : AH} {t : TypeId} {sz bytes : Nat} {v x : AV} {L M : List (List AV)} (h : OwnZ B H t sz v L) (hL : All sz L) (hB : B ≤ H.next) (hx : lenA x = some M.length)
    (hs : M ≠ [] → srcCells H sz M.length x = some M.flatten) (hone : M.flatten.all AV.one = true) (hstr : isStrV x = false) (hb : (L.length + M.length) * bytes ≤ 70368744177664) (hl : L.length + M.length ≤ 70368744177664) :
    ∃ v' H', appendK H false t sz bytes v x = some (v', H') ∧ OwnZ B H' t sz v' (L ++ M) ∧ H.next ≤ H'.next ∧ (∀ y o, y < H.next → H.at_ y = some o → (∀ n, v ≠ .slice y 0 n sz) → H'.at_ y = some o) ∧ ((∃ n, v' = .slice H.next 0 n sz) ∨ v' = v) := by
  obtain ⟨q, rfl, h2, h3, h4⟩ := h
  by_cases hM : M = []
  · subst hM
    refine ⟨.slice q 0 L.length sz, H, ?_, ⟨q, by simp, by simpa using h2, h3, h4⟩, Nat.le_refl _, fun y o _ ho _ => ho, .inr rfl⟩
    simp only [appendK, hstr, if_true, appendA, hx, Option.bind_some, List.length_nil]
  · have hM0 : ¬ M.length = 0 := fun e => hM (List.eq_nil_of_length_eq_zero e)
    refine ⟨.slice H.next 0 (L.length + M.length) sz, (H.set q none).new (.cells false t (L ++ M).flatten), ?_, ⟨H.next, by simp, by simp, hB, by simp⟩, by simp, fun y o hy ho hne => ?_, .inl ⟨_, rfl⟩⟩
    · simp only [appendK, hstr, if_true, appendA, hx, Option.bind_some, if_neg hM0, hs hM, hone, h2]
      rw [if_pos ⟨trivial, trivial, trivial, flat_len hL, hb, hl⟩]
      simp
    · have hyq : ¬ y = q := fun e => hne L.length (by rw [e])
      rw [AH.new_ne _ _ (by simp; omega), AH.set_ne _ _ hyq]
      exact ho
/-- What a part of a row of one's own is. -/
def PartS (vo x : AV) (n a m sz : Nat) : Prop := (n = 0 ∧ vo = .snil ∧ x = .snil) ∨ (m = 0 ∧ x = .sempty) ∨ ∃ q, vo = .slice q 0 n sz ∧ x = .slice q (a * sz) m sz
theorem src_part {B : Nat} {H : AH} {t : TypeId} {sz : Nat} {vo x : AV} {M : List (List AV)} (h : OutF B H t sz vo M) (hM : All sz M) {a m : Nat} (hm : a + m ≤ M.length) (hx : PartS vo x M.length a m sz) :
    lenA x = some ((M.drop a).take m).length ∧ ((M.drop a).take m ≠ [] → srcCells H sz ((M.drop a).take m).length x = some ((M.drop a).take m).flatten) ∧ isStrV x = false := by
  have hl : ((M.drop a).take m).length = m := by simp; omega
  rw [hl]
  rcases hx with ⟨h0, _, rfl⟩ | ⟨rfl, rfl⟩ | ⟨q, rfl, rfl⟩
  · have hm0 : m = 0 := by omega
    subst hm0
    exact ⟨rfl, fun h => absurd (by simp) h, rfl⟩
  · exact ⟨rfl, fun h => absurd (by simp) h, rfl⟩
  · rcases h with ⟨_, e⟩ | ⟨q', e, _, h2, _, _⟩
    · cases e
    · have e1 : q = q' := by injection e
      subst e1
      refine ⟨rfl, fun _ => ?_, rfl⟩
      simp only [srcCells, load_rows h2 hM hm]
theorem slc_take {B : Nat} {H : AH} {t : TypeId} {sz : Nat} {vo : AV} {M : List (List AV)} (h : OutF B H t sz vo M) {k : Nat} (hk : k ≤ M.length) : ∃ x, slcA sz none (some (k : Int)) none vo = some x ∧ PartS vo x M.length 0 k sz := by
  rcases h with ⟨rfl, rfl⟩ | ⟨q, rfl, _⟩
  · have : k = 0 := by simpa using hk
    subst this
    exact ⟨.snil, by simp [slcA, bounds], .inl ⟨rfl, rfl, rfl⟩⟩
  · by_cases h0 : k = 0
    · subst h0
      exact ⟨.sempty, by simp [slcA, bounds], .inr (.inl ⟨rfl, rfl⟩)⟩
    · refine ⟨.slice q (0 * sz) k sz, ?_, .inr (.inr ⟨q, rfl, rfl⟩)⟩
      have hkI : (k : Int) ≤ (M.length : Int) := by omega
      simp [slcA, bounds, hkI, hk, h0]
theorem slc_drop {B : Nat} {H : AH} {t : TypeId} {sz : Nat} {vo : AV} {M : List (List AV)} (h : OutF B H t sz vo M) {k : Nat} (hk : k ≤ M.length) : ∃ x, slcA sz (some (k : Int)) none none vo = some x ∧ PartS vo x M.length k (M.length - k) sz := by
  rcases h with ⟨rfl, rfl⟩ | ⟨q, rfl, _⟩
  · have : k = 0 := by simpa using hk
    subst this
    exact ⟨.snil, by simp [slcA, bounds], .inl ⟨rfl, rfl, rfl⟩⟩
  · have hkI : (k : Int) ≤ (M.length : Int) := by omega
    by_cases h0 : k = M.length
    · subst h0
      exact ⟨.sempty, by simp [slcA, bounds], .inr (.inl ⟨by simp, rfl⟩)⟩
    · refine ⟨.slice q (k * sz) (M.length - k) sz, ?_, .inr (.inr ⟨q, rfl, rfl⟩)⟩
      have h1 : ¬ M.length = k := fun e => h0 e.symm
      simp [slcA, bounds, hkI, hk, h1]
/-- The three appends. -/
theorem ins3 {B : Nat} {H : AH} {t : TypeId} {sz bytes : Nat} {vo : AV} {M : List (List AV)} {e : List AV} {k : Nat} (h : OutF B H t sz vo M) (hM : All sz M) (hone : M.flatten.all AV.one = true) (hk : k ≤ M.length) (hB : B ≤ H.next) (hel : e.length = sz) (he1 : e.all AV.one = true)
    (hb : (M.length + 1) * bytes ≤ 70368744177664) (hl : M.length + 1 ≤ 70368744177664) :
    ∃ x0 x1 v1 H2 v2 H4 v3 H5, slcA sz none (some (k : Int)) none vo = some x0 ∧ slcA sz (some (k : Int)) none none vo = some x1 ∧ appendK (H.new (.cells false t [])).bump false t sz bytes (.slice H.next 0 0 sz) x0 = some (v1, H2) ∧
      (∀ y o, y < H.next → H.at_ y = some o → H2.at_ y = some o) ∧ appendK (H2.set (H.next + 1) (some (.cells false t e))) false t sz bytes v1 (.slice (H.next + 1) 0 1 sz) = some (v2, H4) ∧
      appendK H4 false t sz bytes v2 x1 = some (v3, H5) ∧ OutF B H5 t sz v3 (M.take k ++ e :: M.drop k) ∧ H.next ≤ H5.next ∧ KBel B H H5 := by
  obtain ⟨x0, s0, p0⟩ := slc_take h hk
  obtain ⟨x1, s1, p1⟩ := slc_drop h hk
  have hones : ∀ N : List (List AV), (∀ l ∈ N, l ∈ M) → N.flatten.all AV.one = true := fun N hN => by
    refine flat_mem fun l hl x hx => ?_
    exact List.all_eq_true.1 hone x (List.mem_flatten.2 ⟨l, hN l hl, hx⟩)
  have hlt : (M.take k).length = k := by simp; omega
  have hld : (M.drop k).length = M.length - k := by simp
  have hbk : ∀ n, n ≤ M.length + 1 → n * bytes ≤ 70368744177664 := fun n hn => Nat.le_trans (Nat.mul_le_mul_right _ hn) hb
  -- the first
  have hHa : OutF B (H.new (.cells false t [])).bump t sz vo M := h.same (by show H.next ≤ H.next + 1 + 1; omega) fun q hq => by
    show (H.new _).at_ q = _
    rw [AH.new_ne _ _ (by omega)]
  have hz0 : OwnZ B (H.new (.cells false t [])).bump t sz (.slice H.next 0 0 sz) [] := ⟨H.next, rfl, by show (H.new _).at_ _ = _; rw [AH.new_same]; rfl, hB, by show H.next < H.next + 1 + 1; omega⟩
  obtain ⟨c1, c2, c3⟩ := src_part hHa hM (a := 0) (m := k) (by omega) p0
  rw [List.drop_zero] at c1 c2
  obtain ⟨v1, H2, a1, o1, n1, f1, w1⟩ := appendZ (bytes := bytes) hz0 (All.nil _) (by show B ≤ H.next + 1 + 1; omega) c1 c2 (hones _ fun l hl => List.mem_of_mem_take hl) c3 (hbk _ (by rw [hlt]; simp; omega)) (by rw [hlt]; simp; omega)
  have hkeep1 : ∀ y o, y < H.next → H.at_ y = some o → H2.at_ y = some o := fun y o hy ho => f1 y o (by show y < H.next + 1 + 1; omega) (by show (H.new _).at_ y = _; rw [AH.new_ne _ _ (by omega)]; exact ho) (fun n e => by injection e with e; omega)
  have hn1 : H.next + 2 ≤ H2.next := n1
  -- the second
  have hq1 : ∃ q, v1 = .slice q 0 (M.take k).length sz ∧ q ≠ H.next + 1 ∧ H.next ≤ q := by
    obtain ⟨q, e0, _⟩ := o1
    rw [List.nil_append] at e0
    have hq : q = H.next + 2 ∨ q = H.next := by
      rcases w1 with ⟨n, hw⟩ | hw
      · rw [hw] at e0; injection e0 with e0; exact .inl e0.symm
      · rw [hw] at e0; injection e0 with e0; exact .inr e0.symm
    exact ⟨q, e0, by omega, by omega⟩
  obtain ⟨q1, hv1, hq1n, hq1g⟩ := hq1
  have hz1 : OwnZ B (H2.set (H.next + 1) (some (.cells false t e))) t sz v1 (M.take k) := by
    obtain ⟨q, e0, e1, e2, e3⟩ := o1
    rw [List.nil_append] at e0 e1
    have : q = q1 := by rw [hv1] at e0; injection e0 with e0; exact e0.symm
    subst this
    exact ⟨q, e0, by rw [AH.set_ne _ _ hq1n]; exact e1, e2, e3⟩
  have hsr : loadC (H2.set (H.next + 1) (some (.cells false t e))) (H.next + 1) 0 (some (1 * sz)) = some (.agg e) := by
    unfold loadC
    rw [AH.set_same]
    simp only
    rw [if_pos (by omega), List.drop_zero, List.take_of_length_le (by omega)]
  obtain ⟨v2, H4, a2, o2, n2, f2, w2⟩ := appendZ (bytes := bytes) (x := .slice (H.next + 1) 0 1 sz) (M := [e]) hz1 (hM.take k) (by rw [AH.set_next]; omega) rfl (fun _ => by simp only [srcCells, List.length_cons, List.length_nil, hsr]; simp) (by simpa using he1) rfl (hbk _ (by rw [hlt]; simp; omega)) (by rw [hlt]; simp; omega)
  have hn2 : H2.next ≤ H4.next := by simpa using n2
  have hkeep2 : ∀ y o, y < H.next → H.at_ y = some o → H4.at_ y = some o := fun y o hy ho => f2 y o (by rw [AH.set_next]; omega) (by rw [AH.set_ne _ _ (by omega)]; exact hkeep1 y o hy ho) (fun n e0 => by rw [hv1] at e0; injection e0 with e0; omega)
  -- the third
  have hH4 : OutF B H4 t sz vo M := by
    rcases h with h | ⟨q, e0, e1, e2, e3, e4⟩
    · exact .inl h
    · exact .inr ⟨q, e0, e1, hkeep2 q _ e4 e2, e3, by omega⟩
  obtain ⟨d1, d2, d3⟩ := src_part hH4 hM (a := k) (m := M.length - k) (by omega) p1
  rw [List.take_of_length_le (by omega)] at d1 d2
  have hq2 : ∃ q n, v2 = .slice q 0 n sz ∧ H.next ≤ q := by
    rcases w2 with ⟨n, rfl⟩ | rfl
    · exact ⟨_, n, rfl, by rw [AH.set_next]; omega⟩
    · exact ⟨q1, _, hv1, hq1g⟩
  obtain ⟨q2, n2', hv2, hq2g⟩ := hq2
  obtain ⟨v3, H5, a3, o3, n3, f3, w3⟩ := appendZ (bytes := bytes) o2 ((hM.take k).snoc hel) (by omega) d1 d2 (hones _ fun l hl => List.mem_of_mem_drop hl) d3 (hbk _ (by rw [List.length_append, hlt, hld]; simp; omega)) (by rw [List.length_append, hlt, hld]; simp; omega)
  refine ⟨x0, x1, v1, H2, v2, H4, v3, H5, s0, s1, a1, hkeep1, a2, a3, ?_, by omega, fun y o hy ho => f3 y o (by omega) (hkeep2 y o (by omega) ho) (fun n e0 => by rw [hv2] at e0; injection e0 with e0; omega)⟩
  obtain ⟨q, e0, e1, e2, e3⟩ := o3
  have ee : M.take k ++ [e] ++ M.drop k = M.take k ++ e :: M.drop k := by simp
  rw [ee] at e0 e1
  exact .inr ⟨q, e0, by simp, e1, e2, e3⟩
end Go.Proofs.YtkehijlgbfjmkaaGreatDoor.Abs

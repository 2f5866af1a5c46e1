/- VersionDots, the plain part: rows of numbers stand as their first unlike numbers do. -/
import Derived.Test.YtndpokjakogpnaaDoorVaux
import Derived.Test.YtndpokjakogpnaaDoorVx7
set_option linter.unusedVariables false
set_option linter.unusedSimpArgs false
namespace Go.Proofs.YtndpokjakogpnaaDoor.Pure
open Go.RowKit (wrap64)
open Go Go.Proofs.YtndpokjakogpnaaDoorW.PrintWords Go.Proofs.YtndpokjakogpnaaDoorW.PrintLast Go.Proofs.YtndpokjakogpnaaDoor.V Go.Proofs.YtndpokjakogpnaaDoor.Vm Go.Proofs.YtndpokjakogpnaaDoor.Dg Go.Proofs.YtndpokjakogpnaaDoor.Vev Go.Proofs.YtndpokjakogpnaaDoor.RNum Go.Proofs.YtndpokjakogpnaaDoor.Vaux

def msk (x : Int) : Nat := (bits .and .i64 x 4095).toNat
theorem msk_eq (x : Int) : bits .and .i64 x 4095 = (msk x : Int) ∧ msk x < 4096 := by
  obtain ⟨m, h1, h2⟩ := mask_small 12 (by omega) x
  have h1' : bits .and .i64 x 4095 = (m : Int) := h1
  unfold msk
  rw [h1', Int.toNat_natCast]
  exact ⟨rfl, h2⟩
def nums10 (l : List Int) : List Nat := (l.take 10).map msk
theorem nums10_len (l : List Int) : (nums10 l).length = min l.length 10 := by simp [nums10, Nat.min_comm]
theorem mn_len (l : List Int) : mn (l.length : Int) 10 = ((nums10 l).length : Int) := by
  rw [nums10_len]
  unfold mn
  split <;> omega
theorem rd_msk (l : List Int) (i : Nat) (h : i < (nums10 l).length) : bits .and .i64 (rd l (i : Int)) 4095 = ((nums10 l)[i] : Int) := by
  have hl := nums10_len l
  have hi : i < l.length := by omega
  unfold rd
  rw [Int.toNat_natCast, List.getD_eq_getElem?_getD, List.getElem?_eq_getElem hi, Option.getD_some, (msk_eq _).1]
  simp [nums10]
theorem small10 (l : List Int) : ∀ n ∈ nums10 l, n < 4096 := by
  intro n hn
  obtain ⟨x, _, rfl⟩ := List.mem_map.1 hn
  exact (msk_eq x).2
theorem dots_snoc (l : List Nat) (i : Nat) (h : i < l.length) : dots (l.take (i + 1)) = dots (l.take i) ++ [46] ++ num l[i] := by
  unfold dots
  rw [List.take_succ_eq_append_getElem h, List.flatMap_append]
  simp
theorem num_short (n : Nat) (h : n < 4096) : (num n).length ≤ 4 := num_len n 3 (by omega)
theorem cmpL_anti (x : List Nat) : ∀ y, cmpL y x = -cmpL x y := by
  intro y
  rw [← cmpT_rows, ← cmpT_rows]
  exact cmpT_ord.anti _ _

variable {l0 l1 : List Int} {p q : List UInt8}
/-- The end: what the law asks of the two texts. -/
theorem dots_j6 (w : Int) (hw : w = -1 ∨ w = 0 ∨ w = 1) (hp : p.length ≤ 1000) (hq : q.length ≤ 1000) (h1 : cmpT (toks p) (toks q) = w) :
    Ev (fun k => credenzalaw15_VersionDots.j6 k (st p) (st q) w false) true := by
  have h2 : cmpT (toks q) (toks p) = -w := by rw [← h1]; exact cmpT_ord.anti _ _
  refine Ev.step (fun k => by simp only [credenzalaw15_VersionDots.j6]; rw [if_neg (by simp)]) ?_
  refine Ev.bind (compare_st p q (by omega) (by omega)) ?_
  refine Ev.congr (fun k => by rw [if_pos h1]) ?_
  refine Ev.bind (compare_st q p (by omega) (by omega)) ?_
  exact Ev.congr (fun k => by rw [if_pos (by rw [h2]; unfold wrap64; omega)]) (Ev.bind awake_ev (Ev.now _))
theorem dots_j6t (hp : p.length ≤ 1000) (hq : q.length ≤ 1000) (h1 : cmpT (toks p) (toks q) = 1) (x : Int) :
    Ev (fun k => credenzalaw15_VersionDots.j6 k (st p) (st q) x true) true := by
  have h2 : cmpT (toks q) (toks p) = -1 := by rw [cmpT_ord.anti (toks p), h1]
  refine Ev.step (fun k => by simp only [credenzalaw15_VersionDots.j6]; rw [if_pos trivial]) ?_
  refine Ev.bind (compare_st p q (by omega) (by omega)) ?_
  refine Ev.congr (fun k => by rw [if_pos h1]) ?_
  refine Ev.bind (compare_st q p (by omega) (by omega)) ?_
  exact Ev.congr (fun k => by rw [if_pos h2]) (Ev.bind awake_ev (Ev.now _))
/-- Behind the first unlike numbers. -/
theorem dots_done (n m : Nat) (i : Nat) (w : Int) (hw : w = -1 ∨ w = 1) (hp : p.length ≤ 1000) (hq : q.length ≤ 1000) (h1 : cmpT (toks p) (toks q) = w) :
    Ev (fun k => credenzalaw15_VersionDots.l2 k l0 l1 (st p) (st q) (n : Int) (m : Int) w (i : Int)) true := by
  have hj3 : Ev (fun k => credenzalaw15_VersionDots.j3 k l0 l1 (st p) (st q) (n : Int) (m : Int) w (i : Int) false) true := by
    refine Ev.step (fun k => by simp only [credenzalaw15_VersionDots.j3]; rw [if_neg (by simp), if_neg (by omega)]) ?_
    refine Ev.step (fun k => by simp only [credenzalaw15_VersionDots.j4]; rw [if_neg (by simp)]) ?_
    refine Ev.step (fun k => by simp only [credenzalaw15_VersionDots.j5]; rw [if_neg (by omega)]) ?_
    exact dots_j6 w (by omega) hp hq h1
  have hz : (w == 0) = false := by simp; omega
  by_cases h : (i : Int) < (n : Int)
  · by_cases h' : (i : Int) < (m : Int)
    · exact Ev.step (fun k => by simp only [credenzalaw15_VersionDots.l2]; rw [if_pos h, if_pos h', hz]) hj3
    · exact Ev.step (fun k => by simp only [credenzalaw15_VersionDots.l2]; rw [if_pos h, if_neg h']) hj3
  · exact Ev.step (fun k => by simp only [credenzalaw15_VersionDots.l2]; rw [if_neg h]) hj3
theorem cmpL_at (A B : List Nat) (i : Nat) (ha : i < A.length) (hb : i < B.length) : cmpL (A.drop i) (B.drop i) = if A[i] = B[i] then cmpL (A.drop (i + 1)) (B.drop (i + 1)) else cmpI A[i] B[i] := by
  rw [List.drop_eq_getElem_cons ha, List.drop_eq_getElem_cons hb, cmpL]
theorem dots_l2 (hp : p.length ≤ 1000) (hq : q.length ≤ 1000) (hl0 : (nums10 l0).length ≤ l0.length) (hl1 : (nums10 l1).length ≤ l1.length) (m : Nat) : ∀ i : Nat, i + m = min (nums10 l0).length (nums10 l1).length → cmpT (toks p) (toks q) = cmpL ((nums10 l0).drop i) ((nums10 l1).drop i) →
    Ev (fun k => credenzalaw15_VersionDots.l2 k l0 l1 (st p) (st q) ((nums10 l0).length : Int) ((nums10 l1).length : Int) 0 (i : Int)) true := by
  have l10 := nums10_len l0
  have l11 := nums10_len l1
  induction m with
  | zero =>
    intro i hi hc
    have hj3 : Ev (fun k => credenzalaw15_VersionDots.j3 k l0 l1 (st p) (st q) ((nums10 l0).length : Int) ((nums10 l1).length : Int) 0 (i : Int) false) true := by
      refine Ev.step (fun k => by simp only [credenzalaw15_VersionDots.j3]; rw [if_neg (by simp), if_pos trivial]) ?_
      rcases Nat.lt_trichotomy (nums10 l0).length (nums10 l1).length with h | h | h
      · have e : cmpL ((nums10 l0).drop i) ((nums10 l1).drop i) = -1 := by
          rw [List.drop_eq_nil_of_le (by omega), List.drop_eq_getElem_cons (show i < (nums10 l1).length by omega)]; rfl
        refine Ev.congr (fun k => by rw [decide_eq_true (by omega)]) ?_
        refine Ev.step (fun k => by simp only [credenzalaw15_VersionDots.j4]; rw [if_pos trivial]) ?_
        refine Ev.step (fun k => by simp only [credenzalaw15_VersionDots.j5]; rw [if_neg (by omega)]) ?_
        exact dots_j6 (-1) (by omega) hp hq (by rw [hc, e])
      · have e : cmpL ((nums10 l0).drop i) ((nums10 l1).drop i) = 0 := by
          rw [List.drop_eq_nil_of_le (by omega), List.drop_eq_nil_of_le (by omega)]; rfl
        refine Ev.congr (fun k => by rw [decide_eq_false (by omega)]) ?_
        refine Ev.step (fun k => by simp only [credenzalaw15_VersionDots.j4]; rw [if_neg (by simp)]) ?_
        refine Ev.step (fun k => by simp only [credenzalaw15_VersionDots.j5]; rw [if_pos trivial, decide_eq_false (by omega)]) ?_
        exact dots_j6 0 (by omega) hp hq (by rw [hc, e])
      · have e : cmpL ((nums10 l0).drop i) ((nums10 l1).drop i) = 1 := by
          rw [show (nums10 l1).drop i = [] from List.drop_eq_nil_of_le (by omega), List.drop_eq_getElem_cons (show i < (nums10 l0).length by omega)]; rfl
        refine Ev.congr (fun k => by rw [decide_eq_false (by omega)]) ?_
        refine Ev.step (fun k => by simp only [credenzalaw15_VersionDots.j4]; rw [if_neg (by simp)]) ?_
        refine Ev.step (fun k => by simp only [credenzalaw15_VersionDots.j5]; rw [if_pos trivial, decide_eq_true (by omega)]) ?_
        exact dots_j6t hp hq (by rw [hc, e]) 0
    by_cases h : (i : Int) < ((nums10 l0).length : Int)
    · exact Ev.step (fun k => by simp only [credenzalaw15_VersionDots.l2]; rw [if_pos h, if_neg (by omega)]) hj3
    · exact Ev.step (fun k => by simp only [credenzalaw15_VersionDots.l2]; rw [if_neg h]) hj3
  | succ m ih =>
    intro i hi hc
    have h0 : i < (nums10 l0).length := by omega
    have h1 : i < (nums10 l1).length := by omega
    have e0 := rd_msk l0 i h0
    have e1 := rd_msk l1 i h1
    rw [cmpL_at _ _ i h0 h1] at hc
    refine Ev.step (fun k => by simp only [credenzalaw15_VersionDots.l2]; rw [if_pos (by omega), if_pos (by omega)]) ?_
    refine Ev.step (fun k => by simp only [credenzalaw15_VersionDots.j3]; rw [if_pos (by simp), if_pos (by omega), if_pos (by omega), if_pos (by omega), e0, e1]) ?_
    by_cases hlt : (nums10 l0)[i] < (nums10 l1)[i]
    · have hcc : cmpT (toks p) (toks q) = -1 := by rw [hc, if_neg (by omega)]; unfold cmpI; rw [if_pos (by omega)]
      exact Ev.congr (fun k => by rw [if_pos (by omega), if_neg (by omega), wrap_nat (by omega)]) (dots_done _ _ (i + 1) (-1) (by omega) hp hq hcc)
    · by_cases hgt : (nums10 l1)[i] < (nums10 l0)[i]
      · have hcc : cmpT (toks p) (toks q) = 1 := by rw [hc, if_neg (by omega)]; unfold cmpI; rw [if_neg (by omega), if_pos (by omega)]
        exact Ev.congr (fun k => by rw [if_neg (by omega), if_pos (by omega), wrap_nat (by omega)]) (dots_done _ _ (i + 1) 1 (by omega) hp hq hcc)
      · rw [if_pos (by omega)] at hc
        exact Ev.congr (fun k => by rw [if_neg (by omega), if_neg (by omega), wrap_nat (by omega)]) (ih (i + 1) (by omega) hc)
theorem dots_l1 (hl0 : (nums10 l0).length ≤ l0.length) (hl1 : (nums10 l1).length ≤ l1.length) (hp : p = dots (nums10 l0)) (hpl : p.length ≤ 1000) (m : Nat) : ∀ j : Nat, j + m = (nums10 l1).length → ∀ x : List UInt8, x = dots ((nums10 l1).take j) → x.length ≤ 5 * j →
    Ev (fun k => credenzalaw15_VersionDots.l1 k l0 l1 (st p) (st x) ((nums10 l0).length : Int) ((nums10 l1).length : Int) (j : Int)) true := by
  have l11 := nums10_len l1
  induction m with
  | zero =>
    intro j hj x hx hxl
    have hj' : j = (nums10 l1).length := by omega
    subst hj'
    rw [List.take_of_length_le (Nat.le_refl _)] at hx
    refine Ev.step (fun k => by simp only [credenzalaw15_VersionDots.l1]; rw [if_neg (by omega)]) ?_
    refine dots_l2 hpl (by omega) hl0 hl1 (min (nums10 l0).length (nums10 l1).length) 0 (by omega) ?_
    rw [hp, hx, toks_dots, toks_dots, cmpT_rows, List.drop_zero, List.drop_zero]
  | succ m ih =>
    intro j hj x hx hxl
    have h1 : j < (nums10 l1).length := by omega
    have e1 := rd_msk l1 j h1
    have hs := num_short _ (small10 l1 _ (List.getElem_mem h1))
    have hn := small10 l1 _ (List.getElem_mem h1)
    refine Ev.step (fun k => by simp only [credenzalaw15_VersionDots.l1]; rw [if_pos (by omega), if_pos (by rw [st_size]; omega), if_pos (by omega), if_pos (by omega), e1]) ?_
    refine Ev.bind (num_ev _ (by omega)) ?_
    have e46 : (⟨#[46]⟩ : ByteArray) = st [46] := rfl
    refine Ev.congr (fun k => by rw [e46, st_app, show (⟨(num (nums10 l1)[j]).toArray⟩ : ByteArray) = st (num (nums10 l1)[j]) from rfl, st_app, st_size, st_size, if_pos (by simp; omega), wrap_nat (by omega)]) ?_
    exact ih (j + 1) (by omega) _ (by rw [dots_snoc _ _ h1, hx]) (by simp; omega)
theorem dots_l0 (hl0 : (nums10 l0).length ≤ l0.length) (hl1 : (nums10 l1).length ≤ l1.length) (m : Nat) : ∀ j : Nat, j + m = (nums10 l0).length → ∀ x : List UInt8, x = dots ((nums10 l0).take j) → x.length ≤ 5 * j →
    Ev (fun k => credenzalaw15_VersionDots.l0 k l0 l1 (st x) (st []) ((nums10 l0).length : Int) ((nums10 l1).length : Int) (j : Int)) true := by
  have l11 := nums10_len l0
  induction m with
  | zero =>
    intro j hj x hx hxl
    have hj' : j = (nums10 l0).length := by omega
    subst hj'
    rw [List.take_of_length_le (Nat.le_refl _)] at hx
    refine Ev.step (fun k => by simp only [credenzalaw15_VersionDots.l0]; rw [if_neg (by omega)]) ?_
    exact dots_l1 hl0 hl1 hx (by omega) (nums10 l1).length 0 (by omega) [] rfl (by simp)
  | succ m ih =>
    intro j hj x hx hxl
    have h1 : j < (nums10 l0).length := by omega
    have e1 := rd_msk l0 j h1
    have hs := num_short _ (small10 l0 _ (List.getElem_mem h1))
    have hn := small10 l0 _ (List.getElem_mem h1)
    refine Ev.step (fun k => by simp only [credenzalaw15_VersionDots.l0]; rw [if_pos (by omega), if_pos (by rw [st_size]; omega), if_pos (by omega), if_pos (by omega), e1]) ?_
    refine Ev.bind (num_ev _ (by omega)) ?_
    have e46 : (⟨#[46]⟩ : ByteArray) = st [46] := rfl
    refine Ev.congr (fun k => by rw [e46, st_app, show (⟨(num (nums10 l0)[j]).toArray⟩ : ByteArray) = st (num (nums10 l0)[j]) from rfl, st_app, st_size, st_size, if_pos (by simp; omega), wrap_nat (by omega)]) ?_
    exact ih (j + 1) (by omega) _ (by rw [dots_snoc _ _ h1, hx]) (by simp; omega)
theorem VersionDots : credenzalaw15_VersionDots.Pure := by
  intro l0 l1 _ _ _ _ _ _
  apply Ev.rounds
  have h0 := nums10_len l0
  have h1 := nums10_len l1
  unfold credenzalaw15_VersionDots.f
  rw [mn_len, mn_len]
  exact dots_l0 (by omega) (by omega) (nums10 l0).length 0 (by omega) [] rfl (by simp)
end Go.Proofs.YtndpokjakogpnaaDoor.Pure

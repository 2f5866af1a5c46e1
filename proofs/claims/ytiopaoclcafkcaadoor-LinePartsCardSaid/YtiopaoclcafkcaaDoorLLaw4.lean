/- LineParts. -/
import Derived.Test.YtiopaoclcafkcaaDoorLLaw1
import Derived.Test.YtiopaoclcafkcaaDoorSt
set_option linter.unusedVariables false
set_option linter.unusedSimpArgs false
set_option maxRecDepth 10000
set_option maxHeartbeats 4000000
namespace Go.Proofs.YtiopaoclcafkcaaDoor.LLaw4
open Go Go.RowKit Go.Proofs.YtiopaoclcafkcaaDoor Go.Proofs.YtiopaoclcafkcaaDoor.Abs Go.Proofs.YtiopaoclcafkcaaDoor.Ic Go.Proofs.YtiopaoclcafkcaaDoor.EAs Go.Proofs.YtiopaoclcafkcaaDoor.EErr Go.Proofs.YtiopaoclcafkcaaDoor.LPcs Go.Proofs.YtiopaoclcafkcaaDoor.LLib Go.Proofs.YtiopaoclcafkcaaDoor.LWords Go.Proofs.YtiopaoclcafkcaaDoor.LBuild Go.Proofs.YtiopaoclcafkcaaDoor.LRef Go.Proofs.YtiopaoclcafkcaaDoor.LLaw1
abbrev C : ICode := ic6
/-! ### Plain -/
theorem dec_blank (n : Nat) : (32 : UInt8) ∉ Lib.decDigits n := by
  induction n using Nat.strongRecOn with
  | _ n ih =>
    have hd : ∀ k < 10, (32 : UInt8) ≠ UInt8.ofNat (48 + k) := by decide
    by_cases h : n < 10
    · rw [CNum.dec_small h]
      simpa using hd n h
    · rw [CNum.dec_big h]
      simp only [List.mem_append, List.mem_singleton, not_or]
      exact ⟨ih (n / 10) (by omega), hd _ (by omega)⟩
theorem dec_ne (n : Nat) : Lib.decDigits n ≠ [] := by
  by_cases h : n < 10
  · rw [CNum.dec_small h]; simp
  · rw [CNum.dec_big h]; simp
theorem dec_len3 (n : Nat) (h : n < 100000) : (Lib.decDigits n).length ≤ 21 := CNum.dec_len n (by omega)
def wl (w : Nat) : List (List UInt8) := (List.range w).map fun i => 119 :: Lib.decDigits i
def oo (w : Nat) : List UInt8 := joinW [32] (wl w)
def eb : List UInt8 := [101, 46, 99, 111, 110, 102]
def xs (n A S : Nat) : List (List UInt8) := (List.range n).map fun i => extraB ++ (Lib.decDigits (16 * i + A) ++ ([58] ++ Lib.decDigits S))
def ats (n A : Nat) : List Int := 0 :: (List.range n).map fun i => ((16 * i + A : Nat) : Int)
def szs (n S : Nat) : List Int := 5 :: List.replicate n (S : Int)
def allW (w n A S : Nat) (t : Bool) : List (List UInt8) := wl w ++ ([entryB ++ eb] ++ (if t then [tryingB] else [])) ++ xs n A S
theorem wl_succ (w : Nat) : wl (w + 1) = wl w ++ [119 :: Lib.decDigits w] := by simp [wl, List.range_succ]
theorem ats_succ (n A : Nat) : ats (n + 1) A = ats n A ++ [((16 * n + A : Nat) : Int)] := by simp [ats, List.range_succ]
theorem szs_succ (n S : Nat) : szs (n + 1) S = szs n S ++ [(S : Int)] := by simp [szs, List.replicate_succ']
theorem xs_succ (n A S : Nat) : xs (n + 1) A S = xs n A S ++ [extraB ++ (Lib.decDigits (16 * n + A) ++ ([58] ++ Lib.decDigits S))] := by simp [xs, List.range_succ]
theorem exts_eq (n A S : Nat) : exts (ats n A) (szs n S) = xs n A S := by
  unfold exts ats szs xs
  simp only [List.zipWith_cons_cons, List.drop_succ_cons, List.drop_zero]
  apply List.ext_getElem
  · simp
  · intro i h1 h2
    simp only [List.getElem_zipWith, List.getElem_map, List.getElem_range, List.getElem_replicate]
    unfold ext
    rw [Lib.itoa_nonneg, Lib.itoa_nonneg]
theorem oo_ne {w : Nat} (h : w ≠ 0) : oo w ≠ [] := by
  unfold oo
  cases w with
  | zero => exact absurd rfl h
  | succ k =>
    intro e
    have h1 := congrArg List.length e
    have h2 := join_len [32] (wl (k + 1)) (by simp [wl, List.range_succ])
    have h3 : tot (wl (k + 1)) ≥ (119 :: Lib.decDigits k).length := by rw [wl_succ]; simp [tot]
    simp only [List.length_cons, List.length_nil] at h1 h2 h3
    have h4 : (wl (k + 1)).length = k + 1 := by simp [wl]
    omega
theorem oo_zero : oo 0 = [] := rfl
/-- A row of words that begins with a row put together. -/
theorem join_join : ∀ (a b : List (List UInt8)), a ≠ [] → b ≠ [] → joinW [32] (joinW [32] a :: b) = joinW [32] (a ++ b)
  | [], b, h, _ => absurd rfl h
  | [x], b, _, _ => rfl
  | x :: y :: a, b, _, hb => by
    have ih := join_join (y :: a) b (by simp) hb
    rw [joinW_cons [32] _ hb] at ih ⊢
    have e : joinW [32] (x :: y :: a ++ b) = x ++ ([32] ++ joinW [32] (y :: a ++ b)) := joinW_cons [32] x (by simp)
    rw [joinW_cons [32] x (l := y :: a) (by simp), e, ← ih]
    simp
theorem line_all (w n A S : Nat) (t : Bool) : lineOf (oo w) eb t (ats n A) (szs n S) = joinW [32] (allW w n A S t) := by
  unfold lineOf allL
  rw [exts_eq]
  unfold wordsL allW
  by_cases h : w = 0
  · subst h
    rw [oo_zero, if_pos rfl]
    simp [wl]
  · rw [if_neg (oo_ne h)]
    have hw : wl w ≠ [] := by cases w with | zero => exact absurd rfl h | succ k => simp [wl, List.range_succ]
    have := join_join (wl w) (([entryB ++ eb] ++ (if t then [tryingB] else [])) ++ xs n A S) hw (by simp)
    simp only [List.append_assoc, List.cons_append, List.nil_append] at this ⊢
    exact this
theorem all_words (w n A S : Nat) (t : Bool) : ∀ p ∈ allW w n A S t, p ≠ [] ∧ (32 : UInt8) ∉ p := fun p hp => by
  unfold allW wl xs at hp
  simp only [List.mem_append, List.mem_map, List.mem_range, List.mem_singleton] at hp
  rcases hp with (⟨i, _, rfl⟩ | rfl | hp) | ⟨i, _, rfl⟩
  · exact ⟨by simp, by have := dec_blank i; simp [this]⟩
  · exact ⟨by decide, by decide⟩
  · cases t
    · simp at hp
    · simp at hp
      subst hp
      exact ⟨by decide, by decide⟩
  · refine ⟨by simp [extraB], ?_⟩
    have h1 := dec_blank (16 * i + A)
    have h2 := dec_blank S
    simp [extraB, h1, h2]
theorem line_words (w n A S : Nat) (t : Bool) : wds 32 (joinW [32] (allW w n A S t)) = allW w n A S t := by
  unfold wds
  rw [pcs_join (by simp [allW]) fun p hp => (all_words w n A S t p hp).2, filter_idem fun p hp => (all_words w n A S t p hp).1]
def longX (n A S : Nat) : Nat := ((List.range n).map fun i => 8 + (Lib.decDigits (16 * i + A)).length + (Lib.decDigits S).length).sum
theorem longX_succ (n A S : Nat) : longX (n + 1) A S = longX n A S + (8 + (Lib.decDigits (16 * n + A)).length + (Lib.decDigits S).length) := by simp [longX, List.range_succ]
theorem xs_tot (n A S : Nat) : tot (xs n A S) + n = longX n A S := by
  induction n with
  | zero => rfl
  | succ n ih =>
    rw [xs_succ, longX_succ, ← ih, tot_append]
    simp [tot, extraB]
    omega
def baseL (w : Nat) (t : Bool) : Nat := (oo w).length + 12 + (if w = 0 then 0 else 1) + (if t then 7 else 0)
theorem line_len (w n A S : Nat) (t : Bool) : (joinW [32] (allW w n A S t)).length = baseL w t + longX n A S := by
  have h1 := join_len [32] (allW w n A S t) (by simp [allW])
  have h2 := xs_tot n A S
  have h3 : (allW w n A S t).length = w + 1 + (if t then 1 else 0) + n := by unfold allW wl xs; cases t <;> simp <;> omega
  have h4 : tot (allW w n A S t) = tot (wl w) + 12 + (if t then 6 else 0) + tot (xs n A S) := by
    unfold allW
    rw [tot_append, tot_append]
    cases t <;> simp [tot, entryB, eb, tryingB] <;> omega
  have h5 : (oo w).length + (if w = 0 then 0 else 1) = tot (wl w) + w := by
    by_cases h : w = 0
    · subst h; rfl
    · have := join_len [32] (wl w) (by cases w with | zero => exact absurd rfl h | succ k => simp [wl, List.range_succ])
      rw [if_neg h]
      have h6 : (wl w).length = w := by simp [wl]
      rw [show ([32] : List UInt8).length = 1 from rfl, Nat.one_mul, h6] at this
      exact this
  rw [show ([32] : List UInt8).length = 1 from rfl, Nat.one_mul, h3, h4] at h1
  unfold baseL
  cases t <;> simp at h1 ⊢ <;> omega
/-! ### The walk -/
theorem append_one (H : AH) {t bytes q : Nat} {v : AV} {xs : List AV} (hq : H.at_ q = some (.cells false t xs)) (hqn : q < H.next) (hb : (xs.length + 1) * bytes ≤ 70368744177664) (hl : xs.length + 1 ≤ 70368744177664) (hv : v.one = true) :
    appendK (H.new (.cells false t [v])) false t 1 bytes (.slice q 0 xs.length 1) (.slice H.next 0 1 1) = some (.slice (H.next + 1) 0 (xs.length + 1) 1, ((H.new (.cells false t [v])).set q none).new (.cells false t (xs ++ [v]))) := by
  have h1 : ¬ (q = H.next) := by omega
  simp [appendK, appendA, isStrV, srcCells, hv, hb, hl, hq, h1]
theorem oo_len (w i : Nat) (hw : w ≤ 31) (hi : i ≤ w) : (oo i).length ≤ 2000 := by
  have h1 : tot (wl i) ≤ 22 * i := by
    induction i with
    | zero => simp [wl, tot]
    | succ i ih =>
      rw [wl_succ, tot_append]
      have := CNum.dec_len i (by omega)
      have := ih (by omega)
      simp only [tot, List.map_cons, List.map_nil, List.length_cons, List.sum_cons, List.sum_nil] at this ⊢
      omega
  by_cases h0 : wl i = []
  · unfold oo; rw [h0]; simp [joinW]
  · have := join_len [32] (wl i) h0
    rw [show ([32] : List UInt8).length = 1 from rfl, Nat.one_mul] at this
    have h3 : (wl i).length = i := by simp [wl]
    unfold oo
    omega
def Fx (w n : Nat) (t : Bool) (sz : Int) (tm : Tms) : Prop := tm 0 = .int .i64 (w : Int) ∧ tm 1 = .int .i64 (n : Int) ∧ tm 2 = .bool t ∧ tm 3 = .int .i64 sz
def P1 (w n : Nat) (t : Bool) (sz : Int) (H : AH) (k : Nat) (tm : Tms) (H' : AH) : Prop := H' = H ∧ ∃ i : Nat, k = w - i ∧ i ≤ w ∧ Fx w n t sz tm ∧ tm 9 = .str (oo i) ∧ tm 10 = .int .i64 (i : Int)
def S1 (w n : Nat) (t : Bool) (sz : Int) (H : AH) (tm : Tms) (H' : AH) : Prop := H' = H ∧ Fx w n t sz tm ∧ tm 9 = .str (oo w)
/-- The two rows, and what the line has come to. -/
def S2 (w n A S i : Nat) (t : Bool) (sz : Int) (H : AH) (tm : Tms) (H' : AH) : Prop := H.keepsAll H' ∧ H'.ok ∧ ∃ q1 q2 : Nat, q1 ≠ q2 ∧ H.next ≤ q1 ∧ H.next ≤ q2 ∧ q1 < H'.next ∧ q2 < H'.next ∧ H.next ≤ H'.next ∧ H'.at_ q1 = some (.cells false 3 ((ats i A).map (AV.int .i64))) ∧ H'.at_ q2 = some (.cells false 3 ((szs i S).map (AV.int .i64))) ∧
  Fx w n t sz tm ∧ tm 9 = .str (oo w) ∧ tm 11 = .slice q1 0 (i + 1) 1 ∧ tm 12 = .slice q2 0 (i + 1) 1 ∧ tm 13 = .int .i64 ((baseL w t + longX i A S : Nat) : Int)
def P2 (w n A S : Nat) (t : Bool) (sz : Int) (H : AH) (k : Nat) (tm : Tms) (H' : AH) : Prop := ∃ i : Nat, k = n - i ∧ i ≤ n ∧ S2 w n A S i t sz H tm H' ∧ tm 14 = .int .i64 (i : Int)
theorem PartA {w n : Nat} {t : Bool} {sz : Int} {H : AH} {tm : Tms} {Q : IPost} (hw : w ≤ 31) (hQ : ∀ tm' H', S1 w n t sz H tm' H' → Q .normal tm' H') (h : Fx w n t sz tm) (t9 : tm 9 = .str []) : IWP Tryd.prog (part_ [1, 1, 1, 0] C) Q tm H := by
  obtain ⟨t0, t1, t2, t3⟩ := h
  simp (disch := first | omega | (simp; done) | assumption) [wr64, wrU8, wrU64, Nat.add_assoc, -getElem?_pos, List.getElem?_cons_zero, List.getElem?_cons_succ, part_, C, ic6]
  refine iwp_loop (P1 w n t sz H) w ⟨rfl, 0, rfl, by omega, ⟨by simp [t0], by simp [t1], by simp [t2], by simp [t3]⟩, by simp [t9, oo, wl, joinW], by simp⟩ ?_
  clear t0 t1 t2 t3 t9
  rintro k tm1 H ⟨rfl, i, rfl, hi, ⟨t0, t1, t2, t3⟩, t9, t10⟩
  have hol := oo_len w i hw hi
  by_cases hlt : i < w
  · have hlt' : (i : Int) < (w : Int) := by omega
    have hdl := CNum.dec_len i (by omega)
    have hit := Lib.itoa_nonneg i
    have hsu : oo (i + 1) = if i = 0 then 119 :: Lib.decDigits i else oo i ++ ([32] ++ (119 :: Lib.decDigits i)) := by
      unfold oo
      rw [wl_succ]
      by_cases h0 : i = 0
      · subst h0; rfl
      · rw [if_neg h0, joinW_snoc _ _ _ (by cases i with | zero => exact absurd rfl h0 | succ k => simp [wl, List.range_succ])]
    by_cases h0 : 0 < i
    · have h0' : (0 : Int) < (i : Int) := by omega
      rw [if_neg (by omega)] at hsu
      simp (disch := first | omega | (simp; done) | assumption) [wr64, wrU8, wrU64, Nat.add_assoc, -getElem?_pos, List.getElem?_cons_zero, List.getElem?_cons_succ, t0, t1, t2, t3, t9, t10, hlt, hlt', h0, h0']
      refine Try.guard (by omega) ?_
      simp (disch := first | omega | (simp; done) | assumption) [wr64, wrU8, wrU64, Nat.add_assoc, -getElem?_pos, List.getElem?_cons_zero, List.getElem?_cons_succ, t0, t1, t2, t3, t9, t10]
      refine Try.guard (by omega) ?_
      simp (disch := first | omega | (simp; done) | assumption) [wr64, wrU8, wrU64, Nat.add_assoc, -getElem?_pos, List.getElem?_cons_zero, List.getElem?_cons_succ, t0, t1, t2, t3, t9, t10]
      refine CallW.val (CNum.Num (i : Int) (by omega) (by omega) _) ?_
      simp (disch := first | omega | (simp; done) | assumption) [wr64, wrU8, wrU64, Nat.add_assoc, -getElem?_pos, List.getElem?_cons_zero, List.getElem?_cons_succ, t0, t1, t2, t3, t9, t10, hit]
      refine Try.guard (by omega) ?_
      simp (disch := first | omega | (simp; done) | assumption) [wr64, wrU8, wrU64, Nat.add_assoc, -getElem?_pos, List.getElem?_cons_zero, List.getElem?_cons_succ, t0, t1, t2, t3, t9, t10]
      exact ⟨w - (i + 1), by omega, rfl, i + 1, rfl, by omega, ⟨by simp [t0], by simp [t1], by simp [t2], by simp [t3]⟩, by simp [hsu], by simp⟩
    · obtain rfl : i = 0 := by omega
      rw [if_pos rfl] at hsu
      have hit0 : Lib.itoa 0 = Lib.decDigits 0 := hit
      rw [oo_zero] at t9
      simp (disch := first | omega | (simp; done) | assumption) [wr64, wrU8, wrU64, Nat.add_assoc, -getElem?_pos, List.getElem?_cons_zero, List.getElem?_cons_succ, t0, t1, t2, t3, t9, t10, hlt, hlt']
      refine CallW.val (CNum.Num 0 (by omega) (by omega) _) ?_
      simp (disch := first | omega | (simp; done) | assumption) [wr64, wrU8, wrU64, Nat.add_assoc, -getElem?_pos, List.getElem?_cons_zero, List.getElem?_cons_succ, t0, t1, t2, t3, t9, t10, hit0]
      refine Try.guard (by omega) ?_
      simp (disch := first | omega | (simp; done) | assumption) [wr64, wrU8, wrU64, Nat.add_assoc, -getElem?_pos, List.getElem?_cons_zero, List.getElem?_cons_succ, t0, t1, t2, t3, t9, t10]
      exact ⟨w - 1, by omega, rfl, 1, rfl, by omega, ⟨by simp [t0], by simp [t1], by simp [t2], by simp [t3]⟩, by simp [hsu], by simp⟩
  · obtain rfl : i = w := by omega
    have hlt' : ¬ (i : Int) < (i : Int) := by omega
    simp (disch := first | omega | (simp; done) | assumption) [wr64, wrU8, wrU64, Nat.add_assoc, -getElem?_pos, List.getElem?_cons_zero, List.getElem?_cons_succ, t0, t1, t2, t3, t9, t10, hlt']
    exact hQ _ _ ⟨rfl, ⟨by simp [t0], by simp [t1], by simp [t2], by simp [t3]⟩, by simp [t9]⟩
theorem longX_le (n A S : Nat) (hA : A < 65536) (hS : S < 256) (hn : n ≤ 12) (i : Nat) (hi : i ≤ n) : longX i A S ≤ 50 * i := by
  induction i with
  | zero => simp [longX]
  | succ i ih =>
    rw [longX_succ]
    have h1 := CNum.dec_len (16 * i + A) (by omega)
    have h2 := CNum.dec_len S (by omega)
    have := ih (by omega)
    omega
theorem PartD {w n A S : Nat} {t : Bool} {sz : Int} {H H1 : AH} {tm : Tms} {Q : IPost} (hok : H.ok) (hw : w ≤ 31) (hn : n ≤ 12) (hA : bits .and .i64 sz 65535 = (A : Int)) (hA9 : A < 65536) (hS : bits .and .i64 sz 255 = (S : Int)) (hS9 : S < 256)
    (hQ : ∀ tm' H', S2 w n A S n t sz H tm' H' → Q .normal tm' H') (h : S2 w n A S 0 t sz H tm H1) : IWP Tryd.prog (part_ [1, 1, 1, 1, 1, 1, 1, 1, 0] C) Q tm H1 := by
  have hbl : baseL w t ≤ 3000 := by
    have := oo_len w w hw (Nat.le_refl _)
    unfold baseL
    split <;> split <;> omega
  obtain ⟨hk, hok1, q1, q2, h12, hq1, hq2, hq1n, hq2n, hnx, hat1, hat2, ⟨t0, t1, t2, t3⟩, t9, t11, t12, t13⟩ := h
  simp (disch := first | omega | (simp; done) | assumption) [wr64, wrU8, wrU64, Nat.add_assoc, -getElem?_pos, List.getElem?_cons_zero, List.getElem?_cons_succ, part_, C, ic6]
  refine iwp_loop (P2 w n A S t sz H) n ⟨0, rfl, by omega, ⟨hk, hok1, q1, q2, h12, hq1, hq2, hq1n, hq2n, hnx, hat1, hat2, ⟨by simp [t0], by simp [t1], by simp [t2], by simp [t3]⟩, by simp [t9], by simp [t11], by simp [t12], by simp [t13]⟩, by simp⟩ ?_
  clear t0 t1 t2 t3 t9 t11 t12 t13 hat1 hat2 hq1n hq2n hnx hk hok1 h12 hq1 hq2
  clear q1 q2
  rintro k tm1 H2 ⟨i, rfl, hi, ⟨hk, hok1, q1, q2, h12, hq1, hq2, hq1n, hq2n, hnx, hat1, hat2, ⟨t0, t1, t2, t3⟩, t9, t11, t12, t13⟩, t14⟩
  by_cases hlt : i < n
  · have hlt' : (i : Int) < (n : Int) := by omega
    have hll := longX_le n A S hA9 hS9 hn i hi
    obtain ⟨z, hz, e1⟩ : ∃ z : Nat, z = 16 * i + A ∧ 16 * (i : Int) + (A : Int) = (z : Int) := ⟨16 * i + A, rfl, by omega⟩
    have hat_s := ats_succ i A
    have hlo := longX_succ i A S
    rw [← hz] at hat_s hlo
    have l1 := CNum.dec_len z (by omega)
    have l2 := CNum.dec_len S (by omega)
    have i1 : Lib.itoa (z : Int) = Lib.decDigits z := Lib.itoa_nonneg _
    have i2 : Lib.itoa (S : Int) = Lib.decDigits S := Lib.itoa_nonneg _
    have la : ((ats i A).map (AV.int .i64)).length = i + 1 := by simp [ats]
    have ls : ((szs i S).map (AV.int .i64)).length = i + 1 := by simp [szs]
    have a1 := append_one H2 (bytes := 8) (v := .int .i64 (z : Int)) hat1 hq1n (by rw [la]; omega) (by rw [la]; omega) rfl
    rw [la] at a1
    have hsa : (ats i A).map (AV.int .i64) ++ [.int .i64 (z : Int)] = (ats (i + 1) A).map (AV.int .i64) := by rw [hat_s]; simp
    have hss : (szs i S).map (AV.int .i64) ++ [.int .i64 (S : Int)] = (szs (i + 1) S).map (AV.int .i64) := by rw [szs_succ]; simp
    rw [hsa] at a1
    obtain ⟨H3, hH3⟩ : ∃ H3, H3 = ((H2.new (.cells false 3 [.int .i64 (z : Int)])).set q1 none).new (.cells false 3 ((ats (i + 1) A).map (AV.int .i64))) := ⟨_, rfl⟩
    rw [← hH3] at a1
    have hn3 : H3.next = H2.next + 2 := by rw [hH3]; simp
    have hok3 : H3.ok := by
      rw [hH3]
      refine AH.ok_new fun b o hb => ?_
      by_cases e : b = q1
      · subst e; rw [AH.set_same] at hb; cases hb
      · rw [AH.set_ne _ _ e] at hb; exact AH.ok_new hok1 _ _ hb
    have hk3 : H.keepsAll H3 := by
      rw [hH3]
      exact keeps_new hok (keeps_set hok (keeps_new hok hk hnx) hq1) (by simp; omega)
    have hat1' : H3.at_ (H2.next + 1) = some (.cells false 3 ((ats (i + 1) A).map (AV.int .i64))) := by rw [hH3]; simp
    have hat2' : H3.at_ q2 = some (.cells false 3 ((szs i S).map (AV.int .i64))) := by
      rw [hH3, AH.new_ne _ _ (by simp; omega), AH.set_ne _ _ (fun e => h12 e.symm), AH.new_ne _ _ (by omega)]; exact hat2
    have a2 := append_one H3 (bytes := 8) (v := .int .i64 (S : Int)) hat2' (by omega) (by rw [ls]; omega) (by rw [ls]; omega) rfl
    rw [ls, hss] at a2
    simp (disch := first | omega | (simp; done) | assumption) [wr64, wrU8, wrU64, Nat.add_assoc, -getElem?_pos, List.getElem?_cons_zero, List.getElem?_cons_succ, t0, t1, t2, t3, t9, t11, t12, t13, t14, hlt, hlt', hA, hS, e1]
    refine Try.intro a1 ?_
    simp (disch := first | omega | (simp; done) | assumption) [wr64, wrU8, wrU64, Nat.add_assoc, -getElem?_pos, List.getElem?_cons_zero, List.getElem?_cons_succ, t0, t1, t2, t3, t9, t11, t12, t13, t14, hA, hS, e1]
    refine Try.intro a2 ?_
    simp (disch := first | omega | (simp; done) | assumption) [wr64, wrU8, wrU64, Nat.add_assoc, -getElem?_pos, List.getElem?_cons_zero, List.getElem?_cons_succ, t0, t1, t2, t3, t9, t11, t12, t13, t14, hA, hS, e1]
    refine CallW.val (CNum.Num (z : Int) (by omega) (by omega) _) ?_
    simp (disch := first | omega | (simp; done) | assumption) [wr64, wrU8, wrU64, Nat.add_assoc, -getElem?_pos, List.getElem?_cons_zero, List.getElem?_cons_succ, t0, t1, t2, t3, t9, t11, t12, t13, t14, hA, hS, e1, i1]
    refine CallW.val (CNum.Num (S : Int) (by omega) (by omega) _) ?_
    simp (disch := first | omega | (simp; done) | assumption) [wr64, wrU8, wrU64, Nat.add_assoc, -getElem?_pos, List.getElem?_cons_zero, List.getElem?_cons_succ, t0, t1, t2, t3, t9, t11, t12, t13, t14, hA, hS, e1, i1, i2]
    have hk4 : H.keepsAll (((H3.new (.cells false 3 [.int .i64 (S : Int)])).set q2 none).new (.cells false 3 ((szs (i + 1) S).map (AV.int .i64)))) := keeps_new hok (keeps_set hok (keeps_new hok hk3 (by omega)) hq2) (by simp; omega)
    have hok4 : (((H3.new (.cells false 3 [.int .i64 (S : Int)])).set q2 none).new (.cells false 3 ((szs (i + 1) S).map (AV.int .i64)))).ok := by
      refine AH.ok_new fun b o hb => ?_
      by_cases e : b = q2
      · subst e; rw [AH.set_same] at hb; cases hb
      · rw [AH.set_ne _ _ e] at hb; exact AH.ok_new hok3 _ _ hb
    have hat1'' : (((H3.new (.cells false 3 [.int .i64 (S : Int)])).set q2 none).new (.cells false 3 ((szs (i + 1) S).map (AV.int .i64)))).at_ (H2.next + 1) = some (.cells false 3 ((ats (i + 1) A).map (AV.int .i64))) := by
      rw [AH.new_ne _ _ (by simp; omega), AH.set_ne _ _ (by omega), AH.new_ne _ _ (by omega)]; exact hat1'
    refine ⟨n - (i + 1), by omega, i + 1, rfl, by omega, ⟨hk4, hok4, H2.next + 1, H3.next + 1, by omega, by omega, by omega, by simp; omega, by simp, by simp; omega, hat1'', by simp, ⟨by simp [t0], by simp [t1], by simp [t2], by simp [t3]⟩, by simp [t9], by simp, by simp, ?_⟩, by simp⟩
    simp
    omega
  · obtain rfl : i = n := by omega
    have hlt' : ¬ (i : Int) < (i : Int) := by omega
    simp (disch := first | omega | (simp; done) | assumption) [wr64, wrU8, wrU64, Nat.add_assoc, -getElem?_pos, List.getElem?_cons_zero, List.getElem?_cons_succ, t0, t1, t2, t3, t9, t11, t12, t13, t14, hlt']
    exact hQ _ _ ⟨hk, hok1, q1, q2, h12, hq1, hq2, hq1n, hq2n, hnx, hat1, hat2, ⟨by simp [t0], by simp [t1], by simp [t2], by simp [t3]⟩, by simp [t9], by simp [t11], by simp [t12], by simp [t13]⟩
/-! ### Behind the rows -/
theorem neg_none {l : List Int} (h : ∀ x ∈ l, 0 ≤ x) : (l.any fun n => decide (n < 0)) = false := List.any_eq_false.2 fun x hx => by have := h x hx; simp; omega
theorem ats_pos (n A : Nat) : ∀ x ∈ ats n A, 0 ≤ x := fun x hx => by
  unfold ats at hx
  rcases List.mem_cons.1 hx with rfl | hx
  · omega
  · obtain ⟨i, _, rfl⟩ := List.mem_map.1 hx; omega
theorem szs_pos (n S : Nat) : ∀ x ∈ szs n S, 0 ≤ x := fun x hx => by
  unfold szs at hx
  rcases List.mem_cons.1 hx with rfl | hx
  · omega
  · have := List.eq_of_mem_replicate hx; omega
theorem ats_rng {n A : Nat} (hn : n ≤ 12) (hA : A < 65536) : ∀ x ∈ ats n A, -9223372036854775808 ≤ x ∧ x ≤ 9223372036854775807 := fun x hx => by
  unfold ats at hx
  rcases List.mem_cons.1 hx with rfl | hx
  · omega
  · obtain ⟨i, hi, rfl⟩ := List.mem_map.1 hx
    have := List.mem_range.1 hi
    omega
theorem szs_rng {n S : Nat} (hS : S < 256) : ∀ x ∈ szs n S, -9223372036854775808 ≤ x ∧ x ≤ 9223372036854775807 := fun x hx => by
  unfold szs at hx
  rcases List.mem_cons.1 hx with rfl | hx
  · omega
  · have := List.eq_of_mem_replicate hx; omega
theorem code_all (w n A S : Nat) (t : Bool) : codeOf (oo w) eb t (ats n A) (szs n S) = if 400 < baseL w t + longX n A S then 5 else 0 := by
  unfold codeOf
  rw [if_neg, line_all, line_len]
  rw [neg_none (ats_pos n A), neg_none (szs_pos n S)]
  simp [ats, szs]
def kkN (w n : Nat) (t : Bool) : Nat := w + 1 + (if t then 1 else 0) + n
theorem all_len (w n A S : Nat) (t : Bool) : (allW w n A S t).length = kkN w n t := by unfold kkN allW wl xs; cases t <;> simp <;> omega
theorem all_entry (w n A S : Nat) (t : Bool) : (allW w n A S t)[w]'(by rw [all_len]; unfold kkN; omega) = [101, 110, 116, 114, 121, 61, 101, 46, 99, 111, 110, 102] := by
  have h : (wl w).length = w := by simp [wl]
  unfold allW
  simp only [List.append_assoc]
  rw [List.getElem_append_right (by omega)]
  simp [h, entryB, eb]
theorem all_try (w n A S : Nat) : (allW w n A S true)[w + 1]'(by rw [all_len]; unfold kkN; simp; omega) = tryingB := by
  have h : (wl w).length = w := by simp [wl]
  unfold allW
  simp only [List.append_assoc]
  rw [List.getElem_append_right (by omega)]
  simp [h]
theorem all_ext (w n A S : Nat) (t : Bool) (i : Nat) (hi : i < n) : (allW w n A S t)[w + 1 + (if t then 1 else 0) + i]'(by rw [all_len]; unfold kkN; omega) = extraB ++ (Lib.decDigits (16 * i + A) ++ ([58] ++ Lib.decDigits S)) := by
  have h : (wl w).length = w := by simp [wl]
  unfold allW
  rw [List.getElem_append_right (by cases t <;> simp [h] <;> omega)]
  have e : w + 1 + (if t then 1 else 0) + i - (wl w ++ ([entryB ++ eb] ++ (if t then [tryingB] else []))).length = i := by cases t <;> simp [h] <;> omega
  simp only [e]
  simp [xs]
def S3 (w n A S : Nat) (t : Bool) (sz : Int) (H : AH) (tm : Tms) (H' : AH) : Prop := H.keepsAll H' ∧ H'.ok ∧ H.next ≤ H'.next ∧ ∃ q1 q2 v, H'.at_ q1 = some (.cells false 3 ((ats n A).map (AV.int .i64))) ∧ H'.at_ q2 = some (.cells false 3 ((szs n S).map (AV.int .i64))) ∧ SZ H' v ((allW w n A S t).map AV.str) ∧
  Fx w n t sz tm ∧ tm 9 = .str (oo w) ∧ tm 11 = .slice q1 0 (n + 1) 1 ∧ tm 12 = .slice q2 0 (n + 1) 1 ∧ tm 17 = v ∧ tm 18 = .int .i64 (kkN w n t : Int)
def P3 (w n A S : Nat) (t : Bool) (sz : Int) (H : AH) (k : Nat) (tm : Tms) (H' : AH) : Prop := ∃ i : Nat, k = n - i ∧ i ≤ n ∧ S3 w n A S t sz H tm H' ∧ tm 19 = .int .i64 (i : Int)
abbrev post (H : AH) : IPost := fnPost rs6 fun v H' => v = .bool true ∧ H.keepsAll H'
theorem PartF {w n A S : Nat} {t : Bool} {sz : Int} {H H1 : AH} {tm : Tms} (hok : H.ok) (hw : w ≤ 31) (hn : n ≤ 12) (hA9 : A < 65536) (hS9 : S < 256) (hP : H.at_ 2 = some powTab) (hE : loadC H 0 0 none = some (rt tErr))
    (h : S3 w n A S t sz H tm H1) : IWP Tryd.prog (part_ [1, 1, 1, 1, 1, 1, 1, 1, 1, 1, 1, 1, 1, 1, 1, 1] C) (post H) tm H1 := by
  obtain ⟨hk, hok1, hnx, q1, q2, v, hat1, hat2, hv, ⟨t0, t1, t2, t3⟩, t9, t11, t12, t17, t18⟩ := h
  have hol := oo_len w w hw (Nat.le_refl _)
  have la : ((ats n A).map (AV.int .i64)).length = n + 1 := by simp [ats]
  have sl1 : SL H1 (.slice q1 0 (n + 1) 1) ((ats n A).map (AV.int .i64)) := by
    have := sl_own hat1 (by simp [ats])
    rwa [la] at this
  have sl2 : ∀ (v : AV), v = (if n = 0 then .sempty else .slice q2 1 n 1) → SL H1 v ((List.replicate n (S : Int)).map (AV.int .i64)) := fun v hv => by
    subst hv
    by_cases h0 : n = 0
    · subst h0; exact .inl ⟨rfl, .inr rfl⟩
    · rw [if_neg h0]
      refine .inr ⟨q2, 1, by simp, by simp [h0], fun i hi => ?_⟩
      simp at hi
      unfold loadC
      rw [hat2]
      simp [szs, hi, Nat.add_comm 1 i]
  have hc : codeOf (oo w) eb t (ats n A) (List.replicate n (S : Int)) = 1 := by
    unfold codeOf
    rw [if_pos (.inl (by simp [ats]))]
  have hrep : ∀ x ∈ List.replicate n (S : Int), -9223372036854775808 ≤ x ∧ x ≤ 9223372036854775807 := fun x hx => by have := List.eq_of_mem_replicate hx; omega
  have fin : ∀ (tm : Tms), tm 9 = .str (oo w) → tm 2 = .bool t → tm 11 = .slice q1 0 (n + 1) 1 → tm 12 = .slice q2 0 (n + 1) 1 → IWP Tryd.prog (part_ [1, 1, 1, 1, 1, 1, 1, 1, 1, 1, 1, 1, 1, 1, 1, 1] C) (post H) tm H1 := by
    intro tm t9 t2 t11 t12
    by_cases h0 : n = 0
    · subst h0
      simp (disch := first | omega | (simp; done) | assumption) [wr64, wrU8, wrU64, Nat.add_assoc, -getElem?_pos, List.getElem?_cons_zero, List.getElem?_cons_succ, part_, C, ic6, t9, t2, t11, t12, slcA, Abs.bounds]
      refine CallW.ofk (Build (o := oo w) (f := eb) (t := t) (a := ats 0 A) (s := []) sl1 (by simpa using sl2 .sempty rfl) (by omega) (by simp [eb]) (by simp [ats]) (by simp) (ats_rng hn hA9) (by simp) (hk _ _ hP)) ?_
      rintro v2 H2 ⟨hk2, hn2, e2, l2, r2, rfl, hc2, hi2, hz2, _, _⟩ hok2
      try simp only [newO_none] at hk2 hn2
      have hc' : codeOf (oo w) eb t (ats 0 A) [] = 1 := hc
      have hi2' : isV e2 l2 r2 [108, 105, 110, 101] [] 1 = true := by rw [← hc']; exact hi2
      have hk02 : H.keepsAll H2 := fun x o hx => hk2 x o (hk x o hx)
      simp (disch := first | omega | (simp; done) | assumption) [wr64, wrU8, wrU64, Nat.add_assoc, -getElem?_pos, List.getElem?_cons_zero, List.getElem?_cons_succ, ]
      refine CallW.val (ELawIs _ _ _ (loadC_keeps hk02 hE) hc2) ?_
      simp (disch := first | omega | (simp; done) | assumption) [wr64, wrU8, wrU64, Nat.add_assoc, -getElem?_pos, List.getElem?_cons_zero, List.getElem?_cons_succ, hi2']
      refine CallW.val (Awake (hk02 _ _ hP)) ?_
      simp (disch := first | omega | (simp; done) | assumption) [wr64, wrU8, wrU64, Nat.add_assoc, -getElem?_pos, List.getElem?_cons_zero, List.getElem?_cons_succ, rs6]
      exact hk02
    · have g1 : (1 : Int) ≤ (n : Int) + 1 := by omega
      have g2 : ¬ (n + 1 ≤ 1) := by omega
      have g3 : n + 1 - 1 = n := by omega
      have sl2' := sl2 _ rfl
      rw [if_neg h0] at sl2'
      simp (disch := first | omega | (simp; done) | assumption) [wr64, wrU8, wrU64, Nat.add_assoc, -getElem?_pos, List.getElem?_cons_zero, List.getElem?_cons_succ, part_, C, ic6, t9, t2, t11, t12, slcA, Abs.bounds, g1, g2, g3, h0]
      refine CallW.ofk (Build (o := oo w) (f := eb) (t := t) (a := ats n A) (s := List.replicate n (S : Int)) sl1 sl2' (by omega) (by simp [eb]) (by simp [ats]; omega) (by simp; omega) (ats_rng hn hA9) hrep (hk _ _ hP)) ?_
      rintro v2 H2 ⟨hk2, hn2, e2, l2, r2, rfl, hc2, hi2, hz2, _, _⟩ hok2
      try simp only [newO_none] at hk2 hn2
      have hi2' : isV e2 l2 r2 [108, 105, 110, 101] [] 1 = true := by rw [← hc]; exact hi2
      have hk02 : H.keepsAll H2 := fun x o hx => hk2 x o (hk x o hx)
      simp (disch := first | omega | (simp; done) | assumption) [wr64, wrU8, wrU64, Nat.add_assoc, -getElem?_pos, List.getElem?_cons_zero, List.getElem?_cons_succ, ]
      refine CallW.val (ELawIs _ _ _ (loadC_keeps hk02 hE) hc2) ?_
      simp (disch := first | omega | (simp; done) | assumption) [wr64, wrU8, wrU64, Nat.add_assoc, -getElem?_pos, List.getElem?_cons_zero, List.getElem?_cons_succ, hi2']
      refine CallW.val (Awake (hk02 _ _ hP)) ?_
      simp (disch := first | omega | (simp; done) | assumption) [wr64, wrU8, wrU64, Nat.add_assoc, -getElem?_pos, List.getElem?_cons_zero, List.getElem?_cons_succ, rs6]
      exact hk02
  exact fin tm t9 t2 t11 t12
theorem PartE {w n A S : Nat} {t : Bool} {sz : Int} {H H1 : AH} {tm : Tms} {Q : IPost} (hw : w ≤ 31) (hn : n ≤ 12) (hA9 : A < 65536) (hS9 : S < 256) (hP : H.at_ 2 = some powTab)
    (hQ : ∀ tm' H', S3 w n A S t sz H tm' H' → Q .normal tm' H') (h : S3 w n A S t sz H tm H1) : IWP Tryd.prog (part_ [1, 1, 1, 1, 1, 1, 1, 1, 1, 1, 1, 1, 1, 1, 1, 0] C) Q tm H1 := by
  obtain ⟨hk, hok1, hnx, q1, q2, v, hat1, hat2, hv, ⟨t0, t1, t2, t3⟩, t9, t11, t12, t17, t18⟩ := h
  simp (disch := first | omega | (simp; done) | assumption) [wr64, wrU8, wrU64, Nat.add_assoc, -getElem?_pos, List.getElem?_cons_zero, List.getElem?_cons_succ, part_, C, ic6]
  refine iwp_loop (P3 w n A S t sz H) n ⟨0, rfl, by omega, ⟨hk, hok1, hnx, q1, q2, v, hat1, hat2, hv, ⟨by simp [t0], by simp [t1], by simp [t2], by simp [t3]⟩, by simp [t9], by simp [t11], by simp [t12], by simp [t17], by simp [t18]⟩, by simp⟩ ?_
  clear t0 t1 t2 t3 t9 t11 t12 t17 t18 hv hat1 hat2 hnx hok1 hk
  clear q1 q2 v
  rintro k tm1 H1 ⟨i, rfl, hi, ⟨hk, hok1, hnx, q1, q2, v, hat1, hat2, hv, ⟨t0, t1, t2, t3⟩, t9, t11, t12, t17, t18⟩, t19⟩
  by_cases hlt : i < n
  · have hlt' : (i : Int) < (n : Int) := by omega
    have hal := all_len w n A S t
    have hkk : kkN w n t = w + 1 + (if t then 1 else 0) + n := rfl
    have hk99 : kkN w n t ≤ 100 := by rw [hkk]; split <;> omega
    obtain ⟨b, o, hvs, hld⟩ := SZ.get hv (w + 1 + (if t then 1 else 0) + i) (by rw [List.length_map, hal]; omega)
    rw [List.getElem_map, all_ext w n A S t i hlt] at hld
    rw [List.length_map, hal] at hvs
    subst hvs
    obtain ⟨kk, hkke⟩ : ∃ kk, kk = kkN w n t := ⟨_, rfl⟩
    rw [← hkke] at hkk hk99 hv t17 t18
    obtain ⟨x, hx⟩ : ∃ x : Nat, x = w + 1 + (if t then 1 else 0) + i := ⟨_, rfl⟩
    rw [← hx] at hld
    have g1 : (kk : Int) - (n : Int) + (i : Int) = (x : Int) := by omega
    have g2 : (x : Int) < (kk : Int) := by omega
    have g3 : x < kk := by omega
    clear hkk hx
    have la : (ats n A).length = n + 1 := by simp [ats]
    have ls : (szs n S).length = n + 1 := by simp [szs]
    obtain ⟨z, hz, hz2⟩ : ∃ z : Nat, z = 16 * i + A ∧ z < 100000 := ⟨16 * i + A, rfl, by omega⟩
    have ha1 : loadC H1 q1 (i + 1) none = some (.int .i64 (z : Int)) := by
      unfold loadC
      rw [hat1]
      simp [ats, hlt, hz]
    have hs1 : loadC H1 q2 (i + 1) none = some (.int .i64 (S : Int)) := by
      unfold loadC
      rw [hat2]
      simp [szs, hlt]
    rw [← hz] at hld
    have l1 := CNum.dec_len z (by omega)
    have l2 := CNum.dec_len S (by omega)
    have i1 : Lib.itoa (z : Int) = Lib.decDigits z := Lib.itoa_nonneg _
    have i2 : Lib.itoa (S : Int) = Lib.decDigits S := Lib.itoa_nonneg _
    have g5 : (i : Int) + 1 < (n : Int) + 1 := by omega
    have g6 : i + 1 < n + 1 := by omega
    have g9 : (0 : Int) ≤ (i : Int) + 1 := by omega
    simp (disch := first | omega | (simp; done) | assumption) [wr64, wrU8, wrU64, Nat.add_assoc, -getElem?_pos, List.getElem?_cons_zero, List.getElem?_cons_succ, t0, t1, t2, t3, t9, t11, t12, t17, t18, t19, hlt, hlt', g1, g2, g3, g5, g6, g9]
    refine Try.intro (by simpa using hld) ?_
    simp (disch := first | omega | (simp; done) | assumption) [wr64, wrU8, wrU64, Nat.add_assoc, -getElem?_pos, List.getElem?_cons_zero, List.getElem?_cons_succ, t0, t1, t2, t3, t9, t11, t12, t17, t18, t19, hlt, hlt', g1, g2, g3, g5, g6, g9]
    refine Try.intro ha1 ?_
    simp (disch := first | omega | (simp; done) | assumption) [wr64, wrU8, wrU64, Nat.add_assoc, -getElem?_pos, List.getElem?_cons_zero, List.getElem?_cons_succ, t0, t1, t2, t3, t9, t11, t12, t17, t18, t19, hlt, hlt', g1, g2, g3, g5, g6, g9]
    refine Try.intro hs1 ?_
    simp (disch := first | omega | (simp; done) | assumption) [wr64, wrU8, wrU64, Nat.add_assoc, -getElem?_pos, List.getElem?_cons_zero, List.getElem?_cons_succ, t0, t1, t2, t3, t9, t11, t12, t17, t18, t19, hlt, hlt', g1, g2, g3, g5, g6, g9]
    refine CallW.val (CNum.Num (z : Int) (by omega) (by omega) _) ?_
    refine ⟨?_, ?_⟩
    · intro r hr
      simp only [List.mem_cons, List.not_mem_nil, or_false] at hr
      rcases hr with rfl | rfl
      · simp (disch := first | omega | (simp; done) | assumption) [wr64, wrU8, wrU64, Nat.add_assoc, -getElem?_pos, List.getElem?_cons_zero, List.getElem?_cons_succ, ]
        simpa using hld
      · simp (disch := first | omega | (simp; done) | assumption) [wr64, wrU8, wrU64, Nat.add_assoc, -getElem?_pos, List.getElem?_cons_zero, List.getElem?_cons_succ, ]
        simpa using hs1
    simp (disch := first | omega | (simp; done) | assumption) [wr64, wrU8, wrU64, Nat.add_assoc, -getElem?_pos, List.getElem?_cons_zero, List.getElem?_cons_succ, t0, t1, t2, t3, t9, t11, t12, t17, t18, t19, hlt, hlt', g1, g2, g3, g5, g6, g9, i1]
    refine Try.guard (by omega) ?_
    simp (disch := first | omega | (simp; done) | assumption) [wr64, wrU8, wrU64, Nat.add_assoc, -getElem?_pos, List.getElem?_cons_zero, List.getElem?_cons_succ, t0, t1, t2, t3, t9, t11, t12, t17, t18, t19, hlt, hlt', g1, g2, g3, g5, g6, g9, i1]
    refine Try.guard (by omega) ?_
    simp (disch := first | omega | (simp; done) | assumption) [wr64, wrU8, wrU64, Nat.add_assoc, -getElem?_pos, List.getElem?_cons_zero, List.getElem?_cons_succ, t0, t1, t2, t3, t9, t11, t12, t17, t18, t19, hlt, hlt', g1, g2, g3, g5, g6, g9, i1]
    refine CallW.val (CNum.Num (S : Int) (by omega) (by omega) _) ?_
    refine ⟨?_, ?_⟩
    · intro r hr
      obtain rfl := List.mem_singleton.1 hr
      simp (disch := first | omega | (simp; done) | assumption) [wr64, wrU8, wrU64, Nat.add_assoc, -getElem?_pos, List.getElem?_cons_zero, List.getElem?_cons_succ, ]
      simpa using hld
    simp (disch := first | omega | (simp; done) | assumption) [wr64, wrU8, wrU64, Nat.add_assoc, -getElem?_pos, List.getElem?_cons_zero, List.getElem?_cons_succ, t0, t1, t2, t3, t9, t11, t12, t17, t18, t19, hlt, hlt', g1, g2, g3, g5, g6, g9, i1, i2]
    refine Try.guard (by omega) ?_
    simp (disch := first | omega | (simp; done) | assumption) [wr64, wrU8, wrU64, Nat.add_assoc, -getElem?_pos, List.getElem?_cons_zero, List.getElem?_cons_succ, t0, t1, t2, t3, t9, t11, t12, t17, t18, t19, hlt, hlt', g1, g2, g3, g5, g6, g9, i1, i2, extraB]
    exact ⟨n - (i + 1), by omega, i + 1, rfl, by omega, ⟨hk, hok1, hnx, q1, q2, .slice b o kk 1, hat1, hat2, hv, ⟨by simp [t0], by simp [t1], by simp [t2], by simp [t3]⟩, by simp [t9], by simp [t11], by simp [t12], by simp [t17], by simp [t18, hkke]⟩, by simp⟩
  · obtain rfl : i = n := by omega
    have hlt' : ¬ (i : Int) < (i : Int) := by omega
    simp (disch := first | omega | (simp; done) | assumption) [wr64, wrU8, wrU64, Nat.add_assoc, -getElem?_pos, List.getElem?_cons_zero, List.getElem?_cons_succ, t0, t1, t2, t3, t9, t11, t12, t17, t18, t19, hlt']
    exact hQ _ _ ⟨hk, hok1, hnx, q1, q2, v, hat1, hat2, hv, ⟨by simp [t0], by simp [t1], by simp [t2], by simp [t3]⟩, by simp [t9], by simp [t11], by simp [t12], by simp [t17], by simp [t18]⟩
theorem Rest {w n A S : Nat} {t : Bool} {sz : Int} {H H1 : AH} {tm : Tms} (hok : H.ok) (hw : w ≤ 31) (hn : n ≤ 12) (hA9 : A < 65536) (hS9 : S < 256) (hP : H.at_ 2 = some powTab) (hE : loadC H 0 0 none = some (rt tErr))
    (h : S2 w n A S n t sz H tm H1) : IWP Tryd.prog (part_ [1, 1, 1, 1, 1, 1, 1, 1, 1] C) (post H) tm H1 := by
  obtain ⟨hk, hok1, q1, q2, h12, hq1, hq2, hq1n, hq2n, hnx, hat1, hat2, ⟨t0, t1, t2, t3⟩, t9, t11, t12, t13⟩ := h
  have hol := oo_len w w hw (Nat.le_refl _)
  have la : ((ats n A).map (AV.int .i64)).length = n + 1 := by simp [ats]
  have ls : ((szs n S).map (AV.int .i64)).length = n + 1 := by simp [szs]
  have sl1 : SL H1 (.slice q1 0 (n + 1) 1) ((ats n A).map (AV.int .i64)) := by
    have := sl_own hat1 (by simp [ats])
    rwa [la] at this
  have sl2 : SL H1 (.slice q2 0 (n + 1) 1) ((szs n S).map (AV.int .i64)) := by
    have := sl_own hat2 (by simp [szs])
    rwa [ls] at this
  have hca := code_all w n A S t
  have hll := line_len w n A S t
  have hlo := line_all w n A S t
  obtain ⟨LL, hLL⟩ : ∃ LL, LL = baseL w t + longX n A S := ⟨_, rfl⟩
  rw [← hLL] at t13 hca hll
  change IWP Tryd.prog (.seq (part_ [1, 1, 1, 1, 1, 1, 1, 1, 1, 0] C) (.seq (part_ [1, 1, 1, 1, 1, 1, 1, 1, 1, 1, 0] C) (.seq (part_ [1, 1, 1, 1, 1, 1, 1, 1, 1, 1, 1, 0] C) (part_ [1, 1, 1, 1, 1, 1, 1, 1, 1, 1, 1, 1] C)))) _ _ _
  generalize hX : part_ [1, 1, 1, 1, 1, 1, 1, 1, 1, 1, 1, 1] C = X
  simp (disch := first | omega | (simp; done) | assumption) [wr64, wrU8, wrU64, Nat.add_assoc, -getElem?_pos, List.getElem?_cons_zero, List.getElem?_cons_succ, part_, C, ic6, t0, t1, t2, t3, t9, t11, t12, t13]
  refine CallW.ofk (Build (o := oo w) (f := eb) (t := t) (a := ats n A) (s := szs n S) sl1 sl2 (by omega) (by simp [eb]) (by simp [ats]; omega) (by simp [szs]; omega) (ats_rng hn hA9) (szs_rng hS9) (hk _ _ hP)) ?_
  rintro v2 H2 ⟨hk2, hn2, e2, l2, r2, rfl, hc2, hi2, hz2, _, _⟩ hok2
  try simp only [newO_none] at hk2 hn2
  have hk02 : H.keepsAll H2 := fun x o hx => hk2 x o (hk x o hx)
  by_cases h4 : 400 < LL
  · have h4' : (400 : Int) < (LL : Int) := by omega
    rw [if_pos h4] at hca
    have hi2' : isV e2 l2 r2 [108, 105, 110, 101] [] 5 = true := by rw [← hca]; exact hi2
    simp (disch := first | omega | (simp; done) | assumption) [wr64, wrU8, wrU64, Nat.add_assoc, -getElem?_pos, List.getElem?_cons_zero, List.getElem?_cons_succ, t0, t1, t2, t3, t9, t11, t12, t13, hca, h4, h4']
    refine CallW.val (ELawIs _ _ _ (loadC_keeps hk02 hE) hc2) ?_
    simp (disch := first | omega | (simp; done) | assumption) [wr64, wrU8, wrU64, Nat.add_assoc, -getElem?_pos, List.getElem?_cons_zero, List.getElem?_cons_succ, hi2']
    refine CallW.val (Awake (hk02 _ _ hP)) ?_
    simp (disch := first | omega | (simp; done) | assumption) [wr64, wrU8, wrU64, Nat.add_assoc, -getElem?_pos, List.getElem?_cons_zero, List.getElem?_cons_succ, rs6]
    exact hk02
  · have h4' : ¬ (400 : Int) < (LL : Int) := by omega
    rw [if_neg h4] at hca
    obtain rfl := hz2.2 hca
    simp (disch := first | omega | (simp; done) | assumption) [wr64, wrU8, wrU64, Nat.add_assoc, -getElem?_pos, List.getElem?_cons_zero, List.getElem?_cons_succ, t0, t1, t2, t3, t9, t11, t12, t13, hca, hlo, h4, h4']
    refine CallW.ofk (Words (joinW [32] (allW w n A S t)) (by omega) _) ?_
    rintro v3 H3 ⟨hk3, hn3, hv3⟩ hok3
    try simp only [newO_none] at hk3 hn3
    rw [line_words] at hv3
    have hk03 : H.keepsAll H3 := fun x o hx => hk3 x o (hk02 x o hx)
    have hk13 : H1.keepsAll H3 := fun x o hx => hk3 x o (hk2 x o hx)
    simp (disch := first | omega | (simp; done) | assumption) [wr64, wrU8, wrU64, Nat.add_assoc, -getElem?_pos, List.getElem?_cons_zero, List.getElem?_cons_succ, t0, t1, t2, t3, t9, t11, t12, t13]
    rw [← hX]
    clear hX
    change IWP Tryd.prog (.seq (part_ [1, 1, 1, 1, 1, 1, 1, 1, 1, 1, 1, 1, 0] C) (.seq (part_ [1, 1, 1, 1, 1, 1, 1, 1, 1, 1, 1, 1, 1, 0] C) (.seq (part_ [1, 1, 1, 1, 1, 1, 1, 1, 1, 1, 1, 1, 1, 1, 0] C) (.seq (part_ [1, 1, 1, 1, 1, 1, 1, 1, 1, 1, 1, 1, 1, 1, 1, 0] C) (part_ [1, 1, 1, 1, 1, 1, 1, 1, 1, 1, 1, 1, 1, 1, 1, 1] C))))) _ _ _
    refine iwp_cut3 (S3 w n A S t sz H) ?_ ?_
    · have hal := all_len w n A S t
      have hkk : kkN w n t = w + 1 + (if t then 1 else 0) + n := rfl
      have hk99 : kkN w n t ≤ 100 := by rw [hkk]; split <;> omega
      have hlv := SZ.lenS hv3
      rw [List.length_map, hal] at hlv
      obtain ⟨b, o, hvs, hld⟩ := SZ.get hv3 w (by rw [List.length_map, hal, hkk]; omega)
      rw [List.getElem_map, all_entry w n A S t] at hld
      rw [List.length_map, hal] at hvs
      subst hvs
      have hLLi : ((joinW [32] (allW w n A S t)).length : Int) = (LL : Int) := by omega
      have hfin : ∀ tm' : Tms, Fx w n t sz tm' → tm' 9 = .str (oo w) → tm' 11 = .slice q1 0 (n + 1) 1 → tm' 12 = .slice q2 0 (n + 1) 1 → tm' 17 = .slice b o (kkN w n t) 1 → tm' 18 = .int .i64 (kkN w n t : Int) → S3 w n A S t sz H tm' H3 := fun tm' f1 f2 f3 f4 f5 f6 =>
        ⟨hk03, hok3, by omega, q1, q2, _, hk13 _ _ hat1, hk13 _ _ hat2, hv3, f1, f2, f3, f4, f5, f6⟩
      cases t
      · have hkk0 : ((kkN w n false : Nat) : Int) = (w : Int) + 1 + (n : Int) := by rw [hkk]; first | (simp; done) | (simp; omega)
        obtain ⟨kk, hkke⟩ : ∃ kk, kk = kkN w n false := ⟨_, rfl⟩
        rw [← hkke] at hkk0 hk99 hlv hfin
        have g1 : (w : Int) < (kk : Int) := by omega
        have g2 : w < kk := by omega
        have g3 : (w : Int) + 1 + (n : Int) = (kk : Int) := by omega
        simp (disch := first | omega | (simp; done) | assumption) [wr64, wrU8, wrU64, Nat.add_assoc, -getElem?_pos, List.getElem?_cons_zero, List.getElem?_cons_succ, part_, C, ic6, t0, t1, t2, t3, t9, t11, t12, t13, ← hkke, g1, g2, g3, hLLi]
        refine Try.intro hld ?_
        simp (disch := first | omega | (simp; done) | assumption) [wr64, wrU8, wrU64, Nat.add_assoc, -getElem?_pos, List.getElem?_cons_zero, List.getElem?_cons_succ, t0, t1, t2, t3, t9, t11, t12, t13]
        exact hfin _ ⟨by simp [t0], by simp [t1], by simp [t2], by simp [t3]⟩ (by simp [t9]) (by simp [t11]) (by simp [t12]) (by simp) (by simp)
      · obtain ⟨b', o', hvs', hld'⟩ := SZ.get hv3 (w + 1) (by rw [List.length_map, hal, hkk]; simp; omega)
        rw [List.getElem_map, all_try w n A S] at hld'
        rw [List.length_map, hal] at hvs'
        cases hvs'
        have hkk0 : ((kkN w n true : Nat) : Int) = (w : Int) + 1 + (n : Int) + 1 := by rw [hkk]; first | (simp; done) | (simp; omega)
        obtain ⟨kk, hkke⟩ : ∃ kk, kk = kkN w n true := ⟨_, rfl⟩
        rw [← hkke] at hkk0 hk99 hlv hfin
        have g1 : (w : Int) < (kk : Int) := by omega
        have g2 : w < kk := by omega
        have g3 : (w : Int) + 1 + (n : Int) + 1 = (kk : Int) := by omega
        have g4 : (w : Int) + 1 < (kk : Int) := by omega
        have g5 : w + 1 < kk := by omega
        have g6 : (0 : Int) ≤ (w : Int) + 1 := by omega
        simp (disch := first | omega | (simp; done) | assumption) [wr64, wrU8, wrU64, Nat.add_assoc, -getElem?_pos, List.getElem?_cons_zero, List.getElem?_cons_succ, part_, C, ic6, t0, t1, t2, t3, t9, t11, t12, t13, ← hkke, g1, g2, g3, g4, g5, g6, hLLi]
        refine Try.intro hld ?_
        simp (disch := first | omega | (simp; done) | assumption) [wr64, wrU8, wrU64, Nat.add_assoc, -getElem?_pos, List.getElem?_cons_zero, List.getElem?_cons_succ, t0, t1, t2, t3, t9, t11, t12, t13, g4, g5, g6]
        refine Try.intro hld' ?_
        simp (disch := first | omega | (simp; done) | assumption) [wr64, wrU8, wrU64, Nat.add_assoc, -getElem?_pos, List.getElem?_cons_zero, List.getElem?_cons_succ, t0, t1, t2, t3, t9, t11, t12, t13, tryingB]
        exact hfin _ ⟨by simp [t0], by simp [t1], by simp [t2], by simp [t3]⟩ (by simp [t9]) (by simp [t11]) (by simp [t12]) (by simp) (by simp)
    rintro tm4 H4 h4
    exact iwp_cut (S3 w n A S t sz H) (PartE hw hn hA9 hS9 hP (fun tm' H' h => h) h4) fun tm' H' h => PartF hok hw hn hA9 hS9 hP hE h
def Fz (w n : Nat) (t : Bool) (sz : Int) (H : AH) (tm : Tms) (H' : AH) : Prop := H' = H ∧ Fx w n t sz tm ∧ tm 9 = .str []
theorem Law (words n0 : Int) (t : Bool) (sz : Int) (H : AH) (hP : H.at_ 2 = some powTab) (hE : loadC H 0 0 none = some (rt tErr)) :
    ACall Tryd.prog 6 [.int .i64 words, .int .i64 n0, .bool t, .int .i64 sz] H (fun v H' => v = .bool true ∧ H' = H) := by
  refine acall_enter fits6 (by simp) (by simp) fun hok => ?_
  obtain ⟨w, hwb, hw9⟩ : ∃ k : Nat, bits .and .i64 words 31 = (k : Int) ∧ k < 32 := ⟨(words % 32).toNat, by have := St.mask_i64 5 (by omega) words; simp at this; rw [this]; omega, by omega⟩
  obtain ⟨m, hmb, hm9⟩ : ∃ k : Nat, bits .and .i64 n0 255 = (k : Int) ∧ k < 256 := ⟨(n0 % 256).toNat, by have := St.mask_i64 8 (by omega) n0; simp at this; rw [this]; omega, by omega⟩
  obtain ⟨A, hA, hA9⟩ : ∃ k : Nat, bits .and .i64 sz 65535 = (k : Int) ∧ k < 65536 := ⟨(sz % 65536).toNat, by have := St.mask_i64 16 (by omega) sz; simp at this; rw [this]; omega, by omega⟩
  obtain ⟨S, hS, hS9⟩ : ∃ k : Nat, bits .and .i64 sz 255 = (k : Int) ∧ k < 256 := ⟨(sz % 256).toNat, by have := St.mask_i64 8 (by omega) sz; simp at this; rw [this]; omega, by omega⟩
  obtain ⟨n, hn, hn9⟩ : ∃ n : Nat, (m : Int).tmod 13 = (n : Int) ∧ n ≤ 12 := ⟨m % 13, rfl, by omega⟩
  change IWP Tryd.prog (.seq (part_ [0] C) (.seq (part_ [1, 0] C) (.seq (part_ [1, 1, 0] C) (.seq (part_ [1, 1, 1, 0] C) (part_ [1, 1, 1, 1] C))))) (post H) _ _
  refine iwp_cut3 (Fz w n t sz H) ?_ ?_
  · simp (disch := first | omega | (simp; done) | assumption) [wr64, wrU8, wrU64, Nat.add_assoc, -getElem?_pos, List.getElem?_cons_zero, List.getElem?_cons_succ, part_, C, ic6, hwb, hmb, hn]
    exact ⟨rfl, ⟨by simp, by simp, by simp, by simp⟩, by simp⟩
  rintro tm1 H ⟨rfl, f1, f2⟩
  refine iwp_cut (S1 w n t sz H) (PartA (by omega) (fun tm' H' h => h) f1 f2) ?_
  clear f1 f2
  rintro tm2 H ⟨rfl, ⟨t0, t1, t2, t3⟩, t9⟩
  change IWP Tryd.prog (.seq (part_ [1, 1, 1, 1, 0] C) (.seq (part_ [1, 1, 1, 1, 1, 0] C) (.seq (part_ [1, 1, 1, 1, 1, 1, 0] C) (.seq (part_ [1, 1, 1, 1, 1, 1, 1, 0] C) (.seq (part_ [1, 1, 1, 1, 1, 1, 1, 1, 0] C) (part_ [1, 1, 1, 1, 1, 1, 1, 1, 1] C)))))) (post H) _ _
  generalize hX : ICode.seq (part_ [1, 1, 1, 1, 1, 1, 1, 1, 0] C) (part_ [1, 1, 1, 1, 1, 1, 1, 1, 1] C) = X
  have hol := oo_len w w (by omega) (Nat.le_refl _)
  have hP2 := hok _ _ hP
  have key : ∀ (tm : Tms), Fx w n t sz tm → tm 9 = .str (oo w) → tm 11 = .slice H.next 0 1 1 → tm 12 = .slice (H.next + 1) 0 1 1 → tm 13 = .int .i64 (baseL w t : Int) → IWP Tryd.prog X (post H) tm ((H.new (.cells false 3 [.int .i64 0])).new (.cells false 3 [.int .i64 5])) := by
    intro tm f1 f2 f3 f4 f5
    rw [← hX]
    refine iwp_cut (S2 w n A S n t sz H) (PartD hok (by omega) hn9 hA hA9 hS hS9 (fun tm' H' h => h) ⟨keeps_new hok (keeps_new hok (AH.keepsAll_refl _) (Nat.le_refl _)) (by simp), AH.ok_new (AH.ok_new hok), H.next, H.next + 1, by omega, by omega, by omega, by simp; omega, by simp, by simp; omega, by simp [ats], by simp [szs], f1, f2, by simpa using f3, by simpa using f4, by simpa [longX] using f5⟩) ?_
    intro tm' H' h
    exact Rest hok (by omega) hn9 hA9 hS9 hP hE h
  by_cases h0 : w = 0
  · subst h0
    have hb : baseL 0 t = 12 + (if t then 7 else 0) := by unfold baseL; rw [oo_zero]; simp
    rw [oo_zero] at t9
    cases t
    · simp (disch := first | omega | (simp; done) | assumption) [wr64, wrU8, wrU64, Nat.add_assoc, -getElem?_pos, List.getElem?_cons_zero, List.getElem?_cons_succ, part_, C, ic6, t0, t1, t2, t3, t9]
      exact key _ ⟨by simp [t0], by simp [t1], by simp [t2], by simp [t3]⟩ (by simp [t9, oo_zero]) (by simp) (by simp) (by simp [hb])
    · simp (disch := first | omega | (simp; done) | assumption) [wr64, wrU8, wrU64, Nat.add_assoc, -getElem?_pos, List.getElem?_cons_zero, List.getElem?_cons_succ, part_, C, ic6, t0, t1, t2, t3, t9]
      exact key _ ⟨by simp [t0], by simp [t1], by simp [t2], by simp [t3]⟩ (by simp [t9, oo_zero]) (by simp) (by simp) (by simp [hb])
  · have hne := oo_ne h0
    have hb : (baseL w t : Int) = (oo w).length + 12 + 1 + (if t then 7 else 0) := by unfold baseL; rw [if_neg h0]; split <;> simp <;> omega
    cases t
    · simp (disch := first | omega | (simp; done) | assumption) [wr64, wrU8, wrU64, Nat.add_assoc, -getElem?_pos, List.getElem?_cons_zero, List.getElem?_cons_succ, part_, C, ic6, t0, t1, t2, t3, t9, hne]
      exact key _ ⟨by simp [t0], by simp [t1], by simp [t2], by simp [t3]⟩ (by simp [t9]) (by simp) (by simp) (by simp [hb])
    · simp (disch := first | omega | (simp; done) | assumption) [wr64, wrU8, wrU64, Nat.add_assoc, -getElem?_pos, List.getElem?_cons_zero, List.getElem?_cons_succ, part_, C, ic6, t0, t1, t2, t3, t9, hne]
      exact key _ ⟨by simp [t0], by simp [t1], by simp [t2], by simp [t3]⟩ (by simp [t9]) (by simp) (by simp) (by simp [hb])
theorem LineParts.walk (a0 a1 : Int) (a2 : Bool) (a3 : Int) (W : World) (hsh : W.ShapedOpen Tryd.prog) (hG : ELaid.G W) (_ : (Lit.int .i64 a0).wf = true) (_ : (Lit.int .i64 a1).wf = true) (_ : (Lit.int .i64 a3).wf = true) :
    Calls Tryd.prog 6 #[.int .i64 a0, .int .i64 a1, .bool a2, .int .i64 a3] W fun e W' => e = .returned (.bool true) ∧ Below W.heap.size W W' :=
  ELaid.walk hsh hG (Law a0 a1 a2 a3 _ (ELaid.H1_pow W) (ELaid.H1_err W)) (.cons (.int ..) (.cons (.int ..) (.cons (.bool _) (.cons (.int ..) .nil))))
end Go.Proofs.YtiopaoclcafkcaaDoor.LLaw4

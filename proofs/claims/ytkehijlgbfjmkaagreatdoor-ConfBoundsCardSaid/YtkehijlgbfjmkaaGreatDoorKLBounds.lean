/- ConfBounds. No condition. -/
import Derived.Test.YtkehijlgbfjmkaaGreatDoorKLParses
set_option linter.unusedVariables false
set_option linter.unusedSimpArgs false
set_option maxRecDepth 10000
set_option maxHeartbeats 4000000
namespace Go.Proofs.YtkehijlgbfjmkaaGreatDoor.KW
open Go Go.RowKit Go.Proofs.YtkehijlgbfjmkaaGreatDoor Go.Proofs.YtkehijlgbfjmkaaGreatDoor.Abs Go.Proofs.YtkehijlgbfjmkaaGreatDoor.Ic Go.Proofs.YtkehijlgbfjmkaaGreatDoor.St Go.Proofs.YtkehijlgbfjmkaaGreatDoor.EAs Go.Proofs.YtkehijlgbfjmkaaGreatDoor.EErr
def FlI (c : UInt8) (N : Nat) (H : AH) (kk : Nat) (tm : Tms) (H' : AH) : Prop := H.keepsAll H' ∧ H'.next = H.next + 1 ∧ ∃ i : Nat, kk = N - i ∧ i ≤ N ∧ tm 0 = .int .u8 (c.toNat : Int) ∧ tm 5 = .slice H.next 0 N 1 ∧ tm 10 = .int .i64 (N : Int) ∧ tm 11 = .int .i64 (i : Int) ∧
  H'.at_ H.next = some (.cells false 5 ((List.replicate i c).map byteV ++ List.replicate (N - i) (.int .u8 0)))
theorem FillC (c : UInt8) (N : Nat) (hN : N ≤ 100000) (H : AH) : ACall Tryz.prog 23 [.int .u8 (c.toNat : Int), .int .i64 (N : Int)] H (fun v H' => v = .str (List.replicate N c) ∧ H' = H) := by
  refine acall_enter fits23 (by simp) (by simp) fun hok => ?_
  simp (disch := first | omega | (simp; done) | assumption) [wr64, wrU8, wrU64, Nat.add_assoc, -getElem?_pos, List.getElem?_cons_zero, List.getElem?_cons_succ, ic23, rs23]
  refine Try.guard (by omega) ?_
  simp (disch := first | omega | (simp; done) | assumption) [wr64, wrU8, wrU64, Nat.add_assoc, -getElem?_pos, List.getElem?_cons_zero, List.getElem?_cons_succ, ]
  refine iwp_loop (FlI c N H) N ⟨?_, by simp, 0, rfl, by omega, by simp, by simp, by simp, by simp, by simp⟩ ?_
  · ((repeat (first | exact AH.keepsAll_refl _ | refine keeps_set hok ?_ (by first | omega | (simp; done) | (simp; omega)) | refine keeps_new hok ?_ (by first | omega | (simp; done) | (simp; omega)))); done)
  rintro k tm H1 ⟨hk, hn, i, rfl, hi, t0, t5, t10, t11, hat⟩
  by_cases hlt : i < N
  · have hlt' : (i : Int) < (N : Int) := by omega
    have hset : ((List.replicate i c).map byteV ++ List.replicate (N - i) (AV.int .u8 0)).set i (.int .u8 (c.toNat : Int)) = (List.replicate (i + 1) c).map byteV ++ List.replicate (N - (i + 1)) (.int .u8 0) := by
      have hl : ((List.replicate i c).map byteV).length = i := by simp
      rw [List.set_append_right _ _ (by omega), hl, Nat.sub_self]
      obtain ⟨m, hm⟩ : ∃ m, N - i = m + 1 := ⟨N - i - 1, by omega⟩
      rw [hm, show N - (i + 1) = m by omega, List.replicate_succ, List.set_cons_zero, List.replicate_succ' (n := i)]
      simp [byteV]
    have hll : ((List.replicate i c).map byteV ++ List.replicate (N - i) (AV.int .u8 0)).length = N := by simp; omega
    generalize (List.replicate i c).map byteV ++ List.replicate (N - i) (AV.int .u8 0) = Y at *
    simp (disch := first | omega | (simp; done) | assumption) [wr64, wrU8, wrU64, Nat.add_assoc, -getElem?_pos, List.getElem?_cons_zero, List.getElem?_cons_succ, t0, t5, t10, t11, hlt, hlt', hat, hll, hset]
    refine Try.guard (by omega) ?_
    simp (disch := first | omega | (simp; done) | assumption) [wr64, wrU8, wrU64, Nat.add_assoc, -getElem?_pos, List.getElem?_cons_zero, List.getElem?_cons_succ, t0, t5, t10, t11]
    refine ⟨N - (i + 1), by omega, ?_, by simpa using hn, i + 1, rfl, by omega, by simp [t0], by simp [t5], by simp [t10], by simp, by simp⟩
    ((repeat (first | exact hk | refine keeps_set hok ?_ (by first | omega | (simp; done) | (simp; omega)) | refine keeps_new hok ?_ (by first | omega | (simp; done) | (simp; omega)))); done)
  · have hlt' : ¬ (i : Int) < (N : Int) := by omega
    obtain rfl : i = N := by omega
    rw [Nat.sub_self, List.replicate_zero, List.append_nil] at hat
    have hb := b2s_own (load_own hat (show ((List.replicate i c).map byteV).length = i by simp)) 1
    simp (disch := first | omega | (simp; done) | assumption) [wr64, wrU8, wrU64, Nat.add_assoc, -getElem?_pos, List.getElem?_cons_zero, List.getElem?_cons_succ, t0, t5, t10, t11, hlt', hb]
    exact hk
def zer : List UInt8 := [48, 48, 48, 48, 48, 48, 48, 48, 48, 48, 48, 48, 48, 48, 48, 48]
theorem ZeroC (H : AH) : ACall Tryz.prog 22 [] H (fun v H' => v = .str zer ∧ H' = H) := by
  refine acall_enter fits22 (by simp) (by simp) fun hok => ?_
  simp (disch := first | omega | (simp; done) | assumption) [wr64, wrU8, wrU64, Nat.add_assoc, -getElem?_pos, List.getElem?_cons_zero, List.getElem?_cons_succ, ic22, rs22, zer]
  ((repeat (first | exact AH.keepsAll_refl _ | refine keeps_set hok ?_ (by first | omega | (simp; done) | (simp; omega)) | refine keeps_new hok ?_ (by first | omega | (simp; done) | (simp; omega)))); done)
def bnE (V O X : Nat) : En := ⟨List.replicate V 55, [107], zer, List.replicate X ([120], zer), List.replicate O 113⟩
theorem bn_ver (V : Nat) (h : 1 ≤ V) : verOk (List.replicate V 55) = decide (V ≤ 40) := by
  have ha : (List.replicate V (55 : UInt8)).all (inB 33 126) = true := by
    rw [List.all_eq_true]
    intro c hc
    rw [List.eq_of_mem_replicate hc]
    decide
  unfold verOk
  rw [ha, List.length_replicate, decide_eq_true h]
  simp
theorem bn_op (O : Nat) (h : 1 ≤ O) : optOk (List.replicate O 113) = decide (O ≤ 200) := by
  have ha : (List.replicate O (113 : UInt8)).all (inB 32 126) = true := by
    rw [List.all_eq_true]
    intro c hc
    rw [List.eq_of_mem_replicate hc]
    decide
  have hh : (List.replicate O (113 : UInt8)).head? ≠ some 32 := fun e => by
    have := List.mem_of_mem_head? e
    have := List.eq_of_mem_replicate this
    revert this; decide
  have hl : (List.replicate O (113 : UInt8)).getLast? ≠ some 32 := fun e => by
    have := List.mem_of_mem_getLast? e
    have := List.eq_of_mem_replicate this
    revert this; decide
  unfold optOk
  rw [ha, List.length_replicate, decide_eq_false hh, decide_eq_false hl]
  simp
theorem bn_ok (V O X : Nat) (hV : 1 ≤ V) (hO : 1 ≤ O) : okE (bnE V O X) = (decide (V ≤ 40) && (decide (O ≤ 200) && decide (X ≤ 8))) := by
  have hx : (List.replicate X (([120], zer) : Blb)).all bOk = true := by
    rw [List.all_eq_true]
    intro c hc
    rw [List.eq_of_mem_replicate hc]
    decide +kernel
  have hk : bOk ([107], zer) = true := by decide +kernel
  unfold okE bnE
  simp only [bn_ver V hV, bn_op O hO, hx, hk, List.length_replicate, Bool.and_true]
  cases decide (V ≤ 40) <;> cases decide (O ≤ 200) <;> cases decide (X ≤ 8) <;> rfl
def bnS : List UInt8 := [118, 101, 114, 115, 105, 111, 110, 32, 49, 10, 107, 101, 114, 110, 101, 108, 32, 107, 32, 48, 48, 48, 48, 48, 48, 48, 48, 48, 48, 48, 48, 48, 48, 48, 48, 10, 35]
theorem pcs_one {l : List UInt8} (h : (10 : UInt8) ∉ l) : pcs l = [l] := by
  induction l with
  | nil => rfl
  | cons c l ih =>
    have hc : c ≠ 10 := fun e => h (by simp [e])
    rw [pcs, if_neg hc, ih (fun e => h (by simp [e]))]
theorem bn_parse (m : Nat) : (parseS (bnS ++ List.replicate m 45)).1 = (if 2000 < 37 + m then 2 else 0) ∧ (parseS (bnS ++ List.replicate m 45)).2.1 = 0 := by
  have hl : (bnS ++ List.replicate m 45).length = 37 + m := by rw [List.length_append, List.length_replicate]; rfl
  unfold parseS
  rw [hl]
  by_cases h : 2000 < 37 + m
  · rw [if_pos h, if_pos h]
    exact ⟨rfl, rfl⟩
  · rw [if_neg h, if_neg h]
    have hm : (10 : UInt8) ∉ (35 :: List.replicate m 45 : List UInt8) := by
      intro hc
      rcases List.mem_cons.1 hc with hc | hc
      · revert hc; decide
      · have := List.eq_of_mem_replicate hc
        revert this; decide
    have e : bnS ++ List.replicate m 45 = (wVer ++ 32 :: [49]) ++ 10 :: ((wKer ++ 32 :: ([107] ++ 32 :: zer)) ++ 10 :: (35 :: List.replicate m 45)) := by simp [bnS, wVer, wKer, zer]
    rw [e, pcs_line (by decide), pcs_line (by decide), pcs_one hm, parseL, if_neg (by decide), lineE_ver rfl (by decide +kernel)]
    simp only []
    rw [parseL, if_neg (by decide), lineE_ker (p := ([107], zer)) rfl (by decide +kernel)]
    simp only []
    rw [parseL, if_pos (by simp [skipL]), parseL]
    simp [e0]
abbrev BnC : ICode := ic9
abbrev BnQ (H : AH) : IPost := fnPost rs9 fun v H' => v = .bool true ∧ H.keepsAll H'
def BnM (V O X : Nat) (lg : Int) (H : AH) (tm : Tms) (H' : AH) : Prop := H.keepsAll H' ∧ H.next < H'.next ∧ IsE (H.next + 1) H' H.next (bnE V O X) ∧ tm 3 = .int .i64 lg ∧ tm 9 = .func (.func 23) [] [] ∧ tm 10 = .ptr H.next 0 ∧ tm 12 = .bool (okE (bnE V O X))
def BnI (V O X : Nat) (lg : Int) (H : AH) (kk : Nat) (tm : Tms) (H' : AH) : Prop := H.keepsAll H' ∧ H.next < H'.next ∧ ∃ i : Nat, kk = X - i ∧ i ≤ X ∧ IsE (H.next + 1) H' H.next (bnE V O i) ∧ tm 0 = .int .i64 (V : Int) ∧ tm 1 = .int .i64 (O : Int) ∧ tm 2 = .int .i64 (X : Int) ∧ tm 3 = .int .i64 lg ∧
  tm 9 = .func (.func 23) [] [] ∧ tm 10 = .ptr H.next 0 ∧ tm 11 = .int .i64 (i : Int)
theorem Bn1 {C : ICode} (hC : C = BnC) {v o x lg : Int} {H : AH} (hok : H.ok)
    (hX : ∀ V O X tm H', 1 ≤ V → V ≤ 45 → 1 ≤ O → O ≤ 211 → X ≤ 15 → BnM V O X lg H tm H' → IWP Tryz.prog (part_ [1, 1, 1, 1, 1, 1] C) (BnQ H) tm H') : IWP Tryz.prog C (BnQ H) (tm0 [.int .i64 v, .int .i64 o, .int .i64 x, .int .i64 lg]) H := by
  obtain ⟨v0, hv, hvl⟩ := mask_small 4 (by omega) v
  obtain ⟨o0, ho, hol⟩ := mask_small 5 (by omega) o
  obtain ⟨X, hx, hxl⟩ := mask_small 4 (by omega) x
  have hv' : bits .and .i64 v 15 = (v0 : Int) := hv
  have ho' : bits .and .i64 o 31 = (o0 : Int) := ho
  have hx' : bits .and .i64 x 15 = (X : Int) := hx
  clear hv ho hx
  obtain ⟨V, hV⟩ : ∃ V : Nat, V = v0 + 30 := ⟨_, rfl⟩
  obtain ⟨O, hO⟩ : ∃ O : Nat, O = o0 + 180 := ⟨_, rfl⟩
  have eV : (v0 : Int) + 30 = (V : Int) := by omega
  have eO : (o0 : Int) + 180 = (O : Int) := by omega
  have bV : V ≤ 45 := by omega
  have bO : O ≤ 211 := by omega
  have bX : X ≤ 15 := by omega
  have bV1 : 1 ≤ V := by omega
  have bO1 : 1 ≤ O := by omega
  clear hV hO
  have hcut : C = (.seq (part_ [0] BnC) (.seq (part_ [1, 0] BnC) (.seq (part_ [1, 1, 0] BnC) (.seq (part_ [1, 1, 1, 0] BnC) (.seq (part_ [1, 1, 1, 1, 0] BnC) (.seq (part_ [1, 1, 1, 1, 1, 0] BnC) (part_ [1, 1, 1, 1, 1, 1] BnC))))))) := by rw [hC]; kernel_rfl
  have hX' := hX V O X
  rw [show part_ [1, 1, 1, 1, 1, 1] C = part_ [1, 1, 1, 1, 1, 1] BnC by rw [hC]] at hX'
  rw [hcut]
  clear hcut hC hX
  generalize part_ [1, 1, 1, 1, 1, 1] BnC = Y at *
  have hF1 : ∀ H, ACall Tryz.prog 23 [.int .u8 55, .int .i64 (V : Int)] H (fun v H' => v = .str (List.replicate V 55) ∧ H' = H) := FillC 55 V (by omega)
  have hF2 : ∀ H, ACall Tryz.prog 23 [.int .u8 113, .int .i64 (O : Int)] H (fun v H' => v = .str (List.replicate O 113) ∧ H' = H) := FillC 113 O (by omega)
  simp (disch := first | omega | (simp; done) | assumption) [wr64, wrU8, wrU64, Nat.add_assoc, -getElem?_pos, List.getElem?_cons_zero, List.getElem?_cons_succ, part_, BnC, ic9, hv', ho', hx', eV, eO]
  refine CallW.val (hF1 _) ?_
  simp (disch := first | omega | (simp; done) | assumption) [wr64, wrU8, wrU64, Nat.add_assoc, -getElem?_pos, List.getElem?_cons_zero, List.getElem?_cons_succ, eV, eO]
  refine CallW.val (ZeroC _) ?_
  simp (disch := first | omega | (simp; done) | assumption) [wr64, wrU8, wrU64, Nat.add_assoc, -getElem?_pos, List.getElem?_cons_zero, List.getElem?_cons_succ, eV, eO]
  refine CallW.val (hF2 _) ?_
  simp (disch := first | omega | (simp; done) | assumption) [wr64, wrU8, wrU64, Nat.add_assoc, -getElem?_pos, List.getElem?_cons_zero, List.getElem?_cons_succ, eV, eO]
  have hkH : H.keepsAll ((H.new (.cells false tEn [.str [], .str [], .str [], .snil, .str []])).set H.next (some (.cells false tEn [.str (List.replicate V 55), .str [107], .str zer, .snil, .str (List.replicate O 113)]))) := fun y o h => by have := hok _ _ h; rw [AH.set_ne _ _ (by omega), AH.new_ne _ _ (by omega)]; exact h
  refine iwp_loop (BnI V O X lg H) X ⟨hkH, by simp, 0, rfl, by omega, ⟨.snil, by simp [entC, bnE], .inl ⟨rfl, rfl⟩⟩, by simp, by simp, by simp, by simp, by simp, by simp, by simp⟩ ?_
  rintro kk tm H1 ⟨hk1, hn1, i, rfl, hi, ⟨vx, hat, hout⟩, t0, t1, t2, t3, t9, t10, t11⟩
  obtain ⟨hxl, hv1, hv2⟩ := sf_len (outF_sf hout)
  by_cases hlt : i < X
  · have hlt' : (i : Int) < (X : Int) := by omega
    obtain ⟨v', H', a1, o1, n1, k1⟩ := appendOutF (bytes := 32) (x := blobC ([120], zer)) hout (allB _) (by omega) (by omega) rfl rfl (by simp [rowsB, bnE]; omega) (by simp [rowsB, bnE]; omega)
    have hrow : rowsB (bnE V O i).ex ++ [blobC ([120], zer)] = rowsB (bnE V O (i + 1)).ex := by
      simp [rowsB, bnE, List.replicate_succ']
    rw [hrow] at o1
    obtain ⟨hv1', hv2'⟩ := sf_one (outF_sf o1)
    have hat2 := k1 _ _ (by omega) hat
    have ho3 := fun o => outF_set o1 (show H.next < H.next + 1 by omega) o
    simp only [blobC] at a1
    simp only [entC, bnE] at hat hat2
    simp (disch := first | omega | (simp; done) | assumption) [wr64, wrU8, wrU64, Nat.add_assoc, -getElem?_pos, List.getElem?_cons_zero, List.getElem?_cons_succ, t0, t1, t2, t3, t9, t10, t11, hlt, hlt', hat, hv1, hv2]
    refine CallW.val (ZeroC _) ?_
    simp (disch := first | omega | (simp; done) | assumption) [wr64, wrU8, wrU64, Nat.add_assoc, -getElem?_pos, List.getElem?_cons_zero, List.getElem?_cons_succ, t0, t1, t2, t3, t9, t10, t11, hlt, hlt', hat, hv1, hv2]
    refine Try.intro a1 ?_
    simp (disch := first | omega | (simp; done) | assumption) [wr64, wrU8, wrU64, Nat.add_assoc, -getElem?_pos, List.getElem?_cons_zero, List.getElem?_cons_succ, t0, t1, t2, t3, t9, t10, t11, hlt, hlt', hat2, hv1', hv2']
    refine ⟨X - (i + 1), by omega, fun y o h => ?_, by simp; omega, i + 1, rfl, by omega, ⟨v', by simp [entC, bnE], ho3 _⟩, by simp [t0], by simp [t1], by simp [t2], by simp [t3], by simp [t9], by simp [t10], by simp⟩
    have := hok _ _ h
    rw [AH.set_ne _ _ (by omega)]
    exact k1 _ _ (by omega) (hk1 _ _ h)
  · have hlt' : ¬ (i : Int) < (X : Int) := by omega
    obtain rfl : i = X := by omega
    have hG := bn_ok V O i bV1 bO1
    have hI : IsE (H.next + 1) H1 H.next (bnE V O i) := ⟨vx, hat, hout⟩
    by_cases c1 : V ≤ 40
    case neg =>
      have c1' : ¬ (V : Int) ≤ 40 := by omega
      rw [decide_eq_false c1, Bool.false_and] at hG
      simp (disch := first | omega | (simp; done) | assumption) [wr64, wrU8, wrU64, Nat.add_assoc, -getElem?_pos, List.getElem?_cons_zero, List.getElem?_cons_succ, t0, t1, t2, t3, t9, t10, t11, hlt', c1', c1]
      exact hX' _ _ bV1 bV bO1 bO bX ⟨hk1, hn1, hI, by simp [t3], by simp [t9], by simp [t10], by simp [hG]⟩
    have c1' : (V : Int) ≤ 40 := by omega
    rw [decide_eq_true c1, Bool.true_and] at hG
    by_cases c2 : O ≤ 200
    case neg =>
      have c2' : ¬ (O : Int) ≤ 200 := by omega
      rw [decide_eq_false c2, Bool.false_and] at hG
      simp (disch := first | omega | (simp; done) | assumption) [wr64, wrU8, wrU64, Nat.add_assoc, -getElem?_pos, List.getElem?_cons_zero, List.getElem?_cons_succ, t0, t1, t2, t3, t9, t10, t11, hlt', c1', c1, c2, c2']
      exact hX' _ _ bV1 bV bO1 bO bX ⟨hk1, hn1, hI, by simp [t3], by simp [t9], by simp [t10], by simp [hG]⟩
    have c2' : (O : Int) ≤ 200 := by omega
    rw [decide_eq_true c2, Bool.true_and] at hG
    by_cases c3 : i ≤ 8
    case neg =>
      have c3' : ¬ (i : Int) ≤ 8 := by omega
      rw [decide_eq_false c3] at hG
      simp (disch := first | omega | (simp; done) | assumption) [wr64, wrU8, wrU64, Nat.add_assoc, -getElem?_pos, List.getElem?_cons_zero, List.getElem?_cons_succ, t0, t1, t2, t3, t9, t10, t11, hlt', c1', c1, c2, c2', c3, c3']
      exact hX' _ _ bV1 bV bO1 bO bX ⟨hk1, hn1, hI, by simp [t3], by simp [t9], by simp [t10], by simp [hG]⟩
    have c3' : (i : Int) ≤ 8 := by omega
    rw [decide_eq_true c3] at hG
    simp (disch := first | omega | (simp; done) | assumption) [wr64, wrU8, wrU64, Nat.add_assoc, -getElem?_pos, List.getElem?_cons_zero, List.getElem?_cons_succ, t0, t1, t2, t3, t9, t10, t11, hlt', c1', c1, c2, c2', c3, c3']
    exact hX' _ _ bV1 bV bO1 bO bX ⟨hk1, hn1, hI, by simp [t3], by simp [t9], by simp [t10], by simp [hG]⟩
theorem keeps_tr {A B C : AH} (h : A.keepsAll B) (h' : B.keepsAll C) : A.keepsAll C := fun y o q => h' _ _ (h _ _ q)
theorem bn_sz {V O X : Nat} (bV : V ≤ 45) (bO : O ≤ 211) (bX : X ≤ 15) : SzE (bnE V O X) := by
  refine ⟨by simp [bnE]; omega, ⟨by simp [bnE], by simp [bnE, zer]⟩, by simp [bnE]; omega, fun p hp => ?_, by simp [bnE]; omega⟩
  rw [List.eq_of_mem_replicate hp]
  exact ⟨by simp, by simp [zer]⟩
theorem Bn2 {C : ICode} (hC : C = BnC) {V O X : Nat} {lg : Int} {H H1 : AH} {tm : Tms} (hok : H.ok) (hT : TOk H) (bV : V ≤ 45) (bO : O ≤ 211) (bX : X ≤ 15) (hM : BnM V O X lg H tm H1) :
    IWP Tryz.prog (part_ [1, 1, 1, 1, 1, 1] C) (BnQ H) tm H1 := by
  obtain ⟨hk1, hn1, ⟨vx, hat, hout⟩, t3, t9, t10, t12⟩ := hM
  obtain ⟨hv1, hv2⟩ := sf_one (outF_sf hout)
  have hsz := bn_sz bV bO bX
  obtain ⟨n0, hl, hll⟩ := mask_small 9 (by omega) lg
  have hl' : bits .and .i64 lg 511 = (n0 : Int) := hl
  obtain ⟨m, hm⟩ : ∃ m : Nat, m = n0 + 1663 := ⟨_, rfl⟩
  obtain ⟨N, hN⟩ : ∃ N : Nat, N = n0 + 1700 := ⟨_, rfl⟩
  have eN : (n0 : Int) + 1700 = (N : Int) := by omega
  have em : (N : Int) - 37 = (m : Int) := by omega
  have hmN : 37 + m = N := by omega
  have bN : N ≤ 2300 := by omega
  clear hl hm hN
  have hPr := PrintC (e := bnE V O X) (outF_sf hout) hsz
  unfold PrintP at hPr
  have hZ := fun H => ZeroC H
  simp only [zer] at hZ
  have hF : ∀ H, ACall Tryz.prog 23 [.int .u8 45, .int .i64 (m : Int)] H (fun v H' => v = .str (List.replicate m 45) ∧ H' = H) := FillC 45 m (by omega)
  obtain ⟨p1, p2⟩ := bn_parse m
  rw [hmN] at p1
  generalize bnE V O X = e at *
  simp only [entC] at hat hPr
  rw [hC]
  simp (disch := first | omega | (simp; done) | assumption) [wr64, wrU8, wrU64, Nat.add_assoc, -getElem?_pos, List.getElem?_cons_zero, List.getElem?_cons_succ, part_, BnC, ic9, rs9, t10, hat]
  refine CallW.okof hPr ?_
  rintro v H2 ⟨hk2, hn2, err, rfl, hq⟩ hok2
  try simp only [newO_none] at hk2 hn2 hq
  have hat2 := hk2 _ _ hat
  have hk02 := keeps_tr hk1 hk2
  obtain ⟨he1, he2⟩ := errq_one hq
  have hO := OkC (e := e) ((outF_sf hout).keeps hk2) hsz
  simp only [entC] at hO
  have hP2 := Parse (bnS ++ List.replicate m 45) (by simp [bnS]; omega) H2 (hT.keeps hk02).pow
  unfold ParseP at hP2
  have hP2 : ACall Tryz.prog 16 [.str (bnS ++ List.replicate m 45)] H2 (fun v H' => H2.keepsAll H' ∧ H2.next ≤ H'.next ∧ ∃ (e' : En) (vx err : AV), v = .tuple [.agg (entC e' vx), err] ∧ OutF H2.next H' tB 2 vx (rowsB e'.ex) ∧ ErrQ H' err (if 2000 < N then 2 else 0) 0) := by
    refine hP2.mono ?_
    rintro v H' ⟨a1, a2, vy, err, a3, a4, a5⟩
    rw [p1, p2] at a5
    exact ⟨a1, a2, _, vy, err, a3, a4, a5⟩
  simp only [bnS, List.cons_append, List.nil_append] at hP2
  have tailB : ∀ (want : Int), want = (if 2000 < N then 2 else 0) → isQ (if 2000 < N then 2 else 0) 0 [] want = true := by
    rintro _ rfl
    have := isQ_self (if 2000 < N then 2 else 0) 0
    rwa [show nmQ (if 2000 < N then 2 else 0) 0 = [] by unfold nmQ; rw [if_neg (by split <;> omega)]] at this
  cases hg : okE e
  · rw [hg] at hq hO t12
    have herr : ∃ g : Fl, err = .iface EErr.tF (.ptr g.b 0) := by
      unfold ErrQ at hq
      rw [if_neg (by simp)] at hq
      obtain ⟨g, _, _, h, _⟩ := hq
      exact ⟨g, h⟩
    obtain ⟨g, rfl⟩ := herr
    simp (disch := first | omega | (simp; done) | assumption) [wr64, wrU8, wrU64, Nat.add_assoc, -getElem?_pos, List.getElem?_cons_zero, List.getElem?_cons_succ, t3, t9, t10, t12, hat2, hv1, hv2]
    refine CallW.val hO ?_
    simp (disch := first | omega | (simp; done) | assumption) [wr64, wrU8, wrU64, Nat.add_assoc, -getElem?_pos, List.getElem?_cons_zero, List.getElem?_cons_succ, t3, t9, t10, t12, hat2, hv1, hv2]
    refine CallW.val (hZ _) ?_
    simp (disch := first | omega | (simp; done) | assumption) [wr64, wrU8, wrU64, Nat.add_assoc, -getElem?_pos, List.getElem?_cons_zero, List.getElem?_cons_succ, t3, t9, t10, t12, hl', eN, em]
    refine CallW.val (hF _) ?_
    simp (disch := first | omega | (simp; done) | assumption) [wr64, wrU8, wrU64, Nat.add_assoc, -getElem?_pos, List.getElem?_cons_zero, List.getElem?_cons_succ, t3, t9, t10, t12, hl', eN, em]
    refine Try.guard (by omega) ?_
    simp (disch := first | omega | (simp; done) | assumption) [wr64, wrU8, wrU64, Nat.add_assoc, -getElem?_pos, List.getElem?_cons_zero, List.getElem?_cons_succ, t3, t9, t10, t12, hl', eN, em]
    refine CallW.okof hP2 ?_
    rintro v H3 ⟨hk3, hn3, e', vy, err3, rfl, hoy, hq3⟩ hok3
    obtain ⟨hw1, hw2⟩ := sf_one (outF_sf hoy)
    obtain ⟨hz1, hz2⟩ := errq_one hq3
    have hk4 := NB_keeps hok3 e' vy
    have hk04 := keeps_tr (keeps_tr hk02 hk3) hk4
    have hA4 := AwakeC (hT.keeps hk04)
    have hIs := fun want hw => (tailB want hw) ▸ IsQ (hT.keeps hk04) (errq_keeps hq3 hk4) [] want
    simp only [confB] at hIs
    simp only [entC]
    by_cases h2 : 2000 < N
    · have h2' : (2000 : Int) < (N : Int) := by omega
      have hI2 := hIs 2 (by rw [if_pos h2])
      simp (disch := first | omega | (simp; done) | assumption) [wr64, wrU8, wrU64, Nat.add_assoc, -getElem?_pos, List.getElem?_cons_zero, List.getElem?_cons_succ, t3, t9, t10, t12, hw1, hw2, hz1, hz2, h2, h2']
      refine CallW.val hI2 ?_
      simp (disch := first | omega | (simp; done) | assumption) [wr64, wrU8, wrU64, Nat.add_assoc, -getElem?_pos, List.getElem?_cons_zero, List.getElem?_cons_succ, ]
      refine CallW.val hA4 ?_
      simp (disch := first | omega | (simp; done) | assumption) [wr64, wrU8, wrU64, Nat.add_assoc, -getElem?_pos, List.getElem?_cons_zero, List.getElem?_cons_succ, rs9]
      exact hk04
    · have h2' : ¬ (2000 : Int) < (N : Int) := by omega
      have hI2 := hIs 0 (by rw [if_neg h2])
      simp (disch := first | omega | (simp; done) | assumption) [wr64, wrU8, wrU64, Nat.add_assoc, -getElem?_pos, List.getElem?_cons_zero, List.getElem?_cons_succ, t3, t9, t10, t12, hw1, hw2, hz1, hz2, h2, h2']
      refine CallW.val hI2 ?_
      simp (disch := first | omega | (simp; done) | assumption) [wr64, wrU8, wrU64, Nat.add_assoc, -getElem?_pos, List.getElem?_cons_zero, List.getElem?_cons_succ, ]
      refine CallW.val hA4 ?_
      simp (disch := first | omega | (simp; done) | assumption) [wr64, wrU8, wrU64, Nat.add_assoc, -getElem?_pos, List.getElem?_cons_zero, List.getElem?_cons_succ, rs9]
      exact hk04
  · rw [hg] at hq hO t12
    obtain rfl := errq_nil hq (by simp)
    simp (disch := first | omega | (simp; done) | assumption) [wr64, wrU8, wrU64, Nat.add_assoc, -getElem?_pos, List.getElem?_cons_zero, List.getElem?_cons_succ, t3, t9, t10, t12, hat2, hv1, hv2]
    refine CallW.val hO ?_
    simp (disch := first | omega | (simp; done) | assumption) [wr64, wrU8, wrU64, Nat.add_assoc, -getElem?_pos, List.getElem?_cons_zero, List.getElem?_cons_succ, t3, t9, t10, t12, hat2, hv1, hv2]
    refine CallW.val (hZ _) ?_
    simp (disch := first | omega | (simp; done) | assumption) [wr64, wrU8, wrU64, Nat.add_assoc, -getElem?_pos, List.getElem?_cons_zero, List.getElem?_cons_succ, t3, t9, t10, t12, hl', eN, em]
    refine CallW.val (hF _) ?_
    simp (disch := first | omega | (simp; done) | assumption) [wr64, wrU8, wrU64, Nat.add_assoc, -getElem?_pos, List.getElem?_cons_zero, List.getElem?_cons_succ, t3, t9, t10, t12, hl', eN, em]
    refine Try.guard (by omega) ?_
    simp (disch := first | omega | (simp; done) | assumption) [wr64, wrU8, wrU64, Nat.add_assoc, -getElem?_pos, List.getElem?_cons_zero, List.getElem?_cons_succ, t3, t9, t10, t12, hl', eN, em]
    refine CallW.okof hP2 ?_
    rintro v H3 ⟨hk3, hn3, e', vy, err3, rfl, hoy, hq3⟩ hok3
    obtain ⟨hw1, hw2⟩ := sf_one (outF_sf hoy)
    obtain ⟨hz1, hz2⟩ := errq_one hq3
    have hk4 := NB_keeps hok3 e' vy
    have hk04 := keeps_tr (keeps_tr hk02 hk3) hk4
    have hA4 := AwakeC (hT.keeps hk04)
    have hIs := fun want hw => (tailB want hw) ▸ IsQ (hT.keeps hk04) (errq_keeps hq3 hk4) [] want
    simp only [confB] at hIs
    simp only [entC]
    by_cases h2 : 2000 < N
    · have h2' : (2000 : Int) < (N : Int) := by omega
      have hI2 := hIs 2 (by rw [if_pos h2])
      simp (disch := first | omega | (simp; done) | assumption) [wr64, wrU8, wrU64, Nat.add_assoc, -getElem?_pos, List.getElem?_cons_zero, List.getElem?_cons_succ, t3, t9, t10, t12, hw1, hw2, hz1, hz2, h2, h2']
      refine CallW.val hI2 ?_
      simp (disch := first | omega | (simp; done) | assumption) [wr64, wrU8, wrU64, Nat.add_assoc, -getElem?_pos, List.getElem?_cons_zero, List.getElem?_cons_succ, ]
      refine CallW.val hA4 ?_
      simp (disch := first | omega | (simp; done) | assumption) [wr64, wrU8, wrU64, Nat.add_assoc, -getElem?_pos, List.getElem?_cons_zero, List.getElem?_cons_succ, rs9]
      exact hk04
    · have h2' : ¬ (2000 : Int) < (N : Int) := by omega
      have hI2 := hIs 0 (by rw [if_neg h2])
      simp (disch := first | omega | (simp; done) | assumption) [wr64, wrU8, wrU64, Nat.add_assoc, -getElem?_pos, List.getElem?_cons_zero, List.getElem?_cons_succ, t3, t9, t10, t12, hw1, hw2, hz1, hz2, h2, h2']
      refine CallW.val hI2 ?_
      simp (disch := first | omega | (simp; done) | assumption) [wr64, wrU8, wrU64, Nat.add_assoc, -getElem?_pos, List.getElem?_cons_zero, List.getElem?_cons_succ, ]
      refine CallW.val hA4 ?_
      simp (disch := first | omega | (simp; done) | assumption) [wr64, wrU8, wrU64, Nat.add_assoc, -getElem?_pos, List.getElem?_cons_zero, List.getElem?_cons_succ, rs9]
      exact hk04
theorem BoundsC {C : ICode} (hC : C = BnC) {fn : Func} (hF : Fits Tryz.prog 9 fn C rs9) (hnt : 4 ≤ fn.ntmps) {v o x lg : Int} {H : AH} (hT : TOk H) :
    ACall Tryz.prog 9 [.int .i64 v, .int .i64 o, .int .i64 x, .int .i64 lg] H (fun v H' => v = .bool true ∧ H' = H) :=
  acall_enter hF hnt (by simp) fun hok => Bn1 hC hok fun V O X tm H' h1 h2 h3 h4 h5 hM => Bn2 hC hok hT h2 h4 h5 hM
theorem ConfBounds.walk (a0 a1 a2 a3 : Int) (W : World) (hsh : W.ShapedOpen Tryz.prog) (hG : ELaid.G W) (_ : (Lit.int .i64 a0).wf = true) (_ : (Lit.int .i64 a1).wf = true) (_ : (Lit.int .i64 a2).wf = true) (_ : (Lit.int .i64 a3).wf = true) :
    Calls Tryz.prog 9 #[.int .i64 a0, .int .i64 a1, .int .i64 a2, .int .i64 a3] W fun e W' => e = .returned (.bool true) ∧ Below W.heap.size W W' :=
  ELaid.walk hsh hG (BoundsC rfl fits9 (by simp) ⟨ELaid.H1_err W, ELaid.H1_pow W⟩) (.cons (.int ..) (.cons (.int ..) (.cons (.int ..) (.cons (.int ..) .nil))))
end Go.Proofs.YtkehijlgbfjmkaaGreatDoor.KW

/- ConfFaults: its walk. No condition. -/
import Derived.Test.YtkehijlgbfjmkaaGreatDoorKLFaults
set_option linter.unusedVariables false
set_option linter.unusedSimpArgs false
set_option maxRecDepth 100000
set_option maxHeartbeats 4000000
namespace Go.Proofs.YtkehijlgbfjmkaaGreatDoor.KW
open Go Go.RowKit Go.Proofs.YtkehijlgbfjmkaaGreatDoor Go.Proofs.YtkehijlgbfjmkaaGreatDoor.Abs Go.Proofs.YtkehijlgbfjmkaaGreatDoor.Ic Go.Proofs.YtkehijlgbfjmkaaGreatDoor.St Go.Proofs.YtkehijlgbfjmkaaGreatDoor.EAs Go.Proofs.YtkehijlgbfjmkaaGreatDoor.EErr
def bdB (b : Nat) : List UInt8 := fbad.getD b []
abbrev FtC : ICode := ic8
abbrev FtQ (H : AH) : IPost := fnPost rs8 fun v H' => v = .bool true ∧ H.keepsAll H'
def FtM (n b a : Nat) (kind : Int) (H : AH) (tm : Tms) (H' : AH) : Prop := H.keepsAll H' ∧ H.next ≤ H'.next ∧ OutF H.next H' tS 1 (tm 7) (rowsT (fls n)) ∧ tm 1 = .int .i64 (a : Int) ∧ tm 2 = .int .i64 kind ∧ tm 10 = .str (bdB b)
def FtA (n : Nat) (at_ kind : Int) (H : AH) (kk : Nat) (tm : Tms) (H' : AH) : Prop := H.keepsAll H' ∧ H.next ≤ H'.next ∧ ∃ i : Nat, kk = n - i ∧ i ≤ n ∧ OutF H.next H' tS 1 (tm 7) (rowsT (fls i)) ∧ tm 0 = .int .i64 (n : Int) ∧ tm 1 = .int .i64 at_ ∧ tm 2 = .int .i64 kind ∧ tm 8 = .int .i64 (i : Int)
theorem new_keeps' {H : AH} (hok : H.ok) (o : AObj) : H.keepsAll (H.new o) := fun y q h => by have := hok _ _ h; rw [AH.new_ne _ _ (by omega)]; exact h
theorem Ft1 {C : ICode} (hC : C = FtC) {n0 at_ kind : Int} {H : AH} (hok : H.ok)
    (hX : ∀ n b a tm H', n < 8 → b < 10 → a ≤ n + 3 → FtM n b a kind H tm H' → IWP Tryz.prog (part_ [1, 1, 1, 1, 1, 1, 1] C) (FtQ H) tm H') : IWP Tryz.prog C (FtQ H) (tm0 [.int .i64 n0, .int .i64 at_, .int .i64 kind]) H := by
  obtain ⟨n, hn, hn8⟩ := mask_small 3 (by omega) n0
  have hn' : bits .and .i64 n0 7 = (n : Int) := hn
  obtain ⟨b, hb, hb10⟩ := mask_mod kind 10 (by omega)
  have hb' : (bits .and .i64 kind 255).tmod 10 = (b : Int) := hb
  obtain ⟨a, ha, han⟩ := mask_mod at_ (n + 4) (by omega)
  clear hn hb
  have hn8 : n < 8 := hn8
  have hcut : C = (.seq (part_ [0] FtC) (.seq (part_ [1, 0] FtC) (.seq (part_ [1, 1, 0] FtC) (.seq (part_ [1, 1, 1, 0] FtC) (.seq (part_ [1, 1, 1, 1, 0] FtC) (.seq (part_ [1, 1, 1, 1, 1, 0] FtC) (.seq (part_ [1, 1, 1, 1, 1, 1, 0] FtC) (part_ [1, 1, 1, 1, 1, 1, 1] FtC)))))))) := by rw [hC]; kernel_rfl
  have hX' := hX n b a
  rw [show part_ [1, 1, 1, 1, 1, 1, 1] C = part_ [1, 1, 1, 1, 1, 1, 1] FtC by rw [hC]] at hX'
  rw [hcut]
  clear hcut hC hX
  generalize part_ [1, 1, 1, 1, 1, 1, 1] FtC = Y at *
  have hZ : ∀ H, ACall Tryz.prog 22 [] H (fun v H' => v = .str fzer ∧ H' = H) := fun H => by
    refine acall_enter fits22 (by simp) (by simp) fun hok => ?_
    simp (disch := first | omega | (simp; done) | assumption) [wr64, wrU8, wrU64, Nat.add_assoc, -getElem?_pos, List.getElem?_cons_zero, List.getElem?_cons_succ, ic22, rs22, fzer]
    ((repeat (first | exact AH.keepsAll_refl _ | refine keeps_set hok ?_ (by first | omega | (simp; done) | (simp; omega)) | refine keeps_new hok ?_ (by first | omega | (simp; done) | (simp; omega)))); done)
  have hzl : fzer.length = 16 := rfl
  simp (disch := first | omega | (simp; done) | assumption) [wr64, wrU8, wrU64, Nat.add_assoc, -getElem?_pos, List.getElem?_cons_zero, List.getElem?_cons_succ, part_, FtC, ic8, hn']
  refine CallW.val (hZ _) ?_
  simp (disch := first | omega | (simp; done) | assumption) [wr64, wrU8, wrU64, Nat.add_assoc, -getElem?_pos, List.getElem?_cons_zero, List.getElem?_cons_succ, hzl]
  have h3 : fls 0 = [fl1, fl2, fl3] := rfl
  refine iwp_loop (FtA n at_ kind H) n ⟨new_keeps' hok _, by simp, 0, rfl, by omega, .inr ⟨H.next, by simp [h3, rowsT], by simp [h3, rowsT], by simp [h3, rowsT, fl1, fl2, fl3], by omega, by simp⟩, by simp, by simp, by simp, by simp⟩ ?_
  rintro kk tm H1 ⟨hk1, hn1, i, rfl, hi, ho, t0, t1, t2, t8⟩
  generalize t7 : tm 7 = v at *
  by_cases hlt : i < n
  · have hlt' : (i : Int) < (n : Int) := by omega
    obtain ⟨v', H', a1, o1, n1, k1⟩ := appendOutF (bytes := 16) (x := [.str (flX i)]) ho (allT1 _) (by omega) hn1 rfl rfl (by simp [rowsT, fls_len]; omega) (by simp [rowsT, fls_len]; omega)
    rw [show rowsT (fls i) ++ [[AV.str (flX i)]] = rowsT (fls (i + 1)) by rw [fls_succ]; simp [rowsT]] at o1
    have hil : (Lib.itoa (i : Int)).length ≤ 10 := by
      have : ∀ i : Fin 8, (Lib.itoa (i.val : Int)).length ≤ 10 := by decide +kernel
      exact this ⟨i, by omega⟩
    simp only [flX, List.cons_append, List.nil_append, List.append_assoc] at a1
    simp (disch := first | omega | (simp; done) | assumption) [wr64, wrU8, wrU64, Nat.add_assoc, -getElem?_pos, List.getElem?_cons_zero, List.getElem?_cons_succ, t0, t1, t2, t7, t8, hlt, hlt']
    refine CallW.val (CNum.Num (i : Int) (by omega) (by omega) _) ?_
    simp (disch := first | omega | (simp; done) | assumption) [wr64, wrU8, wrU64, Nat.add_assoc, -getElem?_pos, List.getElem?_cons_zero, List.getElem?_cons_succ, t0, t1, t2, t7, t8, hlt, hlt']
    repeat' (refine Try.guard (by first | omega | (simp; omega)) ?_; simp (disch := first | omega | (simp; done) | assumption) [wr64, wrU8, wrU64, Nat.add_assoc, -getElem?_pos, List.getElem?_cons_zero, List.getElem?_cons_succ, t0, t1, t2, t7, t8, hlt, hlt'])
    refine CallW.val (hZ _) ?_
    simp (disch := first | omega | (simp; done) | assumption) [wr64, wrU8, wrU64, Nat.add_assoc, -getElem?_pos, List.getElem?_cons_zero, List.getElem?_cons_succ, t0, t1, t2, t7, t8, hlt, hlt', hzl]
    repeat' (refine Try.guard (by first | omega | (simp; omega)) ?_; simp (disch := first | omega | (simp; done) | assumption) [wr64, wrU8, wrU64, Nat.add_assoc, -getElem?_pos, List.getElem?_cons_zero, List.getElem?_cons_succ, t0, t1, t2, t7, t8, hlt, hlt', hzl])
    refine Try.intro a1 ?_
    simp (disch := first | omega | (simp; done) | assumption) [wr64, wrU8, wrU64, Nat.add_assoc, -getElem?_pos, List.getElem?_cons_zero, List.getElem?_cons_succ, t0, t1, t2, t8]
    exact ⟨n - (i + 1), by omega, fun y o h => k1 y o (hok y o h) (hk1 y o h), by omega, i + 1, rfl, by omega, by simpa using o1, by simp [t0], by simp [t1], by simp [t2], by simp⟩
  · have hlt' : ¬ (i : Int) < (n : Int) := by omega
    obtain rfl : i = n := by omega
    have hln := ho.lenS
    rw [show (rowsT (fls i)).length = i + 3 by simp [rowsT, fls_len]] at hln
    have e4 : (i : Int) + 3 + 1 = ((i + 4 : Nat) : Int) := by omega
    have hb'' : (b : Int) < 10 := by omega
    simp (disch := first | omega | (simp; done) | assumption) [wr64, wrU8, wrU64, Nat.add_assoc, -getElem?_pos, List.getElem?_cons_zero, List.getElem?_cons_succ, t0, t1, t2, t7, t8, hlt, hlt']
    refine CallW.val (hZ _) ?_
    simp (disch := first | omega | (simp; done) | assumption) [wr64, wrU8, wrU64, Nat.add_assoc, -getElem?_pos, List.getElem?_cons_zero, List.getElem?_cons_succ, t0, t1, t2, t7, t8, hlt', hzl]
    refine CallW.val (hZ _) ?_
    simp (disch := first | omega | (simp; done) | assumption) [wr64, wrU8, wrU64, Nat.add_assoc, -getElem?_pos, List.getElem?_cons_zero, List.getElem?_cons_succ, t0, t1, t2, t7, t8, hlt', hzl, hb', hb10, hb'', Abs.bounds]
    refine Try.intro (show _ = some (AV.str (bdB b)) from ?_) ?_
    · match b, hb10 with
      | 0, _ => rfl
      | 1, _ => rfl
      | 2, _ => rfl
      | 3, _ => rfl
      | 4, _ => rfl
      | 5, _ => rfl
      | 6, _ => rfl
      | 7, _ => rfl
      | 8, _ => rfl
      | 9, _ => rfl
    have ha' : (bits .and .i64 at_ 255).tmod ((i : Int) + 4) = (a : Int) := by rw [show (i : Int) + 4 = ((i + 4 : Nat) : Int) by omega]; exact ha
    have ha'' : (bits .and .i64 at_ 255).tmod ((i : Int) + 3 + 1) = (a : Int) := by rw [show (i : Int) + 3 + 1 = ((i + 4 : Nat) : Int) by omega]; exact ha
    have hz4 : ¬ ((i : Int) + 4 = 0) := by omega
    have hz5 : ¬ ((i : Int) + 3 + 1 = 0) := by omega
    generalize hbd : bdB b = bd at *
    simp (disch := first | omega | (simp; done) | assumption) [wr64, wrU8, wrU64, Nat.add_assoc, -getElem?_pos, List.getElem?_cons_zero, List.getElem?_cons_succ, t0, t1, t2, t7, t8, hln, ha', ha'', hz4, hz5]
    refine hX' _ _ hn8 hb10 (by omega) ⟨fun y o h => ?_, by simp; omega, outF_new (by simpa [t7] using ho) _, by simp, by simp [t2], by simp [hbd]⟩
    have := hok _ _ h
    rw [AH.new_ne _ _ (by omega)]
    exact hk1 _ _ h
def FtB (n b a : Nat) (kind : Int) (v : AV) (H1 : AH) (kk : Nat) (tm : Tms) (H' : AH) : Prop := H' = H1 ∧ ∃ i : Nat, kk = n + 4 - i ∧ i ≤ n + 4 ∧ tm 1 = .int .i64 (a : Int) ∧ tm 2 = .int .i64 kind ∧ tm 7 = v ∧ tm 10 = .str (bdB b) ∧ tm 11 = .str (fS n a b i) ∧ tm 12 = .int .i64 (i : Int)
def FtD (n : Nat) (kind : Int) (v : AV) (HB : AH) (kk : Nat) (tm : Tms) (H' : AH) : Prop := H' = HB ∧ ∃ i : Nat, kk = n + 3 - i ∧ i ≤ n + 3 ∧ tm 2 = .int .i64 kind ∧ tm 7 = v ∧ tm 15 = .str (fS n 100 0 i) ∧ tm 16 = .int .i64 (i : Int)
theorem Ft2 {C : ICode} (hC : C = FtC) {n b a : Nat} {kind : Int} {H H1 : AH} {tm : Tms} (hok : H.ok) (hT : TOk H) (hn8 : n < 8) (hb10 : b < 10) (han : a ≤ n + 3) (hM : FtM n b a kind H tm H1) :
    IWP Tryz.prog (part_ [1, 1, 1, 1, 1, 1, 1] C) (FtQ H) tm H1 := by
  obtain ⟨hk1, hn1, ho, t1, t2, t10⟩ := hM
  generalize t7 : tm 7 = v at *
  have hln := ho.lenS
  rw [show (rowsT (fls n)).length = n + 3 by simp [rowsT, fls_len]] at hln
  rw [hC]
  simp (disch := first | omega | (simp; done) | assumption) [wr64, wrU8, wrU64, Nat.add_assoc, -getElem?_pos, List.getElem?_cons_zero, List.getElem?_cons_succ, part_, FtC, ic8]
  refine iwp_loop (FtB n b a kind v H1) (n + 4) ⟨rfl, 0, rfl, by omega, by simp [t1], by simp [t2], by simp [t7], by simp [t10], by simp [fS], by simp⟩ ?_
  clear t1 t2 t10 t7
  clear tm
  rintro kk tm H2 ⟨rfl, i, rfl, hi, t1, t2, t7, t10, t11, t12⟩
  have hfl := fS_len (a := a) hn8 hb10 i
  have hbl : (bdB b).length ≤ 60 := fbad_small ⟨b, hb10⟩
  by_cases hle : i ≤ n + 3
  · have hle' : (i : Int) ≤ (n : Int) + 3 := by omega
    have hle2 : (i : Int) < (n : Int) + 3 + 1 := by omega
    have hst : fS n a b (i + 1) = fS n a b i ++ (if i = a then bdB b ++ [10] else []) ++ (match (fls n)[i]? with | some l => l ++ [10] | none => []) := rfl
    generalize hbd : bdB b = bd at *
    generalize fS n a b i = S at *
    have hSl : S.length ≤ 3000 := by omega
    by_cases hia : i = a
    · rw [if_pos hia] at hst
      subst hia
      by_cases hlt : i < n + 3
      · have hlt' : (i : Int) < (n : Int) + 3 := by omega
        have hlf : i < (fls n).length := by rw [fls_len]; exact hlt
        obtain ⟨q, hvq, hld⟩ := rowT_get ho hlf
        rw [fls_len] at hvq
        subst hvq
        have hll := fl_small ⟨n, hn8⟩ _ (List.getElem_mem hlf)
        rw [List.getElem?_eq_getElem hlf] at hst
        generalize (fls n)[i] = l at *
        simp only [] at hst
        simp (disch := first | omega | (simp; done) | assumption) [wr64, wrU8, wrU64, Nat.add_assoc, -getElem?_pos, List.getElem?_cons_zero, List.getElem?_cons_succ, t1, t2, t7, t10, t11, t12, hle, hle', hle2, hlt, hlt', hln, Abs.bounds]
        repeat' (first | (refine Try.guard (by first | omega | (simp; omega)) ?_; simp (disch := first | omega | (simp; done) | assumption) [wr64, wrU8, wrU64, Nat.add_assoc, -getElem?_pos, List.getElem?_cons_zero, List.getElem?_cons_succ, t1, t2, t7, t10, t11, t12, hle, hle', hle2, hlt, hlt', hln, Abs.bounds]) | (refine Try.intro (by simpa using hld) ?_; simp (disch := first | omega | (simp; done) | assumption) [wr64, wrU8, wrU64, Nat.add_assoc, -getElem?_pos, List.getElem?_cons_zero, List.getElem?_cons_succ, t1, t2, t7, t10, t11, t12, hle, hle', hle2, hlt, hlt', hln, Abs.bounds]))
        exact ⟨n + 4 - (i + 1), by omega, rfl, i + 1, rfl, by omega, by simp [t1], by simp [t2], by simp [t7], by simp [t10, hbd], by simp [hst, t11], by simp⟩
      · have hlt' : ¬ (i : Int) < (n : Int) + 3 := by omega
        rw [List.getElem?_eq_none (by rw [fls_len]; omega)] at hst
        simp only [List.append_nil] at hst
        simp (disch := first | omega | (simp; done) | assumption) [wr64, wrU8, wrU64, Nat.add_assoc, -getElem?_pos, List.getElem?_cons_zero, List.getElem?_cons_succ, t1, t2, t7, t10, t11, t12, hle, hle', hle2, hlt, hlt', hln, Abs.bounds]
        repeat' (first | (refine Try.guard (by first | omega | (simp; omega)) ?_; simp (disch := first | omega | (simp; done) | assumption) [wr64, wrU8, wrU64, Nat.add_assoc, -getElem?_pos, List.getElem?_cons_zero, List.getElem?_cons_succ, t1, t2, t7, t10, t11, t12, hle, hle', hle2, hlt, hlt', hln, Abs.bounds]))
        exact ⟨n + 4 - (i + 1), by omega, rfl, i + 1, rfl, by omega, by simp [t1], by simp [t2], by simp [t7], by simp [t10, hbd], by simp [hst, t11], by simp⟩
    · rw [if_neg hia] at hst
      have hia' : ¬ (i : Int) = (a : Int) := by omega
      rw [List.append_nil] at hst
      by_cases hlt : i < n + 3
      · have hlt' : (i : Int) < (n : Int) + 3 := by omega
        have hlf : i < (fls n).length := by rw [fls_len]; exact hlt
        obtain ⟨q, hvq, hld⟩ := rowT_get ho hlf
        rw [fls_len] at hvq
        subst hvq
        have hll := fl_small ⟨n, hn8⟩ _ (List.getElem_mem hlf)
        rw [List.getElem?_eq_getElem hlf] at hst
        generalize (fls n)[i] = l at *
        simp only [] at hst
        simp (disch := first | omega | (simp; done) | assumption) [wr64, wrU8, wrU64, Nat.add_assoc, -getElem?_pos, List.getElem?_cons_zero, List.getElem?_cons_succ, t1, t2, t7, t10, t11, t12, hle, hle', hle2, hia', hia, hlt, hlt', hln, Abs.bounds]
        repeat' (first | (refine Try.guard (by first | omega | (simp; omega)) ?_; simp (disch := first | omega | (simp; done) | assumption) [wr64, wrU8, wrU64, Nat.add_assoc, -getElem?_pos, List.getElem?_cons_zero, List.getElem?_cons_succ, t1, t2, t7, t10, t11, t12, hle, hle', hle2, hia', hia, hlt, hlt', hln, Abs.bounds]) | (refine Try.intro (by simpa using hld) ?_; simp (disch := first | omega | (simp; done) | assumption) [wr64, wrU8, wrU64, Nat.add_assoc, -getElem?_pos, List.getElem?_cons_zero, List.getElem?_cons_succ, t1, t2, t7, t10, t11, t12, hle, hle', hle2, hia', hia, hlt, hlt', hln, Abs.bounds]))
        exact ⟨n + 4 - (i + 1), by omega, rfl, i + 1, rfl, by omega, by simp [t1], by simp [t2], by simp [t7], by simp [t10, hbd], by simp [hst, t11], by simp⟩
      · have hlt' : ¬ (i : Int) < (n : Int) + 3 := by omega
        rw [List.getElem?_eq_none (by rw [fls_len]; omega)] at hst
        simp only [List.append_nil] at hst
        simp (disch := first | omega | (simp; done) | assumption) [wr64, wrU8, wrU64, Nat.add_assoc, -getElem?_pos, List.getElem?_cons_zero, List.getElem?_cons_succ, t1, t2, t7, t10, t11, t12, hle, hle', hle2, hia', hia, hlt, hlt', hln, Abs.bounds]
        repeat' (first | (refine Try.guard (by first | omega | (simp; omega)) ?_; simp (disch := first | omega | (simp; done) | assumption) [wr64, wrU8, wrU64, Nat.add_assoc, -getElem?_pos, List.getElem?_cons_zero, List.getElem?_cons_succ, t1, t2, t7, t10, t11, t12, hle, hle', hle2, hia', hia, hlt, hlt', hln, Abs.bounds]))
        exact ⟨n + 4 - (i + 1), by omega, rfl, i + 1, rfl, by omega, by simp [t1], by simp [t2], by simp [t7], by simp [t10, hbd], by simp [hst, t11], by simp⟩
  · have hle' : ¬ (i : Int) ≤ (n : Int) + 3 := by omega
    obtain rfl : i = n + 4 := by omega
    rw [fS_end han] at t11 hfl
    have hpb := fput_bad ⟨n, hn8⟩ ⟨b, hb10⟩ ⟨a, by omega⟩ han
    dsimp only at hpb
    have hP := Parse (fput n a b) (by omega) H2 (hT.keeps hk1).pow
    unfold ParseP at hP
    obtain ⟨p1, p2⟩ := hpb
    rw [p1, p2] at hP
    generalize (parseS (fput n a b)).2.2 = e1 at *
    simp (disch := first | omega | (simp; done) | assumption) [wr64, wrU8, wrU64, Nat.add_assoc, -getElem?_pos, List.getElem?_cons_zero, List.getElem?_cons_succ, t1, t2, t7, t10, t11, t12, hle, hle', hln]
    refine CallW.okof hP ?_
    rintro v2 H3 ⟨hk3, hn3, vx, err, rfl, hox, hq⟩ hok3
    try simp only [newO_none] at hk3 hn3 hox hq
    obtain ⟨hv1, hv2⟩ := sf_one (outF_sf hox)
    obtain ⟨he1, he2⟩ := errq_one hq
    have hk4 := NB_keeps hok3 e1 vx
    have hk04 : H.keepsAll (NB H3 e1 vx) := fun y o h => hk4 _ _ (hk3 _ _ (hk1 _ _ h))
    have hIs := IsQ (hT.keeps hk04) (errq_keeps hq hk4) (nmQ 30 (a + 1)) 30
    rw [isQ_self, show nmQ 30 (a + 1) = Lib.itoa ((a : Int) + 1) by unfold nmQ; rw [if_pos rfl]; congr 1] at hIs
    have ho4 : OutF H.next (NB H3 e1 vx) tS 1 v (rowsT (fls n)) := (ho.keeps hk3 hn3).keeps hk4 (by rw [NB_next]; omega)
    have hn4 : H.next ≤ (NB H3 e1 vx).next := by rw [NB_next]; omega
    simp only [confB] at hIs
    simp only [entC]
    simp (disch := first | omega | (simp; done) | assumption) [wr64, wrU8, wrU64, Nat.add_assoc, -getElem?_pos, List.getElem?_cons_zero, List.getElem?_cons_succ, t1, t2, t7, t10, t11, t12, hv1, hv2, he1, he2]
    refine CallW.val (CNum.Num ((a : Int) + 1) (by omega) (by omega) (NB H3 e1 vx)) ?_
    simp (disch := first | omega | (simp; done) | assumption) [wr64, wrU8, wrU64, Nat.add_assoc, -getElem?_pos, List.getElem?_cons_zero, List.getElem?_cons_succ, t1, t2, t7, t10, t11, t12]
    refine CallW.val hIs ?_
    simp (disch := first | omega | (simp; done) | assumption) [wr64, wrU8, wrU64, Nat.add_assoc, -getElem?_pos, List.getElem?_cons_zero, List.getElem?_cons_succ, t1, t2, t7, t10, t11, t12]
    refine iwp_loop (FtD n kind v (NB H3 e1 vx)) (n + 3) ⟨rfl, 0, rfl, by omega, by simp [t2], by simp [t7], by simp [fS], by simp⟩ ?_
    clear hIs hk4 hq he1 he2 hv1 hv2 hox hfl t1 t2 t7 t10 t11 t12 hle hle' hi hbl
    generalize NB H3 e1 vx = HB at *
    clear tm
    rintro kk tm H4 ⟨rfl, i, rfl, hi, t2, t7, t15, t16⟩
    have hfl := fS_len (a := 100) (b := 0) hn8 (by omega) i
    by_cases hlt : i < n + 3
    · have hlt' : (i : Int) < (n : Int) + 3 := by omega
      have hst : fS n 100 0 (i + 1) = fS n 100 0 i ++ (if i = 100 then fbad.getD 0 [] ++ [10] else []) ++ (match (fls n)[i]? with | some l => l ++ [10] | none => []) := rfl
      rw [if_neg (by omega), List.append_nil] at hst
      have hlf : i < (fls n).length := by rw [fls_len]; exact hlt
      obtain ⟨q, hvq, hld⟩ := rowT_get ho4 hlf
      rw [fls_len] at hvq
      subst hvq
      have hll := fl_small ⟨n, hn8⟩ _ (List.getElem_mem hlf)
      rw [List.getElem?_eq_getElem hlf] at hst
      generalize (fls n)[i] = l at *
      generalize fS n 100 0 i = S at *
      simp only [] at hst
      simp (disch := first | omega | (simp; done) | assumption) [wr64, wrU8, wrU64, Nat.add_assoc, -getElem?_pos, List.getElem?_cons_zero, List.getElem?_cons_succ, t2, t7, t15, t16, hlt, hlt', hln, Abs.bounds]
      repeat' (first | (refine Try.guard (by first | omega | (simp; omega)) ?_; simp (disch := first | omega | (simp; done) | assumption) [wr64, wrU8, wrU64, Nat.add_assoc, -getElem?_pos, List.getElem?_cons_zero, List.getElem?_cons_succ, t2, t7, t15, t16, hlt, hlt', hln]) | (refine Try.intro (by simpa using hld) ?_; simp (disch := first | omega | (simp; done) | assumption) [wr64, wrU8, wrU64, Nat.add_assoc, -getElem?_pos, List.getElem?_cons_zero, List.getElem?_cons_succ, t2, t7, t15, t16, hlt, hlt', hln]))
      exact ⟨n + 3 - (i + 1), by omega, rfl, i + 1, rfl, by omega, by simp [t2], by simp [t7], by simp [hst, t15], by simp⟩
    · have hlt' : ¬ (i : Int) < (n : Int) + 3 := by omega
      obtain rfl : i = n + 3 := by omega
      rw [fT_end n hn8] at t15 hfl
      obtain ⟨c, hc, hc3⟩ := mask_mod (kind.fdiv (2 ^ min 8 IntKind.i64.bits)) 3 (by omega)
      have hc' : (bits .and .i64 (kind.fdiv (2 ^ min 8 IntKind.i64.bits)) 255).tmod 3 = (c : Int) := hc
      have hlf : c < (fls n).length := by rw [fls_len]; omega
      obtain ⟨q, hvq, hld⟩ := rowT_get ho4 hlf
      rw [fls_len] at hvq
      subst hvq
      have hll := fl_small ⟨n, hn8⟩ _ (List.getElem_mem hlf)
      obtain ⟨w1, w2⟩ := ftwice ⟨n, hn8⟩ ⟨c, hc3⟩
      have g1 := fgood ⟨n, hn8⟩
      dsimp only at w1 w2 g1
      have hgd : (fls n).getD c [] = (fls n)[c] := by rw [List.getD_eq_getElem?_getD, List.getElem?_eq_getElem hlf]; rfl
      rw [hgd] at w1 w2
      clear hgd hc
      have hcl : (c : Int) < (n : Int) + 3 := by omega
      have hcl2 : c < n + 3 := by omega
      generalize (fls n)[c] = l at *
      have hP1 := Parse (ftx (fls n) ++ l) (by rw [List.length_append]; omega) H4 (hT.keeps hk04).pow
      unfold ParseP at hP1
      rw [w1, w2] at hP1
      generalize (parseS (ftx (fls n) ++ l)).2.2 = e2 at *
      have hP2 := fun H5 (hk5 : H.keepsAll H5) => Parse (ftx (fls n)) (by omega) H5 (hT.keeps hk5).pow
      unfold ParseP at hP2
      rw [g1] at hP2
      generalize (parseS (ftx (fls n))).2.2 = e3 at *
      generalize (parseS (ftx (fls n))).2.1 = a3 at *
      generalize ftx (fls n) = T at *
      simp (disch := first | omega | (simp; done) | assumption) [wr64, wrU8, wrU64, Nat.add_assoc, -getElem?_pos, List.getElem?_cons_zero, List.getElem?_cons_succ, t2, t7, t15, t16, hlt, hlt', hln, hc', hcl, hcl2]
      refine Try.intro (by simpa using hld) ?_
      simp (disch := first | omega | (simp; done) | assumption) [wr64, wrU8, wrU64, Nat.add_assoc, -getElem?_pos, List.getElem?_cons_zero, List.getElem?_cons_succ, t2, t7, t15, t16, hln]
      refine Try.guard (by first | omega | (simp; omega)) ?_
      simp (disch := first | omega | (simp; done) | assumption) [wr64, wrU8, wrU64, Nat.add_assoc, -getElem?_pos, List.getElem?_cons_zero, List.getElem?_cons_succ, t2, t7, t15, t16, hln]
      refine CallW.okof hP1 ?_
      rintro v2 H5 ⟨hk5, hn5, vx, err, rfl, hox, hq⟩ hok5
      try simp only [newO_none] at hk5 hn5 hox hq
      obtain ⟨hv1, hv2⟩ := sf_one (outF_sf hox)
      obtain ⟨he1, he2⟩ := errq_one hq
      have hk6 := NB_keeps hok5 e2 vx
      have hk06 : H.keepsAll (NB H5 e2 vx) := fun y o h => hk6 _ _ (hk5 _ _ (hk04 _ _ h))
      simp only [entC]
      simp (disch := first | omega | (simp; done) | assumption) [wr64, wrU8, wrU64, Nat.add_assoc, -getElem?_pos, List.getElem?_cons_zero, List.getElem?_cons_succ, t2, t7, t15, t16, hln, hv1, hv2, he1, he2]
      refine CallW.okof (hP2 _ hk06) ?_
      rintro v2 H6 ⟨hk7, hn7, vy, err2, rfl, hoy, hq2⟩ hok6
      obtain rfl := errq_nil hq2 rfl
      obtain ⟨hw1, hw2⟩ := sf_one (outF_sf hoy)
      have hk8 := NB_keeps hok6 e3 vy
      have hk68 : (NB H5 e2 vx).keepsAll (NB H6 e3 vy) := fun y o h => hk8 _ _ (hk7 _ _ h)
      have hk08 : H.keepsAll (NB H6 e3 vy) := fun y o h => hk68 _ _ (hk06 _ _ h)
      have hIs := IsQ (hT.keeps hk08) (errq_keeps hq (fun y o h => hk68 _ _ (hk6 _ _ h))) (nmQ 30 (n + 4)) 30
      rw [isQ_self, show nmQ 30 (n + 4) = Lib.itoa ((n : Int) + 4) by unfold nmQ; rw [if_pos rfl]; congr 1] at hIs
      have hA := AwakeC (hT.keeps hk08)
      simp only [confB] at hIs
      simp only [entC]
      simp (disch := first | omega | (simp; done) | assumption) [wr64, wrU8, wrU64, Nat.add_assoc, -getElem?_pos, List.getElem?_cons_zero, List.getElem?_cons_succ, t2, t7, t15, t16, hln, hw1, hw2]
      rw [show (n : Int) + 4 = (n : Int) + 3 + 1 by omega] at hIs
      refine CallW.val (CNum.Num ((n : Int) + 3 + 1) (by omega) (by omega) (NB H6 e3 vy)) ?_
      simp (disch := first | omega | (simp; done) | assumption) [wr64, wrU8, wrU64, Nat.add_assoc, -getElem?_pos, List.getElem?_cons_zero, List.getElem?_cons_succ, t2, t7, t15, t16, hln, hw1, hw2]
      refine CallW.val hIs ?_
      simp (disch := first | omega | (simp; done) | assumption) [wr64, wrU8, wrU64, Nat.add_assoc, -getElem?_pos, List.getElem?_cons_zero, List.getElem?_cons_succ, ]
      refine CallW.val hA ?_
      simp (disch := first | omega | (simp; done) | assumption) [wr64, wrU8, wrU64, Nat.add_assoc, -getElem?_pos, List.getElem?_cons_zero, List.getElem?_cons_succ, rs8]
      exact hk08
theorem FaultsC {C : ICode} (hC : C = FtC) {fn : Func} (hF : Fits Tryz.prog 8 fn C rs8) (hnt : 3 ≤ fn.ntmps) {n at_ kind : Int} {H : AH} (hT : TOk H) :
    ACall Tryz.prog 8 [.int .i64 n, .int .i64 at_, .int .i64 kind] H (fun v H' => v = .bool true ∧ H' = H) :=
  acall_enter hF hnt (by simp) fun hok => Ft1 hC hok fun n b a tm H' h1 h2 h3 hM => Ft2 hC hok hT h1 h2 h3 hM
theorem ConfFaults.walk (a0 a1 a2 : Int) (W : World) (hsh : W.ShapedOpen Tryz.prog) (hG : ELaid.G W) (_ : (Lit.int .i64 a0).wf = true) (_ : (Lit.int .i64 a1).wf = true) (_ : (Lit.int .i64 a2).wf = true) :
    Calls Tryz.prog 8 #[.int .i64 a0, .int .i64 a1, .int .i64 a2] W fun e W' => e = .returned (.bool true) ∧ Below W.heap.size W W' :=
  ELaid.walk hsh hG (FaultsC rfl fits8 (by simp) ⟨ELaid.H1_err W, ELaid.H1_pow W⟩) (.cons (.int ..) (.cons (.int ..) (.cons (.int ..) .nil)))
end Go.Proofs.YtkehijlgbfjmkaaGreatDoor.KW

/- ConfOrders: its walk. No condition. -/
import Derived.Test.YtkehijlgbfjmkaaGreatDoorKLOrd
import Derived.Test.YtkehijlgbfjmkaaGreatDoorKLTurned
set_option linter.unusedVariables false
set_option linter.unusedSimpArgs false
set_option maxRecDepth 100000
set_option maxHeartbeats 4000000
namespace Go.Proofs.YtkehijlgbfjmkaaGreatDoor.KW
open Go Go.RowKit Go.Proofs.YtkehijlgbfjmkaaGreatDoor Go.Proofs.YtkehijlgbfjmkaaGreatDoor.Abs Go.Proofs.YtkehijlgbfjmkaaGreatDoor.Ic Go.Proofs.YtkehijlgbfjmkaaGreatDoor.St Go.Proofs.YtkehijlgbfjmkaaGreatDoor.EAs Go.Proofs.YtkehijlgbfjmkaaGreatDoor.EErr
abbrev OdC : ICode := ic7
abbrev OdQ (H : AH) : IPost := fnPost rs7 fun v H' => v = .bool true ∧ H.keepsAll H'
def OdM (e : En) (vx : AV) (tu ga : Int) (H : AH) (tm : Tms) (H' : AH) : Prop := H.keepsAll H' ∧ H.next < H'.next ∧ H'.at_ H.next = some (.cells false tEn (entC e vx)) ∧ OutF (H.next + 1) H' tS 1 (tm 7) (rowsT (fxE e)) ∧ tm 1 = .int .i64 tu ∧ tm 2 = .int .i64 ga ∧ tm 3 = .ptr H.next 0
theorem Od1 {C : ICode} (hC : C = OdC) {e : En} {vx : AV} {tu ga : Int} {H : AH} (hok : H.ok) (hT : TOk H) (hx : SF H vx 2 (rowsB e.ex)) (hz : SzR e)
    (hX : ∀ tm H', OkP e → OdM e vx tu ga H tm H' → IWP Tryz.prog (part_ [1, 1, 1, 1] C) (OdQ H) tm H') : IWP Tryz.prog C (OdQ H) (tm0 [.agg (entC e vx), .int .i64 tu, .int .i64 ga]) H := by
  obtain ⟨hv1, hv2⟩ := sf_one hx
  have hkB := new_keeps hok (.cells false tEn (entC e vx))
  have hb0 : (H.new (.cells false tEn (entC e vx))).at_ H.next = some (.cells false tEn (entC e vx)) := AH.new_same _ _
  have hS := SmallC (hx.keeps hkB) hz
  have hA := AwakeC (hT.keeps hkB)
  have hRO := fun h => ROkC (e := e) (hx.keeps hkB) h
  have hcut : C = (.seq (part_ [0] OdC) (.seq (part_ [1, 0] OdC) (.seq (part_ [1, 1, 0] OdC) (.seq (part_ [1, 1, 1, 0] OdC) (part_ [1, 1, 1, 1] OdC))))) := by rw [hC]; kernel_rfl
  rw [show part_ [1, 1, 1, 1] C = part_ [1, 1, 1, 1] OdC by rw [hC]] at hX
  rw [hcut]
  clear hcut hC
  generalize part_ [1, 1, 1, 1] OdC = Y at *
  simp only [entC] at *
  simp (disch := first | omega | (simp; done) | assumption) [wr64, wrU8, wrU64, Nat.add_assoc, -getElem?_pos, List.getElem?_cons_zero, List.getElem?_cons_succ, part_, OdC, ic7, rs7, hv1, hv2]
  refine CallW.val hS ?_
  cases hs : smallE e
  · simp (disch := first | omega | (simp; done) | assumption) [wr64, wrU8, wrU64, Nat.add_assoc, -getElem?_pos, List.getElem?_cons_zero, List.getElem?_cons_succ, hv1, hv2]
    refine CallW.val hA ?_
    simp (disch := first | omega | (simp; done) | assumption) [wr64, wrU8, wrU64, Nat.add_assoc, -getElem?_pos, List.getElem?_cons_zero, List.getElem?_cons_succ, rs7]
    exact hkB
  obtain ⟨hze, h20, _⟩ := small_sz hz hs
  simp (disch := first | omega | (simp; done) | assumption) [wr64, wrU8, wrU64, Nat.add_assoc, -getElem?_pos, List.getElem?_cons_zero, List.getElem?_cons_succ, hv1, hv2]
  refine CallW.val (hRO hze) ?_
  cases ho : okE e
  · simp (disch := first | omega | (simp; done) | assumption) [wr64, wrU8, wrU64, Nat.add_assoc, -getElem?_pos, List.getElem?_cons_zero, List.getElem?_cons_succ, hv1, hv2]
    refine CallW.val hA ?_
    simp (disch := first | omega | (simp; done) | assumption) [wr64, wrU8, wrU64, Nat.add_assoc, -getElem?_pos, List.getElem?_cons_zero, List.getElem?_cons_succ, rs7]
    exact hkB
  have hOk := (okE_iff e).1 ho
  have lv := verOk_len hOk.ver
  have lk := bOk_len hOk.k
  have lo := optOk_len hOk.op
  dsimp only at lk
  have hvl : verL e = 118 :: 101 :: 114 :: 115 :: 105 :: 111 :: 110 :: 32 :: e.ver := rfl
  have hkl : kerL e = 107 :: 101 :: 114 :: 110 :: 101 :: 108 :: 32 :: (e.kn ++ 32 :: e.ks) := rfl
  have hol : oplL e = 111 :: 112 :: 116 :: 105 :: 111 :: 110 :: 115 :: 32 :: e.op := rfl
  simp (disch := first | omega | (simp; done) | assumption) [wr64, wrU8, wrU64, Nat.add_assoc, -getElem?_pos, List.getElem?_cons_zero, List.getElem?_cons_succ, hv1, hv2]
  repeat' (refine Try.guard (by first | omega | (simp; omega)) ?_; simp (disch := first | omega | (simp; done) | assumption) [wr64, wrU8, wrU64, Nat.add_assoc, -getElem?_pos, List.getElem?_cons_zero, List.getElem?_cons_succ, hv1, hv2])
  by_cases hop : e.op = []
  · simp (disch := first | omega | (simp; done) | assumption) [wr64, wrU8, wrU64, Nat.add_assoc, -getElem?_pos, List.getElem?_cons_zero, List.getElem?_cons_succ, hop]
    refine hX _ _ hOk ⟨fun y o h => ?_, by simp; omega, by simp [entC, hop], .inr ⟨H.next + 1, by simp [fxE, hop, rowsT], by simp [fxE, rowsT], by simp [fxE, hop, rowsT, hvl, hkl], by omega, by simp⟩, by simp, by simp, by simp⟩
    have := hok _ _ h
    rw [AH.new_ne _ _ (by simp; omega), AH.new_ne _ _ (by omega)]
    exact h
  · simp (disch := first | omega | (simp; done) | assumption) [wr64, wrU8, wrU64, Nat.add_assoc, -getElem?_pos, List.getElem?_cons_zero, List.getElem?_cons_succ, hop]
    have o0 : OutF (H.next + 1) ((H.new (.cells false tEn [.str e.ver, .str e.kn, .str e.ks, vx, .str e.op])).new (.cells false tS [.str (verL e), .str (kerL e)])) tS 1 (.slice (H.next + 1) 0 2 1) (rowsT [verL e, kerL e]) :=
      .inr ⟨H.next + 1, by simp [rowsT], by simp [rowsT], by simp [rowsT], by omega, by simp⟩
    obtain ⟨v', H', a1, o1, n1, k1⟩ := appendOutF (bytes := 16) (x := [.str (oplL e)]) o0 (allT1 _) (by omega) (by simp) rfl rfl (by simp [rowsT]) (by simp [rowsT])
    rw [hvl, hkl, hol] at a1
    repeat' (refine Try.guard (by first | omega | (simp; omega)) ?_; simp (disch := first | omega | (simp; done) | assumption) [wr64, wrU8, wrU64, Nat.add_assoc, -getElem?_pos, List.getElem?_cons_zero, List.getElem?_cons_succ, hv1, hv2])
    refine Try.intro (by simpa using a1) ?_
    simp (disch := first | omega | (simp; done) | assumption) [wr64, wrU8, wrU64, Nat.add_assoc, -getElem?_pos, List.getElem?_cons_zero, List.getElem?_cons_succ, ]
    have hk2 : ∀ y o, y < H.next + 1 → ((H.new (.cells false tEn [.str e.ver, .str e.kn, .str e.ks, vx, .str e.op])).new (.cells false tS [.str (verL e), .str (kerL e)])).at_ y = some o → H'.at_ y = some o := k1
    refine hX _ _ hOk ⟨fun y o h => ?_, by rw [n1]; simp; try omega, ?_, ?_, by simp, by simp, by simp⟩
    · have := hok _ _ h
      refine hk2 _ _ (by omega) ?_
      rw [AH.new_ne _ _ (by simp; omega), AH.new_ne _ _ (by omega)]
      exact h
    · refine hk2 _ _ (by omega) ?_
      rw [AH.new_ne _ _ (by simp)]
      exact hb0
    · simpa [fxE, hop, rowsT] using o1
def OdI (e : En) (vx : AV) (tu ga : Int) (g q : Nat → Bool) (t : Nat) (v : AV) (p : Nat) (H1 : AH) (kk : Nat) (tm : Tms) (H' : AH) : Prop := H' = H1 ∧ ∃ i : Nat, kk = nE e + e.ex.length - i ∧ i ≤ nE e + e.ex.length ∧ tm 1 = .int .i64 tu ∧ tm 2 = .int .i64 ga ∧
  tm 3 = .ptr p 0 ∧ tm 7 = v ∧ tm 8 = .int .i64 (nE e : Int) ∧ tm 9 = .str (oTx e g q t i) ∧ tm 10 = .int .i64 ((oSt e g q t i).2 : Int) ∧ tm 11 = .int .i64 (i : Int)
theorem oTx_succ (e : En) (g q : Nat → Bool) (t i : Nat) : oTx e g q t (i + 1) = oTx e g q t i ++ (if g i = true then [10, 35, 32, 97, 32, 114, 101, 109, 97, 114, 107, 10] else []) ++ (if (q i = true ∧ (oSt e g q t i).2 < e.ex.length) ∨ nE e ≤ i - (oSt e g q t i).2 then extL (e.ex.getD (oSt e g q t i).2 ([], [])) else (fxE e).getD ((i - (oSt e g q t i).2 + t) % nE e) []) ++ [10] ∧
    (oSt e g q t (i + 1)).2 = if (q i = true ∧ (oSt e g q t i).2 < e.ex.length) ∨ nE e ≤ i - (oSt e g q t i).2 then (oSt e g q t i).2 + 1 else (oSt e g q t i).2 := by
  have hst : oSt e g q t (i + 1) = if (q i = true ∧ (oSt e g q t i).2 < e.ex.length) ∨ nE e ≤ i - (oSt e g q t i).2 then ((oSt e g q t i).1 ++ (if g i = true then [[], rmL] else []) ++ [extL (e.ex.getD (oSt e g q t i).2 ([], []))], (oSt e g q t i).2 + 1) else ((oSt e g q t i).1 ++ (if g i = true then [[], rmL] else []) ++ [(fxE e).getD ((i - (oSt e g q t i).2 + t) % nE e) []], (oSt e g q t i).2) := rfl
  unfold oTx
  rw [hst]
  by_cases hc : (q i = true ∧ (oSt e g q t i).2 < e.ex.length) ∨ nE e ≤ i - (oSt e g q t i).2
  · simp only [if_pos hc]
    refine ⟨?_, trivial⟩
    cases g i <;> simp [rmL]
  · simp only [if_neg hc]
    refine ⟨?_, trivial⟩
    cases g i <;> simp [rmL]
theorem Od2 {C : ICode} (hC : C = OdC) {e : En} {vx : AV} {tu ga : Int} {H H1 : AH} {tm : Tms} (hok : H.ok) (hT : TOk H) (hx : SF H vx 2 (rowsB e.ex)) (h20 : e.ex.length ≤ 20) (hO : OkP e) (hM : OdM e vx tu ga H tm H1) :
    IWP Tryz.prog (part_ [1, 1, 1, 1] C) (OdQ H) tm H1 := by
  obtain ⟨hk1, hn1, hb1, ho, t1, t2, t3⟩ := hM
  generalize t7 : tm 7 = v at *
  have hln := ho.lenS
  rw [show (rowsT (fxE e)).length = nE e by simp [rowsT, fxE_len]] at hln
  obtain ⟨hv1, hv2⟩ := sf_one hx
  obtain ⟨hxl, _, _⟩ := sf_len (hx.keeps hk1)
  obtain ⟨t, ht, ht8⟩ := mask_small 8 (by omega) (tu.fdiv (2 ^ min 1 IntKind.i64.bits))
  have ht' : bits .and .i64 (tu.fdiv (2 ^ min 1 IntKind.i64.bits)) 255 = (t : Int) := ht
  clear ht
  simp only [entC] at hb1
  rw [hC]
  simp (disch := first | omega | (simp; done) | assumption) [wr64, wrU8, wrU64, Nat.add_assoc, -getElem?_pos, List.getElem?_cons_zero, List.getElem?_cons_succ, part_, OdC, ic7, t1, t2, t3, t7, hln]
  refine iwp_loop (OdI e vx tu ga (fun i => decide (bits .and .i64 (ga.fdiv (2 ^ min (bits .and .i64 (i : Int) 31).toNat IntKind.i64.bits)) 1 = 1)) (fun i => decide ((i : Int).tmod 2 = bits .and .i64 tu 1)) t v H.next H1) (nE e + e.ex.length) ⟨rfl, 0, rfl, by omega, by simp [t1], by simp [t2], by simp [t3], by simp [t7], by simp, by simp [oTx, oSt], by simp [oSt], by simp⟩ ?_
  clear t1 t2 t3 t7
  clear tm
  rintro kk tm H2 ⟨rfl, i, rfl, hi, t1, t2, t3, t7, t8, t9, t10, t11⟩
  generalize hg : (fun i : Nat => decide (bits .and .i64 (ga.fdiv (2 ^ min (bits .and .i64 (i : Int) 31).toNat IntKind.i64.bits)) 1 = 1)) = g at *
  generalize hq : (fun i : Nat => decide ((i : Int).tmod 2 = bits .and .i64 tu 1)) = q at *
  have hJ := oJ hO g q t i hi
  have hTl := oTx_len hO g q t i hi
  have hsc := oTx_succ e g q t i
  have hnE := nE_or e
  have hgi : g i = decide (bits .and .i64 (ga.fdiv (2 ^ min (bits .and .i64 (i : Int) 31).toNat IntKind.i64.bits)) 1 = 1) := by rw [← hg]
  have hqi : q i = decide ((i : Int).tmod 2 = bits .and .i64 tu 1) := by rw [← hq]
  by_cases hlt : i < nE e + e.ex.length
  · have hlt' : (i : Int) < (nE e : Int) + (e.ex.length : Int) := by omega
    obtain ⟨m, hm, hm32⟩ := mask_small 5 (by omega) (i : Int)
    have hm' : bits .and .i64 (i : Int) 31 = (m : Int) := hm
    rw [hm'] at hgi
    have hmn : ((m : Int)).toNat = m := by omega
    rw [hmn] at hgi
    have hm0 : ¬ (m : Int) < 0 := by omega
    obtain ⟨j1, j2, j3, _, _, _⟩ := hJ
    have hk5 : ∀ (k' : Nat), oTx e g q t (i + 1) = oTx e g q t (i + 1) ∧ (oSt e g q t (i + 1)).2 = (oSt e g q t (i + 1)).2 := fun _ => ⟨rfl, rfl⟩
    clear hm hg hq hk5
    have fin : ∀ (tm' : Tms), tm' 1 = .int .i64 tu → tm' 2 = .int .i64 ga → tm' 3 = .ptr H.next 0 → tm' 7 = v → tm' 8 = .int .i64 (nE e : Int) → tm' 9 = .str (oTx e g q t (i + 1)) → tm' 10 = .int .i64 ((oSt e g q t (i + 1)).2 : Int) → tm' 11 = .int .i64 ((i : Int) + 1) →
        ∃ m, m < nE e + e.ex.length - i ∧ OdI e vx tu ga g q t v H.next H2 m tm' H2 := fun tm' a1 a2 a3 a4 a5 a6 a7 a8 => ⟨nE e + e.ex.length - (i + 1), by omega, rfl, i + 1, rfl, by omega, a1, a2, a3, a4, a5, a6, a7, by rw [a8]; simp⟩
    obtain ⟨s1, s2⟩ := hsc
    rw [s1, s2] at fin
    clear s1 s2
    generalize (oSt e g q t i).2 = k at *
    generalize oTx e g q t i = T at *
    generalize hj : i - k = j at *
    have hik : (i : Int) - (k : Int) = (j : Int) := by omega
    by_cases hA : (q i = true ∧ k < e.ex.length) ∨ nE e ≤ j
    · have hkm : k < e.ex.length := by
        rcases hA with h | h
        · exact h.2
        · omega
      have hki : (k : Int) < (e.ex.length : Int) := by omega
      rw [if_pos hA, if_pos hA] at fin
      obtain ⟨b, o, rfl, _, l1, l2⟩ := sf_at (hx.keeps hk1) hkm
      have hge : e.ex.getD k ([], []) = e.ex[k] := by rw [List.getD_eq_getElem?_getD, List.getElem?_eq_getElem hkm]; rfl
      have hbl := bOk_len (hO.ex _ (List.getElem_mem hkm))
      rw [hge] at fin
      generalize e.ex[k] = P at *
      have hel : extL P = 101 :: 120 :: 116 :: 114 :: 97 :: 32 :: (P.1 ++ 32 :: P.2) := rfl
      have hor : ((i : Int).tmod 2 = bits .and .i64 tu 1) ∨ (¬ (i : Int).tmod 2 = bits .and .i64 tu 1 ∧ (nE e : Int) ≤ (j : Int)) := by
        by_cases c : (i : Int).tmod 2 = bits .and .i64 tu 1
        · exact .inl c
        · refine .inr ⟨c, ?_⟩
          rcases hA with h | h
          · rw [hqi] at h; simp at h; exact absurd h.1 c
          · omega
      by_cases cg : bits .and .i64 (ga.fdiv (2 ^ min m IntKind.i64.bits)) 1 = 1
      · rw [hgi, if_pos (by simpa using cg)] at fin
        rcases hor with cq | ⟨cq, cn⟩
        · clear hgi hqi
          simp (disch := first | omega | (simp; done) | assumption) [wr64, wrU8, wrU64, Nat.add_assoc, -getElem?_pos, List.getElem?_cons_zero, List.getElem?_cons_succ, t1, t2, t3, t7, t8, t9, t10, t11, hb1, hxl, hlt, hlt', hm', hm0, hki, hik, cg, cq, hkm, Abs.bounds]
          repeat' (first | (refine Try.guard (by first | omega | (simp; omega)) ?_; simp (disch := first | omega | (simp; done) | assumption) [wr64, wrU8, wrU64, Nat.add_assoc, -getElem?_pos, List.getElem?_cons_zero, List.getElem?_cons_succ, t1, t2, t3, t7, t8, t9, t10, t11, hb1, hxl, hlt, hlt', hm', hm0, hki, hik, cg, cq, hkm, Abs.bounds]) | (refine Try.intro (by simpa [Nat.add_assoc] using l1) ?_; simp (disch := first | omega | (simp; done) | assumption) [wr64, wrU8, wrU64, Nat.add_assoc, -getElem?_pos, List.getElem?_cons_zero, List.getElem?_cons_succ, t1, t2, t3, t7, t8, t9, t10, t11, hb1, hxl, hlt, hlt', hm', hm0, hki, hik, cg, cq, hkm, Abs.bounds]) | (refine Try.intro (by simpa [Nat.add_assoc] using l2) ?_; simp (disch := first | omega | (simp; done) | assumption) [wr64, wrU8, wrU64, Nat.add_assoc, -getElem?_pos, List.getElem?_cons_zero, List.getElem?_cons_succ, t1, t2, t3, t7, t8, t9, t10, t11, hb1, hxl, hlt, hlt', hm', hm0, hki, hik, cg, cq, hkm, Abs.bounds]))
          exact fin _ (by simp [t1]) (by simp [t2]) (by simp [t3]) (by simp [t7]) (by simp [t8]) (by simp [t9, hel]) (by simp [t10]) (by simp)
        · clear hgi hqi
          simp (disch := first | omega | (simp; done) | assumption) [wr64, wrU8, wrU64, Nat.add_assoc, -getElem?_pos, List.getElem?_cons_zero, List.getElem?_cons_succ, t1, t2, t3, t7, t8, t9, t10, t11, hb1, hxl, hlt, hlt', hm', hm0, hki, hik, cg, cq, cn, hkm, Abs.bounds]
          repeat' (first | (refine Try.guard (by first | omega | (simp; omega)) ?_; simp (disch := first | omega | (simp; done) | assumption) [wr64, wrU8, wrU64, Nat.add_assoc, -getElem?_pos, List.getElem?_cons_zero, List.getElem?_cons_succ, t1, t2, t3, t7, t8, t9, t10, t11, hb1, hxl, hlt, hlt', hm', hm0, hki, hik, cg, cq, cn, hkm, Abs.bounds]) | (refine Try.intro (by simpa [Nat.add_assoc] using l1) ?_; simp (disch := first | omega | (simp; done) | assumption) [wr64, wrU8, wrU64, Nat.add_assoc, -getElem?_pos, List.getElem?_cons_zero, List.getElem?_cons_succ, t1, t2, t3, t7, t8, t9, t10, t11, hb1, hxl, hlt, hlt', hm', hm0, hki, hik, cg, cq, cn, hkm, Abs.bounds]) | (refine Try.intro (by simpa [Nat.add_assoc] using l2) ?_; simp (disch := first | omega | (simp; done) | assumption) [wr64, wrU8, wrU64, Nat.add_assoc, -getElem?_pos, List.getElem?_cons_zero, List.getElem?_cons_succ, t1, t2, t3, t7, t8, t9, t10, t11, hb1, hxl, hlt, hlt', hm', hm0, hki, hik, cg, cq, cn, hkm, Abs.bounds]))
          exact fin _ (by simp [t1]) (by simp [t2]) (by simp [t3]) (by simp [t7]) (by simp [t8]) (by simp [t9, hel]) (by simp [t10]) (by simp)
      · rw [hgi, if_neg (by simpa using cg)] at fin
        rcases hor with cq | ⟨cq, cn⟩
        · clear hgi hqi
          simp (disch := first | omega | (simp; done) | assumption) [wr64, wrU8, wrU64, Nat.add_assoc, -getElem?_pos, List.getElem?_cons_zero, List.getElem?_cons_succ, t1, t2, t3, t7, t8, t9, t10, t11, hb1, hxl, hlt, hlt', hm', hm0, hki, hik, cg, cq, hkm, Abs.bounds]
          repeat' (first | (refine Try.guard (by first | omega | (simp; omega)) ?_; simp (disch := first | omega | (simp; done) | assumption) [wr64, wrU8, wrU64, Nat.add_assoc, -getElem?_pos, List.getElem?_cons_zero, List.getElem?_cons_succ, t1, t2, t3, t7, t8, t9, t10, t11, hb1, hxl, hlt, hlt', hm', hm0, hki, hik, cg, cq, hkm, Abs.bounds]) | (refine Try.intro (by simpa [Nat.add_assoc] using l1) ?_; simp (disch := first | omega | (simp; done) | assumption) [wr64, wrU8, wrU64, Nat.add_assoc, -getElem?_pos, List.getElem?_cons_zero, List.getElem?_cons_succ, t1, t2, t3, t7, t8, t9, t10, t11, hb1, hxl, hlt, hlt', hm', hm0, hki, hik, cg, cq, hkm, Abs.bounds]) | (refine Try.intro (by simpa [Nat.add_assoc] using l2) ?_; simp (disch := first | omega | (simp; done) | assumption) [wr64, wrU8, wrU64, Nat.add_assoc, -getElem?_pos, List.getElem?_cons_zero, List.getElem?_cons_succ, t1, t2, t3, t7, t8, t9, t10, t11, hb1, hxl, hlt, hlt', hm', hm0, hki, hik, cg, cq, hkm, Abs.bounds]))
          exact fin _ (by simp [t1]) (by simp [t2]) (by simp [t3]) (by simp [t7]) (by simp [t8]) (by simp [t9, hel]) (by simp [t10]) (by simp)
        · clear hgi hqi
          simp (disch := first | omega | (simp; done) | assumption) [wr64, wrU8, wrU64, Nat.add_assoc, -getElem?_pos, List.getElem?_cons_zero, List.getElem?_cons_succ, t1, t2, t3, t7, t8, t9, t10, t11, hb1, hxl, hlt, hlt', hm', hm0, hki, hik, cg, cq, cn, hkm, Abs.bounds]
          repeat' (first | (refine Try.guard (by first | omega | (simp; omega)) ?_; simp (disch := first | omega | (simp; done) | assumption) [wr64, wrU8, wrU64, Nat.add_assoc, -getElem?_pos, List.getElem?_cons_zero, List.getElem?_cons_succ, t1, t2, t3, t7, t8, t9, t10, t11, hb1, hxl, hlt, hlt', hm', hm0, hki, hik, cg, cq, cn, hkm, Abs.bounds]) | (refine Try.intro (by simpa [Nat.add_assoc] using l1) ?_; simp (disch := first | omega | (simp; done) | assumption) [wr64, wrU8, wrU64, Nat.add_assoc, -getElem?_pos, List.getElem?_cons_zero, List.getElem?_cons_succ, t1, t2, t3, t7, t8, t9, t10, t11, hb1, hxl, hlt, hlt', hm', hm0, hki, hik, cg, cq, cn, hkm, Abs.bounds]) | (refine Try.intro (by simpa [Nat.add_assoc] using l2) ?_; simp (disch := first | omega | (simp; done) | assumption) [wr64, wrU8, wrU64, Nat.add_assoc, -getElem?_pos, List.getElem?_cons_zero, List.getElem?_cons_succ, t1, t2, t3, t7, t8, t9, t10, t11, hb1, hxl, hlt, hlt', hm', hm0, hki, hik, cg, cq, cn, hkm, Abs.bounds]))
          exact fin _ (by simp [t1]) (by simp [t2]) (by simp [t3]) (by simp [t7]) (by simp [t8]) (by simp [t9, hel]) (by simp [t10]) (by simp)
    · have hjn : j < nE e := by omega
      rw [if_neg hA, if_neg hA] at fin
      have hjn' : ¬ (nE e : Int) ≤ (j : Int) := by omega
      have hn0 : ¬ (nE e : Int) = 0 := by omega
      have hn0n : ¬ nE e = 0 := by omega
      have hlf : (j + t) % nE e < (fxE e).length := by rw [fxE_len]; exact Nat.mod_lt _ (by omega)
      obtain ⟨p, rfl, l1⟩ := rowT_get ho hlf
      have l2 := l1
      have hfl := (fx_no hO ((j + t) % nE e)).2.1
      have hge : (fxE e).getD ((j + t) % nE e) [] = (fxE e)[(j + t) % nE e] := by rw [List.getD_eq_getElem?_getD, List.getElem?_eq_getElem hlf]; rfl
      rw [hge] at hfl fin
      rw [fxE_len] at hlf
      have hidx : ((j : Int) + (t : Int)).tmod (nE e : Int) = (((j + t) % nE e : Nat) : Int) := by
        rw [show (j : Int) + (t : Int) = ((j + t : Nat) : Int) by omega]
        exact tmod_small
      have hix' : (((j + t) % nE e : Nat) : Int) < (nE e : Int) := by omega
      rw [fxE_len] at *
      generalize (fxE e)[(j + t) % nE e]'_ = P at *
      generalize (j + t) % nE e = x at *
      have hor : ((i : Int).tmod 2 = bits .and .i64 tu 1 ∧ ¬ (k : Int) < (e.ex.length : Int)) ∨ (¬ (i : Int).tmod 2 = bits .and .i64 tu 1) := by
        by_cases c : (i : Int).tmod 2 = bits .and .i64 tu 1
        · refine .inl ⟨c, fun h => hA (.inl ⟨?_, by omega⟩)⟩
          rw [hqi]; simpa using c
        · exact .inr c
      by_cases cg : bits .and .i64 (ga.fdiv (2 ^ min m IntKind.i64.bits)) 1 = 1
      · rw [hgi, if_pos (by simpa using cg)] at fin
        rcases hor with ⟨cq, hki⟩ | cq
        · clear hgi hqi
          simp (disch := first | omega | (simp; done) | assumption) [wr64, wrU8, wrU64, Nat.add_assoc, -getElem?_pos, List.getElem?_cons_zero, List.getElem?_cons_succ, t1, t2, t3, t7, t8, t9, t10, t11, hb1, hxl, hlt, hlt', hm', hm0, hik, ht', hidx, hix', hlf, hn0, hn0n, cg, cq, hki, hjn', Abs.bounds]
          repeat' (first | (refine Try.guard (by first | omega | (simp; omega)) ?_; simp (disch := first | omega | (simp; done) | assumption) [wr64, wrU8, wrU64, Nat.add_assoc, -getElem?_pos, List.getElem?_cons_zero, List.getElem?_cons_succ, t1, t2, t3, t7, t8, t9, t10, t11, hb1, hxl, hlt, hlt', hm', hm0, hik, ht', hidx, hix', hlf, hn0, hn0n, cg, cq, hki, hjn', Abs.bounds]) | (refine Try.intro (by simpa [Nat.add_assoc] using l1) ?_; simp (disch := first | omega | (simp; done) | assumption) [wr64, wrU8, wrU64, Nat.add_assoc, -getElem?_pos, List.getElem?_cons_zero, List.getElem?_cons_succ, t1, t2, t3, t7, t8, t9, t10, t11, hb1, hxl, hlt, hlt', hm', hm0, hik, ht', hidx, hix', hlf, hn0, hn0n, cg, cq, hki, hjn', Abs.bounds]) | (refine Try.intro (by simpa [Nat.add_assoc] using l2) ?_; simp (disch := first | omega | (simp; done) | assumption) [wr64, wrU8, wrU64, Nat.add_assoc, -getElem?_pos, List.getElem?_cons_zero, List.getElem?_cons_succ, t1, t2, t3, t7, t8, t9, t10, t11, hb1, hxl, hlt, hlt', hm', hm0, hik, ht', hidx, hix', hlf, hn0, hn0n, cg, cq, hki, hjn', Abs.bounds]))
          exact fin _ (by simp [t1]) (by simp [t2]) (by simp [t3]) (by simp [t7]) (by simp [t8]) (by simp [t9]) (by simp [t10]) (by simp)
        · clear hgi hqi
          simp (disch := first | omega | (simp; done) | assumption) [wr64, wrU8, wrU64, Nat.add_assoc, -getElem?_pos, List.getElem?_cons_zero, List.getElem?_cons_succ, t1, t2, t3, t7, t8, t9, t10, t11, hb1, hxl, hlt, hlt', hm', hm0, hik, ht', hidx, hix', hlf, hn0, hn0n, cg, cq, hjn', Abs.bounds]
          repeat' (first | (refine Try.guard (by first | omega | (simp; omega)) ?_; simp (disch := first | omega | (simp; done) | assumption) [wr64, wrU8, wrU64, Nat.add_assoc, -getElem?_pos, List.getElem?_cons_zero, List.getElem?_cons_succ, t1, t2, t3, t7, t8, t9, t10, t11, hb1, hxl, hlt, hlt', hm', hm0, hik, ht', hidx, hix', hlf, hn0, hn0n, cg, cq, hjn', Abs.bounds]) | (refine Try.intro (by simpa [Nat.add_assoc] using l1) ?_; simp (disch := first | omega | (simp; done) | assumption) [wr64, wrU8, wrU64, Nat.add_assoc, -getElem?_pos, List.getElem?_cons_zero, List.getElem?_cons_succ, t1, t2, t3, t7, t8, t9, t10, t11, hb1, hxl, hlt, hlt', hm', hm0, hik, ht', hidx, hix', hlf, hn0, hn0n, cg, cq, hjn', Abs.bounds]) | (refine Try.intro (by simpa [Nat.add_assoc] using l2) ?_; simp (disch := first | omega | (simp; done) | assumption) [wr64, wrU8, wrU64, Nat.add_assoc, -getElem?_pos, List.getElem?_cons_zero, List.getElem?_cons_succ, t1, t2, t3, t7, t8, t9, t10, t11, hb1, hxl, hlt, hlt', hm', hm0, hik, ht', hidx, hix', hlf, hn0, hn0n, cg, cq, hjn', Abs.bounds]))
          exact fin _ (by simp [t1]) (by simp [t2]) (by simp [t3]) (by simp [t7]) (by simp [t8]) (by simp [t9]) (by simp [t10]) (by simp)
      · rw [hgi, if_neg (by simpa using cg)] at fin
        rcases hor with ⟨cq, hki⟩ | cq
        · clear hgi hqi
          simp (disch := first | omega | (simp; done) | assumption) [wr64, wrU8, wrU64, Nat.add_assoc, -getElem?_pos, List.getElem?_cons_zero, List.getElem?_cons_succ, t1, t2, t3, t7, t8, t9, t10, t11, hb1, hxl, hlt, hlt', hm', hm0, hik, ht', hidx, hix', hlf, hn0, hn0n, cg, cq, hki, hjn', Abs.bounds]
          repeat' (first | (refine Try.guard (by first | omega | (simp; omega)) ?_; simp (disch := first | omega | (simp; done) | assumption) [wr64, wrU8, wrU64, Nat.add_assoc, -getElem?_pos, List.getElem?_cons_zero, List.getElem?_cons_succ, t1, t2, t3, t7, t8, t9, t10, t11, hb1, hxl, hlt, hlt', hm', hm0, hik, ht', hidx, hix', hlf, hn0, hn0n, cg, cq, hki, hjn', Abs.bounds]) | (refine Try.intro (by simpa [Nat.add_assoc] using l1) ?_; simp (disch := first | omega | (simp; done) | assumption) [wr64, wrU8, wrU64, Nat.add_assoc, -getElem?_pos, List.getElem?_cons_zero, List.getElem?_cons_succ, t1, t2, t3, t7, t8, t9, t10, t11, hb1, hxl, hlt, hlt', hm', hm0, hik, ht', hidx, hix', hlf, hn0, hn0n, cg, cq, hki, hjn', Abs.bounds]) | (refine Try.intro (by simpa [Nat.add_assoc] using l2) ?_; simp (disch := first | omega | (simp; done) | assumption) [wr64, wrU8, wrU64, Nat.add_assoc, -getElem?_pos, List.getElem?_cons_zero, List.getElem?_cons_succ, t1, t2, t3, t7, t8, t9, t10, t11, hb1, hxl, hlt, hlt', hm', hm0, hik, ht', hidx, hix', hlf, hn0, hn0n, cg, cq, hki, hjn', Abs.bounds]))
          exact fin _ (by simp [t1]) (by simp [t2]) (by simp [t3]) (by simp [t7]) (by simp [t8]) (by simp [t9]) (by simp [t10]) (by simp)
        · clear hgi hqi
          simp (disch := first | omega | (simp; done) | assumption) [wr64, wrU8, wrU64, Nat.add_assoc, -getElem?_pos, List.getElem?_cons_zero, List.getElem?_cons_succ, t1, t2, t3, t7, t8, t9, t10, t11, hb1, hxl, hlt, hlt', hm', hm0, hik, ht', hidx, hix', hlf, hn0, hn0n, cg, cq, hjn', Abs.bounds]
          repeat' (first | (refine Try.guard (by first | omega | (simp; omega)) ?_; simp (disch := first | omega | (simp; done) | assumption) [wr64, wrU8, wrU64, Nat.add_assoc, -getElem?_pos, List.getElem?_cons_zero, List.getElem?_cons_succ, t1, t2, t3, t7, t8, t9, t10, t11, hb1, hxl, hlt, hlt', hm', hm0, hik, ht', hidx, hix', hlf, hn0, hn0n, cg, cq, hjn', Abs.bounds]) | (refine Try.intro (by simpa [Nat.add_assoc] using l1) ?_; simp (disch := first | omega | (simp; done) | assumption) [wr64, wrU8, wrU64, Nat.add_assoc, -getElem?_pos, List.getElem?_cons_zero, List.getElem?_cons_succ, t1, t2, t3, t7, t8, t9, t10, t11, hb1, hxl, hlt, hlt', hm', hm0, hik, ht', hidx, hix', hlf, hn0, hn0n, cg, cq, hjn', Abs.bounds]) | (refine Try.intro (by simpa [Nat.add_assoc] using l2) ?_; simp (disch := first | omega | (simp; done) | assumption) [wr64, wrU8, wrU64, Nat.add_assoc, -getElem?_pos, List.getElem?_cons_zero, List.getElem?_cons_succ, t1, t2, t3, t7, t8, t9, t10, t11, hb1, hxl, hlt, hlt', hm', hm0, hik, ht', hidx, hix', hlf, hn0, hn0n, cg, cq, hjn', Abs.bounds]))
          exact fin _ (by simp [t1]) (by simp [t2]) (by simp [t3]) (by simp [t7]) (by simp [t8]) (by simp [t9]) (by simp [t10]) (by simp)
  · obtain rfl : i = nE e + e.ex.length := by omega
    have hlt' : ¬ ((nE e + e.ex.length : Nat) : Int) < (nE e : Int) + (e.ex.length : Int) := by omega
    have hps := oTx_parse hO g q t
    generalize oTx e g q t (nE e + e.ex.length) = X at *
    have hP := Parse X (by omega) H2 (hT.keeps hk1).pow
    unfold ParseP at hP
    rw [hps] at hP
    simp (disch := first | omega | (simp; done) | assumption) [wr64, wrU8, wrU64, Nat.add_assoc, -getElem?_pos, List.getElem?_cons_zero, List.getElem?_cons_succ, t1, t2, t3, t7, t8, t9, t10, t11, hb1, hxl, hlt, hlt']
    refine CallW.okof hP ?_
    rintro v2 H3 ⟨hk3, hn3, vy, err, rfl, hoy, hq3⟩ hok3
    obtain rfl := errq_nil hq3 rfl
    obtain ⟨hw1, hw2⟩ := sf_one (outF_sf hoy)
    have hk4 := NB_keeps hok3 e vy
    have hk04 := keeps_trans (keeps_trans hk1 hk3) hk4
    have hb3 := hk3 _ _ hb1
    have hne : ¬ H.next = H3.next := by omega
    have hA4 := AwakeC (hT.keeps hk04)
    have hSm := RSameC (a := e) (b := e) (vx := vy) (vy := vx) (H := NB H3 e vy) ((outF_sf hoy).keeps hk4) (hx.keeps hk04) (by omega) (by omega)
    rw [same_self] at hSm
    dsimp only at hoy
    simp only [entC] at hSm ⊢
    simp (disch := first | omega | (simp; done) | assumption) [wr64, wrU8, wrU64, Nat.add_assoc, -getElem?_pos, List.getElem?_cons_zero, List.getElem?_cons_succ, t3, hw1, hw2, hv1, hv2, hb3, hne]
    refine CallW.val hSm ?_
    simp (disch := first | omega | (simp; done) | assumption) [wr64, wrU8, wrU64, Nat.add_assoc, -getElem?_pos, List.getElem?_cons_zero, List.getElem?_cons_succ, t3, hw1, hw2, hb3, hne]
    refine CallW.val hA4 ?_
    simp (disch := first | omega | (simp; done) | assumption) [wr64, wrU8, wrU64, Nat.add_assoc, -getElem?_pos, List.getElem?_cons_zero, List.getElem?_cons_succ, rs7]
    exact hk04
theorem OrdersC {C : ICode} (hC : C = OdC) {fn : Func} (hF : Fits Tryz.prog 7 fn C rs7) (hnt : 3 ≤ fn.ntmps) {e : En} {vx : AV} {tu ga : Int} {H : AH} (hT : TOk H) (hx : SF H vx 2 (rowsB e.ex)) (hz : SzR e) :
    ACall Tryz.prog 7 [.agg (entC e vx), .int .i64 tu, .int .i64 ga] H (fun v H' => v = .bool true ∧ H' = H) :=
  acall_enter hF hnt (by simp) fun hok => Od1 hC hok hT hx hz fun tm H' hO hM => Od2 hC hok hT hx (by have := hO.n; omega) hO hM
theorem ConfOrders.walk (s0 s1 s2 : ByteArray) (a : Option Addr) (len cap : Nat) (s4 : ByteArray) (L : List (List AV)) (tu ga : Int) (W : World) (hsh : W.ShapedOpen Tryz.prog) (hG : ELaid.G W) (hb : s0.size ≤ maxLen ∧ s1.size ≤ maxLen ∧ s2.size ≤ maxLen ∧ s4.size ≤ maxLen) (h : IsFlat W [.str, .str] a len cap L)
    (_ : (Lit.int .i64 tu).wf = true) (_ : (Lit.int .i64 ga).wf = true) :
    Calls Tryz.prog 7 #[.agg #[.string s0, .string s1, .string s2, .slice a len cap, .string s4], .int .i64 tu, .int .i64 ga] W fun e W' => e = .returned (.bool true) ∧ Below W.heap.size W W' := by
  obtain ⟨e, vx, hx, hz, hv⟩ := entry_arg hsh hG hb h
  exact ELaid.walk hsh hG (OrdersC rfl fits7 (by simp) ⟨ELaid.H1_err W, ELaid.H1_pow W⟩ hx hz) (.cons hv (.cons (.int ..) (.cons (.int ..) .nil)))
end Go.Proofs.YtkehijlgbfjmkaaGreatDoor.KW

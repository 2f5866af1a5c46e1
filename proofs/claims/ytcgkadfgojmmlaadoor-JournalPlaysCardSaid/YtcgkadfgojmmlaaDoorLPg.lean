/- JournalPlays: the whole of it. No condition. -/
import Derived.Test.YtcgkadfgojmmlaaDoorLPf
set_option linter.unusedVariables false
set_option linter.unusedSimpArgs false
set_option maxRecDepth 100000
set_option maxHeartbeats 4000000
namespace Go.Proofs.YtcgkadfgojmmlaaDoor.JN
open Go Go.RowKit Go.Proofs.YtcgkadfgojmmlaaDoor Go.Proofs.YtcgkadfgojmmlaaDoor.Abs Go.Proofs.YtcgkadfgojmmlaaDoor.Ic Go.Proofs.YtcgkadfgojmmlaaDoor.EAs Go.Proofs.YtcgkadfgojmmlaaDoor.EErr Go.Proofs.YtcgkadfgojmmlaaDoor.DFn
abbrev PlQ (H : AH) : IPost := fnPost rs6 fun v H' => v = .bool true ∧ H.keepsAll H'
def PlO (v : AV) (M p L N : Nat) (H : AH) (kk : Nat) (tm : Tms) (H' : AH) : Prop := ∃ (i jb : Nat) (s : DK) (nw : List Int) (bs : Nat → Bs), kk = M - i ∧ i ≤ M ∧ JS H H' p L jb 4 6 s ∧ H'.at_ N = some (.cells false t18I (nw.map (AV.int .i64))) ∧ s.ct.length = 40 ∧ SOk s (1000 + 2000 * i) ∧ s.dead = false ∧ s.f = -1 ∧ Nw nw bs ∧ St0 4 6 bs s.ct ∧
  tm 0 = v ∧ tm 3 = .ptr p 0 ∧ tm 5 = .ptr jb 0 ∧ tm 6 = .ptr N 0 ∧ tm 7 = .int .i64 (i : Int)
theorem Pl1 {C : ICode} (hC : C = PlC) {v : AV} {ops : List OpA} {H : AH} (hok : H.ok) (hE : EOk H) (hops : OpsOk H v ops) : IWP Tryd.prog C (PlQ H) (tm0 [v]) H := by
  have hcut : C = (.seq (part_ [0] PlC) (.seq (part_ [1, 0] PlC) (.seq (part_ [1, 1, 0] PlC) (.seq (part_ [1, 1, 1, 0] PlC) (.seq (part_ [1, 1, 1, 1, 0] PlC) (.seq (part_ [1, 1, 1, 1, 1, 0] PlC) (.seq (.seq (part_ [1, 1, 1, 1, 1, 1, 0, 0] PlC) (.block 0 (.loop (.seq (part_ [1, 1, 1, 1, 1, 1, 0, 1, 0, 0, 0] PlC) (.seq (.block 1 (part_ [1, 1, 1, 1, 1, 1, 0, 1, 0, 0, 1, 0, 0] PlC)) (part_ [1, 1, 1, 1, 1, 1, 0, 1, 0, 0, 1, 1] PlC)))))) (part_ [1, 1, 1, 1, 1, 1, 1] PlC)))))))) := by rw [hC]; kernel_rfl
  have hRd := fun {p L jb N i c : Nat} {s : DK} {bs : Nat → Bs} {nw : List Int} {H1 : AH} {tm : Tms} hi hJ hN hN0 hct hs hc hst hnw t0 t3 t5 t6 t7 Q hX hR => @Round v p L jb N i c s ops bs nw H H1 tm hok hE hops hi hJ hN hN0 hct hs hc hst hnw t0 t3 t5 t6 t7 Q hX hR
  rw [hcut]
  clear hcut hC
  generalize part_ [1, 1, 1, 1, 1, 1, 0, 1, 0, 0, 1, 0, 0] PlC = ZR at *
  obtain ⟨hv1, hv2, hv3⟩ := sfl hops.sf
  rw [List.length_map] at hv1
  simp (disch := first | omega | (simp; done) | assumption) [wr64, wrU8, wrU64, Nat.add_assoc, -getElem?_pos, List.getElem?_cons_zero, List.getElem?_cons_succ, part_, PlC, ic6]
  refine CallW.okof (show ACall Tryd.prog _ [.int .i64 40] _ _ from New (n := 40) (by omega) (by omega) _) ?_
  rintro vv H1 ⟨hk1, hn1, p, L, rfl, hp, hL, hp1, hL1, hd1⟩ hok1
  try simp only [newO_none] at hk1 hn1 hp hL
  have hG0 : Geo 4 6 (List.replicate 40 (none : Option Bs)).length [(30, zer)] := ⟨by omega, by omega, by decide, by simp, by simp, by simp, good_one (by simp) (notown (by omega)) zer_len⟩
  simp (disch := first | omega | (simp; done) | assumption) [wr64, wrU8, wrU64, Nat.add_assoc, -getElem?_pos, List.getElem?_cons_zero, List.getElem?_cons_succ, ]
  refine CallW.okof (show ACall Tryd.prog _ [.ptr p 0, .int .i64 (-(0 + 1))] _ _ from Opened (base := zz) (-(0 + 1)) hd1 hG0 (by simp) (sok_fresh 40) (by omega) (.inl (st0_fresh _ _ _)) rfl (by show (-1 : Int) < 0; omega)) ?_
  rintro vv H2 ⟨n2, k2, s2, jb, hd2, rfl, hjb, hj2, hl2, hs2, hst2, ha2, hf2⟩ hok2
  try simp only [newO_none] at n2 k2 hjb
  rw [aftz, or_self] at hst2
  simp only [List.length_replicate] at hl2
  have hJ2 : JS H H2 p L jb 4 6 s2 := ⟨k2.keepsAll hk1 hok hp hL, hok2, by omega, hp, hL, hd2, hj2⟩
  simp (disch := first | omega | (simp; done) | assumption) [wr64, wrU8, wrU64, Nat.add_assoc, -getElem?_pos, List.getElem?_cons_zero, List.getElem?_cons_succ, ]
  refine CallW.val JAwake ?_
  simp (disch := first | omega | (simp; done) | assumption) [wr64, wrU8, wrU64, Nat.add_assoc, -getElem?_pos, List.getElem?_cons_zero, List.getElem?_cons_succ, ]
  have hz18 : (List.replicate 18 (0 : Int)).map (AV.int .i64) = [.int .i64 0, .int .i64 0, .int .i64 0, .int .i64 0, .int .i64 0, .int .i64 0, .int .i64 0, .int .i64 0, .int .i64 0, .int .i64 0, .int .i64 0, .int .i64 0, .int .i64 0, .int .i64 0, .int .i64 0, .int .i64 0, .int .i64 0, .int .i64 0] := rfl
  rw [← hz18]
  have hkN : H2.keepsAll (H2.new (.cells false t18I ((List.replicate 18 (0 : Int)).map (AV.int .i64)))) := keeps_new hok2 (AH.keepsAll_refl _) (Nat.le_refl _)
  have hnw0 : Nw (List.replicate 18 0) zz := ⟨by rw [List.length_replicate], fun k hk => by rw [List.getElem_replicate]; exact ⟨by omega, by omega, (if_pos rfl).symm⟩⟩
  have hnx2 := hJ2.next
  refine iwp_loop (PlO v (min ops.length 20) p L H2.next H) (min ops.length 20) ⟨0, jb, s2, _, zz, rfl, by omega, hJ2.mono hkN (AH.ok_new hok2) (by simp), AH.new_same _ _, hl2, hs2.mono (by omega), ha2, hf2, hnw0, hst2, by simp, by simp, by simp, by simp, by simp⟩ ?_
  clear hJ2 hkN hnw0 hz18 hd2 hst2 hs2 ha2 hf2 hj2 k2 hl2
  rintro kk tm H3 ⟨i, jb, s, nw, bs, rfl, hi, hJ, hN, hct, hs, ha, hf, hnw, hst, t0, t3, t5, t6, t7⟩
  generalize H2.next = N at *
  by_cases hlt : i < min ops.length 20
  · have h1 : i < ops.length := by omega
    have h1' : (i : Int) < (ops.length : Int) := by omega
    have h2 : (i : Int) < 20 := by omega
    have h2' : i < 20 := by omega
    simp (disch := first | omega | (simp; done) | assumption) [wr64, wrU8, wrU64, Nat.add_assoc, -getElem?_pos, List.getElem?_cons_zero, List.getElem?_cons_succ, t0, t3, t5, t6, t7, hv1, h1, h1', h2, h2']
    refine hRd h1 hJ hN hnx2 hct hs (by omega) hst hnw (by simp [t0]) (by simp [t3]) (by simp [t5]) (by simp [t6]) (by simp [t7]) _ (fun tm' H4 s4 jb4 nw4 bs4 a1 a2 a3 a4 a5 a6 a7 a8 b0 b3 b5 b6 b7 => ?_) fun tm' H4 a1 a2 => ?_
    · simp (disch := first | omega | (simp; done) | assumption) [wr64, wrU8, wrU64, Nat.add_assoc, -getElem?_pos, List.getElem?_cons_zero, List.getElem?_cons_succ, b7]
      exact ⟨min ops.length 20 - (i + 1), by omega, i + 1, jb4, s4, nw4, bs4, rfl, by omega, a1, a2, a3, a4.mono (by omega), a5, a6, a7, a8, by simp [b0], by simp [b3], by simp [b5], by simp [b6], by simp⟩
    · simp (disch := first | omega | (simp; done) | assumption) [wr64, wrU8, wrU64, Nat.add_assoc, -getElem?_pos, List.getElem?_cons_zero, List.getElem?_cons_succ, rs6, a2]
      exact a1
  · by_cases h1 : (i : Int) < (ops.length : Int)
    · have h2 : ¬ (i : Int) < 20 := by omega
      have h1' : i < ops.length := by omega
      have h2' : ¬ i < 20 := by omega
      simp (disch := first | omega | (simp; done) | assumption) [wr64, wrU8, wrU64, Nat.add_assoc, -getElem?_pos, List.getElem?_cons_zero, List.getElem?_cons_succ, t0, t3, t5, t6, t7, hv1, h1, h1', h2, h2', rs6]
      exact hJ.keeps
    · have h1' : ¬ i < ops.length := by omega
      simp (disch := first | omega | (simp; done) | assumption) [wr64, wrU8, wrU64, Nat.add_assoc, -getElem?_pos, List.getElem?_cons_zero, List.getElem?_cons_succ, t0, t3, t5, t6, t7, hv1, h1, h1', rs6]
      exact hJ.keeps
theorem PlaysC {C : ICode} (hC : C = PlC) {fn : Func} (hF : Fits Tryd.prog 6 fn C rs6) (hnt : 1 ≤ fn.ntmps) {v : AV} {ops : List OpA} {H : AH} (hE : EOk H) (hops : OpsOk H v ops) :
    ACall Tryd.prog 6 [v] H (fun v H' => v = .bool true ∧ H' = H) :=
  acall_enter hF hnt (by simp) fun hok => Pl1 hC hok hE hops
end Go.Proofs.YtcgkadfgojmmlaaDoor.JN

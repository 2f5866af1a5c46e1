/- ConfTurned. No condition. -/
import Derived.Test.YtkehijlgbfjmkaaGreatDoorKLPrints
set_option linter.unusedVariables false
set_option linter.unusedSimpArgs false
set_option maxRecDepth 10000
set_option maxHeartbeats 4000000
namespace Go.Proofs.YtkehijlgbfjmkaaGreatDoor.KW
open Go Go.RowKit Go.Proofs.YtkehijlgbfjmkaaGreatDoor Go.Proofs.YtkehijlgbfjmkaaGreatDoor.Abs Go.Proofs.YtkehijlgbfjmkaaGreatDoor.Ic Go.Proofs.YtkehijlgbfjmkaaGreatDoor.St Go.Proofs.YtkehijlgbfjmkaaGreatDoor.EAs Go.Proofs.YtkehijlgbfjmkaaGreatDoor.EErr
theorem tmod_small {q l : Nat} : ((q : Int)).tmod (l : Int) = ((q % l : Nat) : Int) := by
  rw [Int.tmod_eq_emod_of_nonneg (by omega)]
  exact (Int.natCast_emod q l).symm
theorem xor0 : ∀ c : Fin 256, bits .xor .u8 ((c.val : Nat) : Int) 0 = ((c.val : Nat) : Int) := by decide +kernel
theorem xor_byte (c : UInt8) (y : Int) : ∃ z : UInt8, bits .xor .u8 (c.toNat : Int) y = (z.toNat : Int) ∧ (y = 0 → z = c) := by
  have hw := wf_bits .xor .u8 (c.toNat : Int) y
  have hb : 0 ≤ bits .xor .u8 (c.toNat : Int) y ∧ bits .xor .u8 (c.toNat : Int) y ≤ 255 := by
    simp [Lit.wf, IntKind.min, IntKind.max, IntKind.signed, IntKind.bits] at hw
    omega
  have hz : ((UInt8.ofNat (bits .xor .u8 (c.toNat : Int) y).toNat).toNat : Int) = bits .xor .u8 (c.toNat : Int) y := by
    rw [UInt8.toNat_ofNat']
    omega
  refine ⟨UInt8.ofNat (bits .xor .u8 (c.toNat : Int) y).toNat, hz.symm, ?_⟩
  rintro rfl
  have h0 := xor0 ⟨c.toNat, c.toNat_lt⟩
  apply UInt8.toNat_inj.1
  have h1 : ((UInt8.ofNat (bits .xor .u8 (c.toNat : Int) 0).toNat).toNat : Int) = (c.toNat : Int) := hz.trans h0
  omega
theorem ConfTurnedL {e : En} {vx : AV} {H : AH} (n y : Int) (hy0 : 0 ≤ y) (hy1 : y ≤ 255) (hT : TOk H) (hx : SF H vx 2 (rowsB e.ex)) (hz : SzR e) : ACall Tryz.prog 4 [.agg (entC e vx), .int .i64 n, .int .u8 y] H (fun v H' => v = .bool true ∧ H' = H) := by
  refine acall_enter fits4 (by simp) (by simp) fun hok => ?_
  obtain ⟨hv1, hv2⟩ := sf_one hx
  have hkB := new_keeps hok (.cells false tEn (entC e vx))
  have hb0 : (H.new (.cells false tEn (entC e vx))).at_ H.next = some (.cells false tEn (entC e vx)) := AH.new_same _ _
  have hS := SmallC (hx.keeps hkB) hz
  have hTB := hT.keeps hkB
  have hA := AwakeC hTB
  have hPr := fun h => PrintC (e := e) (hx.keeps hkB) h
  have hRO := fun h => ROkC (e := e) (hx.keeps hkB) h
  unfold PrintP at hPr
  simp only [entC] at *
  simp (disch := first | omega | (simp; done) | assumption) [wr64, wrU8, wrU64, Nat.add_assoc, -getElem?_pos, List.getElem?_cons_zero, List.getElem?_cons_succ, ic4, rs4, hv1, hv2]
  refine CallW.val hS ?_
  cases hs : smallE e
  · simp (disch := first | omega | (simp; done) | assumption) [wr64, wrU8, wrU64, Nat.add_assoc, -getElem?_pos, List.getElem?_cons_zero, List.getElem?_cons_succ, hv1, hv2]
    refine CallW.val hA ?_
    simp (disch := first | omega | (simp; done) | assumption) [wr64, wrU8, wrU64, Nat.add_assoc, -getElem?_pos, List.getElem?_cons_zero, List.getElem?_cons_succ, ]
    exact hkB
  obtain ⟨hze, h20, _⟩ := small_sz hz hs
  simp (disch := first | omega | (simp; done) | assumption) [wr64, wrU8, wrU64, Nat.add_assoc, -getElem?_pos, List.getElem?_cons_zero, List.getElem?_cons_succ, hv1, hv2]
  refine CallW.val (hRO hze) ?_
  cases ho : okE e
  · simp (disch := first | omega | (simp; done) | assumption) [wr64, wrU8, wrU64, Nat.add_assoc, -getElem?_pos, List.getElem?_cons_zero, List.getElem?_cons_succ, hv1, hv2]
    refine CallW.val hA ?_
    simp (disch := first | omega | (simp; done) | assumption) [wr64, wrU8, wrU64, Nat.add_assoc, -getElem?_pos, List.getElem?_cons_zero, List.getElem?_cons_succ, ]
    exact hkB
  have hOk := (okE_iff e).1 ho
  rw [ho] at hPr
  simp only [if_true] at hPr
  simp (disch := first | omega | (simp; done) | assumption) [wr64, wrU8, wrU64, Nat.add_assoc, -getElem?_pos, List.getElem?_cons_zero, List.getElem?_cons_succ, hv1, hv2]
  refine CallW.okof (hPr hze) ?_
  rintro v H2 ⟨hk2, hn2, err, rfl, hq⟩ hok2
  obtain rfl := errq_nil hq rfl
  have hb2 := hk2 _ _ hb0
  have hk02 := keeps_trans hkB hk2
  have hpl := printE_len hOk
  have hp0 : printE e ≠ [] := by simp [printE, headP, wVer]
  have hback := parse_print hOk
  generalize printE e = X at *
  obtain ⟨q, hq1, hq2⟩ := mask_small 16 (by omega) n
  have hq1' : bits .and .i64 n 65535 = (q : Int) := hq1
  have hXpos : 0 < X.length := List.length_pos_iff.2 hp0
  have hmod : ((q : Int)).tmod (X.length : Int) = ((q % X.length : Nat) : Int) := tmod_small
  have hm : q % X.length < X.length := Nat.mod_lt _ hXpos
  generalize q % X.length = m at *
  have hXm : X[m]? = some X[m] := List.getElem?_eq_getElem hm
  obtain ⟨z, hz, hz0⟩ := xor_byte X[m] y
  have hset0 : z = X[m] → X.set m z = X := fun h => by rw [h]; exact List.set_getElem_self hm
  generalize X[m] = c at *
  have hX0 : ¬ (X.length : Int) = 0 := by omega
  have hm' : (m : Int) < (X.length : Int) := by omega
  have hms : (X.map fun c : UInt8 => AV.int IntKind.u8 (c.toNat : Int)).set m (.int .u8 (z.toNat : Int)) = (X.set m z).map byteV := by
    rw [List.map_set]
  simp (disch := first | omega | (simp; done) | assumption) [wr64, wrU8, wrU64, Nat.add_assoc, -getElem?_pos, List.getElem?_cons_zero, List.getElem?_cons_succ, hv1, hv2, hb2, hp0]
  refine Try.guard (by omega) ?_
  simp (disch := first | omega | (simp; done) | assumption) [wr64, wrU8, wrU64, Nat.add_assoc, -getElem?_pos, List.getElem?_cons_zero, List.getElem?_cons_succ, hq1', hmod, hX0, hp0, hm, hm']
  refine Try.intro hXm ?_
  simp (disch := first | omega | (simp; done) | assumption) [wr64, wrU8, wrU64, Nat.add_assoc, -getElem?_pos, List.getElem?_cons_zero, List.getElem?_cons_succ, hz, hm, hm']
  refine Try.guard (by omega) ?_
  have hset : ((H2.new (.cells false 5 (X.map fun c : UInt8 => AV.int IntKind.u8 (c.toNat : Int)))).set H2.next (some (.cells false 5 ((X.map fun c : UInt8 => AV.int IntKind.u8 (c.toNat : Int)).set m (.int .u8 (z.toNat : Int)))))).at_ H2.next = some (.cells false 5 ((X.set m z).map byteV)) := by rw [AH.set_same, hms]
  have hbs := b2s_own (load_own hset (show ((X.set m z).map byteV).length = X.length by simp)) 1
  have hkX : H2.keepsAll ((H2.new (.cells false 5 (X.map fun c : UInt8 => AV.int IntKind.u8 (c.toNat : Int)))).set H2.next (some (.cells false 5 ((X.map fun c : UInt8 => AV.int IntKind.u8 (c.toNat : Int)).set m (.int .u8 (z.toNat : Int)))))) := fun y o h => by have := hok2 _ _ h; rw [AH.set_ne _ _ (by omega), AH.new_ne _ _ (by omega)]; exact h
  have hnX : H2.next ≤ ((H2.new (.cells false 5 (X.map fun c : UInt8 => AV.int IntKind.u8 (c.toNat : Int)))).set H2.next (some (.cells false 5 ((X.map fun c : UInt8 => AV.int IntKind.u8 (c.toNat : Int)).set m (.int .u8 (z.toNat : Int)))))).next := by simp
  clear hset hms
  generalize (H2.new (.cells false 5 (X.map fun c : UInt8 => AV.int IntKind.u8 (c.toNat : Int)))).set H2.next (some (.cells false 5 ((X.map fun c : UInt8 => AV.int IntKind.u8 (c.toNat : Int)).set m (.int .u8 (z.toNat : Int))))) = HX at *
  have hk0X := keeps_trans hk02 hkX
  simp (disch := first | omega | (simp; done) | assumption) [wr64, wrU8, wrU64, Nat.add_assoc, -getElem?_pos, List.getElem?_cons_zero, List.getElem?_cons_succ, hbs]
  have hP2 := Parse (X.set m z) (by simp; omega) HX (hT.keeps hk0X).pow
  unfold ParseP at hP2
  refine CallW.okof hP2 ?_
  have hy00 : y = 0 → parseS (X.set m z) = (0, 0, e) := fun h => by rw [hset0 (hz0 h)]; exact hback
  have hpo := parse_ok (s := X.set m z)
  have hpb := parse_bad (s := X.set m z)
  clear hP2 hset0
  generalize parseS (X.set m z) = P at *
  obtain ⟨c', k', e'⟩ := P
  rintro v H3 ⟨hk3, hn3, vy, err, rfl, hoy, hq3⟩ hok3
  obtain ⟨hw1, hw2⟩ := sf_one (outF_sf hoy)
  obtain ⟨he1, he2⟩ := errq_one hq3
  have hk4 := NB_keeps hok3 e' vy
  have hk04 := keeps_trans (keeps_trans hk0X hk3) hk4
  have hb3 := hk3 _ _ (hkX _ _ hb2)
  have hne : ¬ H.next = H3.next := by have : (H.new (.cells false tEn [.str e.ver, .str e.kn, .str e.ks, vx, .str e.op])).next = H.next + 1 := rfl; omega
  have hA4 := AwakeC (hT.keeps hk04)
  dsimp only at hoy hpo hpb
  simp only [entC]
  by_cases hc : c' = 0
  · subst hc
    obtain rfl := errq_nil hq3 rfl
    have hO := hpo rfl
    have hOk4 := OkC (e := e') (vx := vy) (H := NB H3 e' vy) ((outF_sf hoy).keeps hk4) (szE_of hO)
    rw [(okE_iff e').2 hO] at hOk4
    simp only [entC] at hOk4
    simp (disch := first | omega | (simp; done) | assumption) [wr64, wrU8, wrU64, Nat.add_assoc, -getElem?_pos, List.getElem?_cons_zero, List.getElem?_cons_succ, hw1, hw2, hb3, hne]
    refine CallW.val hOk4 ?_
    by_cases hy : y = 0
    · have he := hy00 hy
      injection he with _ he
      injection he with _ he
      subst he
      have hSm := RSameC (a := e') (b := e') (vx := vy) (vy := vx) (H := NB H3 e' vy) ((outF_sf hoy).keeps hk4) (hx.keeps hk04) (by omega) (by omega)
      rw [same_self] at hSm
      simp only [entC] at hSm
      simp (disch := first | omega | (simp; done) | assumption) [wr64, wrU8, wrU64, Nat.add_assoc, -getElem?_pos, List.getElem?_cons_zero, List.getElem?_cons_succ, hw1, hw2, hb3, hne, hy, hv1, hv2]
      refine CallW.val hSm ?_
      simp (disch := first | omega | (simp; done) | assumption) [wr64, wrU8, wrU64, Nat.add_assoc, -getElem?_pos, List.getElem?_cons_zero, List.getElem?_cons_succ, hw1, hw2, hb3, hne, hy]
      refine CallW.val hA4 ?_
      simp (disch := first | omega | (simp; done) | assumption) [wr64, wrU8, wrU64, Nat.add_assoc, -getElem?_pos, List.getElem?_cons_zero, List.getElem?_cons_succ, ]
      exact hk04
    · simp (disch := first | omega | (simp; done) | assumption) [wr64, wrU8, wrU64, Nat.add_assoc, -getElem?_pos, List.getElem?_cons_zero, List.getElem?_cons_succ, hw1, hw2, hb3, hne, hy]
      refine CallW.val hA4 ?_
      simp (disch := first | omega | (simp; done) | assumption) [wr64, wrU8, wrU64, Nat.add_assoc, -getElem?_pos, List.getElem?_cons_zero, List.getElem?_cons_succ, ]
      exact hk04
  · have he := (hpb hc).1
    subst he
    have hSm := RSameC (a := e0) (b := e0) (vx := vy) (vy := .snil) (H := NB H3 e0 vy) ((outF_sf hoy).keeps hk4) (.inl ⟨rfl, .inl rfl⟩) (by simp [e0]) (by simp [e0])
    rw [same_self] at hSm
    have hq3' := hq3
    unfold ErrQ at hq3'
    rw [if_neg hc] at hq3'
    obtain ⟨g, _, _, rfl, _⟩ := hq3'
    simp only [entC, e0] at hSm
    simp only [e0]
    simp (disch := first | omega | (simp; done) | assumption) [wr64, wrU8, wrU64, Nat.add_assoc, -getElem?_pos, List.getElem?_cons_zero, List.getElem?_cons_succ, hw1, hw2, hb3, hne]
    refine CallW.val hSm ?_
    simp (disch := first | omega | (simp; done) | assumption) [wr64, wrU8, wrU64, Nat.add_assoc, -getElem?_pos, List.getElem?_cons_zero, List.getElem?_cons_succ, hw1, hw2, hb3, hne]
    refine CallW.val hA4 ?_
    simp (disch := first | omega | (simp; done) | assumption) [wr64, wrU8, wrU64, Nat.add_assoc, -getElem?_pos, List.getElem?_cons_zero, List.getElem?_cons_succ, ]
    exact hk04
theorem ConfTurned.walk (s0 s1 s2 : ByteArray) (a : Option Addr) (len cap : Nat) (s4 : ByteArray) (L : List (List AV)) (n y : Int) (W : World) (hsh : W.ShapedOpen Tryz.prog) (hG : ELaid.G W) (hb : s0.size ≤ maxLen ∧ s1.size ≤ maxLen ∧ s2.size ≤ maxLen ∧ s4.size ≤ maxLen) (h : IsFlat W [.str, .str] a len cap L)
    (_ : (Lit.int .i64 n).wf = true) (hy : (Lit.int .u8 y).wf = true) :
    Calls Tryz.prog 4 #[.agg #[.string s0, .string s1, .string s2, .slice a len cap, .string s4], .int .i64 n, .int .u8 y] W fun e W' => e = .returned (.bool true) ∧ Below W.heap.size W W' := by
  obtain ⟨e, vx, hx, hz, hv⟩ := entry_arg hsh hG hb h
  have hyy : 0 ≤ y ∧ y ≤ 255 := by
    simp [Lit.wf, IntKind.min, IntKind.max, IntKind.signed, IntKind.bits] at hy
    omega
  exact ELaid.walk hsh hG (ConfTurnedL n y hyy.1 hyy.2 ⟨ELaid.H1_err W, ELaid.H1_pow W⟩ hx hz) (.cons hv (.cons (.int ..) (.cons (.int ..) .nil)))
end Go.Proofs.YtkehijlgbfjmkaaGreatDoor.KW

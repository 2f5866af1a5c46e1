/- ConfPrints, ConfApart. No condition. -/
import Derived.Test.YtkehijlgbfjmkaaGreatDoorKSmall
import Derived.Test.YtkehijlgbfjmkaaGreatDoorKLParses
set_option linter.unusedVariables false
set_option linter.unusedSimpArgs false
set_option maxRecDepth 10000
set_option maxHeartbeats 4000000
namespace Go.Proofs.YtkehijlgbfjmkaaGreatDoor.KW
open Go Go.RowKit Go.Proofs.YtkehijlgbfjmkaaGreatDoor Go.Proofs.YtkehijlgbfjmkaaGreatDoor.Abs Go.Proofs.YtkehijlgbfjmkaaGreatDoor.Ic Go.Proofs.YtkehijlgbfjmkaaGreatDoor.St Go.Proofs.YtkehijlgbfjmkaaGreatDoor.EAs Go.Proofs.YtkehijlgbfjmkaaGreatDoor.EErr
theorem new_keeps {H : AH} (hok : H.ok) (o : AObj) : H.keepsAll (H.new o) := fun y q h => by have := hok _ _ h; rw [AH.new_ne _ _ (by omega)]; exact h
theorem keeps_trans {A B C : AH} (h : A.keepsAll B) (h' : B.keepsAll C) : A.keepsAll C := fun y o q => h' _ _ (h _ _ q)
theorem isQ_arg : isQ 1 0 [] 1 = true := by decide +kernel
theorem ConfPrintsL {e : En} {vx : AV} {H : AH} (hT : TOk H) (hx : SF H vx 2 (rowsB e.ex)) (hz : SzR e) : ACall Tryz.prog 5 [.agg (entC e vx)] H (fun v H' => v = .bool true ∧ H' = H) := by
  refine acall_enter fits5 (by simp) (by simp) fun hok => ?_
  obtain ⟨hv1, hv2⟩ := sf_one hx
  have hkB := new_keeps hok (.cells false tEn (entC e vx))
  have hb0 : (H.new (.cells false tEn (entC e vx))).at_ H.next = some (.cells false tEn (entC e vx)) := AH.new_same _ _
  have hS := SmallC (hx.keeps hkB) hz
  have hTB := hT.keeps hkB
  have hA := AwakeC hTB
  have hPr := fun h => PrintC (e := e) (hx.keeps hkB) h
  unfold PrintP at hPr
  simp only [entC] at *
  simp (disch := first | omega | (simp; done) | assumption) [wr64, wrU8, wrU64, Nat.add_assoc, -getElem?_pos, List.getElem?_cons_zero, List.getElem?_cons_succ, ic5, rs5, hv1, hv2]
  refine CallW.val hS ?_
  cases hs : smallE e
  · simp (disch := first | omega | (simp; done) | assumption) [wr64, wrU8, wrU64, Nat.add_assoc, -getElem?_pos, List.getElem?_cons_zero, List.getElem?_cons_succ, hv1, hv2]
    refine CallW.val hA ?_
    simp (disch := first | omega | (simp; done) | assumption) [wr64, wrU8, wrU64, Nat.add_assoc, -getElem?_pos, List.getElem?_cons_zero, List.getElem?_cons_succ, ]
    exact hkB
  obtain ⟨hze, h20, _⟩ := small_sz hz hs
  simp (disch := first | omega | (simp; done) | assumption) [wr64, wrU8, wrU64, Nat.add_assoc, -getElem?_pos, List.getElem?_cons_zero, List.getElem?_cons_succ, hv1, hv2]
  refine CallW.okof (hPr hze) ?_
  rintro v H2 ⟨hk2, hn2, err, rfl, hq⟩ hok2
  have hb2 := hk2 _ _ hb0
  have hk02 := keeps_trans hkB hk2
  obtain ⟨he1, he2⟩ := errq_one hq
  have hR := RPrintC (hx.keeps hk02) hze
  have hO := OkC (hx.keeps hk02) hze
  have hRO := ROkC (hx.keeps hk02) hze
  have hA2 := AwakeC (hT.keeps hk02)
  unfold rprintV at hR
  simp only [entC] at hR hO hRO
  cases ho : okE e
  · rw [ho] at hR hO hRO hq
    simp only [Bool.false_eq_true, if_false] at hR hq
    have hIs := IsQ (hT.keeps hk02) hq [] 1
    rw [isQ_arg] at hIs
    simp only [confB] at hIs
    simp (disch := first | omega | (simp; done) | assumption) [wr64, wrU8, wrU64, Nat.add_assoc, -getElem?_pos, List.getElem?_cons_zero, List.getElem?_cons_succ, hv1, hv2, he1, he2, hb2]
    refine CallW.val hR ?_
    simp (disch := first | omega | (simp; done) | assumption) [wr64, wrU8, wrU64, Nat.add_assoc, -getElem?_pos, List.getElem?_cons_zero, List.getElem?_cons_succ, hv1, hv2, he1, he2, hb2]
    refine CallW.val hO ?_
    simp (disch := first | omega | (simp; done) | assumption) [wr64, wrU8, wrU64, Nat.add_assoc, -getElem?_pos, List.getElem?_cons_zero, List.getElem?_cons_succ, hv1, hv2, he1, he2, hb2]
    refine CallW.val hRO ?_
    simp (disch := first | omega | (simp; done) | assumption) [wr64, wrU8, wrU64, Nat.add_assoc, -getElem?_pos, List.getElem?_cons_zero, List.getElem?_cons_succ, hv1, hv2, he1, he2, hb2]
    refine CallW.val hIs ?_
    simp (disch := first | omega | (simp; done) | assumption) [wr64, wrU8, wrU64, Nat.add_assoc, -getElem?_pos, List.getElem?_cons_zero, List.getElem?_cons_succ, hv1, hv2, he1, he2, hb2]
    refine CallW.val hA2 ?_
    simp (disch := first | omega | (simp; done) | assumption) [wr64, wrU8, wrU64, Nat.add_assoc, -getElem?_pos, List.getElem?_cons_zero, List.getElem?_cons_succ, ]
    exact hk02
  · have hOk := (okE_iff e).1 ho
    rw [ho] at hR hO hRO hq
    simp only [if_true] at hR hq
    obtain rfl := errq_nil hq rfl
    have hpl := printE_len hOk
    have hP2 := Parse (printE e) (by omega) H2 (hT.keeps hk02).pow
    unfold ParseP at hP2
    rw [parse_print hOk] at hP2
    simp (disch := first | omega | (simp; done) | assumption) [wr64, wrU8, wrU64, Nat.add_assoc, -getElem?_pos, List.getElem?_cons_zero, List.getElem?_cons_succ, hv1, hv2, hb2]
    refine CallW.val hR ?_
    simp (disch := first | omega | (simp; done) | assumption) [wr64, wrU8, wrU64, Nat.add_assoc, -getElem?_pos, List.getElem?_cons_zero, List.getElem?_cons_succ, hv1, hv2, hb2]
    refine CallW.val hO ?_
    simp (disch := first | omega | (simp; done) | assumption) [wr64, wrU8, wrU64, Nat.add_assoc, -getElem?_pos, List.getElem?_cons_zero, List.getElem?_cons_succ, hv1, hv2, hb2]
    refine CallW.val hRO ?_
    simp (disch := first | omega | (simp; done) | assumption) [wr64, wrU8, wrU64, Nat.add_assoc, -getElem?_pos, List.getElem?_cons_zero, List.getElem?_cons_succ, hv1, hv2, hb2]
    refine CallW.okof hP2 ?_
    rintro v H3 ⟨hk3, hn3, vy, err3, rfl, hoy, hq3⟩ hok3
    obtain rfl := errq_nil hq3 rfl
    obtain ⟨hw1, hw2⟩ := sf_one (outF_sf hoy)
    have hk4 := NB_keeps hok3 e vy
    have hk24 := keeps_trans hk3 hk4
    have hb4 := hk3 _ _ hb2
    have hne : ¬ H.next = H3.next := by have : (H.new (.cells false tEn [.str e.ver, .str e.kn, .str e.ks, vx, .str e.op])).next = H.next + 1 := rfl; omega
    have hSm := RSameC (a := e) (b := e) (vx := vy) (vy := vx) (H := NB H3 e vy) ((outF_sf hoy).keeps hk4) (hx.keeps (keeps_trans hk02 hk24)) (by omega) (by omega)
    rw [same_self] at hSm
    simp only [entC] at hSm ⊢
    simp (disch := first | omega | (simp; done) | assumption) [wr64, wrU8, wrU64, Nat.add_assoc, -getElem?_pos, List.getElem?_cons_zero, List.getElem?_cons_succ, hv1, hv2, hw1, hw2, hb4, hne]
    refine CallW.val hSm ?_
    simp (disch := first | omega | (simp; done) | assumption) [wr64, wrU8, wrU64, Nat.add_assoc, -getElem?_pos, List.getElem?_cons_zero, List.getElem?_cons_succ, hv1, hv2, hw1, hw2, hb4, hne]
    refine CallW.val (AwakeC (hT.keeps (keeps_trans hk02 hk24))) ?_
    simp (disch := first | omega | (simp; done) | assumption) [wr64, wrU8, wrU64, Nat.add_assoc, -getElem?_pos, List.getElem?_cons_zero, List.getElem?_cons_succ, ]
    exact keeps_trans hk02 hk24
theorem ConfPrints.walk (s0 s1 s2 : ByteArray) (a : Option Addr) (len cap : Nat) (s4 : ByteArray) (L : List (List AV)) (W : World) (hsh : W.ShapedOpen Tryz.prog) (hG : ELaid.G W) (hb : s0.size ≤ maxLen ∧ s1.size ≤ maxLen ∧ s2.size ≤ maxLen ∧ s4.size ≤ maxLen) (h : IsFlat W [.str, .str] a len cap L) :
    Calls Tryz.prog 5 #[.agg #[.string s0, .string s1, .string s2, .slice a len cap, .string s4]] W fun e W' => e = .returned (.bool true) ∧ Below W.heap.size W W' := by
  obtain ⟨e, vx, hx, hz, hv⟩ := entry_arg hsh hG hb h
  exact ELaid.walk hsh hG (ConfPrintsL ⟨ELaid.H1_err W, ELaid.H1_pow W⟩ hx hz) (.cons hv .nil)
theorem print_same {a b : En} (ha : OkP a) (hb : OkP b) : decide (printE a = printE b) = sameE a b := by
  rw [Bool.eq_iff_iff, decide_eq_true_eq, sameE_iff]
  constructor
  · intro h
    have h1 := parse_print ha
    rw [h, parse_print hb] at h1
    injection h1 with _ h1
    injection h1 with _ h1
    exact h1.symm
  · rintro rfl; rfl
theorem ConfApartL {a b : En} {vx vy : AV} {H : AH} (hT : TOk H) (hx : SF H vx 2 (rowsB a.ex)) (hz : SzR a) (hy : SF H vy 2 (rowsB b.ex)) (hzb : SzR b) :
    ACall Tryz.prog 3 [.agg (entC a vx), .agg (entC b vy)] H (fun v H' => v = .bool true ∧ H' = H) := by
  refine acall_enter fits3 (by simp) (by simp) fun hok => ?_
  obtain ⟨hv1, hv2⟩ := sf_one hx
  obtain ⟨hw1, hw2⟩ := sf_one hy
  have hkB : H.keepsAll ((H.new (.cells false tEn (entC a vx))).new (.cells false tEn (entC b vy))) := fun y o h => by have := hok _ _ h; rw [AH.new_ne _ _ (by simp; omega), AH.new_ne _ _ (by omega)]; exact h
  have hb0 : ((H.new (.cells false tEn (entC a vx))).new (.cells false tEn (entC b vy))).at_ H.next = some (.cells false tEn (entC a vx)) := by rw [AH.new_ne _ _ (by simp), AH.new_same]
  have hb1 : ((H.new (.cells false tEn (entC a vx))).new (.cells false tEn (entC b vy))).at_ (H.next + 1) = some (.cells false tEn (entC b vy)) := AH.new_same _ _
  have hSa := SmallC (hx.keeps hkB) hz
  have hSb := SmallC (hy.keeps hkB) hzb
  have hOa := fun h => ROkC (e := a) (hx.keeps hkB) h
  have hOb := fun h => ROkC (e := b) (hy.keeps hkB) h
  have hTB := hT.keeps hkB
  have hA := AwakeC hTB
  have hPr := fun h => PrintC (e := a) (hx.keeps hkB) h
  unfold PrintP at hPr
  simp only [entC] at *
  simp (disch := first | omega | (simp; done) | assumption) [wr64, wrU8, wrU64, Nat.add_assoc, -getElem?_pos, List.getElem?_cons_zero, List.getElem?_cons_succ, ic3, rs3, hv1, hv2, hw1, hw2]
  refine CallW.val hSa ?_
  cases hs : smallE a
  · simp (disch := first | omega | (simp; done) | assumption) [wr64, wrU8, wrU64, Nat.add_assoc, -getElem?_pos, List.getElem?_cons_zero, List.getElem?_cons_succ, hv1, hv2, hw1, hw2]
    refine CallW.val hA ?_
    simp (disch := first | omega | (simp; done) | assumption) [wr64, wrU8, wrU64, Nat.add_assoc, -getElem?_pos, List.getElem?_cons_zero, List.getElem?_cons_succ, ]
    exact hkB
  obtain ⟨hza, ha20, _⟩ := small_sz hz hs
  simp (disch := first | omega | (simp; done) | assumption) [wr64, wrU8, wrU64, Nat.add_assoc, -getElem?_pos, List.getElem?_cons_zero, List.getElem?_cons_succ, hv1, hv2, hw1, hw2]
  refine CallW.val hSb ?_
  cases hs2 : smallE b
  · simp (disch := first | omega | (simp; done) | assumption) [wr64, wrU8, wrU64, Nat.add_assoc, -getElem?_pos, List.getElem?_cons_zero, List.getElem?_cons_succ, hv1, hv2, hw1, hw2]
    refine CallW.val hA ?_
    simp (disch := first | omega | (simp; done) | assumption) [wr64, wrU8, wrU64, Nat.add_assoc, -getElem?_pos, List.getElem?_cons_zero, List.getElem?_cons_succ, ]
    exact hkB
  obtain ⟨hzb2, hb20, _⟩ := small_sz hzb hs2
  simp (disch := first | omega | (simp; done) | assumption) [wr64, wrU8, wrU64, Nat.add_assoc, -getElem?_pos, List.getElem?_cons_zero, List.getElem?_cons_succ, hv1, hv2, hw1, hw2]
  refine CallW.val (hOa hza) ?_
  cases hoa : okE a
  · simp (disch := first | omega | (simp; done) | assumption) [wr64, wrU8, wrU64, Nat.add_assoc, -getElem?_pos, List.getElem?_cons_zero, List.getElem?_cons_succ, hv1, hv2, hw1, hw2]
    refine CallW.val hA ?_
    simp (disch := first | omega | (simp; done) | assumption) [wr64, wrU8, wrU64, Nat.add_assoc, -getElem?_pos, List.getElem?_cons_zero, List.getElem?_cons_succ, ]
    exact hkB
  simp (disch := first | omega | (simp; done) | assumption) [wr64, wrU8, wrU64, Nat.add_assoc, -getElem?_pos, List.getElem?_cons_zero, List.getElem?_cons_succ, hv1, hv2, hw1, hw2]
  refine CallW.val (hOb hzb2) ?_
  cases hob : okE b
  · simp (disch := first | omega | (simp; done) | assumption) [wr64, wrU8, wrU64, Nat.add_assoc, -getElem?_pos, List.getElem?_cons_zero, List.getElem?_cons_succ, hv1, hv2, hw1, hw2]
    refine CallW.val hA ?_
    simp (disch := first | omega | (simp; done) | assumption) [wr64, wrU8, wrU64, Nat.add_assoc, -getElem?_pos, List.getElem?_cons_zero, List.getElem?_cons_succ, ]
    exact hkB
  have hOka := (okE_iff a).1 hoa
  have hOkb := (okE_iff b).1 hob
  rw [hoa] at hPr
  simp only [if_true] at hPr
  simp (disch := first | omega | (simp; done) | assumption) [wr64, wrU8, wrU64, Nat.add_assoc, -getElem?_pos, List.getElem?_cons_zero, List.getElem?_cons_succ, hv1, hv2, hw1, hw2]
  refine CallW.okof (hPr hza) ?_
  rintro v H2 ⟨hk2, hn2, err, rfl, hq⟩ hok2
  obtain rfl := errq_nil hq rfl
  have hk02 := keeps_trans hkB hk2
  have hb2 := hk2 _ _ hb0
  have hb3 := hk2 _ _ hb1
  have hPb := PrintC (e := b) (hy.keeps hk02) hzb2
  unfold PrintP at hPb
  rw [hob] at hPb
  simp only [if_true, entC] at hPb
  simp (disch := first | omega | (simp; done) | assumption) [wr64, wrU8, wrU64, Nat.add_assoc, -getElem?_pos, List.getElem?_cons_zero, List.getElem?_cons_succ, hv1, hv2, hw1, hw2, hb2, hb3]
  refine CallW.okof hPb ?_
  rintro v H3 ⟨hk3, hn3, err, rfl, hq3⟩ hok3
  obtain rfl := errq_nil hq3 rfl
  have hk03 := keeps_trans hk02 hk3
  have hb4 := hk3 _ _ hb2
  have hb5 := hk3 _ _ hb3
  have hSm := RSameC (a := a) (b := b) (hx.keeps hk03) (hy.keeps hk03) (by omega) (by omega)
  rw [← print_same hOka hOkb] at hSm
  simp only [entC] at hSm
  have hA3 := AwakeC (hT.keeps hk03)
  simp (disch := first | omega | (simp; done) | assumption) [wr64, wrU8, wrU64, Nat.add_assoc, -getElem?_pos, List.getElem?_cons_zero, List.getElem?_cons_succ, hv1, hv2, hw1, hw2, hb4, hb5]
  refine CallW.val hSm ?_
  simp (disch := first | omega | (simp; done) | assumption) [wr64, wrU8, wrU64, Nat.add_assoc, -getElem?_pos, List.getElem?_cons_zero, List.getElem?_cons_succ, hv1, hv2, hw1, hw2, hb4, hb5]
  refine CallW.val hA3 ?_
  simp (disch := first | omega | (simp; done) | assumption) [wr64, wrU8, wrU64, Nat.add_assoc, -getElem?_pos, List.getElem?_cons_zero, List.getElem?_cons_succ, ]
  exact hk03
theorem ConfApart.walk (s0 s1 s2 : ByteArray) (a : Option Addr) (len cap : Nat) (s4 : ByteArray) (L : List (List AV)) (t0 t1 t2 : ByteArray) (a' : Option Addr) (len' cap' : Nat) (t4 : ByteArray) (L' : List (List AV)) (W : World) (hsh : W.ShapedOpen Tryz.prog) (hG : ELaid.G W)
    (hb : s0.size ≤ maxLen ∧ s1.size ≤ maxLen ∧ s2.size ≤ maxLen ∧ s4.size ≤ maxLen) (h : IsFlat W [.str, .str] a len cap L) (hb' : t0.size ≤ maxLen ∧ t1.size ≤ maxLen ∧ t2.size ≤ maxLen ∧ t4.size ≤ maxLen) (h' : IsFlat W [.str, .str] a' len' cap' L') :
    Calls Tryz.prog 3 #[.agg #[.string s0, .string s1, .string s2, .slice a len cap, .string s4], .agg #[.string t0, .string t1, .string t2, .slice a' len' cap', .string t4]] W fun e W' => e = .returned (.bool true) ∧ Below W.heap.size W W' := by
  obtain ⟨e, vx, hx, hz, hv⟩ := entry_arg hsh hG hb h
  obtain ⟨e', vy, hy, hzy, hv'⟩ := entry_arg hsh hG hb' h'
  exact ELaid.walk hsh hG (ConfApartL ⟨ELaid.H1_err W, ELaid.H1_pow W⟩ hx hz hy hzy) (.cons hv (.cons hv' .nil))
end Go.Proofs.YtkehijlgbfjmkaaGreatDoor.KW

/- ConfParses. No condition. -/
import Derived.Test.YtkehijlgbfjmkaaGreatDoorKAw
import Derived.Test.YtkehijlgbfjmkaaGreatDoorELaid
set_option linter.unusedVariables false
set_option linter.unusedSimpArgs false
set_option maxRecDepth 10000
set_option maxHeartbeats 4000000
namespace Go.Proofs.YtkehijlgbfjmkaaGreatDoor.KW
open Go Go.RowKit Go.Proofs.YtkehijlgbfjmkaaGreatDoor Go.Proofs.YtkehijlgbfjmkaaGreatDoor.Abs Go.Proofs.YtkehijlgbfjmkaaGreatDoor.Ic Go.Proofs.YtkehijlgbfjmkaaGreatDoor.St Go.Proofs.YtkehijlgbfjmkaaGreatDoor.EAs Go.Proofs.YtkehijlgbfjmkaaGreatDoor.EErr
theorem sf_one {vx : AV} {H : AH} {ex : List Blb} (hx : SF H vx 2 (rowsB ex)) : vx.cells = [vx] ∧ vx.one = true := (sf_len hx).2
theorem parseL_at : ∀ (ls : List (List UInt8)) (e : En) (n k : Nat) (e' : En), parseL e n ls = (some k, e') → k ≤ n + ls.length
  | [], e, n, k, e', h => by rw [parseL] at h; cases h
  | l :: ls, e, n, k, e', h => by
    rw [parseL] at h
    rw [List.length_cons]
    split at h
    · have := parseL_at ls e (n + 1) k e' h; omega
    · split at h
      · have := parseL_at ls _ (n + 1) k e' h; omega
      · cases h; omega
theorem parse_at (s : List UInt8) : (parseS s).2.1 ≤ 2001 := by
  unfold parseS
  split
  · show 0 ≤ 2001; omega
  · rename_i hl
    cases hp : parseL e0 0 (pcs s) with
    | mk a e =>
      cases a with
      | some k =>
        have h1 := parseL_at _ _ _ _ _ hp
        have h2 := pcs_len s
        show k ≤ 2001
        omega
      | none =>
        simp only []
        split <;> (show 0 ≤ 2001; omega)
theorem same_self (e : En) : sameE e e = true := (sameE_iff e e).2 rfl
theorem isQ_self (c : Int) (k : Nat) : isQ c k (nmQ c k) c = true := by
  unfold isQ
  split <;> simp [*]
theorem ConfParsesL (s : List UInt8) {H : AH} (hT : TOk H) (hs : s.length ≤ 9223372036854775000) : ACall Tryz.prog 6 [.str s] H (fun v H' => v = .bool true ∧ H' = H) := by
  refine acall_enter fits6 (by simp) (by simp) fun hok => ?_
  by_cases hl : 5000 < s.length
  · have hl' : (5000 : Int) < (s.length : Int) := by omega
    simp (disch := first | omega | (simp; done) | assumption) [wr64, wrU8, wrU64, Nat.add_assoc, -getElem?_pos, List.getElem?_cons_zero, List.getElem?_cons_succ, ic6, rs6, hl, hl']
    refine CallW.val (AwakeC hT) ?_
    simp (disch := first | omega | (simp; done) | assumption) [wr64, wrU8, wrU64, Nat.add_assoc, -getElem?_pos, List.getElem?_cons_zero, List.getElem?_cons_succ, ]
    ((repeat (first | exact AH.keepsAll_refl _ | refine keeps_set hok ?_ (by first | omega | (simp; done) | (simp; omega)) | refine keeps_new hok ?_ (by first | omega | (simp; done) | (simp; omega)))); done)
  have hl' : ¬ (5000 : Int) < (s.length : Int) := by omega
  simp (disch := first | omega | (simp; done) | assumption) [wr64, wrU8, wrU64, Nat.add_assoc, -getElem?_pos, List.getElem?_cons_zero, List.getElem?_cons_succ, ic6, rs6, hl, hl']
  refine CallW.okof (Parse s hs H hT.pow) ?_
  unfold ParseP
  generalize hp : parseS s = P
  obtain ⟨c, k, e⟩ := P
  rintro v H2 ⟨hk2, hn2, vx, err, rfl, ho, hq⟩ hok2
  try simp only [newO_none] at hk2 hn2 ho hq
  obtain ⟨hv1, hv2⟩ := sf_one (outF_sf ho)
  obtain ⟨he1, he2⟩ := errq_one hq
  simp only [entC]
  simp (disch := first | omega | (simp; done) | assumption) [wr64, wrU8, wrU64, Nat.add_assoc, -getElem?_pos, List.getElem?_cons_zero, List.getElem?_cons_succ, hv1, hv2, he1, he2]
  have hR := RParse s hs (NB H2 e vx)
  unfold RParseP at hR
  rw [hp] at hR
  refine CallW.okof hR ?_
  rintro v H3 ⟨hk3, hn3, vy, rfl, hoy⟩ hok3
  obtain ⟨hw1, hw2⟩ := sf_one (outF_sf hoy)
  have hb3 := hk3 _ _ (NB_at H2 e vx)
  simp only [entC] at hb3 ⊢
  have hk03 : H2.keepsAll H3 := fun y o h => hk3 _ _ (NB_keeps hok2 e vx _ _ h)
  simp (disch := first | omega | (simp; done) | assumption) [wr64, wrU8, wrU64, Nat.add_assoc, -getElem?_pos, List.getElem?_cons_zero, List.getElem?_cons_succ, hw1, hw2]
  have hk4 := NB_keeps hok3 e vy
  have hkn : k ≤ 2001 := by have := parse_at s; rw [hp] at this; exact this
  have hT4 : TOk (NB H3 e vy) := hT.keeps fun y o h => hk4 _ _ (hk03 _ _ (hk2 _ _ h))
  have hIs := IsQ hT4 (errq_keeps (errq_keeps hq hk03) hk4) (nmQ c k) c
  rw [isQ_self] at hIs
  simp only [confB] at hIs
  have hS := RSameC (a := e) (b := e) (vx := vx) (vy := vy) (H := NB H3 e vy) (((outF_sf ho).keeps hk03).keeps hk4) ((outF_sf hoy).keeps hk4)
  rw [same_self] at hS
  have hne : ¬ H2.next = H3.next := by rw [NB_next] at hn3; omega
  have hlb : e.ex.length ≤ 8 := by
    by_cases hc : c = 0
    · have := parse_ok (s := s) (by rw [hp]; exact hc); rw [hp] at this; exact this.n
    · have := (parse_bad (s := s) (by rw [hp]; exact hc)).1; rw [hp] at this; simp only [] at this; rw [this]; simp [e0]
  have hS := hS (by omega) (by omega)
  have hA := AwakeC hT4
  have hkf : H.keepsAll (NB H3 e vy) := fun y o h => hk4 _ _ (hk03 _ _ (hk2 _ _ h))
  simp only [entC] at hS
  by_cases hc30 : c = 30
  · subst hc30
    rw [show nmQ 30 k = Lib.itoa (k : Int) from rfl] at hIs
    simp (disch := first | omega | (simp; done) | assumption) [wr64, wrU8, wrU64, Nat.add_assoc, -getElem?_pos, List.getElem?_cons_zero, List.getElem?_cons_succ, hw1, hw2]
    refine CallW.val (CNum.Num (k : Int) (by omega) (by omega) (NB H3 e vy)) ?_
    simp (disch := first | omega | (simp; done) | assumption) [wr64, wrU8, wrU64, Nat.add_assoc, -getElem?_pos, List.getElem?_cons_zero, List.getElem?_cons_succ, hw1, hw2]
    refine CallW.val hIs ?_
    simp (disch := first | omega | (simp; done) | assumption) [wr64, wrU8, wrU64, Nat.add_assoc, -getElem?_pos, List.getElem?_cons_zero, List.getElem?_cons_succ, hw1, hw2, hb3, hne, hv1, hv2]
    refine CallW.val hS ?_
    simp (disch := first | omega | (simp; done) | assumption) [wr64, wrU8, wrU64, Nat.add_assoc, -getElem?_pos, List.getElem?_cons_zero, List.getElem?_cons_succ, hw1, hw2, hb3, hne]
    refine CallW.val hA ?_
    simp (disch := first | omega | (simp; done) | assumption) [wr64, wrU8, wrU64, Nat.add_assoc, -getElem?_pos, List.getElem?_cons_zero, List.getElem?_cons_succ, ]
    exact hkf
  · rw [show nmQ c k = [] from if_neg hc30] at hIs
    simp (disch := first | omega | (simp; done) | assumption) [wr64, wrU8, wrU64, Nat.add_assoc, -getElem?_pos, List.getElem?_cons_zero, List.getElem?_cons_succ, hw1, hw2, hc30]
    refine CallW.val hIs ?_
    simp (disch := first | omega | (simp; done) | assumption) [wr64, wrU8, wrU64, Nat.add_assoc, -getElem?_pos, List.getElem?_cons_zero, List.getElem?_cons_succ, hw1, hw2, hb3, hne, hv1, hv2]
    refine CallW.val hS ?_
    by_cases hc0 : c = 0
    case neg =>
      simp (disch := first | omega | (simp; done) | assumption) [wr64, wrU8, wrU64, Nat.add_assoc, -getElem?_pos, List.getElem?_cons_zero, List.getElem?_cons_succ, hw1, hw2, hb3, hne, hc0]
      refine CallW.val hA ?_
      simp (disch := first | omega | (simp; done) | assumption) [wr64, wrU8, wrU64, Nat.add_assoc, -getElem?_pos, List.getElem?_cons_zero, List.getElem?_cons_succ, ]
      exact hkf
    subst hc0
    simp (disch := first | omega | (simp; done) | assumption) [wr64, wrU8, wrU64, Nat.add_assoc, -getElem?_pos, List.getElem?_cons_zero, List.getElem?_cons_succ, hw1, hw2, hb3, hne, hv1, hv2]
    have hOk : OkP e := by have := parse_ok (s := s) (by rw [hp]); rw [hp] at this; exact this
    have hPr := PrintC (e := e) (vx := vx) (H := NB H3 e vy) (((outF_sf ho).keeps hk03).keeps hk4) (szE_of hOk)
    unfold PrintP at hPr
    simp only [(okE_iff e).2 hOk, if_true, entC] at hPr
    refine CallW.okof hPr ?_
    rintro v H5 ⟨hk5, hn5, err5, rfl, hq5⟩ hok5
    obtain rfl := errq_nil hq5 rfl
    simp (disch := first | omega | (simp; done) | assumption) [wr64, wrU8, wrU64, Nat.add_assoc, -getElem?_pos, List.getElem?_cons_zero, List.getElem?_cons_succ, hw1, hw2]
    have hpl := printE_len hOk
    have hT5 : TOk H5 := hT4.keeps hk5
    have hP2 := Parse (printE e) (by omega) H5 hT5.pow
    unfold ParseP at hP2
    rw [parse_print hOk] at hP2
    refine CallW.okof hP2 ?_
    rintro v H6 ⟨hk6, hn6, vz, err6, rfl, hoz, hq6⟩ hok6
    obtain rfl := errq_nil hq6 rfl
    obtain ⟨hz1, hz2⟩ := sf_one (outF_sf hoz)
    have hb5 := hk6 _ _ (hk5 _ _ (NB_at H3 e vy))
    have hk7 := NB_keeps hok6 e vz
    have hne2 : ¬ H3.next = H6.next := by rw [NB_next] at hn5; omega
    have hk46 : (NB H3 e vy).keepsAll (NB H6 e vz) := fun y o h => hk7 _ _ (hk6 _ _ (hk5 _ _ h))
    have hS2 := RSameC (a := e) (b := e) (vx := vy) (vy := vz) (H := NB H6 e vz) (((outF_sf hoy).keeps hk4).keeps hk46) ((outF_sf hoz).keeps hk7) (by omega) (by omega)
    rw [same_self] at hS2
    simp only [entC] at hS2 hb5 ⊢
    simp (disch := first | omega | (simp; done) | assumption) [wr64, wrU8, wrU64, Nat.add_assoc, -getElem?_pos, List.getElem?_cons_zero, List.getElem?_cons_succ, hz1, hz2, hw1, hw2, hb5, hne2]
    refine CallW.val hS2 ?_
    simp (disch := first | omega | (simp; done) | assumption) [wr64, wrU8, wrU64, Nat.add_assoc, -getElem?_pos, List.getElem?_cons_zero, List.getElem?_cons_succ, hz1, hz2, hw1, hw2, hb5, hne2]
    refine CallW.val (AwakeC (hT4.keeps hk46)) ?_
    simp (disch := first | omega | (simp; done) | assumption) [wr64, wrU8, wrU64, Nat.add_assoc, -getElem?_pos, List.getElem?_cons_zero, List.getElem?_cons_succ, ]
    exact fun y o h => hk46 _ _ (hkf _ _ h)
theorem ConfParses.walk (a0 : ByteArray) (W : World) (hsh : W.ShapedOpen Tryz.prog) (hG : ELaid.G W) (h0 : a0.size ≤ 140737488351232) :
    Calls Tryz.prog 6 #[.string a0] W fun e W' => e = .returned (.bool true) ∧ Below W.heap.size W W' :=
  ELaid.walk hsh hG (ConfParsesL a0.data.toList ⟨ELaid.H1_err W, ELaid.H1_pow W⟩ (by rw [Array.length_toList]; have : a0.data.size = a0.size := rfl; omega)) (.cons (.str _) .nil)
end Go.Proofs.YtkehijlgbfjmkaaGreatDoor.KW

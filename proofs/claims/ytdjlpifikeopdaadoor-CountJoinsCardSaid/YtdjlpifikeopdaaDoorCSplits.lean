/- CountSplits, worked out. -/
import Derived.Test.YtdjlpifikeopdaaDoorCRefs
import Derived.Test.YtdjlpifikeopdaaDoorCLaid
set_option linter.unusedVariables false
set_option linter.unusedSimpArgs false
set_option maxRecDepth 10000
namespace Go.Proofs.YtdjlpifikeopdaaDoor.CSplits
open Go Go.RowKit Go.Proofs.YtdjlpifikeopdaaDoor Go.Proofs.YtdjlpifikeopdaaDoor.Abs Go.Proofs.YtdjlpifikeopdaaDoor.Ic Go.Proofs.YtdjlpifikeopdaaDoor.CFn Go.Proofs.YtdjlpifikeopdaaDoor.CBig Go.Proofs.YtdjlpifikeopdaaDoor.Cm
theorem joinL_tl (a : List UInt8) {L D : Nat} (hL : L < 100) (hD : D < 100) : joinL a true L D = (a ++ 43 :: tl L D) ++ conf := by
  unfold joinL tl
  rw [if_pos rfl, itoa_d2 hL]
  by_cases h0 : D = 0
  · subst h0; simp
  · rw [if_neg (by omega), if_neg h0, itoa_d2 hD]; simp
theorem splitV_cases (l : List UInt8) : splitV l = .tuple [.str [], cnt false 0 0, .bool false] ∨ ∃ (a : List UInt8) (h : Bool) (L D : Nat), splitV l = .tuple [.str a, cnt h L D, .bool true] ∧ a ≠ [] ∧ L < 100 ∧ D < 100 ∧ joinL a h L D = l ∧ ok h L D = true := by
  by_cases hc : Lib.hasSuffix l conf = true ∧ Lib.trimSuffix l conf ≠ []
  · right
    obtain ⟨h1, h2⟩ := hc
    have hv : splitV l = resV (Lib.trimSuffix l conf) := if_pos ⟨h1, h2⟩
    have hl : l = Lib.trimSuffix l conf ++ conf := by
      rcases CRefs.suf_cases l with ⟨_, h3, _, h4⟩ | ⟨h3, _⟩
      · rw [h3]
        conv => lhs; rw [← List.take_append_drop (l.length - 5) l, h4]
      · rw [h1] at h3; cases h3
    generalize Lib.trimSuffix l conf = s at *
    rcases res_join s h2 with e | ⟨a, L, D, e, ha, hs, hL, hD⟩
    · refine ⟨s, false, 0, 0, by rw [hv]; unfold resV; rw [e], h2, by omega, by omega, ?_, rfl⟩
      unfold joinL
      simpa using hl.symm
    · refine ⟨a, true, L, D, by rw [hv]; unfold resV; rw [e], ha, hL, hD, ?_, ?_⟩
      · rw [joinL_tl a hL hD, ← hs]; exact hl.symm
      · simp [ok]; omega
  · left
    exact if_neg hc
theorem Splits (l : List UInt8) (H : AH) (ht : H.at_ 1 = some CLib.powTab) : ACall Tryd.prog 6 [.str l] H (fun v H' => v = .bool true ∧ H' = H) := by
  refine acall_enter fits6 (by simp) (by simp) fun hok => ?_
  have hlt := hok _ _ ht
  by_cases hl : 300 < l.length
  · have f1 : 300 < (l.length : Int) := by omega
    simp (disch := first | omega | (simp; done) | assumption) [wr64, wrU8, wrU64, Nat.add_assoc, -getElem?_pos, List.getElem?_cons_zero, List.getElem?_cons_succ, ic6, rs6]
    repeat' (first | (refine Fork3.ndec (fun hh => ?_) (fun hh => ?_) <;> (first | (exfalso; omega) | simp (disch := first | omega | (simp; done) | assumption) [*, wr64, wrU8, wrU64, Nat.add_assoc, -getElem?_pos, List.getElem?_cons_zero, List.getElem?_cons_succ])) | (refine Fork3.dec (fun hh => ?_) (fun hh => ?_) <;> (first | (exfalso; omega) | simp (disch := first | omega | (simp; done) | assumption) [*, wr64, wrU8, wrU64, Nat.add_assoc, -getElem?_pos, List.getElem?_cons_zero, List.getElem?_cons_succ])) | (refine Fork3.intro (fun hh => ?_) (fun hh => ?_) <;> (try simp at hh) <;> (first | (exfalso; omega) | simp (disch := first | omega | (simp; done) | assumption) [*, wr64, wrU8, wrU64, Nat.add_assoc, -getElem?_pos, List.getElem?_cons_zero, List.getElem?_cons_succ])) | (refine Fork3.ite (fun hh => ?_) (fun hh => ?_) <;> (first | (exfalso; omega) | simp (disch := first | omega | (simp; done) | assumption) [*, wr64, wrU8, wrU64, Nat.add_assoc, -getElem?_pos, List.getElem?_cons_zero, List.getElem?_cons_succ])) | (refine Try.guard (by first | assumption | omega | (simp; omega) | (simp [*]; omega)) ?_; simp (disch := first | omega | (simp; done) | assumption) [*, wr64, wrU8, wrU64, Nat.add_assoc, -getElem?_pos, List.getElem?_cons_zero, List.getElem?_cons_succ]) | (refine Try.guardn (by first | assumption | omega | (simp; omega) | (simp [*]; omega)) ?_; simp (disch := first | omega | (simp; done) | assumption) [*, wr64, wrU8, wrU64, Nat.add_assoc, -getElem?_pos, List.getElem?_cons_zero, List.getElem?_cons_succ]) | (refine CallW.val (Awake _ (by simp; repeat (first | exact ht | (split; omega)))) ?_; simp (disch := first | omega | (simp; done) | assumption) [*, wr64, wrU8, wrU64, Nat.add_assoc, -getElem?_pos, List.getElem?_cons_zero, List.getElem?_cons_succ]))
    all_goals (first | (exfalso; omega) | ((repeat (first | exact AH.keepsAll_refl _ | refine keeps_set hok ?_ (by first | omega | (simp; done) | (simp; omega)) | refine keeps_new hok ?_ (by first | omega | (simp; done) | (simp; omega)))); done))
  · have f1 : ¬ 300 < (l.length : Int) := by omega
    rcases splitV_cases l with hs | ⟨a, h, L, D, hs, ha, hL, hD, hj, hko⟩
    · simp (disch := first | omega | (simp; done) | assumption) [wr64, wrU8, wrU64, Nat.add_assoc, -getElem?_pos, List.getElem?_cons_zero, List.getElem?_cons_succ, ic6, rs6]
      repeat' (first | (refine Fork3.ndec (fun hh => ?_) (fun hh => ?_) <;> (first | (exfalso; omega) | simp (disch := first | omega | (simp; done) | assumption) [*, wr64, wrU8, wrU64, Nat.add_assoc, -getElem?_pos, List.getElem?_cons_zero, List.getElem?_cons_succ])) | (refine Fork3.dec (fun hh => ?_) (fun hh => ?_) <;> (first | (exfalso; omega) | simp (disch := first | omega | (simp; done) | assumption) [*, wr64, wrU8, wrU64, Nat.add_assoc, -getElem?_pos, List.getElem?_cons_zero, List.getElem?_cons_succ])) | (refine Fork3.intro (fun hh => ?_) (fun hh => ?_) <;> (try simp at hh) <;> (first | (exfalso; omega) | simp (disch := first | omega | (simp; done) | assumption) [*, wr64, wrU8, wrU64, Nat.add_assoc, -getElem?_pos, List.getElem?_cons_zero, List.getElem?_cons_succ])) | (refine Fork3.ite (fun hh => ?_) (fun hh => ?_) <;> (first | (exfalso; omega) | simp (disch := first | omega | (simp; done) | assumption) [*, wr64, wrU8, wrU64, Nat.add_assoc, -getElem?_pos, List.getElem?_cons_zero, List.getElem?_cons_succ])) | (refine Try.guard (by first | assumption | omega | (simp; omega) | (simp [*]; omega)) ?_; simp (disch := first | omega | (simp; done) | assumption) [*, wr64, wrU8, wrU64, Nat.add_assoc, -getElem?_pos, List.getElem?_cons_zero, List.getElem?_cons_succ]) | (refine Try.guardn (by first | assumption | omega | (simp; omega) | (simp [*]; omega)) ?_; simp (disch := first | omega | (simp; done) | assumption) [*, wr64, wrU8, wrU64, Nat.add_assoc, -getElem?_pos, List.getElem?_cons_zero, List.getElem?_cons_succ]) | (refine CallW.val (CBig.Split _ (by omega) _) ?_; simp (disch := first | omega | (simp; done) | assumption) [*, wr64, wrU8, wrU64, Nat.add_assoc, -getElem?_pos, List.getElem?_cons_zero, List.getElem?_cons_succ]) | (refine CallW.val (CRefs.SplitFile _ (by omega) _) ?_; simp (disch := first | omega | (simp; done) | assumption) [*, wr64, wrU8, wrU64, Nat.add_assoc, -getElem?_pos, List.getElem?_cons_zero, List.getElem?_cons_succ]) | (refine CallW.val (Awake _ (by simp; repeat (first | exact ht | (split; omega)))) ?_; simp (disch := first | omega | (simp; done) | assumption) [*, wr64, wrU8, wrU64, Nat.add_assoc, -getElem?_pos, List.getElem?_cons_zero, List.getElem?_cons_succ]))
      all_goals (first | (exfalso; omega) | ((repeat (first | exact AH.keepsAll_refl _ | refine keeps_set hok ?_ (by first | omega | (simp; done) | (simp; omega)) | refine keeps_new hok ?_ (by first | omega | (simp; done) | (simp; omega)))); done))
    · have hal : a.length ≤ 1000000 := by
        have := congrArg List.length hj
        unfold joinL at this
        simp at this
        omega
      simp (disch := first | omega | (simp; done) | assumption) [wr64, wrU8, wrU64, Nat.add_assoc, -getElem?_pos, List.getElem?_cons_zero, List.getElem?_cons_succ, ic6, rs6]
      repeat' (first | (refine Fork3.ndec (fun hh => ?_) (fun hh => ?_) <;> (first | (exfalso; omega) | simp (disch := first | omega | (simp; done) | assumption) [*, wr64, wrU8, wrU64, Nat.add_assoc, -getElem?_pos, List.getElem?_cons_zero, List.getElem?_cons_succ])) | (refine Fork3.dec (fun hh => ?_) (fun hh => ?_) <;> (first | (exfalso; omega) | simp (disch := first | omega | (simp; done) | assumption) [*, wr64, wrU8, wrU64, Nat.add_assoc, -getElem?_pos, List.getElem?_cons_zero, List.getElem?_cons_succ])) | (refine Fork3.intro (fun hh => ?_) (fun hh => ?_) <;> (try simp at hh) <;> (first | (exfalso; omega) | simp (disch := first | omega | (simp; done) | assumption) [*, wr64, wrU8, wrU64, Nat.add_assoc, -getElem?_pos, List.getElem?_cons_zero, List.getElem?_cons_succ])) | (refine Fork3.ite (fun hh => ?_) (fun hh => ?_) <;> (first | (exfalso; omega) | simp (disch := first | omega | (simp; done) | assumption) [*, wr64, wrU8, wrU64, Nat.add_assoc, -getElem?_pos, List.getElem?_cons_zero, List.getElem?_cons_succ])) | (refine Try.guard (by first | assumption | omega | (simp; omega) | (simp [*]; omega)) ?_; simp (disch := first | omega | (simp; done) | assumption) [*, wr64, wrU8, wrU64, Nat.add_assoc, -getElem?_pos, List.getElem?_cons_zero, List.getElem?_cons_succ]) | (refine Try.guardn (by first | assumption | omega | (simp; omega) | (simp [*]; omega)) ?_; simp (disch := first | omega | (simp; done) | assumption) [*, wr64, wrU8, wrU64, Nat.add_assoc, -getElem?_pos, List.getElem?_cons_zero, List.getElem?_cons_succ]) | (refine CallW.val (CBig.Split _ (by omega) _) ?_; simp (disch := first | omega | (simp; done) | assumption) [*, wr64, wrU8, wrU64, Nat.add_assoc, -getElem?_pos, List.getElem?_cons_zero, List.getElem?_cons_succ]) | (refine CallW.val (CRefs.SplitFile _ (by omega) _) ?_; simp (disch := first | omega | (simp; done) | assumption) [*, wr64, wrU8, wrU64, Nat.add_assoc, -getElem?_pos, List.getElem?_cons_zero, List.getElem?_cons_succ]) | (refine CallW.val (CBig.Join _ hal _ _ _ (by omega) (by omega) (by omega) (by omega) _ (by simp; repeat (first | exact ht | (split; omega)))) ?_; simp (disch := first | omega | (simp; done) | assumption) [*, wr64, wrU8, wrU64, Nat.add_assoc, -getElem?_pos, List.getElem?_cons_zero, List.getElem?_cons_succ]) | (refine CallW.val (CFn.Ok _ _ _ _) ?_; simp (disch := first | omega | (simp; done) | assumption) [*, wr64, wrU8, wrU64, Nat.add_assoc, -getElem?_pos, List.getElem?_cons_zero, List.getElem?_cons_succ]) | (refine CallW.val (Awake _ (by simp; repeat (first | exact ht | (split; omega)))) ?_; simp (disch := first | omega | (simp; done) | assumption) [*, wr64, wrU8, wrU64, Nat.add_assoc, -getElem?_pos, List.getElem?_cons_zero, List.getElem?_cons_succ]))
      all_goals (first | (exfalso; omega) | ((repeat (first | exact AH.keepsAll_refl _ | refine keeps_set hok ?_ (by first | omega | (simp; done) | (simp; omega)) | refine keeps_new hok ?_ (by first | omega | (simp; done) | (simp; omega)))); done))
theorem CountSplits.walk (s : ByteArray) (W : World) (hsh : W.ShapedOpen Tryd.prog) (hG : CLaid.Tab W) (_ : s.size ≤ 140737488351232) :
    Calls Tryd.prog 6 #[.string s] W fun e W' => e = .returned (.bool true) ∧ Below W.heap.size W W' :=
  CLaid.walk hsh hG (Splits s.data.toList _ CLaid.H0_tab) (.cons (.str _) .nil)
end Go.Proofs.YtdjlpifikeopdaaDoor.CSplits

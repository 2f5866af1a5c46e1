/- CountStems, worked out. -/
import Derived.Test.YtdjlpifikeopdaaDoorCSplits
import Derived.Test.YtdjlpifikeopdaaDoorCNum
set_option linter.unusedVariables false
set_option linter.unusedSimpArgs false
set_option maxRecDepth 10000
namespace Go.Proofs.YtdjlpifikeopdaaDoor.CStems
open Go Go.RowKit Go.Proofs.YtdjlpifikeopdaaDoor Go.Proofs.YtdjlpifikeopdaaDoor.Abs Go.Proofs.YtdjlpifikeopdaaDoor.Ic Go.Proofs.YtdjlpifikeopdaaDoor.CFn Go.Proofs.YtdjlpifikeopdaaDoor.CBig Go.Proofs.YtdjlpifikeopdaaDoor.Cm Go.Proofs.YtdjlpifikeopdaaDoor.CSplits
theorem splitV_app {s : List UInt8} (h : s ≠ []) : splitV (s ++ conf) = resV s := by
  have hsuf : Lib.hasSuffix (s ++ conf) conf = true := by unfold Lib.hasSuffix; rw [List.isSuffixOf_iff_suffix]; exact ⟨s, rfl⟩
  have ht : Lib.trimSuffix (s ++ conf) conf = s := by
    unfold Lib.trimSuffix
    rw [if_pos hsuf, List.length_append, Nat.add_sub_cancel, List.take_left]
  unfold splitV
  rw [ht]
  exact if_pos ⟨hsuf, h⟩
theorem splitV_join {s : List UInt8} (h : s ≠ []) {L D : Nat} (hL : L < 100) (hD : D < 100) : splitV (joinL s true L D) = .tuple [.str s, cnt true L D, .bool true] := by
  rw [joinL_tl s hL hD, splitV_app (by simp)]
  unfold resV
  rw [res_tl h hL hD]
theorem join_len {s : List UInt8} {L D : Nat} (hL : L < 100) (hD : D < 100) : (joinL s true L D).length ≤ s.length + 20 := by
  have := tl_len hL hD
  rw [joinL_tl s hL hD]
  simp
  omega
theorem Stems (a b left done : Int) (H : AH) (ht : H.at_ 1 = some CLib.powTab) : ACall Tryd.prog 3 [.int .i64 a, .int .i64 b, .int .i64 left, .int .i64 done] H (fun v H' => v = .bool true ∧ H' = H) := by
  refine acall_enter fits3 (by simp) (by simp) fun hok => ?_
  have hlt := hok _ _ ht
  obtain ⟨x, hx, hx9⟩ := St.mask_mod a 100 (by omega)
  obtain ⟨y, hy, hy9⟩ := St.mask_mod b 99 (by omega)
  obtain ⟨L, hL, hL9⟩ := St.mask_mod left 100 (by omega)
  obtain ⟨D, hD, hD9⟩ := St.mask_mod done 100 (by omega)
  have hx' : (bits .and .i64 a 255).tmod 100 = (x : Int) := hx
  have hy' : (bits .and .i64 b 255).tmod 99 = (y : Int) := hy
  have hL' : (bits .and .i64 left 255).tmod 100 = (L : Int) := hL
  have hD' : (bits .and .i64 done 255).tmod 100 = (D : Int) := hD
  have hi : Lib.itoa (x : Int) = d2 x := itoa_d2 hx9
  have hxl := d2_len x hx9
  clear hx hy hL hD
  by_cases hb : bits .and .i64 b 1 = 1
  · have hj : Lib.itoa ((y : Int) + 1) = d2 (y + 1) := itoa_d2 (n := y + 1) (by omega)
    have hyl := d2_len (y + 1) (by omega)
    obtain ⟨stem, hst⟩ : ∃ stem, (115 :: 43 :: (d2 x ++ 45 :: d2 (y + 1)) : List UInt8) = stem := ⟨_, rfl⟩
    have hst' : stem = [115] ++ 43 :: tl x (y + 1) := by rw [← hst]; unfold tl; rw [if_neg (by omega)]; rfl
    have hsl : stem.length ≤ 20 := by rw [← hst]; simp; omega
    have hne : stem ≠ [] := by rw [← hst]; simp
    obtain ⟨f, hf⟩ : ∃ f, joinL stem false 0 0 = f := ⟨_, rfl⟩
    have hs1 : splitV f = .tuple [.str [115], cnt true x ((y : Int) + 1), .bool true] := by
      rw [← hf, show joinL stem false 0 0 = stem ++ conf by unfold joinL; simp, splitV_app hne, hst']
      unfold resV
      rw [res_tl (by simp) hx9 (by omega)]
      rfl
    have hfl : f.length ≤ 100 := by rw [← hf]; unfold joinL; simp; omega
    have hs2 := splitV_join hne hL9 hD9
    have hgl := join_len (s := stem) hL9 hD9
    clear hst'
    simp (disch := first | omega | (simp; done) | assumption) [wr64, wrU8, wrU64, Nat.add_assoc, -getElem?_pos, List.getElem?_cons_zero, List.getElem?_cons_succ, ic3, rs3, *]
    repeat' (first | (refine Fork3.ndec (fun hh => ?_) (fun hh => ?_) <;> (first | (exfalso; omega) | simp (disch := first | omega | (simp; done) | assumption) [*, wr64, wrU8, wrU64, Nat.add_assoc, -getElem?_pos, List.getElem?_cons_zero, List.getElem?_cons_succ])) | (refine Fork3.dec (fun hh => ?_) (fun hh => ?_) <;> (first | (exfalso; omega) | simp (disch := first | omega | (simp; done) | assumption) [*, wr64, wrU8, wrU64, Nat.add_assoc, -getElem?_pos, List.getElem?_cons_zero, List.getElem?_cons_succ])) | (refine Fork3.intro (fun hh => ?_) (fun hh => ?_) <;> (try simp at hh) <;> (first | (exfalso; omega) | simp (disch := first | omega | (simp; done) | assumption) [*, wr64, wrU8, wrU64, Nat.add_assoc, -getElem?_pos, List.getElem?_cons_zero, List.getElem?_cons_succ])) | (refine Fork3.ite (fun hh => ?_) (fun hh => ?_) <;> (first | (exfalso; omega) | simp (disch := first | omega | (simp; done) | assumption) [*, wr64, wrU8, wrU64, Nat.add_assoc, -getElem?_pos, List.getElem?_cons_zero, List.getElem?_cons_succ])) | (refine Try.guard (by first | assumption | omega | (simp; omega) | (simp [*]; omega)) ?_; simp (disch := first | omega | (simp; done) | assumption) [*, wr64, wrU8, wrU64, Nat.add_assoc, -getElem?_pos, List.getElem?_cons_zero, List.getElem?_cons_succ]) | (refine Try.guardn (by first | assumption | omega | (simp; omega) | (simp [*]; omega)) ?_; simp (disch := first | omega | (simp; done) | assumption) [*, wr64, wrU8, wrU64, Nat.add_assoc, -getElem?_pos, List.getElem?_cons_zero, List.getElem?_cons_succ]) | (refine CallW.val (CNum.Num _ (by omega) (by omega) _) ?_; simp (disch := first | omega | (simp; done) | assumption) [*, wr64, wrU8, wrU64, Nat.add_assoc, -getElem?_pos, List.getElem?_cons_zero, List.getElem?_cons_succ]) | (refine CallW.val (CBig.Split _ (by omega) _) ?_; simp (disch := first | omega | (simp; done) | assumption) [*, wr64, wrU8, wrU64, Nat.add_assoc, -getElem?_pos, List.getElem?_cons_zero, List.getElem?_cons_succ]) | (refine CallW.val (CBig.Join _ (by omega) _ _ _ (by omega) (by omega) (by omega) (by omega) _ (by simp; repeat (first | exact ht | (split; omega)))) ?_; simp (disch := first | omega | (simp; done) | assumption) [*, wr64, wrU8, wrU64, Nat.add_assoc, -getElem?_pos, List.getElem?_cons_zero, List.getElem?_cons_succ]) | (refine CallW.val (Awake _ (by simp; repeat (first | exact ht | (split; omega)))) ?_; simp (disch := first | omega | (simp; done) | assumption) [*, wr64, wrU8, wrU64, Nat.add_assoc, -getElem?_pos, List.getElem?_cons_zero, List.getElem?_cons_succ]))
    all_goals (first | (exfalso; omega) | ((repeat (first | exact AH.keepsAll_refl _ | refine keeps_set hok ?_ (by first | omega | (simp; done) | (simp; omega)) | refine keeps_new hok ?_ (by first | omega | (simp; done) | (simp; omega)))); done))
  · obtain ⟨stem, hst⟩ : ∃ stem, (115 :: 43 :: d2 x : List UInt8) = stem := ⟨_, rfl⟩
    have hst' : stem = [115] ++ 43 :: tl x 0 := by rw [← hst]; unfold tl; rw [if_pos rfl]; simp
    have hsl : stem.length ≤ 20 := by rw [← hst]; simp; omega
    have hne : stem ≠ [] := by rw [← hst]; simp
    obtain ⟨f, hf⟩ : ∃ f, joinL stem false 0 0 = f := ⟨_, rfl⟩
    have hs1 : splitV f = .tuple [.str [115], cnt true x 0, .bool true] := by
      rw [← hf, show joinL stem false 0 0 = stem ++ conf by unfold joinL; simp, splitV_app hne, hst']
      unfold resV
      rw [res_tl (by simp) hx9 (by omega)]
      rfl
    have hfl : f.length ≤ 100 := by rw [← hf]; unfold joinL; simp; omega
    have hs2 := splitV_join hne hL9 hD9
    have hgl := join_len (s := stem) hL9 hD9
    clear hst'
    simp (disch := first | omega | (simp; done) | assumption) [wr64, wrU8, wrU64, Nat.add_assoc, -getElem?_pos, List.getElem?_cons_zero, List.getElem?_cons_succ, ic3, rs3, *]
    repeat' (first | (refine Fork3.ndec (fun hh => ?_) (fun hh => ?_) <;> (first | (exfalso; omega) | simp (disch := first | omega | (simp; done) | assumption) [*, wr64, wrU8, wrU64, Nat.add_assoc, -getElem?_pos, List.getElem?_cons_zero, List.getElem?_cons_succ])) | (refine Fork3.dec (fun hh => ?_) (fun hh => ?_) <;> (first | (exfalso; omega) | simp (disch := first | omega | (simp; done) | assumption) [*, wr64, wrU8, wrU64, Nat.add_assoc, -getElem?_pos, List.getElem?_cons_zero, List.getElem?_cons_succ])) | (refine Fork3.intro (fun hh => ?_) (fun hh => ?_) <;> (try simp at hh) <;> (first | (exfalso; omega) | simp (disch := first | omega | (simp; done) | assumption) [*, wr64, wrU8, wrU64, Nat.add_assoc, -getElem?_pos, List.getElem?_cons_zero, List.getElem?_cons_succ])) | (refine Fork3.ite (fun hh => ?_) (fun hh => ?_) <;> (first | (exfalso; omega) | simp (disch := first | omega | (simp; done) | assumption) [*, wr64, wrU8, wrU64, Nat.add_assoc, -getElem?_pos, List.getElem?_cons_zero, List.getElem?_cons_succ])) | (refine Try.guard (by first | assumption | omega | (simp; omega) | (simp [*]; omega)) ?_; simp (disch := first | omega | (simp; done) | assumption) [*, wr64, wrU8, wrU64, Nat.add_assoc, -getElem?_pos, List.getElem?_cons_zero, List.getElem?_cons_succ]) | (refine Try.guardn (by first | assumption | omega | (simp; omega) | (simp [*]; omega)) ?_; simp (disch := first | omega | (simp; done) | assumption) [*, wr64, wrU8, wrU64, Nat.add_assoc, -getElem?_pos, List.getElem?_cons_zero, List.getElem?_cons_succ]) | (refine CallW.val (CNum.Num _ (by omega) (by omega) _) ?_; simp (disch := first | omega | (simp; done) | assumption) [*, wr64, wrU8, wrU64, Nat.add_assoc, -getElem?_pos, List.getElem?_cons_zero, List.getElem?_cons_succ]) | (refine CallW.val (CBig.Split _ (by omega) _) ?_; simp (disch := first | omega | (simp; done) | assumption) [*, wr64, wrU8, wrU64, Nat.add_assoc, -getElem?_pos, List.getElem?_cons_zero, List.getElem?_cons_succ]) | (refine CallW.val (CBig.Join _ (by omega) _ _ _ (by omega) (by omega) (by omega) (by omega) _ (by simp; repeat (first | exact ht | (split; omega)))) ?_; simp (disch := first | omega | (simp; done) | assumption) [*, wr64, wrU8, wrU64, Nat.add_assoc, -getElem?_pos, List.getElem?_cons_zero, List.getElem?_cons_succ]) | (refine CallW.val (Awake _ (by simp; repeat (first | exact ht | (split; omega)))) ?_; simp (disch := first | omega | (simp; done) | assumption) [*, wr64, wrU8, wrU64, Nat.add_assoc, -getElem?_pos, List.getElem?_cons_zero, List.getElem?_cons_succ]))
    all_goals (first | (exfalso; omega) | ((repeat (first | exact AH.keepsAll_refl _ | refine keeps_set hok ?_ (by first | omega | (simp; done) | (simp; omega)) | refine keeps_new hok ?_ (by first | omega | (simp; done) | (simp; omega)))); done))
theorem CountStems.walk (a0 a1 a2 a3 : Int) (W : World) (hsh : W.ShapedOpen Tryd.prog) (hG : CLaid.Tab W) (_ : (Lit.int .i64 a0).wf = true) (_ : (Lit.int .i64 a1).wf = true) (_ : (Lit.int .i64 a2).wf = true) (_ : (Lit.int .i64 a3).wf = true) :
    Calls Tryd.prog 3 #[.int .i64 a0, .int .i64 a1, .int .i64 a2, .int .i64 a3] W fun e W' => e = .returned (.bool true) ∧ Below W.heap.size W W' :=
  CLaid.walk hsh hG (Stems a0 a1 a2 a3 _ CLaid.H0_tab) (.cons (.int _ _) (.cons (.int _ _) (.cons (.int _ _) (.cons (.int _ _) .nil))))
end Go.Proofs.YtdjlpifikeopdaaDoor.CStems

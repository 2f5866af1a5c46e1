/- ConfSames. No condition. -/
import Derived.Test.YtkehijlgbfjmkaaGreatDoorKLPrints
set_option linter.unusedVariables false
set_option linter.unusedSimpArgs false
set_option maxRecDepth 10000
set_option maxHeartbeats 4000000
namespace Go.Proofs.YtkehijlgbfjmkaaGreatDoor.KW
open Go Go.RowKit Go.Proofs.YtkehijlgbfjmkaaGreatDoor Go.Proofs.YtkehijlgbfjmkaaGreatDoor.Abs Go.Proofs.YtkehijlgbfjmkaaGreatDoor.Ic Go.Proofs.YtkehijlgbfjmkaaGreatDoor.St Go.Proofs.YtkehijlgbfjmkaaGreatDoor.EAs Go.Proofs.YtkehijlgbfjmkaaGreatDoor.EErr
theorem sameE_comm (a b : En) : sameE a b = sameE b a := by
  rw [Bool.eq_iff_iff, sameE_iff, sameE_iff]
  exact ⟨Eq.symm, Eq.symm⟩
def SsI (a : En) (q B : Nat) (H2 : AH) (kk : Nat) (tm : Tms) (H' : AH) : Prop := H' = H2 ∧ ∃ k : Nat, kk = a.ex.length - k ∧ k ≤ a.ex.length ∧ tm 2 = .ptr B 0 ∧ tm 3 = .ptr (B + 1) 0 ∧ tm 5 = .slice q 0 (a.ex.length + 1) 2 ∧ tm 6 = .int .i64 ((k : Int) + 1)
theorem ConfSamesL {a b : En} {vx vy : AV} {H : AH} (hT : TOk H) (hx : SF H vx 2 (rowsB a.ex)) (hz : SzR a) (hy : SF H vy 2 (rowsB b.ex)) (hzb : SzR b) :
    ACall Tryz.prog 10 [.agg (entC a vx), .agg (entC b vy)] H (fun v H' => v = .bool true ∧ H' = H) := by
  refine acall_enter fits10 (by simp) (by simp) fun hok => ?_
  obtain ⟨hxl, hv1, hv2⟩ := sf_len hx
  obtain ⟨hw1, hw2⟩ := sf_one hy
  have hkB : H.keepsAll ((H.new (.cells false tEn (entC a vx))).new (.cells false tEn (entC b vy))) := fun y o h => by have := hok _ _ h; rw [AH.new_ne _ _ (by simp; omega), AH.new_ne _ _ (by omega)]; exact h
  have hb0 : ((H.new (.cells false tEn (entC a vx))).new (.cells false tEn (entC b vy))).at_ H.next = some (.cells false tEn (entC a vx)) := by rw [AH.new_ne _ _ (by simp), AH.new_same]
  have hb1 : ((H.new (.cells false tEn (entC a vx))).new (.cells false tEn (entC b vy))).at_ (H.next + 1) = some (.cells false tEn (entC b vy)) := AH.new_same _ _
  have hSa := SmallC (hx.keeps hkB) hz
  have hSb := SmallC (hy.keeps hkB) hzb
  have hTB := hT.keeps hkB
  have hA := AwakeC hTB
  have hBl := fun h => BlobsC (e := a) (hx.keeps hkB) h
  simp only [entC] at *
  simp (disch := first | omega | (simp; done) | assumption) [wr64, wrU8, wrU64, Nat.add_assoc, -getElem?_pos, List.getElem?_cons_zero, List.getElem?_cons_succ, ic10, rs10, hv1, hv2, hw1, hw2]
  refine CallW.val hSa ?_
  cases hs : smallE a
  · simp (disch := first | omega | (simp; done) | assumption) [wr64, wrU8, wrU64, Nat.add_assoc, -getElem?_pos, List.getElem?_cons_zero, List.getElem?_cons_succ, hv1, hv2, hw1, hw2]
    refine CallW.val hA ?_
    simp (disch := first | omega | (simp; done) | assumption) [wr64, wrU8, wrU64, Nat.add_assoc, -getElem?_pos, List.getElem?_cons_zero, List.getElem?_cons_succ, ]
    exact hkB
  obtain ⟨hza, ha20, _⟩ := small_sz hz hs
  simp (disch := first | omega | (simp; done) | assumption) [wr64, wrU8, wrU64, Nat.add_assoc, -getElem?_pos, List.getElem?_cons_zero, List.getElem?_cons_succ, hv1, hv2, hw1, hw2]
  refine CallW.val hSb ?_
  cases hs2 : smallE b
  · simp (disch := first | omega | (simp; done) | assumption) [wr64, wrU8, wrU64, Nat.add_assoc, -getElem?_pos, List.getElem?_cons_zero, List.getElem?_cons_succ, hv1, hv2, hw1, hw2]
    refine CallW.val hA ?_
    simp (disch := first | omega | (simp; done) | assumption) [wr64, wrU8, wrU64, Nat.add_assoc, -getElem?_pos, List.getElem?_cons_zero, List.getElem?_cons_succ, ]
    exact hkB
  obtain ⟨hzb2, hb20, _⟩ := small_sz hzb hs2
  simp (disch := first | omega | (simp; done) | assumption) [wr64, wrU8, wrU64, Nat.add_assoc, -getElem?_pos, List.getElem?_cons_zero, List.getElem?_cons_succ, hv1, hv2, hw1, hw2]
  refine CallW.okof (hBl (by omega)) ?_
  rintro v H2 ⟨hk2, hn2, q, rfl, hq, _, _⟩ hok2
  have hk02 := keeps_trans hkB hk2
  have hb2 := hk2 _ _ hb0
  have hb3 := hk2 _ _ hb1
  have hlq : (rowsB ((a.kn, a.ks) :: a.ex)).length = a.ex.length + 1 := by simp [rowsB]
  rw [hlq]
  have hld : ∀ k (h : k < a.ex.length + 1), loadC H2 q (k * 2) (some 2) = some (.agg (blobC (((a.kn, a.ks) :: a.ex)[k]'(by simpa using h)))) := fun k h => by
    have := load_flat hq (allB _) (k := k) (by rw [hlq]; exact h)
    simpa only [rowsB, List.getElem_map] using this
  have l0 := hld 0 (by omega)
  simp only [List.getElem_cons_zero, blobC] at l0
  have hS1 := SameC (a := a) (b := b) (hx.keeps hk02) (hy.keeps hk02) (by omega) (by omega)
  have hS2 := RSameC (a := a) (b := b) (hx.keeps hk02) (hy.keeps hk02) (by omega) (by omega)
  have hS3 := SameC (a := a) (b := a) (hx.keeps hk02) (hx.keeps hk02) (by omega) (by omega)
  have hS4 := SameC (a := b) (b := a) (hy.keeps hk02) (hx.keeps hk02) (by omega) (by omega)
  rw [same_self] at hS3
  rw [sameE_comm b a] at hS4
  have hA2 := AwakeC (hT.keeps hk02)
  simp only [entC] at hS1 hS2 hS3 hS4
  have hne1 : ¬ ((a.ex.length : Int) + 1 = 0) := by omega
  simp (disch := first | omega | (simp; done) | assumption) [wr64, wrU8, wrU64, Nat.add_assoc, -getElem?_pos, List.getElem?_cons_zero, List.getElem?_cons_succ, hv1, hv2, hw1, hw2, hxl, hb2, hb3, hne1, Abs.bounds]
  refine Try.intro (by simpa using l0) ?_
  simp (disch := first | omega | (simp; done) | assumption) [wr64, wrU8, wrU64, Nat.add_assoc, -getElem?_pos, List.getElem?_cons_zero, List.getElem?_cons_succ, hv1, hv2, hw1, hw2, hxl, hb2, hb3, hne1]
  refine iwp_loop (SsI a q H.next H2) a.ex.length ⟨rfl, 0, rfl, by omega, by simp, by simp, by simp, by simp⟩ ?_
  rintro kk tm H3 ⟨rfl, k, rfl, hk, t2, t3, t5, t6⟩
  by_cases hlt : k < a.ex.length
  · have hlt' : (k : Int) + 1 < (a.ex.length : Int) + 1 := by omega
    have hlt2 : k + 1 < a.ex.length + 1 := by omega
    have hlt3 : (k : Int) < (a.ex.length : Int) := by omega
    have l1 := hld (k + 1) hlt2
    simp only [List.getElem_cons_succ, blobC] at l1
    obtain ⟨b', o', rfl, l2, _, _⟩ := sf_at (hx.keeps hk02) hlt
    simp only [blobC] at l2
    have b4 : ((k : Int) + 1).toNat = k + 1 := by omega
    have b5 : (0 : Int) ≤ (k : Int) + 1 := by omega
    generalize a.ex[k] = p at *
    simp (disch := first | omega | (simp; done) | assumption) [wr64, wrU8, wrU64, Nat.add_assoc, -getElem?_pos, List.getElem?_cons_zero, List.getElem?_cons_succ, t2, t3, t5, t6, hlt, hlt', hlt2, hlt3, hb2, hb3, b4, b5, Abs.bounds]
    refine Try.intro (by simpa using l1) ?_
    simp (disch := first | omega | (simp; done) | assumption) [wr64, wrU8, wrU64, Nat.add_assoc, -getElem?_pos, List.getElem?_cons_zero, List.getElem?_cons_succ, t2, t3, t5, t6, hlt, hlt', hlt2, hlt3, hb2, hb3, b4, b5, Abs.bounds]
    refine Try.intro (by simpa [Nat.add_assoc] using l2) ?_
    simp (disch := first | omega | (simp; done) | assumption) [wr64, wrU8, wrU64, Nat.add_assoc, -getElem?_pos, List.getElem?_cons_zero, List.getElem?_cons_succ, t2, t3, t5, t6, hlt, hlt', hlt2, hlt3]
    exact ⟨a.ex.length - (k + 1), by omega, rfl, k + 1, rfl, by omega, by simp [t2], by simp [t3], by simp [t5], by simp⟩
  · have hlt' : ¬ (k : Int) + 1 < (a.ex.length : Int) + 1 := by omega
    have hlt2 : ¬ (k : Int) < (a.ex.length : Int) := by omega
    simp (disch := first | omega | (simp; done) | assumption) [wr64, wrU8, wrU64, Nat.add_assoc, -getElem?_pos, List.getElem?_cons_zero, List.getElem?_cons_succ, t2, t3, t5, t6, hlt, hlt', hlt2, hb2, hb3, hv1, hv2, hw1, hw2]
    refine CallW.val hS1 ?_
    simp (disch := first | omega | (simp; done) | assumption) [wr64, wrU8, wrU64, Nat.add_assoc, -getElem?_pos, List.getElem?_cons_zero, List.getElem?_cons_succ, t2, t3, hb2, hb3, hv1, hv2, hw1, hw2]
    refine CallW.val hS2 ?_
    simp (disch := first | omega | (simp; done) | assumption) [wr64, wrU8, wrU64, Nat.add_assoc, -getElem?_pos, List.getElem?_cons_zero, List.getElem?_cons_succ, t2, t3, hb2, hb3, hv1, hv2, hw1, hw2]
    refine CallW.val hS3 ?_
    simp (disch := first | omega | (simp; done) | assumption) [wr64, wrU8, wrU64, Nat.add_assoc, -getElem?_pos, List.getElem?_cons_zero, List.getElem?_cons_succ, t2, t3, hb2, hb3, hv1, hv2, hw1, hw2]
    refine CallW.val hS1 ?_
    simp (disch := first | omega | (simp; done) | assumption) [wr64, wrU8, wrU64, Nat.add_assoc, -getElem?_pos, List.getElem?_cons_zero, List.getElem?_cons_succ, t2, t3, hb2, hb3, hv1, hv2, hw1, hw2]
    refine CallW.val hS4 ?_
    simp (disch := first | omega | (simp; done) | assumption) [wr64, wrU8, wrU64, Nat.add_assoc, -getElem?_pos, List.getElem?_cons_zero, List.getElem?_cons_succ, t2, t3, hb2, hb3, hv1, hv2, hw1, hw2]
    refine CallW.val hA2 ?_
    simp (disch := first | omega | (simp; done) | assumption) [wr64, wrU8, wrU64, Nat.add_assoc, -getElem?_pos, List.getElem?_cons_zero, List.getElem?_cons_succ, ]
    exact hk02
theorem ConfSames.walk (s0 s1 s2 : ByteArray) (a : Option Addr) (len cap : Nat) (s4 : ByteArray) (L : List (List AV)) (t0 t1 t2 : ByteArray) (a' : Option Addr) (len' cap' : Nat) (t4 : ByteArray) (L' : List (List AV)) (W : World) (hsh : W.ShapedOpen Tryz.prog) (hG : ELaid.G W)
    (hb : s0.size ≤ maxLen ∧ s1.size ≤ maxLen ∧ s2.size ≤ maxLen ∧ s4.size ≤ maxLen) (h : IsFlat W [.str, .str] a len cap L) (hb' : t0.size ≤ maxLen ∧ t1.size ≤ maxLen ∧ t2.size ≤ maxLen ∧ t4.size ≤ maxLen) (h' : IsFlat W [.str, .str] a' len' cap' L') :
    Calls Tryz.prog 10 #[.agg #[.string s0, .string s1, .string s2, .slice a len cap, .string s4], .agg #[.string t0, .string t1, .string t2, .slice a' len' cap', .string t4]] W fun e W' => e = .returned (.bool true) ∧ Below W.heap.size W W' := by
  obtain ⟨e, vx, hx, hz, hv⟩ := entry_arg hsh hG hb h
  obtain ⟨e', vy, hy, hzy, hv'⟩ := entry_arg hsh hG hb' h'
  exact ELaid.walk hsh hG (ConfSamesL ⟨ELaid.H1_err W, ELaid.H1_pow W⟩ hx hz hy hzy) (.cons hv (.cons hv' .nil))
end Go.Proofs.YtkehijlgbfjmkaaGreatDoor.KW

/- The laws' small. No condition. -/
import Derived.Test.YtkehijlgbfjmkaaGreatDoorKEnt
set_option linter.unusedVariables false
set_option linter.unusedSimpArgs false
set_option maxRecDepth 10000
set_option maxHeartbeats 4000000
namespace Go.Proofs.YtkehijlgbfjmkaaGreatDoor.KW
open Go Go.RowKit Go.Proofs.YtkehijlgbfjmkaaGreatDoor Go.Proofs.YtkehijlgbfjmkaaGreatDoor.Abs Go.Proofs.YtkehijlgbfjmkaaGreatDoor.Ic Go.Proofs.YtkehijlgbfjmkaaGreatDoor.St Go.Proofs.YtkehijlgbfjmkaaGreatDoor.EAs Go.Proofs.YtkehijlgbfjmkaaGreatDoor.EErr
def smB (p : Blb) : Nat := min p.1.length 500 + min p.2.length 500
def smN (ps : List Blb) : Nat := (ps.map smB).sum
theorem smB_le (p : Blb) : smB p ≤ 1000 := by unfold smB; omega
theorem smN_le : ∀ ps : List Blb, smN ps ≤ ps.length * 1000
  | [] => by simp [smN]
  | p :: ps => by
    have h1 := smB_le p
    have h2 := smN_le ps
    have e : smN (p :: ps) = smB p + smN ps := by simp [smN]
    rw [e, List.length_cons]
    omega
def smallE (e : En) : Bool := decide (e.ex.length ≤ 20) && (decide (smN (e.ex.take 21) ≤ 4000) && (decide (e.ver.length ≤ 500) && (decide (e.op.length ≤ 500) && (decide (e.kn.length ≤ 500) && decide (e.ks.length ≤ 500)))))
theorem small_sz {e : En} (hz : SzR e) (h : smallE e = true) : SzE e ∧ e.ex.length ≤ 20 ∧ e.ver.length ≤ 500 ∧ e.op.length ≤ 500 ∧ e.kn.length ≤ 500 ∧ e.ks.length ≤ 500 := by
  unfold smallE at h
  simp only [Bool.and_eq_true, decide_eq_true_eq] at h
  exact ⟨⟨by omega, hz.k, by omega, hz.ex, by omega⟩, by omega⟩
def SmI (e : En) (vx : AV) (H : AH) (kk : Nat) (tm : Tms) (H' : AH) : Prop := H' = H.new (.cells false tEn (entC e vx)) ∧ ∃ i : Nat, kk = 21 - i ∧ i ≤ 21 ∧ i ≤ e.ex.length ∧ tm 1 = .ptr H.next 0 ∧ tm 3 = .int .i64 ((smN (e.ex.take i) : Nat) : Int) ∧ tm 4 = .int .i64 (i : Int)
theorem SmallC {e : En} {vx : AV} {H : AH} (hx : SF H vx 2 (rowsB e.ex)) (hz : SzR e) : ACall Tryz.prog 11 [.agg (entC e vx)] H (fun v H' => v = .bool (smallE e) ∧ H' = H) := by
  refine acall_enter fits11 (by simp) (by simp) fun hok => ?_
  obtain ⟨hxl, hv1, hv2⟩ := sf_len hx
  have hkH : ∀ o, H.keepsAll (H.new o) := fun o y q h => by have := hok _ _ h; rw [AH.new_ne _ _ (by omega)]; exact h
  unfold entC
  simp (disch := first | omega | (simp; done) | assumption) [wr64, wrU8, wrU64, Nat.add_assoc, -getElem?_pos, List.getElem?_cons_zero, List.getElem?_cons_succ, ic11, rs11, hv1, hv2]
  refine iwp_loop (SmI e vx H) 21 ⟨rfl, 0, rfl, by omega, by omega, by simp, by simp [smN], by simp⟩ ?_
  rintro kk tm H1 ⟨rfl, i, rfl, hi, hie, t1, t3, t4⟩
  simp only [entC]
  have hsm := smN_le (e.ex.take i)
  have htl : (e.ex.take i).length ≤ 21 := by simp; omega
  by_cases hlt : i < e.ex.length
  · have hlt' : (i : Int) < (e.ex.length : Int) := by omega
    by_cases h20 : i ≤ 20
    · have h20' : (i : Int) ≤ 20 := by omega
      obtain ⟨b, o, rfl, _, l1, l2⟩ := sf_at (hx.keeps (hkH (.cells false tEn [.str e.ver, .str e.kn, .str e.ks, vx, .str e.op]))) hlt
      have hnx : smN (e.ex.take (i + 1)) = smN (e.ex.take i) + smB e.ex[i] := by
        rw [← List.take_append_getElem hlt]
        unfold smN
        rw [List.map_append, List.sum_append, List.map_singleton, List.sum_singleton]
      generalize e.ex[i] = p at *
      obtain ⟨m1, hm1, he1, hb1⟩ : ∃ m1 : Nat, min (p.1.length : Int) 500 = (m1 : Int) ∧ m1 = min p.1.length 500 ∧ m1 ≤ 500 := ⟨min p.1.length 500, by omega, rfl, by omega⟩
      obtain ⟨m2, hm2, he2, hb2⟩ : ∃ m2 : Nat, min (p.2.length : Int) 500 = (m2 : Int) ∧ m2 = min p.2.length 500 ∧ m2 ≤ 500 := ⟨min p.2.length 500, by omega, rfl, by omega⟩
      have hsB : smB p = m1 + m2 := by unfold smB; rw [he1, he2]
      generalize smN (e.ex.take i) = S at *
      have hSl : S ≤ 21000 := by omega
      simp (disch := first | omega | (simp; done) | assumption) [wr64, wrU8, wrU64, Nat.add_assoc, -getElem?_pos, List.getElem?_cons_zero, List.getElem?_cons_succ, t1, t3, t4, hlt, hlt', h20, h20', Abs.bounds, hm1, hm2]
      repeat' (first | (refine Try.intro (by simpa [Nat.add_assoc] using l1) ?_; simp (disch := first | omega | (simp; done) | assumption) [wr64, wrU8, wrU64, Nat.add_assoc, -getElem?_pos, List.getElem?_cons_zero, List.getElem?_cons_succ, t1, t3, t4, hlt, hlt', h20, h20', Abs.bounds, hm1, hm2]) | (refine Try.intro (by simpa [Nat.add_assoc] using l2) ?_; simp (disch := first | omega | (simp; done) | assumption) [wr64, wrU8, wrU64, Nat.add_assoc, -getElem?_pos, List.getElem?_cons_zero, List.getElem?_cons_succ, t1, t3, t4, hlt, hlt', h20, h20', Abs.bounds, hm1, hm2]))
      exact ⟨21 - (i + 1), by omega, rfl, i + 1, rfl, by omega, by omega, by simp [t1], by simp; omega, by simp⟩
    · have h20' : ¬ (i : Int) ≤ 20 := by omega
      have hbig : ¬ e.ex.length ≤ 20 := by omega
      have hbig' : ¬ (e.ex.length : Int) ≤ 20 := by omega
      have hF : smallE e = false := by unfold smallE; rw [decide_eq_false hbig]; rfl
      rw [hF]
      simp (disch := first | omega | (simp; done) | assumption) [wr64, wrU8, wrU64, Nat.add_assoc, -getElem?_pos, List.getElem?_cons_zero, List.getElem?_cons_succ, t1, t3, t4, hlt, hlt', h20, h20', hbig, hbig', hv1, hv2, hxl]
      ((repeat (first | exact AH.keepsAll_refl _ | refine keeps_set hok ?_ (by first | omega | (simp; done) | (simp; omega)) | refine keeps_new hok ?_ (by first | omega | (simp; done) | (simp; omega)))); done)
  · have hlt' : ¬ (i : Int) < (e.ex.length : Int) := by omega
    have hei : e.ex.length = i := by omega
    have htk : e.ex.take 21 = e.ex.take i := by rw [List.take_of_length_le (by omega), List.take_of_length_le (by omega)]
    have hE : smallE e = (decide (e.ex.length ≤ 20) && (decide (smN (e.ex.take i) ≤ 4000) && (decide (e.ver.length ≤ 500) && (decide (e.op.length ≤ 500) && (decide (e.kn.length ≤ 500) && decide (e.ks.length ≤ 500)))))) := by rw [← htk]; rfl
    rw [hE]
    generalize smN (e.ex.take i) = S at *
    by_cases c1 : e.ex.length ≤ 20
    case neg =>
      have c1' : ¬ (e.ex.length : Int) ≤ 20 := by omega
      simp (disch := first | omega | (simp; done) | assumption) [wr64, wrU8, wrU64, Nat.add_assoc, -getElem?_pos, List.getElem?_cons_zero, List.getElem?_cons_succ, t1, t3, t4, hlt, hlt', hv1, hv2, hxl, c1, c1']
      ((repeat (first | exact AH.keepsAll_refl _ | refine keeps_set hok ?_ (by first | omega | (simp; done) | (simp; omega)) | refine keeps_new hok ?_ (by first | omega | (simp; done) | (simp; omega)))); done)
    have c1' : (e.ex.length : Int) ≤ 20 := by omega
    by_cases c2 : S ≤ 4000
    case neg =>
      have c2' : ¬ (S : Int) ≤ 4000 := by omega
      simp (disch := first | omega | (simp; done) | assumption) [wr64, wrU8, wrU64, Nat.add_assoc, -getElem?_pos, List.getElem?_cons_zero, List.getElem?_cons_succ, t1, t3, t4, hlt, hlt', hv1, hv2, hxl, c1, c1', c2, c2']
      ((repeat (first | exact AH.keepsAll_refl _ | refine keeps_set hok ?_ (by first | omega | (simp; done) | (simp; omega)) | refine keeps_new hok ?_ (by first | omega | (simp; done) | (simp; omega)))); done)
    have c2' : (S : Int) ≤ 4000 := by omega
    by_cases c3 : e.ver.length ≤ 500
    case neg =>
      have c3' : ¬ (e.ver.length : Int) ≤ 500 := by omega
      simp (disch := first | omega | (simp; done) | assumption) [wr64, wrU8, wrU64, Nat.add_assoc, -getElem?_pos, List.getElem?_cons_zero, List.getElem?_cons_succ, t1, t3, t4, hlt, hlt', hv1, hv2, hxl, c1, c1', c2, c2', c3, c3']
      ((repeat (first | exact AH.keepsAll_refl _ | refine keeps_set hok ?_ (by first | omega | (simp; done) | (simp; omega)) | refine keeps_new hok ?_ (by first | omega | (simp; done) | (simp; omega)))); done)
    have c3' : (e.ver.length : Int) ≤ 500 := by omega
    by_cases c4 : e.op.length ≤ 500
    case neg =>
      have c4' : ¬ (e.op.length : Int) ≤ 500 := by omega
      simp (disch := first | omega | (simp; done) | assumption) [wr64, wrU8, wrU64, Nat.add_assoc, -getElem?_pos, List.getElem?_cons_zero, List.getElem?_cons_succ, t1, t3, t4, hlt, hlt', hv1, hv2, hxl, c1, c1', c2, c2', c3, c3', c4, c4']
      ((repeat (first | exact AH.keepsAll_refl _ | refine keeps_set hok ?_ (by first | omega | (simp; done) | (simp; omega)) | refine keeps_new hok ?_ (by first | omega | (simp; done) | (simp; omega)))); done)
    have c4' : (e.op.length : Int) ≤ 500 := by omega
    by_cases c5 : e.kn.length ≤ 500
    case neg =>
      have c5' : ¬ (e.kn.length : Int) ≤ 500 := by omega
      simp (disch := first | omega | (simp; done) | assumption) [wr64, wrU8, wrU64, Nat.add_assoc, -getElem?_pos, List.getElem?_cons_zero, List.getElem?_cons_succ, t1, t3, t4, hlt, hlt', hv1, hv2, hxl, c1, c1', c2, c2', c3, c3', c4, c4', c5, c5']
      ((repeat (first | exact AH.keepsAll_refl _ | refine keeps_set hok ?_ (by first | omega | (simp; done) | (simp; omega)) | refine keeps_new hok ?_ (by first | omega | (simp; done) | (simp; omega)))); done)
    have c5' : (e.kn.length : Int) ≤ 500 := by omega
    by_cases c6 : e.ks.length ≤ 500
    case neg =>
      have c6' : ¬ (e.ks.length : Int) ≤ 500 := by omega
      simp (disch := first | omega | (simp; done) | assumption) [wr64, wrU8, wrU64, Nat.add_assoc, -getElem?_pos, List.getElem?_cons_zero, List.getElem?_cons_succ, t1, t3, t4, hlt, hlt', hv1, hv2, hxl, c1, c1', c2, c2', c3, c3', c4, c4', c5, c5', c6, c6']
      ((repeat (first | exact AH.keepsAll_refl _ | refine keeps_set hok ?_ (by first | omega | (simp; done) | (simp; omega)) | refine keeps_new hok ?_ (by first | omega | (simp; done) | (simp; omega)))); done)
    have c6' : (e.ks.length : Int) ≤ 500 := by omega
    simp (disch := first | omega | (simp; done) | assumption) [wr64, wrU8, wrU64, Nat.add_assoc, -getElem?_pos, List.getElem?_cons_zero, List.getElem?_cons_succ, t1, t3, t4, hlt, hlt', hv1, hv2, hxl, c1, c1', c2, c2', c3, c3', c4, c4', c5, c5', c6, c6']
    ((repeat (first | exact AH.keepsAll_refl _ | refine keeps_set hok ?_ (by first | omega | (simp; done) | (simp; omega)) | refine keeps_new hok ?_ (by first | omega | (simp; done) | (simp; omega)))); done)
end Go.Proofs.YtkehijlgbfjmkaaGreatDoor.KW

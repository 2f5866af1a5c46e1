/- conf.Same and the document's. No condition. -/
import Derived.Test.YtkehijlgbfjmkaaGreatDoorKOk
set_option linter.unusedVariables false
set_option linter.unusedSimpArgs false
set_option maxRecDepth 10000
set_option maxHeartbeats 4000000
namespace Go.Proofs.YtkehijlgbfjmkaaGreatDoor.KW
open Go Go.RowKit Go.Proofs.YtkehijlgbfjmkaaGreatDoor Go.Proofs.YtkehijlgbfjmkaaGreatDoor.Abs Go.Proofs.YtkehijlgbfjmkaaGreatDoor.Ic Go.Proofs.YtkehijlgbfjmkaaGreatDoor.St
def EqI (q r : Nat) (ps qs : List Blb) (H : AH) (kk : Nat) (tm : Tms) (H' : AH) : Prop := H' = H ∧ ∃ i : Nat, kk = ps.length - i ∧ i ≤ ps.length ∧ ps.take i = qs.take i ∧ tm 0 = .slice q 0 ps.length 2 ∧ tm 1 = .slice r 0 qs.length 2 ∧ tm 12 = .int .i64 (ps.length : Int) ∧ tm 13 = .int .i64 (i : Int)
theorem take_next {ps qs : List Blb} {i : Nat} (h1 : i < ps.length) (h2 : i < qs.length) (h : ps.take i = qs.take i) (he : ps[i] = qs[i]) : ps.take (i + 1) = qs.take (i + 1) := by
  rw [← List.take_append_getElem h1, ← List.take_append_getElem h2, h, he]
theorem EqualB {q r : Nat} {ps qs : List Blb} {H : AH} (hq : H.at_ q = some (.cells false tB (rowsB ps).flatten)) (hr : H.at_ r = some (.cells false tB (rowsB qs).flatten)) (hn : ps.length ≤ 1000000) (hm : qs.length ≤ 1000000) :
    ACall Tryz.prog 47 [.slice q 0 ps.length 2, .slice r 0 qs.length 2] H (fun v H' => v = .bool (decide (ps = qs)) ∧ H' = H) := by
  refine acall_enter fits47 (by simp) (by simp) fun hok => ?_
  by_cases hl : ps.length = qs.length
  case neg =>
    have hl' : ¬ (ps.length : Int) = (qs.length : Int) := by omega
    rw [decide_eq_false (fun e => hl (by rw [e]))]
    simp (disch := first | omega | (simp; done) | assumption) [wr64, wrU8, wrU64, Nat.add_assoc, -getElem?_pos, List.getElem?_cons_zero, List.getElem?_cons_succ, ic47, rs47, hl']
    ((repeat (first | exact AH.keepsAll_refl _ | refine keeps_set hok ?_ (by first | omega | (simp; done) | (simp; omega)) | refine keeps_new hok ?_ (by first | omega | (simp; done) | (simp; omega)))); done)
  have hl' : (ps.length : Int) = (qs.length : Int) := by omega
  simp (disch := first | omega | (simp; done) | assumption) [wr64, wrU8, wrU64, Nat.add_assoc, -getElem?_pos, List.getElem?_cons_zero, List.getElem?_cons_succ, ic47, rs47, hl']
  refine iwp_loop (EqI q r ps qs H) ps.length ⟨rfl, 0, rfl, by omega, rfl, by simp [hl], by simp, by simp [hl], by simp⟩ ?_
  rintro kk tm H1 ⟨rfl, i, rfl, hi, htk, t0, t1, t12, t13⟩
  by_cases hlt : i < ps.length
  · have hlt' : (i : Int) < (ps.length : Int) := by omega
    have hlq : i < qs.length := by omega
    have hlq' : (i : Int) < (qs.length : Int) := by omega
    have l1 : loadC H1 q (i * 2) (some 2) = some (.agg (blobC ps[i])) := by
      have := load_flat hq (allB ps) (k := i) (by simpa [rowsB] using hlt)
      simpa [rowsB] using this
    have l2 : loadC H1 r (i * 2) (some 2) = some (.agg (blobC qs[i])) := by
      have := load_flat hr (allB qs) (k := i) (by simpa [rowsB] using hlq)
      simpa [rowsB] using this
    have hnx := take_next hlt hlq htk
    have hne : ps[i] ≠ qs[i] → ps ≠ qs := fun h e => h (by subst e; rfl)
    generalize ps[i] = p at *
    generalize qs[i] = p' at *
    simp (disch := first | omega | (simp; done) | assumption) [wr64, wrU8, wrU64, Nat.add_assoc, -getElem?_pos, List.getElem?_cons_zero, List.getElem?_cons_succ, t0, t1, t12, t13, hlt, hlt', hlq, hlq', Abs.bounds]
    refine Try.intro (by simpa [blobC, Nat.add_assoc] using l1) ?_
    simp (disch := first | omega | (simp; done) | assumption) [wr64, wrU8, wrU64, Nat.add_assoc, -getElem?_pos, List.getElem?_cons_zero, List.getElem?_cons_succ, t0, t1, t12, t13, hlt, hlt', hlq, hlq', Abs.bounds]
    refine Try.intro (by simpa [blobC, Nat.add_assoc] using l2) ?_
    by_cases e1 : p.1 = p'.1
    case neg =>
      rw [decide_eq_false (hne (fun e => e1 (by rw [e])))]
      simp (disch := first | omega | (simp; done) | assumption) [wr64, wrU8, wrU64, Nat.add_assoc, -getElem?_pos, List.getElem?_cons_zero, List.getElem?_cons_succ, t0, t1, t12, t13, hlt, hlt', hlq, hlq', e1]
      exact AH.keepsAll_refl _
    by_cases e2 : p.2 = p'.2
    case neg =>
      rw [decide_eq_false (hne (fun e => e2 (by rw [e])))]
      simp (disch := first | omega | (simp; done) | assumption) [wr64, wrU8, wrU64, Nat.add_assoc, -getElem?_pos, List.getElem?_cons_zero, List.getElem?_cons_succ, t0, t1, t12, t13, hlt, hlt', hlq, hlq', e1, e2]
      exact AH.keepsAll_refl _
    have hnx' := hnx (Prod.ext e1 e2)
    simp (disch := first | omega | (simp; done) | assumption) [wr64, wrU8, wrU64, Nat.add_assoc, -getElem?_pos, List.getElem?_cons_zero, List.getElem?_cons_succ, t0, t1, t12, t13, hlt, hlt', hlq, hlq', e1, e2]
    exact ⟨ps.length - (i + 1), by omega, rfl, i + 1, rfl, by omega, hnx', by simp [t0], by simp [t1], by simp [t12], by simp⟩
  · have hlt' : ¬ (i : Int) < (ps.length : Int) := by omega
    rw [List.take_of_length_le (by omega), List.take_of_length_le (by omega)] at htk
    rw [decide_eq_true htk]
    simp (disch := first | omega | (simp; done) | assumption) [wr64, wrU8, wrU64, Nat.add_assoc, -getElem?_pos, List.getElem?_cons_zero, List.getElem?_cons_succ, t0, t1, t12, t13, hlt, hlt']
    ((repeat (first | exact AH.keepsAll_refl _ | refine keeps_set hok ?_ (by first | omega | (simp; done) | (simp; omega)) | refine keeps_new hok ?_ (by first | omega | (simp; done) | (simp; omega)))); done)
def sameE (a b : En) : Bool := decide (a.ver = b.ver) && (decide (a.op = b.op) && decide ((a.kn, a.ks) :: a.ex = (b.kn, b.ks) :: b.ex))
theorem sameE_iff (a b : En) : sameE a b = true ↔ a = b := by
  obtain ⟨v, n, s, o, x⟩ := a
  obtain ⟨v', n', s', o', x'⟩ := b
  unfold sameE
  simp only [Bool.and_eq_true, decide_eq_true_eq, List.cons.injEq, Prod.mk.injEq, En.mk.injEq]
  constructor
  · rintro ⟨h1, h2, ⟨h3, h4⟩, h5⟩
    simp [*]
  · intro h
    simp_all
theorem SameC {a b : En} {vx vy : AV} {H : AH} (hx : SF H vx 2 (rowsB a.ex)) (hy : SF H vy 2 (rowsB b.ex)) (hn : a.ex.length ≤ 100000) (hm : b.ex.length ≤ 100000) :
    ACall Tryz.prog 25 [.agg (entC a vx), .agg (entC b vy)] H (fun v H' => v = .bool (sameE a b) ∧ H' = H) := by
  refine acall_enter fits25 (by simp) (by simp) fun hok => ?_
  obtain ⟨_, hv1, hv2⟩ := sf_len hx
  obtain ⟨_, hw1, hw2⟩ := sf_len hy
  unfold sameE
  by_cases e1 : a.ver = b.ver
  case neg =>
    unfold entC
    simp (disch := first | omega | (simp; done) | assumption) [wr64, wrU8, wrU64, Nat.add_assoc, -getElem?_pos, List.getElem?_cons_zero, List.getElem?_cons_succ, ic25, rs25, hv1, hv2, hw1, hw2, e1]
    ((repeat (first | exact AH.keepsAll_refl _ | refine keeps_set hok ?_ (by first | omega | (simp; done) | (simp; omega)) | refine keeps_new hok ?_ (by first | omega | (simp; done) | (simp; omega)))); done)
  by_cases e2 : a.op = b.op
  case neg =>
    unfold entC
    simp (disch := first | omega | (simp; done) | assumption) [wr64, wrU8, wrU64, Nat.add_assoc, -getElem?_pos, List.getElem?_cons_zero, List.getElem?_cons_succ, ic25, rs25, hv1, hv2, hw1, hw2, e1, e2]
    ((repeat (first | exact AH.keepsAll_refl _ | refine keeps_set hok ?_ (by first | omega | (simp; done) | (simp; omega)) | refine keeps_new hok ?_ (by first | omega | (simp; done) | (simp; omega)))); done)
  have hk0 : H.keepsAll ((H.new (.cells false tEn (entC a vx))).new (.cells false tEn (entC b vy))) := fun y o h => by have := hok _ _ h; rw [AH.new_ne _ _ (by simp; omega), AH.new_ne _ _ (by omega)]; exact h
  have hB1 := BlobsC (vx := vx) (e := a) (H := ((H.new (.cells false tEn (entC a vx))).new (.cells false tEn (entC b vy)))) (hx.keeps hk0) hn
  have hB2 := fun H2 (h : SF H2 vy 2 (rowsB b.ex)) => BlobsC (vx := vy) (e := b) (H := H2) h hm
  unfold entC at *
  simp (disch := first | omega | (simp; done) | assumption) [wr64, wrU8, wrU64, Nat.add_assoc, -getElem?_pos, List.getElem?_cons_zero, List.getElem?_cons_succ, ic25, rs25, hv1, hv2, hw1, hw2, e1, e2]
  rw [e1, e2] at hB1 hk0
  refine CallW.of hB1 ?_
  rintro v H2 ⟨hk, hn2, q, rfl, hq, _, hqn⟩
  try simp only [newO_none, AH.new_next] at hk hn2 hq hqn
  have hb2 := hk (H.next + 1) _ (by simp; rfl)
  have hbb := hB2 H2 ((hy.keeps hk0).keeps hk)
  have hokH2 : ∀ y o, H.at_ y = some o → H2.at_ y = some o := fun y o h => hk _ _ (hk0 _ _ h)
  simp (disch := first | omega | (simp; done) | assumption) [wr64, wrU8, wrU64, Nat.add_assoc, -getElem?_pos, List.getElem?_cons_zero, List.getElem?_cons_succ, hw1, hw2, e1, e2, hb2]
  refine CallW.okof hbb ?_
  rintro v H3 ⟨hk3, hn3, r, rfl, hr, hr1, hrn⟩ hok3
  try simp only [newO_none] at hk3 hn3 hr hr1 hrn
  simp (disch := first | omega | (simp; done) | assumption) [wr64, wrU8, wrU64, Nat.add_assoc, -getElem?_pos, List.getElem?_cons_zero, List.getElem?_cons_succ, hw1, hw2, e1, e2]
  have hE := EqualB (ps := (a.kn, a.ks) :: a.ex) (qs := (b.kn, b.ks) :: b.ex) (hk3 _ _ hq) hr (by simp; omega) (by simp; omega)
  simp only [List.length_cons, rowsB, List.length_map] at hE ⊢
  refine CallW.val (by simpa using hE) ?_
  simp (disch := first | omega | (simp; done) | assumption) [wr64, wrU8, wrU64, Nat.add_assoc, -getElem?_pos, List.getElem?_cons_zero, List.getElem?_cons_succ, hw1, hw2, e1, e2]
  exact fun y o h => hk3 _ _ (hokH2 y o h)
def RsI (a b : En) (vx vy : AV) (H : AH) (kk : Nat) (tm : Tms) (H' : AH) : Prop := H' = (H.new (.cells false tEn (entC a vx))).new (.cells false tEn (entC b vy)) ∧ ∃ i : Nat, kk = a.ex.length - i ∧ i ≤ a.ex.length ∧ a.ex.take i = b.ex.take i ∧ tm 2 = .ptr H.next 0 ∧ tm 3 = .ptr (H.next + 1) 0 ∧ tm 5 = .int .i64 (i : Int)
theorem RSameC {a b : En} {vx vy : AV} {H : AH} (hx : SF H vx 2 (rowsB a.ex)) (hy : SF H vy 2 (rowsB b.ex)) (hn : a.ex.length ≤ 100000) (hm : b.ex.length ≤ 100000) :
    ACall Tryz.prog 15 [.agg (entC a vx), .agg (entC b vy)] H (fun v H' => v = .bool (sameE a b) ∧ H' = H) := by
  refine acall_enter fits15 (by simp) (by simp) fun hok => ?_
  obtain ⟨hxl, hv1, hv2⟩ := sf_len hx
  obtain ⟨hyl, hw1, hw2⟩ := sf_len hy
  have hk0 : H.keepsAll ((H.new (.cells false tEn (entC a vx))).new (.cells false tEn (entC b vy))) := fun y o h => by have := hok _ _ h; rw [AH.new_ne _ _ (by simp; omega), AH.new_ne _ _ (by omega)]; exact h
  have hsm : sameE a b = true ↔ a = b := sameE_iff a b
  have no : a ≠ b → sameE a b = false := fun h => by
    cases e : sameE a b
    · rfl
    · exact absurd (hsm.1 e) h
  by_cases e1 : a.ver = b.ver
  case neg =>
    rw [no (fun e => e1 (by rw [e]))]
    unfold entC at *
    simp (disch := first | omega | (simp; done) | assumption) [wr64, wrU8, wrU64, Nat.add_assoc, -getElem?_pos, List.getElem?_cons_zero, List.getElem?_cons_succ, ic15, rs15, hv1, hv2, hw1, hw2, e1]
    exact hk0
  by_cases e2 : a.kn = b.kn
  case neg =>
    rw [no (fun e => e2 (by rw [e]))]
    unfold entC at *
    simp (disch := first | omega | (simp; done) | assumption) [wr64, wrU8, wrU64, Nat.add_assoc, -getElem?_pos, List.getElem?_cons_zero, List.getElem?_cons_succ, ic15, rs15, hv1, hv2, hw1, hw2, e1, e2]
    rw [e1] at hk0
    exact hk0
  by_cases e3 : a.ks = b.ks
  case neg =>
    rw [no (fun e => e3 (by rw [e]))]
    unfold entC at *
    simp (disch := first | omega | (simp; done) | assumption) [wr64, wrU8, wrU64, Nat.add_assoc, -getElem?_pos, List.getElem?_cons_zero, List.getElem?_cons_succ, ic15, rs15, hv1, hv2, hw1, hw2, e1, e2, e3]
    rw [e1, e2] at hk0
    exact hk0
  by_cases e4 : a.op = b.op
  case neg =>
    rw [no (fun e => e4 (by rw [e]))]
    unfold entC at *
    simp (disch := first | omega | (simp; done) | assumption) [wr64, wrU8, wrU64, Nat.add_assoc, -getElem?_pos, List.getElem?_cons_zero, List.getElem?_cons_succ, ic15, rs15, hv1, hv2, hw1, hw2, e1, e2, e3, e4]
    rw [e1, e2, e3] at hk0
    exact hk0
  by_cases hl : a.ex.length = b.ex.length
  case neg =>
    have hl' : ¬ (a.ex.length : Int) = (b.ex.length : Int) := by omega
    rw [no (fun e => hl (by rw [e]))]
    unfold entC at *
    simp (disch := first | omega | (simp; done) | assumption) [wr64, wrU8, wrU64, Nat.add_assoc, -getElem?_pos, List.getElem?_cons_zero, List.getElem?_cons_succ, ic15, rs15, hv1, hv2, hw1, hw2, e1, e2, e3, e4, hl', hl, hxl, hyl]
    rw [e1, e2, e3, e4] at hk0
    exact hk0
  have hl' : (a.ex.length : Int) = (b.ex.length : Int) := by omega
  have heq : sameE a b = true ↔ a.ex = b.ex := by
    rw [hsm]
    obtain ⟨_, _, _, _, _⟩ := a
    obtain ⟨_, _, _, _, _⟩ := b
    simp_all
  have heq' : sameE a b = decide (a.ex = b.ex) := by
    by_cases h : a.ex = b.ex
    · rw [decide_eq_true h, heq.2 h]
    · rw [decide_eq_false h]
      cases e : sameE a b
      · rfl
      · exact absurd (heq.1 e) h
  rw [heq']
  clear heq' heq no hsm
  obtain ⟨va, na, sa, xa, oa⟩ := a
  obtain ⟨vb, nb, sb, xb, ob⟩ := b
  dsimp only at *
  subst e1 e2 e3 e4
  simp only [entC] at hk0
  simp (disch := first | omega | (simp; done) | assumption) [wr64, wrU8, wrU64, Nat.add_assoc, -getElem?_pos, List.getElem?_cons_zero, List.getElem?_cons_succ, ic15, rs15, hv1, hv2, hw1, hw2, hl', hl, hxl, hyl, entC]
  refine iwp_loop (RsI ⟨va, na, sa, xa, oa⟩ ⟨va, na, sa, xb, oa⟩ vx vy H) xa.length ⟨by simp [entC], 0, rfl, by omega, rfl, by simp, by simp, by simp⟩ ?_
  rintro kk tm H1 ⟨rfl, i, rfl, hi, htk, t2, t3, t5⟩
  dsimp only at *
  simp only [entC]
  by_cases hlt : i < xa.length
  · have hlt' : (i : Int) < (xa.length : Int) := by omega
    have hlq : i < xb.length := by omega
    have hlq' : (i : Int) < (xb.length : Int) := by omega
    obtain ⟨x, o, rfl, l1, _, _⟩ := sf_at (hx.keeps hk0) hlt
    obtain ⟨x', o', rfl, l2, _, _⟩ := sf_at (hy.keeps hk0) hlq
    have hnx := take_next hlt hlq htk
    have hne : xa[i] ≠ xb[i] → xa ≠ xb := fun h e => h (by simp only [e])
    generalize xa[i] = p at *
    generalize xb[i] = p' at *
    simp (disch := first | omega | (simp; done) | assumption) [wr64, wrU8, wrU64, Nat.add_assoc, -getElem?_pos, List.getElem?_cons_zero, List.getElem?_cons_succ, t2, t3, t5, hlt, hlt', hlq, hlq', Abs.bounds]
    refine Try.intro (by simpa [blobC, Nat.add_assoc] using l1) ?_
    simp (disch := first | omega | (simp; done) | assumption) [wr64, wrU8, wrU64, Nat.add_assoc, -getElem?_pos, List.getElem?_cons_zero, List.getElem?_cons_succ, t2, t3, t5, hlt, hlt', hlq, hlq', Abs.bounds]
    refine Try.intro (by simpa [blobC, Nat.add_assoc] using l2) ?_
    by_cases f1 : p.1 = p'.1
    case neg =>
      rw [decide_eq_false (hne (fun e => f1 (by rw [e])))]
      simp (disch := first | omega | (simp; done) | assumption) [wr64, wrU8, wrU64, Nat.add_assoc, -getElem?_pos, List.getElem?_cons_zero, List.getElem?_cons_succ, t2, t3, t5, hlt, hlt', hlq, hlq', f1]
      exact hk0
    by_cases f2 : p.2 = p'.2
    case neg =>
      rw [decide_eq_false (hne (fun e => f2 (by rw [e])))]
      simp (disch := first | omega | (simp; done) | assumption) [wr64, wrU8, wrU64, Nat.add_assoc, -getElem?_pos, List.getElem?_cons_zero, List.getElem?_cons_succ, t2, t3, t5, hlt, hlt', hlq, hlq', f1, f2]
      exact hk0
    have hnx' := hnx (Prod.ext f1 f2)
    simp (disch := first | omega | (simp; done) | assumption) [wr64, wrU8, wrU64, Nat.add_assoc, -getElem?_pos, List.getElem?_cons_zero, List.getElem?_cons_succ, t2, t3, t5, hlt, hlt', hlq, hlq', f1, f2]
    exact ⟨xa.length - (i + 1), by (first | omega | (dsimp only; omega)), by simp [entC], i + 1, rfl, (show i + 1 ≤ xa.length by omega), hnx', by simp [t2], by simp [t3], by simp⟩
  · have hlt' : ¬ (i : Int) < (xa.length : Int) := by omega
    have hlq' : ¬ (i : Int) < (xb.length : Int) := by omega
    rw [List.take_of_length_le (by omega), List.take_of_length_le (by omega)] at htk
    rw [decide_eq_true htk]
    simp (disch := first | omega | (simp; done) | assumption) [wr64, wrU8, wrU64, Nat.add_assoc, -getElem?_pos, List.getElem?_cons_zero, List.getElem?_cons_succ, t2, t3, t5, hlt, hlt', hlq', hxl, hv1, hv2]
    exact hk0
end Go.Proofs.YtkehijlgbfjmkaaGreatDoor.KW

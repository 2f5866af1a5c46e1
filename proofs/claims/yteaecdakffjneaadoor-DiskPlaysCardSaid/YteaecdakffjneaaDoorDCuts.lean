/- DiskCuts, worked out; what a block is by its number. -/
import Derived.Test.YteaecdakffjneaaDoorDFn
import Derived.Test.YteaecdakffjneaaDoorDLaid
import Derived.Test.YteaecdakffjneaaDoorSt
set_option linter.unusedVariables false
set_option linter.unusedSimpArgs false
set_option maxRecDepth 10000
set_option maxHeartbeats 4000000
namespace Go.Proofs.YteaecdakffjneaaDoor.DCuts
open Go Go.RowKit Go.Proofs.YteaecdakffjneaaDoor Go.Proofs.YteaecdakffjneaaDoor.Abs Go.Proofs.YteaecdakffjneaaDoor.Ic Go.Proofs.YteaecdakffjneaaDoor.EAs Go.Proofs.YteaecdakffjneaaDoor.EErr Go.Proofs.YteaecdakffjneaaDoor.DFn
abbrev tA : Nat := 39
def slotOf (z : Int) : Option (List UInt8) := if z = 0 then none else some (fill (z - 1))
def isB (z : Int) : List UInt8 := if z = 0 then List.replicate 128 0 else fill (z - 1)
theorem bytes_slot (z : Int) : bytesOf (slotOf z) = isB z := by unfold slotOf isB bytesOf; split <;> rfl
theorem slot_succ (i : Nat) : slotOf ((i : Int) + 1) = some (fill i) := by unfold slotOf; rw [if_neg (by omega)]; simp
theorem Is_ {z : Int} (h0 : 0 ≤ z) (h1 : z ≤ 1000000) (H : AH) : ACall Tryd.prog 18 [.int .i64 z] H (CloneP (isB z) H) := by
  refine acall_ok (bodyP_of fits18) fun hok => acall_of fits18 (by simp) ?_
  by_cases hz : z = 0
  · subst hz
    simp (disch := first | omega | (simp; done) | assumption) [wr64, wrU8, wrU64, Nat.add_assoc, -getElem?_pos, List.getElem?_cons_zero, List.getElem?_cons_succ, ic18, rs18, -List.reduceReplicate]
    exact ⟨keeps_new hok (AH.keepsAll_refl _) (Nat.le_refl _), by simp, H.next, Nat.le_refl _, by simp, rfl, by simp [isB], by simp [isB, -List.reduceReplicate]⟩
  · simp (disch := first | omega | (simp; done) | assumption) [wr64, wrU8, wrU64, Nat.add_assoc, -getElem?_pos, List.getElem?_cons_zero, List.getElem?_cons_succ, ic18, rs18, hz, -List.reduceReplicate]
    refine CallW.ofk (Fill (z - 1) _) ?_
    rintro v H1 ⟨hk1, hn1, q, hq, hqn, hr⟩ hok1
    try simp only [newO_none] at hk1 hn1 hq
    simp (disch := first | omega | (simp; done) | assumption) [wr64, wrU8, wrU64, Nat.add_assoc, -getElem?_pos, List.getElem?_cons_zero, List.getElem?_cons_succ, ]
    exact ⟨hk1, hn1, q, hq, hqn, by rw [show isB z = fill (z - 1) by unfold isB; rw [if_neg hz]]; exact hr⟩
/-- A change of a block of another type. -/
theorem DS.other {H H' : AH} {p L A t : Nat} {r : Bool} {cs : List AV} {s : DK} (h : DS H p L s) (hA : H.at_ A = some (.cells r t cs)) (h1 : t ≠ tU8) (h2 : t ≠ tD) (h3 : t ≠ tBS) (hk : ∀ x o, x ≠ A → H.at_ x = some o → H'.at_ x = some o) : DS H' p L s := by
  obtain ⟨d0, d1, cs2, d2, d3, d4⟩ := h
  have e1 : p ≠ A := fun e => by rw [e, hA] at d1; cases d1; exact h2 rfl
  have e2 : L ≠ A := fun e => by rw [e, hA] at d2; cases d2; exact h3 rfl
  refine ⟨d0, hk _ _ e1 d1, cs2, hk _ _ e2 d2, d3, fun i hi => ?_⟩
  obtain ⟨av, a1, a2⟩ := d4 i hi
  refine ⟨av, a1, ?_⟩
  cases hc : s.ct[i] with
  | none => rw [hc] at a2; exact a2
  | some bs =>
    rw [hc] at a2
    obtain ⟨b1, q, rfl, b3, b4, b5⟩ := a2
    exact ⟨b1, q, rfl, hk _ _ (fun e => by rw [e, hA] at b3; cases b3; exact h1 rfl) b3, b4, b5⟩
theorem ok_set' {H : AH} {b : Nat} {o : AObj} (h : H.ok) (hb : b < H.next) : (H.set b (some o)).ok := fun c q hc => by
  by_cases e : c = b
  · subst e; simpa using hb
  · rw [AH.set_ne H _ e] at hc; simpa using h c q hc
def C1 (v : AV) (m n p L A : Nat) (H : AH) (k : Nat) (tm : Tms) (H' : AH) : Prop :=
  H.keepsAll H' ∧ p < H'.next ∧ L < H'.next ∧ A < H'.next ∧ H'.ok ∧ ∃ (i : Nat) (now : List Int), k = m - i ∧ i ≤ m ∧ now.length = 20 ∧ (∀ z ∈ now, 0 ≤ z ∧ z ≤ 100) ∧
    DS H' p L ⟨now.map slotOf, ((min i n : Nat) : Int), (n : Int) - ((min i n : Nat) : Int), decide (n ≤ i)⟩ ∧ H'.at_ A = some (.cells false tA (now.map (AV.int .i64))) ∧
    tm 0 = v ∧ tm 1 = .int .i64 (n : Int) ∧ tm 5 = .ptr p 0 ∧ tm 7 = .ptr A 0 ∧ tm 8 = .int .i64 (i : Int)
def C2 (p L A : Nat) (now : List Int) (H : AH) (k : Nat) (tm : Tms) (H' : AH) : Prop :=
  H.keepsAll H' ∧ H'.ok ∧ ∃ (i : Nat) (w : Int), k = 20 - i ∧ i ≤ 20 ∧ DS H' p L ⟨now.map slotOf, w, -1, false⟩ ∧ H'.at_ A = some (.cells false tA (now.map (AV.int .i64))) ∧ tm 5 = .ptr p 0 ∧ tm 7 = .ptr A 0 ∧ tm 11 = .int .i64 (i : Int)
theorem set_slot (now : List Int) (k : Nat) (i : Nat) : (now.map slotOf).set k (some (fill i)) = (now.set k ((i : Int) + 1)).map slotOf := by rw [List.map_set, slot_succ]
theorem set_int (now : List Int) (k : Nat) (z : Int) : (now.map (AV.int .i64)).set k (.int .i64 z) = (now.set k z).map (AV.int .i64) := by rw [List.map_set]
theorem all_set {now : List Int} (h : ∀ z ∈ now, 0 ≤ z ∧ z ≤ 100) (k i : Nat) (hi : i < 60) : ∀ z ∈ now.set k ((i : Int) + 1), 0 ≤ z ∧ z ≤ 100 := fun z hz => by
  rcases List.mem_or_eq_of_mem_set hz with hz | rfl
  · exact h z hz
  · omega
theorem Law (v : AV) (l : List Int) (n : Int) (H : AH) (hl : SL H v (l.map (AV.int .i64))) (hE : loadC H 0 0 none = some (rt tErr)) : ACall Tryd.prog 5 [v, .int .i64 n] H (fun v H' => v = .bool true ∧ H' = H) := by
  have hlen : lenA v = some l.length := by
    rcases hl with ⟨h1, rfl | rfl⟩ | ⟨b, o, rfl, _, _⟩
    · rw [show l = [] by simpa using h1]; rfl
    · rw [show l = [] by simpa using h1]; rfl
    · simp [lenA]
  have hload : ∀ i (h : i < l.length), ∃ b o, v = .slice b o l.length 1 ∧ loadC H b (o + i) none = some (.int .i64 l[i]) := fun i hi => by
    rcases hl with ⟨h1, _⟩ | ⟨b, o, rfl, _, h3⟩
    · rw [show l = [] by simpa using h1] at hi; simp at hi
    · exact ⟨b, o, by simp, by rw [h3 i (by simpa using hi)]; simp [hi]⟩
  refine acall_enter fits5 (by simp) (by simp) fun hok => ?_
  obtain ⟨n, hn, hn9⟩ : ∃ m : Nat, bits .and .i64 n 63 = (m : Int) ∧ m < 64 := ⟨(n % 64).toNat, by have := St.mask_i64 6 (by omega) n; simp at this; rw [this]; omega, by omega⟩
  simp (disch := first | omega | (simp; done) | assumption) [wr64, wrU8, wrU64, Nat.add_assoc, -getElem?_pos, List.getElem?_cons_zero, List.getElem?_cons_succ, ic5, rs5]
  refine CallW.ofk (show ACall Tryd.prog _ [.int .i64 20] _ _ from New (n := 20) (by omega) (by omega) _) ?_
  rintro v1 H1 ⟨hk1, hn1, p, L, rfl, hp, hL, hp1, hL1, hd1⟩ hok1
  try simp only [newO_none] at hk1 hn1 hp hL
  simp (disch := first | omega | (simp; done) | assumption) [wr64, wrU8, wrU64, Nat.add_assoc, -getElem?_pos, List.getElem?_cons_zero, List.getElem?_cons_succ, hn]
  refine CallW.ofk (Fuse (n : Int) hd1) ?_
  rintro v2 H2 ⟨rfl, hn2, hx2, hd2⟩ hok2
  try simp only [newO_none] at hx2 hn2
  have hk2 := hx2.keepsAll hk1 hok hp hL
  have e1 : max (n : Int) (-1) = (n : Int) := by omega
  have e2 : (decide ((n : Int) = 0)) = decide (n ≤ 0) := by rw [decide_eq_decide]; omega
  simp only [e1, Bool.false_or, e2] at hd2
  simp (disch := first | omega | (simp; done) | assumption) [wr64, wrU8, wrU64, Nat.add_assoc, -getElem?_pos, List.getElem?_cons_zero, List.getElem?_cons_succ, hn]
  have hA0 : p ≠ H2.next ∧ L ≠ H2.next := by omega
  have hk2' : H.keepsAll (H2.new (.cells false tA ((List.replicate 20 (0 : Int)).map (AV.int .i64)))) := keeps_new hok hk2 (by omega)
  have hk22 : H2.keepsAll (H2.new (.cells false tA ((List.replicate 20 (0 : Int)).map (AV.int .i64)))) := keeps_new hok2 (AH.keepsAll_refl _) (Nat.le_refl _)
  refine iwp_loop (C1 v (min l.length 60) n p L H2.next H) (min l.length 60) ⟨hk2', by simp; omega, by simp; omega, by simp, AH.ok_new hok2, 0, List.replicate 20 0, rfl, by omega, by simp, by simp, ?_, by simp, by simp, by simp, by simp, by simp, by simp⟩ ?_
  · have e3 : ((List.replicate 20 (0 : Int)).map slotOf) = List.replicate 20 none := by simp [slotOf]
    rw [e3]
    have := hd2.keeps hk22
    simpa using this
  rintro k tm H3 ⟨hk3, hp3, hL3, hA3n, hok3, i, now, rfl, hi, hnow, hall, hd3, hA3, t0, t1, t5, t7, t8⟩
  have hpL3 := hd3.1
  by_cases hlt : i < min l.length 60
  · have h1 : i < l.length := by omega
    have h2 : i < 60 := by omega
    obtain ⟨b, o, rfl, hld⟩ := hload i h1
    have hld3 := loadC_keeps hk3 hld
    obtain ⟨m, hm, hm9⟩ : ∃ m : Nat, bits .and .i64 l[i] 255 = (m : Int) ∧ m < 256 := ⟨(l[i] % 256).toNat, by have := St.mask_i64 8 (by omega) l[i]; simp at this; rw [this]; omega, by omega⟩
    have hmm : ((m : Int).tmod 20) = ((m % 20 : Nat) : Int) := rfl
    have h2' : (i : Int) < 60 := by omega
    simp (disch := first | omega | (simp; done) | assumption) [wr64, wrU8, wrU64, Nat.add_assoc, -getElem?_pos, List.getElem?_cons_zero, List.getElem?_cons_succ, t0, t1, t5, t7, t8, h1, h2']
    refine Try.intro hld3 ?_
    simp (disch := first | omega | (simp; done) | assumption) [wr64, wrU8, wrU64, Nat.add_assoc, -getElem?_pos, List.getElem?_cons_zero, List.getElem?_cons_succ, t0, t1, t5, t7, t8, hm, hmm]
    refine CallW.ofk (Fill (i : Int) _) ?_
    rintro v4 H4 ⟨hk4, hn4, q4, hq4, hq4n, hr4⟩ hok4
    try simp only [newO_none] at hk4 hn4 hq4
    have hd4 := hd3.keeps hk4
    have hk04 : H.keepsAll H4 := fun x o hx => hk4 x o (hk3 x o hx)
    simp (disch := first | omega | (simp; done) | assumption) [wr64, wrU8, wrU64, Nat.add_assoc, -getElem?_pos, List.getElem?_cons_zero, List.getElem?_cons_succ, t0, t1, t5, t7, t8]
    by_cases hdead : n ≤ i
    · have g1 : ¬ ((i : Int) < (n : Int)) := by omega
      have g2 : (n : Int) ≤ (i : Int) + 1 := by omega
      have g3 : ¬ i < n := by omega
      have g4 : n ≤ i + 1 := by omega
      refine CallW.ofk (Write_dead (i := m % 20) hd4 hr4 (by simp [hnow]; omega) (by omega) (by simp; omega)) ?_
      rintro v5 H5 ⟨hk5, hn5, f5, _, _, rfl, _⟩ hok5
      try simp only [newO_none] at hk5 hn5
      have hd5 := hd4.keeps hk5
      simp (disch := first | omega | (simp; done) | assumption) [wr64, wrU8, wrU64, Nat.add_assoc, -getElem?_pos, List.getElem?_cons_zero, List.getElem?_cons_succ, t0, t1, t5, t7, t8, g1, g2, g3, g4, hdead]
      refine CallW.val (Dead hd5) ?_
      simp (disch := first | omega | (simp; done) | assumption) [wr64, wrU8, wrU64, Nat.add_assoc, -getElem?_pos, List.getElem?_cons_zero, List.getElem?_cons_succ, t0, t1, t5, t7, t8, g1, g2, g3, g4, hdead]
      refine ⟨min l.length 60 - (i + 1), by omega, fun x o hx => hk5 x o (hk04 x o hx), by omega, by omega, by omega, hok5, i + 1, now, rfl, by omega, hnow, hall, ?_, hk5 _ _ (hk4 _ _ hA3), by simp [t0], by simp [t1], by simp [t5], by simp [t7], by simp⟩
      have q1 : min (i + 1) n = min i n := by omega
      have q2 : decide (n ≤ i + 1) = decide (n ≤ i) := by rw [decide_eq_decide]; omega
      rw [q1, q2]
      exact hd5
    by_cases hdn : n ≤ i + 1
    · have g1 : (i : Int) < (n : Int) := by omega
      have g2 : (n : Int) ≤ (i : Int) + 1 := by omega
      have g3 : i < n := by omega
      have g4 : n ≤ i + 1 := by omega
      refine CallW.ofk (Write_ok (i := m % 20) hd4 hr4 (by omega) (by omega) (by simp [hnow]; omega) (by simp; omega) (by simp; omega) (by simp; omega)) ?_
      rintro v5 H5 ⟨rfl, hn5, hx5, hd5⟩ hok5
      try simp only [newO_none] at hx5 hn5
      have hA5 := hx5 _ _ (by omega) (by omega) (hk4 _ _ hA3)
      have q1 : ((min i n : Nat) : Int) = (i : Int) := by omega
      have q2 : ((min (i + 1) n : Nat) : Int) = (i : Int) + 1 := by omega
      have q3 : (0 : Int) < (n : Int) - (i : Int) := by omega
      have q4 : decide ((n : Int) - (i : Int) - 1 = 0) = decide (n ≤ i + 1) := by rw [decide_eq_decide]; omega
      have q5 : (n : Int) - (i : Int) - 1 = (n : Int) - ((i : Int) + 1) := by omega
      simp only [DK.write, q1, if_pos q3, q4, set_slot] at hd5
      rw [q5] at hd5
      simp (disch := first | omega | (simp; done) | assumption) [wr64, wrU8, wrU64, Nat.add_assoc, -getElem?_pos, List.getElem?_cons_zero, List.getElem?_cons_succ, t0, t1, t5, t7, t8, g1, g2, g3, g4, hdead]
      refine CallW.val (Dead hd5) ?_
      have hA5l : (now.map (AV.int .i64)).length = 20 := by simp [hnow]
      have hif : 0 ≤ (m : Int) % 20 ∧ (m : Int) % 20 < 20 := by omega
      have hnat : ((m : Int) % 20).toNat = m % 20 := by omega
      have hlt20 : m % 20 ≤ 19 := by omega
      simp (disch := first | omega | (simp; done) | assumption) [wr64, wrU8, wrU64, Nat.add_assoc, -getElem?_pos, List.getElem?_cons_zero, List.getElem?_cons_succ, t0, t1, t5, t7, t8, g1, g2, g3, g4, hA5, hnow, hif, hnat, hlt20]
      refine ⟨min l.length 60 - (i + 1), by omega, keeps_set hok (hx5.keepsAll hk04 hok hp hL) (by omega), by simp; omega, by simp; omega, by simp; omega, ok_set' hok5 (by omega), i + 1, now.set (m % 20) ((i : Int) + 1), rfl, by omega, by simp [hnow], all_set hall _ _ (by omega), ?_, by simp, by simp [t0], by simp [t1], by simp [t5], by simp [t7], by simp⟩
      rw [q2]
      exact DS.other hd5 hA5 (by decide) (by decide) (by decide) (fun x o hx ho => by simp [hx]; exact ho)
    · have g1 : (i : Int) < (n : Int) := by omega
      have g2 : ¬ ((n : Int) ≤ (i : Int) + 1) := by omega
      have g3 : i < n := by omega
      have g4 : ¬ (n ≤ i + 1) := by omega
      refine CallW.ofk (Write_ok (i := m % 20) hd4 hr4 (by omega) (by omega) (by simp [hnow]; omega) (by simp; omega) (by simp; omega) (by simp; omega)) ?_
      rintro v5 H5 ⟨rfl, hn5, hx5, hd5⟩ hok5
      try simp only [newO_none] at hx5 hn5
      have hA5 := hx5 _ _ (by omega) (by omega) (hk4 _ _ hA3)
      have q1 : ((min i n : Nat) : Int) = (i : Int) := by omega
      have q2 : ((min (i + 1) n : Nat) : Int) = (i : Int) + 1 := by omega
      have q3 : (0 : Int) < (n : Int) - (i : Int) := by omega
      have q4 : decide ((n : Int) - (i : Int) - 1 = 0) = decide (n ≤ i + 1) := by rw [decide_eq_decide]; omega
      have q5 : (n : Int) - (i : Int) - 1 = (n : Int) - ((i : Int) + 1) := by omega
      simp only [DK.write, q1, if_pos q3, q4, set_slot] at hd5
      rw [q5] at hd5
      simp (disch := first | omega | (simp; done) | assumption) [wr64, wrU8, wrU64, Nat.add_assoc, -getElem?_pos, List.getElem?_cons_zero, List.getElem?_cons_succ, t0, t1, t5, t7, t8, g1, g2, g3, g4, hdead]
      refine CallW.val (Dead hd5) ?_
      have hA5l : (now.map (AV.int .i64)).length = 20 := by simp [hnow]
      have hif : 0 ≤ (m : Int) % 20 ∧ (m : Int) % 20 < 20 := by omega
      have hnat : ((m : Int) % 20).toNat = m % 20 := by omega
      have hlt20 : m % 20 ≤ 19 := by omega
      simp (disch := first | omega | (simp; done) | assumption) [wr64, wrU8, wrU64, Nat.add_assoc, -getElem?_pos, List.getElem?_cons_zero, List.getElem?_cons_succ, t0, t1, t5, t7, t8, g1, g2, g3, g4, hA5, hnow, hif, hnat, hlt20]
      refine ⟨min l.length 60 - (i + 1), by omega, keeps_set hok (hx5.keepsAll hk04 hok hp hL) (by omega), by simp; omega, by simp; omega, by simp; omega, ok_set' hok5 (by omega), i + 1, now.set (m % 20) ((i : Int) + 1), rfl, by omega, by simp [hnow], all_set hall _ _ (by omega), ?_, by simp, by simp [t0], by simp [t1], by simp [t5], by simp [t7], by simp⟩
      rw [q2]
      exact DS.other hd5 hA5 (by decide) (by decide) (by decide) (fun x o hx ho => by simp [hx]; exact ho)
  · by_cases hc : i < l.length
    · have h1 : i < l.length := by omega
      obtain ⟨b, o, rfl, _⟩ := hload i h1
      obtain rfl : i = 60 := by omega
      have h1' : (60 : Int) < (l.length : Int) := by omega
      simp (disch := first | omega | (simp; done) | assumption) [wr64, wrU8, wrU64, Nat.add_assoc, -getElem?_pos, List.getElem?_cons_zero, List.getElem?_cons_succ, t0, t1, t5, t7, t8, h1, h1']
      refine CallW.ofk (Power hd3) ?_
      rintro v4 H4 ⟨rfl, hn4, hx4, hd4⟩ hok4
      try simp only [newO_none] at hx4 hn4
      have hk4 := hx4.keepsAll hk3 hok hp hL
      have hA4 := hx4 _ _ (by omega) (by omega) hA3
      simp (disch := first | omega | (simp; done) | assumption) [wr64, wrU8, wrU64, Nat.add_assoc, -getElem?_pos, List.getElem?_cons_zero, List.getElem?_cons_succ, t0, t1, t5, t7, t8]
      refine iwp_loop (C2 p L H2.next now H) 20 ⟨hk4, hok4, 0, _, rfl, by omega, hd4, hA4, by simp [t5], by simp [t7], by simp⟩ ?_
      rintro k tm' H5 ⟨hk5, hok5, j, w, rfl, hj, hd5, hA5, s5, s7, s11⟩
      by_cases hj20 : j < 20
      · have hj' : (j : Int) < 20 := by omega
        simp (disch := first | omega | (simp; done) | assumption) [wr64, wrU8, wrU64, Nat.add_assoc, -getElem?_pos, List.getElem?_cons_zero, List.getElem?_cons_succ, s5, s7, s11, hj']
        refine CallW.ofk (Read_ok (i := j) hd5 (by simp [hnow]; omega) rfl) ?_
        rintro v6 H6 ⟨r6, rfl, hk6, hn6, q6, hq6, hq6n, hr6⟩ hok6
        try simp only [newO_none] at hk6 hn6 hq6
        have hk06 : H.keepsAll H6 := fun x o hx => hk6 x o (hk5 x o hx)
        replace hr6 : Row H6 r6 q6 (isB now[j]) := by simpa [bytes_slot] using hr6
        have hb6 := b2s_row hr6
        have hA6 := hk6 _ _ hA5
        have hcell : (now.map (AV.int .i64))[j]? = some (.int .i64 now[j]) := by simp [hnow, hj20]
        have hA5l : (now.map (AV.int .i64)).length = 20 := by simp [hnow]
        simp (disch := first | omega | (simp; done) | assumption) [wr64, wrU8, wrU64, Nat.add_assoc, -getElem?_pos, List.getElem?_cons_zero, List.getElem?_cons_succ, s5, s7, s11, hb6, hA6, hcell, hA5l, hj20, hj']
        refine CallW.ofk (Is_ (hall _ (List.getElem_mem _)).1 (Int.le_trans (hall _ (List.getElem_mem _)).2 (by omega)) _) ?_
        rintro v7 H7 ⟨hk7, hn7, q7, hq7, hq7n, hr7⟩ hok7
        try simp only [newO_none] at hk7 hn7 hq7
        have hk07 : H.keepsAll H7 := fun x o hx => hk7 x o (hk06 x o hx)
        have hk57 : H5.keepsAll H7 := fun x o hx => hk7 x o (hk6 x o hx)
        have hb7 := b2s_row hr7
        have hb67 := b2s_row (hr6.keeps hk7)
        simp (disch := first | omega | (simp; done) | assumption) [wr64, wrU8, wrU64, Nat.add_assoc, -getElem?_pos, List.getElem?_cons_zero, List.getElem?_cons_succ, s5, s7, s11, hb7, hb67]
        exact ⟨20 - (j + 1), by omega, hk07, hok7, j + 1, w, rfl, by omega, hd5.keeps hk57, hk57 _ _ hA5, by simp [s5], by simp [s7], by simp⟩
      · obtain rfl : j = 20 := by omega
        simp (disch := first | omega | (simp; done) | assumption) [wr64, wrU8, wrU64, Nat.add_assoc, -getElem?_pos, List.getElem?_cons_zero, List.getElem?_cons_succ, s5, s7, s11]
        refine CallW.val (Awake (loadC_keeps hk5 hE)) ?_
        simp (disch := first | omega | (simp; done) | assumption) [wr64, wrU8, wrU64, Nat.add_assoc, -getElem?_pos, List.getElem?_cons_zero, List.getElem?_cons_succ, s5, s7, s11]
        exact hk5
    · have h1 : ¬ i < l.length := by omega
      have hv : (v = .snil ∧ l = []) ∨ (v = .sempty ∧ l = []) ∨ ∃ b o, v = .slice b o l.length 1 := by
        rcases hl with ⟨h1, rfl | rfl⟩ | ⟨b, o, rfl, _, _⟩
        · exact .inl ⟨rfl, by simpa using h1⟩
        · exact .inr (.inl ⟨rfl, by simpa using h1⟩)
        · exact .inr (.inr ⟨b, o, by simp⟩)
      rcases hv with ⟨rfl, rfl⟩ | ⟨rfl, rfl⟩ | ⟨b, o, rfl⟩
      · have hi0 : i ≤ min 0 60 := by simpa using hi
        obtain rfl : i = 0 := by omega
        simp (disch := first | omega | (simp; done) | assumption) [wr64, wrU8, wrU64, Nat.add_assoc, -getElem?_pos, List.getElem?_cons_zero, List.getElem?_cons_succ, t0, t1, t5, t7, t8]
        refine CallW.ofk (Power hd3) ?_
        rintro v4 H4 ⟨rfl, hn4, hx4, hd4⟩ hok4
        try simp only [newO_none] at hx4 hn4
        have hk4 := hx4.keepsAll hk3 hok hp hL
        have hA4 := hx4 _ _ (by omega) (by omega) hA3
        simp (disch := first | omega | (simp; done) | assumption) [wr64, wrU8, wrU64, Nat.add_assoc, -getElem?_pos, List.getElem?_cons_zero, List.getElem?_cons_succ, t0, t1, t5, t7, t8]
        refine iwp_loop (C2 p L H2.next now H) 20 ⟨hk4, hok4, 0, _, rfl, by omega, hd4, hA4, by simp [t5], by simp [t7], by simp⟩ ?_
        rintro k tm' H5 ⟨hk5, hok5, j, w, rfl, hj, hd5, hA5, s5, s7, s11⟩
        by_cases hj20 : j < 20
        · have hj' : (j : Int) < 20 := by omega
          simp (disch := first | omega | (simp; done) | assumption) [wr64, wrU8, wrU64, Nat.add_assoc, -getElem?_pos, List.getElem?_cons_zero, List.getElem?_cons_succ, s5, s7, s11, hj']
          refine CallW.ofk (Read_ok (i := j) hd5 (by simp [hnow]; omega) rfl) ?_
          rintro v6 H6 ⟨r6, rfl, hk6, hn6, q6, hq6, hq6n, hr6⟩ hok6
          try simp only [newO_none] at hk6 hn6 hq6
          have hk06 : H.keepsAll H6 := fun x o hx => hk6 x o (hk5 x o hx)
          replace hr6 : Row H6 r6 q6 (isB now[j]) := by simpa [bytes_slot] using hr6
          have hb6 := b2s_row hr6
          have hA6 := hk6 _ _ hA5
          have hcell : (now.map (AV.int .i64))[j]? = some (.int .i64 now[j]) := by simp [hnow, hj20]
          have hA5l : (now.map (AV.int .i64)).length = 20 := by simp [hnow]
          simp (disch := first | omega | (simp; done) | assumption) [wr64, wrU8, wrU64, Nat.add_assoc, -getElem?_pos, List.getElem?_cons_zero, List.getElem?_cons_succ, s5, s7, s11, hb6, hA6, hcell, hA5l, hj20, hj']
          refine CallW.ofk (Is_ (hall _ (List.getElem_mem _)).1 (Int.le_trans (hall _ (List.getElem_mem _)).2 (by omega)) _) ?_
          rintro v7 H7 ⟨hk7, hn7, q7, hq7, hq7n, hr7⟩ hok7
          try simp only [newO_none] at hk7 hn7 hq7
          have hk07 : H.keepsAll H7 := fun x o hx => hk7 x o (hk06 x o hx)
          have hk57 : H5.keepsAll H7 := fun x o hx => hk7 x o (hk6 x o hx)
          have hb7 := b2s_row hr7
          have hb67 := b2s_row (hr6.keeps hk7)
          simp (disch := first | omega | (simp; done) | assumption) [wr64, wrU8, wrU64, Nat.add_assoc, -getElem?_pos, List.getElem?_cons_zero, List.getElem?_cons_succ, s5, s7, s11, hb7, hb67]
          exact ⟨20 - (j + 1), by omega, hk07, hok7, j + 1, w, rfl, by omega, hd5.keeps hk57, hk57 _ _ hA5, by simp [s5], by simp [s7], by simp⟩
        · obtain rfl : j = 20 := by omega
          simp (disch := first | omega | (simp; done) | assumption) [wr64, wrU8, wrU64, Nat.add_assoc, -getElem?_pos, List.getElem?_cons_zero, List.getElem?_cons_succ, s5, s7, s11]
          refine CallW.val (Awake (loadC_keeps hk5 hE)) ?_
          simp (disch := first | omega | (simp; done) | assumption) [wr64, wrU8, wrU64, Nat.add_assoc, -getElem?_pos, List.getElem?_cons_zero, List.getElem?_cons_succ, s5, s7, s11]
          exact hk5
      · have hi0 : i ≤ min 0 60 := by simpa using hi
        obtain rfl : i = 0 := by omega
        simp (disch := first | omega | (simp; done) | assumption) [wr64, wrU8, wrU64, Nat.add_assoc, -getElem?_pos, List.getElem?_cons_zero, List.getElem?_cons_succ, t0, t1, t5, t7, t8]
        refine CallW.ofk (Power hd3) ?_
        rintro v4 H4 ⟨rfl, hn4, hx4, hd4⟩ hok4
        try simp only [newO_none] at hx4 hn4
        have hk4 := hx4.keepsAll hk3 hok hp hL
        have hA4 := hx4 _ _ (by omega) (by omega) hA3
        simp (disch := first | omega | (simp; done) | assumption) [wr64, wrU8, wrU64, Nat.add_assoc, -getElem?_pos, List.getElem?_cons_zero, List.getElem?_cons_succ, t0, t1, t5, t7, t8]
        refine iwp_loop (C2 p L H2.next now H) 20 ⟨hk4, hok4, 0, _, rfl, by omega, hd4, hA4, by simp [t5], by simp [t7], by simp⟩ ?_
        rintro k tm' H5 ⟨hk5, hok5, j, w, rfl, hj, hd5, hA5, s5, s7, s11⟩
        by_cases hj20 : j < 20
        · have hj' : (j : Int) < 20 := by omega
          simp (disch := first | omega | (simp; done) | assumption) [wr64, wrU8, wrU64, Nat.add_assoc, -getElem?_pos, List.getElem?_cons_zero, List.getElem?_cons_succ, s5, s7, s11, hj']
          refine CallW.ofk (Read_ok (i := j) hd5 (by simp [hnow]; omega) rfl) ?_
          rintro v6 H6 ⟨r6, rfl, hk6, hn6, q6, hq6, hq6n, hr6⟩ hok6
          try simp only [newO_none] at hk6 hn6 hq6
          have hk06 : H.keepsAll H6 := fun x o hx => hk6 x o (hk5 x o hx)
          replace hr6 : Row H6 r6 q6 (isB now[j]) := by simpa [bytes_slot] using hr6
          have hb6 := b2s_row hr6
          have hA6 := hk6 _ _ hA5
          have hcell : (now.map (AV.int .i64))[j]? = some (.int .i64 now[j]) := by simp [hnow, hj20]
          have hA5l : (now.map (AV.int .i64)).length = 20 := by simp [hnow]
          simp (disch := first | omega | (simp; done) | assumption) [wr64, wrU8, wrU64, Nat.add_assoc, -getElem?_pos, List.getElem?_cons_zero, List.getElem?_cons_succ, s5, s7, s11, hb6, hA6, hcell, hA5l, hj20, hj']
          refine CallW.ofk (Is_ (hall _ (List.getElem_mem _)).1 (Int.le_trans (hall _ (List.getElem_mem _)).2 (by omega)) _) ?_
          rintro v7 H7 ⟨hk7, hn7, q7, hq7, hq7n, hr7⟩ hok7
          try simp only [newO_none] at hk7 hn7 hq7
          have hk07 : H.keepsAll H7 := fun x o hx => hk7 x o (hk06 x o hx)
          have hk57 : H5.keepsAll H7 := fun x o hx => hk7 x o (hk6 x o hx)
          have hb7 := b2s_row hr7
          have hb67 := b2s_row (hr6.keeps hk7)
          simp (disch := first | omega | (simp; done) | assumption) [wr64, wrU8, wrU64, Nat.add_assoc, -getElem?_pos, List.getElem?_cons_zero, List.getElem?_cons_succ, s5, s7, s11, hb7, hb67]
          exact ⟨20 - (j + 1), by omega, hk07, hok7, j + 1, w, rfl, by omega, hd5.keeps hk57, hk57 _ _ hA5, by simp [s5], by simp [s7], by simp⟩
        · obtain rfl : j = 20 := by omega
          simp (disch := first | omega | (simp; done) | assumption) [wr64, wrU8, wrU64, Nat.add_assoc, -getElem?_pos, List.getElem?_cons_zero, List.getElem?_cons_succ, s5, s7, s11]
          refine CallW.val (Awake (loadC_keeps hk5 hE)) ?_
          simp (disch := first | omega | (simp; done) | assumption) [wr64, wrU8, wrU64, Nat.add_assoc, -getElem?_pos, List.getElem?_cons_zero, List.getElem?_cons_succ, s5, s7, s11]
          exact hk5
      · simp (disch := first | omega | (simp; done) | assumption) [wr64, wrU8, wrU64, Nat.add_assoc, -getElem?_pos, List.getElem?_cons_zero, List.getElem?_cons_succ, t0, t1, t5, t7, t8, h1]
        refine CallW.ofk (Power hd3) ?_
        rintro v4 H4 ⟨rfl, hn4, hx4, hd4⟩ hok4
        try simp only [newO_none] at hx4 hn4
        have hk4 := hx4.keepsAll hk3 hok hp hL
        have hA4 := hx4 _ _ (by omega) (by omega) hA3
        simp (disch := first | omega | (simp; done) | assumption) [wr64, wrU8, wrU64, Nat.add_assoc, -getElem?_pos, List.getElem?_cons_zero, List.getElem?_cons_succ, t0, t1, t5, t7, t8]
        refine iwp_loop (C2 p L H2.next now H) 20 ⟨hk4, hok4, 0, _, rfl, by omega, hd4, hA4, by simp [t5], by simp [t7], by simp⟩ ?_
        rintro k tm' H5 ⟨hk5, hok5, j, w, rfl, hj, hd5, hA5, s5, s7, s11⟩
        by_cases hj20 : j < 20
        · have hj' : (j : Int) < 20 := by omega
          simp (disch := first | omega | (simp; done) | assumption) [wr64, wrU8, wrU64, Nat.add_assoc, -getElem?_pos, List.getElem?_cons_zero, List.getElem?_cons_succ, s5, s7, s11, hj']
          refine CallW.ofk (Read_ok (i := j) hd5 (by simp [hnow]; omega) rfl) ?_
          rintro v6 H6 ⟨r6, rfl, hk6, hn6, q6, hq6, hq6n, hr6⟩ hok6
          try simp only [newO_none] at hk6 hn6 hq6
          have hk06 : H.keepsAll H6 := fun x o hx => hk6 x o (hk5 x o hx)
          replace hr6 : Row H6 r6 q6 (isB now[j]) := by simpa [bytes_slot] using hr6
          have hb6 := b2s_row hr6
          have hA6 := hk6 _ _ hA5
          have hcell : (now.map (AV.int .i64))[j]? = some (.int .i64 now[j]) := by simp [hnow, hj20]
          have hA5l : (now.map (AV.int .i64)).length = 20 := by simp [hnow]
          simp (disch := first | omega | (simp; done) | assumption) [wr64, wrU8, wrU64, Nat.add_assoc, -getElem?_pos, List.getElem?_cons_zero, List.getElem?_cons_succ, s5, s7, s11, hb6, hA6, hcell, hA5l, hj20, hj']
          refine CallW.ofk (Is_ (hall _ (List.getElem_mem _)).1 (Int.le_trans (hall _ (List.getElem_mem _)).2 (by omega)) _) ?_
          rintro v7 H7 ⟨hk7, hn7, q7, hq7, hq7n, hr7⟩ hok7
          try simp only [newO_none] at hk7 hn7 hq7
          have hk07 : H.keepsAll H7 := fun x o hx => hk7 x o (hk06 x o hx)
          have hk57 : H5.keepsAll H7 := fun x o hx => hk7 x o (hk6 x o hx)
          have hb7 := b2s_row hr7
          have hb67 := b2s_row (hr6.keeps hk7)
          simp (disch := first | omega | (simp; done) | assumption) [wr64, wrU8, wrU64, Nat.add_assoc, -getElem?_pos, List.getElem?_cons_zero, List.getElem?_cons_succ, s5, s7, s11, hb7, hb67]
          exact ⟨20 - (j + 1), by omega, hk07, hok7, j + 1, w, rfl, by omega, hd5.keeps hk57, hk57 _ _ hA5, by simp [s5], by simp [s7], by simp⟩
        · obtain rfl : j = 20 := by omega
          simp (disch := first | omega | (simp; done) | assumption) [wr64, wrU8, wrU64, Nat.add_assoc, -getElem?_pos, List.getElem?_cons_zero, List.getElem?_cons_succ, s5, s7, s11]
          refine CallW.val (Awake (loadC_keeps hk5 hE)) ?_
          simp (disch := first | omega | (simp; done) | assumption) [wr64, wrU8, wrU64, Nat.add_assoc, -getElem?_pos, List.getElem?_cons_zero, List.getElem?_cons_succ, s5, s7, s11]
          exact hk5
theorem DiskCuts.walk (a0 : Option Addr) (l0 c0 : Nat) (z0 : List Int) (a1 : Int) (W : World) (hsh : W.ShapedOpen Tryd.prog) (hG : DLaid.G W) (h0 : Abs.IsRow .i64 W a0 l0 c0 z0) (_ : (Lit.int .i64 a1).wf = true) :
    Calls Tryd.prog 5 #[.slice a0 l0 c0, .int .i64 a1] W fun e W' => e = .returned (.bool true) ∧ Below W.heap.size W W' := by
  obtain ⟨v, h1, h2⟩ := SL.ints (DLaid.tabs_ok hsh hG) h0
  exact DLaid.walk hsh hG (Law v _ a1 _ h1 (DLaid.H1_err W)) (.cons h2 (.cons (.int ..) .nil))
end Go.Proofs.YteaecdakffjneaaDoor.DCuts

/- DiskCopies, worked out. -/
import Derived.Test.YteaecdakffjneaaDoorDFn
import Derived.Test.YteaecdakffjneaaDoorDLaid
import Derived.Test.YteaecdakffjneaaDoorDCuts
set_option linter.unusedVariables false
set_option linter.unusedSimpArgs false
set_option maxRecDepth 10000
set_option maxHeartbeats 4000000
namespace Go.Proofs.YteaecdakffjneaaDoor.DCopies
open Go Go.RowKit Go.Proofs.YteaecdakffjneaaDoor Go.Proofs.YteaecdakffjneaaDoor.Abs Go.Proofs.YteaecdakffjneaaDoor.Ic Go.Proofs.YteaecdakffjneaaDoor.EAs Go.Proofs.YteaecdakffjneaaDoor.EErr Go.Proofs.YteaecdakffjneaaDoor.DFn Go.Proofs.YteaecdakffjneaaDoor.DCuts
def CloneL (cs : List AV) (H : AH) (v : AV) (H' : AH) : Prop := H.keepsAll H' ∧ H.next ≤ H'.next ∧ ∃ q, H.next ≤ q ∧ q < H'.next ∧ v = .slice q 0 cs.length 1 ∧ H'.at_ q = some (.cells false tBS cs)
theorem CloneBB {H : AH} {L : Nat} {cs : List AV} (hL : H.at_ L = some (.cells false tBS cs)) (hone : ∀ x ∈ cs, AV.one x = true) (hn : 0 < cs.length) (hm : cs.length ≤ 2048) : ACall Tryd.prog 28 [.slice L 0 cs.length 1] H (CloneL cs H) := by
  refine acall_ok (bodyP_of fits28) fun hok => acall_of fits28 (by simp) ?_
  have hqn := hok _ _ hL
  have hq1 : ¬ (L = H.next) := by omega
  have hn0 : ¬ (cs.length = 0) := by omega
  simp (disch := first | omega | (simp; done) | assumption) [wr64, wrU8, wrU64, Nat.add_assoc, -getElem?_pos, List.getElem?_cons_zero, List.getElem?_cons_succ, ic28, rs28]
  have happ : appendK (H.new (.cells false tBS [])) false tBS 1 24 (.slice H.next 0 0 1) (.slice L 0 cs.length 1) = some (.slice (H.next + 1) 0 cs.length 1, ((H.new (.cells false tBS [])).set H.next none).new (.cells false tBS cs)) := by
    simp [appendK, appendA, isStrV, srcCells, hL, hq1, hn0]
    exact ⟨hone, by omega, by omega⟩
  refine Try.intro happ ?_
  simp (disch := first | omega | (simp; done) | assumption) [wr64, wrU8, wrU64, Nat.add_assoc, -getElem?_pos, List.getElem?_cons_zero, List.getElem?_cons_succ, ]
  exact ⟨keeps_new hok (keeps_set hok (keeps_new hok (AH.keepsAll_refl _) (Nat.le_refl _)) (Nat.le_refl _)) (by simp), by simp; omega, H.next + 1, by omega, by simp, rfl, by simp⟩
def CopyP (s : DK) (H : AH) (v : AV) (H' : AH) : Prop := H.keepsAll H' ∧ H.next ≤ H'.next ∧ ∃ p L, v = .ptr p 0 ∧ H.next ≤ p ∧ H.next ≤ L ∧ p < H'.next ∧ L < H'.next ∧ DS H' p L s
theorem Copy {H : AH} {p L : Nat} {s : DK} (h : DS H p L s) (hn : 0 < s.ct.length) (hm : s.ct.length ≤ 2048) : ACall Tryd.prog 19 [.ptr p 0] H (CopyP s H) := by
  obtain ⟨hpL, hp, cs, hL, hcl, hsl⟩ := h
  refine acall_ok (bodyP_of fits19) fun hok => acall_of fits19 (by simp) ?_
  have hpn := hok _ _ hp
  have hLn := hok _ _ hL
  have e1 : ¬ (p = H.next) := by omega
  have e2 : ¬ (L = H.next) := by omega
  have hone : ∀ x ∈ cs, AV.one x = true := fun x hx => by
    obtain ⟨i, hi, rfl⟩ := List.getElem_of_mem hx
    obtain ⟨av, a1, a2⟩ := hsl i (by omega)
    rw [List.getElem?_eq_getElem hi] at a1
    cases a1
    cases hc : s.ct[i]'(by omega) with
    | none => rw [hc] at a2; rw [show cs[i] = .snil from a2]; rfl
    | some bs => rw [hc] at a2; obtain ⟨_, q, h5, _⟩ := a2; rw [h5]; rfl
  simp (disch := first | omega | (simp; done) | assumption) [wr64, wrU8, wrU64, Nat.add_assoc, -getElem?_pos, List.getElem?_cons_zero, List.getElem?_cons_succ, ic19, rs19, hp, e1, e2]
  have hL1 : ((H.new (.cells false tD [.snil, .int .i64 0, .int .i64 0, .bool false])).set H.next (some (.cells false tD [.slice L 0 s.ct.length 1, .int .i64 s.w, .int .i64 s.f, .bool s.dead]))).at_ L = some (.cells false tBS cs) := by simp [e2, hL]
  have hk1 : H.keepsAll ((H.new (.cells false tD [.snil, .int .i64 0, .int .i64 0, .bool false])).set H.next (some (.cells false tD [.slice L 0 s.ct.length 1, .int .i64 s.w, .int .i64 s.f, .bool s.dead]))) := keeps_set hok (keeps_new hok (AH.keepsAll_refl _) (Nat.le_refl _)) (Nat.le_refl _)
  have hp1 : ((H.new (.cells false tD [.snil, .int .i64 0, .int .i64 0, .bool false])).set H.next (some (.cells false tD [.slice L 0 s.ct.length 1, .int .i64 s.w, .int .i64 s.f, .bool s.dead]))).at_ H.next = some (.cells false tD [.slice L 0 s.ct.length 1, .int .i64 s.w, .int .i64 s.f, .bool s.dead]) := by simp
  have hn1 : ((H.new (.cells false tD [.snil, .int .i64 0, .int .i64 0, .bool false])).set H.next (some (.cells false tD [.slice L 0 s.ct.length 1, .int .i64 s.w, .int .i64 s.f, .bool s.dead]))).next = H.next + 1 := by simp
  generalize ((H.new (.cells false tD [.snil, .int .i64 0, .int .i64 0, .bool false])).set H.next (some (.cells false tD [.slice L 0 s.ct.length 1, .int .i64 s.w, .int .i64 s.f, .bool s.dead]))) = H1 at *
  refine CallW.ofk (by rw [← hcl]; exact CloneBB hL1 hone (by omega) (by omega)) ?_
  rintro v H2 ⟨hk2, hn2, q, hq, hqn, rfl, hqat⟩ hok2
  try simp only [newO_none] at hk2 hn2 hq
  have hp2 := hk2 _ _ hp1
  have hk02 : H.keepsAll H2 := fun x o hx => hk2 x o (hk1 x o hx)
  simp (disch := first | omega | (simp; done) | assumption) [wr64, wrU8, wrU64, Nat.add_assoc, -getElem?_pos, List.getElem?_cons_zero, List.getElem?_cons_succ, hp2]
  refine ⟨keeps_set hok hk02 (Nat.le_refl _), by simp; omega, H.next, q, rfl, Nat.le_refl _, by omega, by simp; omega, by simpa using hqn, by omega, by simp [hcl], cs, ?_, hcl, fun i hi => ?_⟩
  · have e3 : ¬ (q = H.next) := by omega
    simp [e3]
    exact hqat
  · obtain ⟨av, a1, a2⟩ := hsl i hi
    refine ⟨av, a1, ?_⟩
    cases hc : s.ct[i] with
    | none => rw [hc] at a2; exact a2
    | some bs =>
      rw [hc] at a2
      obtain ⟨b1, q2, rfl, b3, b4, b5⟩ := a2
      have b6 := hok _ _ b3
      refine ⟨b1, q2, rfl, ?_, by omega, by omega⟩
      have e4 : ¬ (q2 = H.next) := by omega
      simp [e4]
      exact hk02 _ _ b3
/-- The first m blocks filled. -/
def D (m : Nat) : List (Option (List UInt8)) := (List.range 20).map fun j => if j < m then some (fill ((j : Nat) : Int)) else none
theorem D_len (m : Nat) : (D m).length = 20 := by simp [D]
theorem D_zero : List.replicate 20 none = D 0 := by
  unfold D
  simp [List.map_const']
theorem D_set (m : Nat) (hm : m < 20) : (D m).set m (some (fill (m : Int))) = D (m + 1) := by
  unfold D
  apply List.ext_getElem (by simp)
  intro j h1 h2
  rw [List.getElem_set]
  simp only [List.getElem_map, List.getElem_range]
  by_cases e : m = j
  · subst e; rw [if_pos rfl, if_pos (by omega)]
  · rw [if_neg e]
    by_cases h : j < m
    · rw [if_pos h, if_pos (by omega)]
    · rw [if_neg h, if_neg (by omega)]
theorem D_get (m j : Nat) (hj : j < 20) (h : j < (D m).length) : (D m)[j] = if j < m then some (fill (j : Int)) else none := by
  simp [D]
def P1 (f b c p L : Nat) (H : AH) (k : Nat) (tm : Tms) (H' : AH) : Prop :=
  H.keepsAll H' ∧ p < H'.next ∧ L < H'.next ∧ H'.ok ∧ ∃ (i : Nat), k = b - i ∧ i ≤ b ∧ DS H' p L ⟨D (min i f), ((min i f : Nat) : Int), (f : Int) - ((min i f : Nat) : Int), decide (f ≤ i)⟩ ∧
    tm 0 = .int .i64 (f : Int) ∧ tm 1 = .int .i64 (b : Int) ∧ tm 2 = .int .i64 (c : Int) ∧ tm 7 = .ptr p 0 ∧ tm 9 = .int .i64 (i : Int)
def P2 (f b c p L p2 L2 : Nat) (H3 : AH) (k : Nat) (tm : Tms) (H' : AH) : Prop :=
  H3.keepsAll H' ∧ p2 < H'.next ∧ L2 < H'.next ∧ H'.ok ∧ ∃ (i : Nat) (ct : List (Option (List UInt8))), k = c - i ∧ i ≤ c ∧ ct.length = 20 ∧ DS H' p2 L2 ⟨ct, ((min (b + i) f : Nat) : Int), (f : Int) - ((min (b + i) f : Nat) : Int), decide (f ≤ b + i)⟩ ∧
    tm 0 = .int .i64 (f : Int) ∧ tm 1 = .int .i64 (b : Int) ∧ tm 2 = .int .i64 (c : Int) ∧ tm 7 = .ptr p 0 ∧ tm 10 = .ptr p2 0 ∧ tm 11 = .int .i64 (i : Int)
def P3 (f b p L : Nat) (H : AH) (k : Nat) (tm : Tms) (H' : AH) : Prop :=
  H.keepsAll H' ∧ H'.ok ∧ ∃ (i : Nat) (w : Int), k = b - i ∧ i ≤ b ∧ DS H' p L ⟨D (min b f), w, -1, false⟩ ∧ tm 0 = .int .i64 (f : Int) ∧ tm 1 = .int .i64 (b : Int) ∧ tm 7 = .ptr p 0 ∧ tm 13 = .int .i64 (i : Int)
theorem Law (a0 a1 a2 : Int) (H : AH) (hE : loadC H 0 0 none = some (rt tErr)) : ACall Tryd.prog 6 [.int .i64 a0, .int .i64 a1, .int .i64 a2] H (fun v H' => v = .bool true ∧ H' = H) := by
  refine acall_enter fits6 (by simp) (by simp) fun hok => ?_
  obtain ⟨f, hf, hf9⟩ : ∃ x : Nat, bits .and .i64 a0 31 = (x : Int) ∧ x < 32 := ⟨(a0 % 32).toNat, by have := St.mask_i64 5 (by omega) a0; simp at this; rw [this]; omega, by omega⟩
  obtain ⟨b, hb, hb9⟩ : ∃ x : Nat, bits .and .i64 a1 15 = (x : Int) ∧ x < 16 := ⟨(a1 % 16).toNat, by have := St.mask_i64 4 (by omega) a1; simp at this; rw [this]; omega, by omega⟩
  obtain ⟨c, hc, hc9⟩ : ∃ x : Nat, bits .and .i64 a2 31 = (x : Int) ∧ x < 32 := ⟨(a2 % 32).toNat, by have := St.mask_i64 5 (by omega) a2; simp at this; rw [this]; omega, by omega⟩
  simp (disch := first | omega | (simp; done) | assumption) [wr64, wrU8, wrU64, Nat.add_assoc, -getElem?_pos, List.getElem?_cons_zero, List.getElem?_cons_succ, ic6, rs6]
  refine CallW.ofk (show ACall Tryd.prog _ [.int .i64 20] _ _ from New (n := 20) (by omega) (by omega) _) ?_
  rintro v1 H1 ⟨hk1, hn1, p, L, rfl, hp, hL, hp1, hL1, hd1⟩ hok1
  try simp only [newO_none] at hk1 hn1 hp hL
  simp (disch := first | omega | (simp; done) | assumption) [wr64, wrU8, wrU64, Nat.add_assoc, -getElem?_pos, List.getElem?_cons_zero, List.getElem?_cons_succ, hf, hb, hc]
  refine CallW.ofk (Fuse (f : Int) hd1) ?_
  rintro v2 H2 ⟨rfl, hn2, hx2, hd2⟩ hok2
  try simp only [newO_none] at hx2 hn2
  have hk2 := hx2.keepsAll hk1 hok hp hL
  have e1 : max (f : Int) (-1) = (f : Int) := by omega
  have e2 : (decide ((f : Int) = 0)) = decide (f ≤ 0) := by rw [decide_eq_decide]; omega
  simp only [e1, Bool.false_or, e2, D_zero] at hd2
  simp (disch := first | omega | (simp; done) | assumption) [wr64, wrU8, wrU64, Nat.add_assoc, -getElem?_pos, List.getElem?_cons_zero, List.getElem?_cons_succ, hf, hb, hc]
  refine iwp_loop (P1 f b c p L H) b ⟨hk2, by omega, by omega, hok2, 0, rfl, by omega, by simpa using hd2, by simp, by simp, by simp, by simp, by simp⟩ ?_
  rintro k tm H3 ⟨hk3, hp3, hL3, hok3, i, rfl, hi, hd3, t0, t1, t2, t7, t9⟩
  by_cases hlt : i < b
  · simp (disch := first | omega | (simp; done) | assumption) [wr64, wrU8, wrU64, Nat.add_assoc, -getElem?_pos, List.getElem?_cons_zero, List.getElem?_cons_succ, t0, t1, t2, t7, t9, hlt]
    refine CallW.ofk (Fill (i : Int) _) ?_
    rintro v4 H4 ⟨hk4, hn4, q4, hq4, hq4n, hr4⟩ hok4
    try simp only [newO_none] at hk4 hn4 hq4
    have hd4 := hd3.keeps hk4
    have hk04 : H.keepsAll H4 := fun x o hx => hk4 x o (hk3 x o hx)
    simp (disch := first | omega | (simp; done) | assumption) [wr64, wrU8, wrU64, Nat.add_assoc, -getElem?_pos, List.getElem?_cons_zero, List.getElem?_cons_succ, t0, t1, t2, t7, t9]
    by_cases hdead : f ≤ i
    · refine CallW.ofk (Write_dead (i := i) hd4 hr4 (by rw [D_len]; omega) (by omega) (by simpa using hdead)) ?_
      rintro v5 H5 ⟨hk5, hn5, f5, _, _, rfl, _⟩ hok5
      try simp only [newO_none] at hk5 hn5
      simp (disch := first | omega | (simp; done) | assumption) [wr64, wrU8, wrU64, Nat.add_assoc, -getElem?_pos, List.getElem?_cons_zero, List.getElem?_cons_succ, t0, t1, t2, t7, t9]
      refine ⟨b - (i + 1), by omega, fun x o hx => hk5 x o (hk04 x o hx), by omega, by omega, hok5, i + 1, rfl, by omega, ?_, by simp [t0], by simp [t1], by simp [t2], by simp [t7], by simp⟩
      have e1 : min (i + 1) f = min i f := by omega
      have e2 : decide (f ≤ i + 1) = decide (f ≤ i) := by simp; omega
      rw [e1, e2]
      exact hd4.keeps hk5
    · have hdf : decide (f ≤ i) = false := by simpa using hdead
      have hmin : min i f = i := by omega
      refine CallW.ofk (Write_ok (i := i) hd4 hr4 (by omega) (by omega) (by rw [D_len]; omega) hdf (by simp; omega) (by simp; omega)) ?_
      rintro v5 H5 ⟨rfl, hn5, hx5, hd5⟩ hok5
      try simp only [newO_none] at hx5 hn5
      simp (disch := first | omega | (simp; done) | assumption) [wr64, wrU8, wrU64, Nat.add_assoc, -getElem?_pos, List.getElem?_cons_zero, List.getElem?_cons_succ, t0, t1, t2, t7, t9]
      refine ⟨b - (i + 1), by omega, hx5.keepsAll hk04 hok hp hL, by omega, by omega, hok5, i + 1, rfl, by omega, ?_, by simp [t0], by simp [t1], by simp [t2], by simp [t7], by simp⟩
      have e1 : min (i + 1) f = i + 1 := by omega
      have e3 : (0 : Int) < (f : Int) - (i : Int) := by omega
      have e4 : decide ((f : Int) - (i : Int) - 1 = 0) = decide (f ≤ i + 1) := by rw [decide_eq_decide]; omega
      have e5 : (f : Int) - (i : Int) - 1 = (f : Int) - ((i + 1 : Nat) : Int) := by omega
      simp only [DK.write, hmin, if_pos e3, e4, D_set i (by omega)] at hd5
      rw [e1, ← e5]
      simpa using hd5
  · obtain rfl : i = b := by omega
    simp (disch := first | omega | (simp; done) | assumption) [wr64, wrU8, wrU64, Nat.add_assoc, -getElem?_pos, List.getElem?_cons_zero, List.getElem?_cons_succ, t0, t1, t2, t7, t9]
    refine CallW.ofk (Copy hd3 (by rw [D_len]; omega) (by rw [D_len]; omega)) ?_
    rintro v4 H4 ⟨hk4, hn4, p2, L2, rfl, hp2, hL2, hp24, hL24, hd4⟩ hok4
    try simp only [newO_none] at hk4 hn4 hp2 hL2
    simp (disch := first | omega | (simp; done) | assumption) [wr64, wrU8, wrU64, Nat.add_assoc, -getElem?_pos, List.getElem?_cons_zero, List.getElem?_cons_succ, t0, t1, t2, t7, t9]
    refine CallW.val (Dead hd4) ?_
    simp (disch := first | omega | (simp; done) | assumption) [wr64, wrU8, wrU64, Nat.add_assoc, -getElem?_pos, List.getElem?_cons_zero, List.getElem?_cons_succ, t0, t1, t2, t7, t9]
    refine CallW.val (Writes hd4) ?_
    have g1 : ((min i f : Nat) : Int) = min (i : Int) (f : Int) := by omega
    simp (disch := first | omega | (simp; done) | assumption) [wr64, wrU8, wrU64, Nat.add_assoc, -getElem?_pos, List.getElem?_cons_zero, List.getElem?_cons_succ, t0, t1, t2, t7, t9, g1]
    refine iwp_loop (P2 f i c p L p2 L2 H3) c ⟨hk4, by omega, by omega, hok4, 0, _, rfl, by omega, D_len _, by simpa using hd4, by simp [t0], by simp [t1], by simp [t2], by simp [t7], by simp, by simp⟩ ?_
    rintro k tm' H5 ⟨hk5, hp5, hL5, hok5, j, ct, rfl, hj, hct, hd5, s0, s1, s2, s7, s10, s11⟩
    by_cases hjc : j < c
    · have hmod : ((j : Int).tmod 20) = ((j % 20 : Nat) : Int) := rfl
      simp (disch := first | omega | (simp; done) | assumption) [wr64, wrU8, wrU64, Nat.add_assoc, -getElem?_pos, List.getElem?_cons_zero, List.getElem?_cons_succ, s0, s1, s2, s7, s10, s11, hjc, hmod]
      refine CallW.ofk (Fill (500 + (j : Int)) _) ?_
      rintro v6 H6 ⟨hk6, hn6, q6, hq6, hq6n, hr6⟩ hok6
      try simp only [newO_none] at hk6 hn6 hq6
      have hd6 := hd5.keeps hk6
      have hk06 : H3.keepsAll H6 := fun x o hx => hk6 x o (hk5 x o hx)
      simp (disch := first | omega | (simp; done) | assumption) [wr64, wrU8, wrU64, Nat.add_assoc, -getElem?_pos, List.getElem?_cons_zero, List.getElem?_cons_succ, s0, s1, s2, s7, s10, s11]
      by_cases hdead : f ≤ i + j
      · have g1 : ¬ ((i : Int) + (j : Int) < (f : Int)) := by omega
        refine CallW.ofk (Write_dead (i := j % 20) hd6 hr6 (by rw [hct]; omega) (by omega) (by simpa using hdead)) ?_
        rintro v7 H7 ⟨hk7, hn7, f7, _, _, rfl, _⟩ hok7
        try simp only [newO_none] at hk7 hn7
        simp (disch := first | omega | (simp; done) | assumption) [wr64, wrU8, wrU64, Nat.add_assoc, -getElem?_pos, List.getElem?_cons_zero, List.getElem?_cons_succ, s0, s1, s2, s7, s10, s11, g1]
        refine ⟨c - (j + 1), by omega, fun x o hx => hk7 x o (hk06 x o hx), by omega, by omega, hok7, j + 1, ct, rfl, by omega, hct, ?_, by simp [s0], by simp [s1], by simp [s2], by simp [s7], by simp [s10], by simp⟩
        have e1 : min (i + (j + 1)) f = min (i + j) f := by omega
        have e2 : decide (f ≤ i + (j + 1)) = decide (f ≤ i + j) := by rw [decide_eq_decide]; omega
        rw [e1, e2]
        exact hd6.keeps hk7
      · have g1 : (i : Int) + (j : Int) < (f : Int) := by omega
        have hdf : decide (f ≤ i + j) = false := by simpa using hdead
        have hmin : min (i + j) f = i + j := by omega
        refine CallW.ofk (Write_ok (i := j % 20) hd6 hr6 (by omega) (by omega) (by rw [hct]; omega) hdf (by simp; omega) (by simp; omega)) ?_
        rintro v7 H7 ⟨rfl, hn7, hx7, hd7⟩ hok7
        try simp only [newO_none] at hx7 hn7
        simp (disch := first | omega | (simp; done) | assumption) [wr64, wrU8, wrU64, Nat.add_assoc, -getElem?_pos, List.getElem?_cons_zero, List.getElem?_cons_succ, s0, s1, s2, s7, s10, s11, g1]
        refine ⟨c - (j + 1), by omega, hx7.keepsAll hk06 hok3 hp2 hL2, by omega, by omega, hok7, j + 1, ct.set (j % 20) (some (fill (500 + (j : Int)))), rfl, by omega, by simpa using hct, ?_, by simp [s0], by simp [s1], by simp [s2], by simp [s7], by simp [s10], by simp⟩
        have e1 : min (i + (j + 1)) f = i + j + 1 := by omega
        have e3 : (0 : Int) < (f : Int) - ((i + j : Nat) : Int) := by omega
        have e4 : decide ((f : Int) - ((i + j : Nat) : Int) - 1 = 0) = decide (f ≤ i + (j + 1)) := by rw [decide_eq_decide]; omega
        have e5 : (f : Int) - ((i + j : Nat) : Int) - 1 = (f : Int) - ((i + j + 1 : Nat) : Int) := by omega
        have e6 : ((i + j : Nat) : Int) + 1 = ((i + j + 1 : Nat) : Int) := by omega
        simp only [DK.write, hmin, if_pos e3, e4] at hd7
        rw [e5, e6] at hd7
        rw [e1]
        exact hd7
    · obtain rfl : j = c := by omega
      have hd53 := hd3.keeps hk5
      simp (disch := first | omega | (simp; done) | assumption) [wr64, wrU8, wrU64, Nat.add_assoc, -getElem?_pos, List.getElem?_cons_zero, List.getElem?_cons_succ, s0, s1, s2, s7, s10, s11]
      refine CallW.val (Writes hd53) ?_
      have g2 : max (f : Int) (min (i : Int) (f : Int)) = (f : Int) := by omega
      have g3 : ((min (i + j) f : Nat) : Int) = min ((i : Int) + (j : Int)) (f : Int) := by omega
      simp (disch := first | omega | (simp; done) | assumption) [wr64, wrU8, wrU64, Nat.add_assoc, -getElem?_pos, List.getElem?_cons_zero, List.getElem?_cons_succ, s0, s1, s2, s7, s10, s11, g1]
      refine CallW.val (Writes hd5) ?_
      simp (disch := first | omega | (simp; done) | assumption) [wr64, wrU8, wrU64, Nat.add_assoc, -getElem?_pos, List.getElem?_cons_zero, List.getElem?_cons_succ, s0, s1, s2, s7, s10, s11, g1, g2, g3]
      refine CallW.ofk (Power hd53) ?_
      rintro v6 H6 ⟨rfl, hn6, hx6, hd6⟩ hok6
      try simp only [newO_none] at hx6 hn6
      have hk05 : H.keepsAll H5 := fun x o hx => hk5 x o (hk3 x o hx)
      have hk6 := hx6.keepsAll hk05 hok hp hL
      simp (disch := first | omega | (simp; done) | assumption) [wr64, wrU8, wrU64, Nat.add_assoc, -getElem?_pos, List.getElem?_cons_zero, List.getElem?_cons_succ, s0, s1, s2, s7, s10, s11]
      refine iwp_loop (P3 f i p L H) i ⟨hk6, hok6, 0, _, rfl, by omega, hd6, by simp [s0], by simp [s1], by simp [s7], by simp⟩ ?_
      rintro k tm'' H7 ⟨hk7, hok7, x, w, rfl, hx9, hd7, r0, r1, r7, r13⟩
      by_cases hxi : x < i
      · simp (disch := first | omega | (simp; done) | assumption) [wr64, wrU8, wrU64, Nat.add_assoc, -getElem?_pos, List.getElem?_cons_zero, List.getElem?_cons_succ, r0, r1, r7, r13, hxi]
        refine CallW.ofk (Read_ok (i := x) hd7 (by rw [D_len]; omega) rfl) ?_
        rintro v8 H8 ⟨r8, rfl, hk8, hn8, q8, hq8, hq8n, hr8⟩ hok8
        try simp only [newO_none] at hk8 hn8 hq8
        have hk08 : H.keepsAll H8 := fun x o hx => hk8 x o (hk7 x o hx)
        simp (disch := first | omega | (simp; done) | assumption) [wr64, wrU8, wrU64, Nat.add_assoc, -getElem?_pos, List.getElem?_cons_zero, List.getElem?_cons_succ, r0, r1, r7, r13]
        refine CallW.ofk (Is_ (z := 0) (by omega) (by omega) _) ?_
        rintro v9 H9 ⟨hk9, hn9, q9, hq9, hq9n, hr9⟩ hok9
        try simp only [newO_none] at hk9 hn9 hq9
        have hk09 : H.keepsAll H9 := fun x o hx => hk9 x o (hk08 x o hx)
        have hk79 : H7.keepsAll H9 := fun x o hx => hk9 x o (hk8 x o hx)
        have hb9 := b2s_row hr9
        have hb89 := b2s_row (hr8.keeps hk9)
        by_cases hxf : x < f
        · have hrow : bytesOf ((D (min i f))[x]'(by rw [D_len]; omega)) = fill (x : Int) := by rw [D_get _ _ (by omega), if_pos (by omega)]; rfl
          rw [hrow] at hb89
          simp (disch := first | omega | (simp; done) | assumption) [wr64, wrU8, wrU64, Nat.add_assoc, -getElem?_pos, List.getElem?_cons_zero, List.getElem?_cons_succ, r0, r1, r7, r13, hb9, hxf]
          refine CallW.ofk (Fill (x : Int) _) ?_
          rintro v10 H10 ⟨hk10, hn10, q10, hq10, hq10n, hr10⟩ hok10
          try simp only [newO_none] at hk10 hn10 hq10
          have hk010 : H.keepsAll H10 := fun x o hx => hk10 x o (hk09 x o hx)
          have hb10 := b2s_row hr10
          have hb810 := b2s_row ((hr8.keeps hk9).keeps hk10)
          rw [hrow] at hb810
          simp (disch := first | omega | (simp; done) | assumption) [wr64, wrU8, wrU64, Nat.add_assoc, -getElem?_pos, List.getElem?_cons_zero, List.getElem?_cons_succ, r0, r1, r7, r13, hb10, hb810]
          exact ⟨i - (x + 1), by omega, hk010, hok10, x + 1, w, rfl, by omega, (hd7.keeps hk79).keeps hk10, by simp [r0], by simp [r1], by simp [r7], by simp⟩
        · have hrow : bytesOf ((D (min i f))[x]'(by rw [D_len]; omega)) = isB 0 := by rw [D_get _ _ (by omega), if_neg (by omega)]; rfl
          rw [hrow] at hb89
          simp (disch := first | omega | (simp; done) | assumption) [wr64, wrU8, wrU64, Nat.add_assoc, -getElem?_pos, List.getElem?_cons_zero, List.getElem?_cons_succ, r0, r1, r7, r13, hb9, hxf, hb89]
          exact ⟨i - (x + 1), by omega, hk09, hok9, x + 1, w, rfl, by omega, hd7.keeps hk79, by simp [r0], by simp [r1], by simp [r7], by simp⟩
      · obtain rfl : x = i := by omega
        simp (disch := first | omega | (simp; done) | assumption) [wr64, wrU8, wrU64, Nat.add_assoc, -getElem?_pos, List.getElem?_cons_zero, List.getElem?_cons_succ, r0, r1, r7, r13]
        refine CallW.val (Awake (loadC_keeps hk7 hE)) ?_
        simp (disch := first | omega | (simp; done) | assumption) [wr64, wrU8, wrU64, Nat.add_assoc, -getElem?_pos, List.getElem?_cons_zero, List.getElem?_cons_succ, r0, r1, r7, r13]
        exact hk7
theorem DiskCopies.walk (a0 a1 a2 : Int) (W : World) (hsh : W.ShapedOpen Tryd.prog) (hG : DLaid.G W) (_ : (Lit.int .i64 a0).wf = true) (_ : (Lit.int .i64 a1).wf = true) (_ : (Lit.int .i64 a2).wf = true) :
    Calls Tryd.prog 6 #[.int .i64 a0, .int .i64 a1, .int .i64 a2] W fun e W' => e = .returned (.bool true) ∧ Below W.heap.size W W' :=
  DLaid.walk hsh hG (Law a0 a1 a2 _ (DLaid.H1_err W)) (.cons (.int ..) (.cons (.int ..) (.cons (.int ..) .nil)))
end Go.Proofs.YteaecdakffjneaaDoor.DCopies

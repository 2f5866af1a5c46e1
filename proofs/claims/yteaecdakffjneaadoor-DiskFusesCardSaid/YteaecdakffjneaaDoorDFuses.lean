/- DiskFuses, worked out. -/
import Derived.Test.YteaecdakffjneaaDoorDFn
import Derived.Test.YteaecdakffjneaaDoorDLaid
import Derived.Test.YteaecdakffjneaaDoorSt
set_option linter.unusedVariables false
set_option linter.unusedSimpArgs false
set_option maxRecDepth 10000
set_option maxHeartbeats 4000000
namespace Go.Proofs.YteaecdakffjneaaDoor.DFuses
open Go Go.RowKit Go.Proofs.YteaecdakffjneaaDoor Go.Proofs.YteaecdakffjneaaDoor.Abs Go.Proofs.YteaecdakffjneaaDoor.Ic Go.Proofs.YteaecdakffjneaaDoor.EAs Go.Proofs.YteaecdakffjneaaDoor.EErr Go.Proofs.YteaecdakffjneaaDoor.DFn
def L1 (a n p L : Nat) (b : Int) (H : AH) (k : Nat) (tm : Tms) (H' : AH) : Prop :=
  H.keepsAll H' ∧ p < H'.next ∧ L < H'.next ∧ H'.ok ∧ ∃ (i : Nat) (ct : List (Option (List UInt8))), k = n - i ∧ i ≤ n ∧ ct.length = 20 ∧ DS H' p L ⟨ct, ((min i a : Nat) : Int), (a : Int) - ((min i a : Nat) : Int), decide (a ≤ i)⟩ ∧
    tm 0 = .int .i64 (a : Int) ∧ tm 1 = .int .i64 (n : Int) ∧ tm 2 = .int .i64 b ∧ tm 7 = .ptr p 0 ∧ tm 9 = .int .i64 (i : Int)
def L2 (p L : Nat) (H : AH) (k : Nat) (tm : Tms) (H' : AH) : Prop :=
  H.keepsAll H' ∧ p < H'.next ∧ L < H'.next ∧ H'.ok ∧ ∃ (i : Nat) (ct : List (Option (List UInt8))) (w : Int), k = 40 - i ∧ i ≤ 40 ∧ ct.length = 20 ∧ 0 ≤ w ∧ w ≤ 200 + i ∧ DS H' p L ⟨ct, w, -1, false⟩ ∧ tm 7 = .ptr p 0 ∧ tm 11 = .int .i64 (i : Int)
theorem Law (a n b : Int) (H : AH) (hE : loadC H 0 0 none = some (rt tErr)) : ACall Tryd.prog 4 [.int .i64 a, .int .i64 n, .int .i64 b] H (fun v H' => v = .bool true ∧ H' = H) := by
  refine acall_enter fits4 (by simp) (by simp) fun hok => ?_
  obtain ⟨x, hx, hx9⟩ : ∃ m : Nat, bits .and .i64 a 15 = (m : Int) ∧ m < 16 := ⟨(a % 16).toNat, by have := St.mask_i64 4 (by omega) a; simp at this; rw [this]; omega, by omega⟩
  obtain ⟨m, hm, hm9⟩ : ∃ m : Nat, bits .and .i64 n 15 = (m : Int) ∧ m < 16 := ⟨(n % 16).toNat, by have := St.mask_i64 4 (by omega) n; simp at this; rw [this]; omega, by omega⟩
  obtain ⟨c, hc, hc9⟩ : ∃ m : Nat, bits .and .i64 b 31 = (m : Int) ∧ m < 32 := ⟨(b % 32).toNat, by have := St.mask_i64 5 (by omega) b; simp at this; rw [this]; omega, by omega⟩
  obtain ⟨y, hy⟩ : ∃ y : Nat, y = x + 1 := ⟨_, rfl⟩
  have hy' : (x : Int) + 1 = (y : Int) := by omega
  simp (disch := first | omega | (simp; done) | assumption) [wr64, wrU8, wrU64, Nat.add_assoc, -getElem?_pos, List.getElem?_cons_zero, List.getElem?_cons_succ, ic4, rs4]
  refine CallW.ofk (show ACall Tryd.prog _ [.int .i64 20] _ _ from New (n := 20) (by omega) (by omega) _) ?_
  rintro v H1 ⟨hk1, hn1, p, L, rfl, hp, hL, hp1, hL1, hd1⟩ hok1
  try simp only [newO_none] at hk1 hn1 hp hL
  simp (disch := first | omega | (simp; done) | assumption) [wr64, wrU8, wrU64, Nat.add_assoc, -getElem?_pos, List.getElem?_cons_zero, List.getElem?_cons_succ, hx, hy', hm]
  refine CallW.ofk (Fuse (y : Int) hd1) ?_
  rintro v H2 ⟨rfl, hn2, hx2, hd2⟩ hok2
  try simp only [newO_none] at hx2 hn2
  have hk2 := hx2.keepsAll hk1 hok hp hL
  have hmx : max (y : Int) (-1) = (y : Int) := by omega
  have hy0 : decide ((y : Int) = 0) = false := by simp; omega
  simp only [hmx, hy0, Bool.or_false] at hd2
  simp (disch := first | omega | (simp; done) | assumption) [wr64, wrU8, wrU64, Nat.add_assoc, -getElem?_pos, List.getElem?_cons_zero, List.getElem?_cons_succ, hx, hy', hm]
  refine iwp_loop (L1 y m p L b H) m ⟨hk2, by omega, by omega, hok2, 0, List.replicate 20 none, rfl, by omega, by simp, ?_, by simp, by simp, by simp, by simp, by simp⟩ ?_
  · have e1 : decide (y ≤ 0) = false := by simp; omega
    rw [e1]
    simpa using hd2
  rintro k tm H3 ⟨hk3, hp3, hL3, hok3, i, ct, rfl, hi, hct, hd3, t0, t1, t2, t7, t9⟩
  by_cases hlt : i < m
  · simp (disch := first | omega | (simp; done) | assumption) [wr64, wrU8, wrU64, Nat.add_assoc, -getElem?_pos, List.getElem?_cons_zero, List.getElem?_cons_succ, t0, t1, t2, t7, t9, hlt]
    refine CallW.ofk (Fill (i : Int) _) ?_
    rintro v4 H4 ⟨hk4, hn4, q4, hq4, hq4n, hr4⟩ hok4
    try simp only [newO_none] at hk4 hn4 hq4
    have hd4 := hd3.keeps hk4
    have hk04 : H.keepsAll H4 := fun x o hx => hk4 x o (hk3 x o hx)
    simp (disch := first | omega | (simp; done) | assumption) [wr64, wrU8, wrU64, Nat.add_assoc, -getElem?_pos, List.getElem?_cons_zero, List.getElem?_cons_succ, t0, t1, t2, t7, t9]
    by_cases hdead : y ≤ i
    · refine CallW.ofk (show ACall Tryd.prog _ [.ptr p 0, .int .i64 0, v4] _ _ from Write_dead (i := 0) hd4 hr4 (by rw [hct]; omega) (by omega) (by simpa using hdead)) ?_
      rintro v5 H5 ⟨hk5, hn5, f5, _, _, rfl, _⟩ hok5
      try simp only [newO_none] at hk5 hn5
      simp (disch := first | omega | (simp; done) | assumption) [wr64, wrU8, wrU64, Nat.add_assoc, -getElem?_pos, List.getElem?_cons_zero, List.getElem?_cons_succ, t0, t1, t2, t7, t9]
      refine ⟨m - (i + 1), by omega, fun x o hx => hk5 x o (hk04 x o hx), by omega, by omega, hok5, i + 1, ct, rfl, by omega, hct, ?_, by simp [t0], by simp [t1], by simp [t2], by simp [t7], by simp⟩
      have e1 : min (i + 1) y = min i y := by omega
      have e2 : decide (y ≤ i + 1) = decide (y ≤ i) := by simp; omega
      rw [e1, e2]
      exact hd4.keeps hk5
    · have hdf : decide (y ≤ i) = false := by simpa using hdead
      have hmin : min i y = i := by omega
      refine CallW.ofk (show ACall Tryd.prog _ [.ptr p 0, .int .i64 0, v4] _ _ from Write_ok (i := 0) hd4 hr4 (by omega) (by omega) (by rw [hct]; omega) hdf (by simp; omega) (by simp; omega)) ?_
      rintro v5 H5 ⟨rfl, hn5, hx5, hd5⟩ hok5
      try simp only [newO_none] at hx5 hn5
      simp (disch := first | omega | (simp; done) | assumption) [wr64, wrU8, wrU64, Nat.add_assoc, -getElem?_pos, List.getElem?_cons_zero, List.getElem?_cons_succ, t0, t1, t2, t7, t9]
      refine ⟨m - (i + 1), by omega, hx5.keepsAll hk04 hok hp hL, by omega, by omega, hok5, i + 1, ct.set 0 (some (fill i)), rfl, by omega, by simpa using hct, ?_, by simp [t0], by simp [t1], by simp [t2], by simp [t7], by simp⟩
      have e1 : min (i + 1) y = i + 1 := by omega
      have e3 : (0 : Int) < (y : Int) - (i : Int) := by omega
      have e4 : decide ((y : Int) - (i : Int) - 1 = 0) = decide (y ≤ i + 1) := by
        rw [decide_eq_decide]
        omega
      have e5 : (y : Int) - (i : Int) - 1 = (y : Int) - ((i + 1 : Nat) : Int) := by omega
      simp only [DK.write, hmin, if_pos e3, e4] at hd5
      rw [e1, ← e5]
      simpa using hd5
  · obtain rfl : i = m := by omega
    simp (disch := first | omega | (simp; done) | assumption) [wr64, wrU8, wrU64, Nat.add_assoc, -getElem?_pos, List.getElem?_cons_zero, List.getElem?_cons_succ, t0, t1, t2, t7, t9, hc]
    refine CallW.ofk (Fuse (c : Int) hd3) ?_
    rintro v4 H4 ⟨rfl, hn4, hx4, hd4⟩ hok4
    try simp only [newO_none] at hx4 hn4
    have hk4 := hx4.keepsAll hk3 hok hp hL
    have e1 : max (c : Int) (-1) = (c : Int) := by omega
    obtain ⟨dd, hdd⟩ : ∃ dd : Bool, dd = (decide (y ≤ i) || decide ((c : Int) = 0)) := ⟨_, rfl⟩
    simp only [e1, ← hdd] at hd4
    have e2 : decide (y ≤ i) = decide ((y : Int) ≤ (i : Int)) := by rw [decide_eq_decide]; omega
    rw [e2] at hdd
    have hcase : (dd = true ∧ y ≤ i) ∨ (dd = true ∧ ¬ y ≤ i ∧ (c : Int) = 0) ∨ (dd = false ∧ ¬ y ≤ i ∧ ¬ (c : Int) = 0) := by
      by_cases u1 : y ≤ i
      · exact .inl ⟨by rw [hdd]; simp; omega, u1⟩
      · by_cases u2 : (c : Int) = 0
        · exact .inr (.inl ⟨by rw [hdd]; simp; omega, u1, u2⟩)
        · exact .inr (.inr ⟨by rw [hdd]; simp; omega, u1, u2⟩)
    have hwr : (0 : Int) ≤ ((min i y : Nat) : Int) ∧ ((min i y : Nat) : Int) ≤ 100 := by omega
    generalize ((min i y : Nat) : Int) = w at hd3 hd4 hwr
    simp only [Int.natCast_eq_zero] at hcase
    rcases hcase with ⟨rfl, hyi⟩ | ⟨rfl, hyi, hc0⟩ | ⟨rfl, hyi, hc0⟩
    · simp (disch := first | omega | (simp; done) | assumption) [wr64, wrU8, wrU64, Nat.add_assoc, -getElem?_pos, List.getElem?_cons_zero, List.getElem?_cons_succ, t0, t1, t2, t7, t9, hc, hyi]
      refine CallW.val (Dead hd4) ?_
      simp (disch := first | omega | (simp; done) | assumption) [wr64, wrU8, wrU64, Nat.add_assoc, -getElem?_pos, List.getElem?_cons_zero, List.getElem?_cons_succ, t0, t1, t2, t7, t9, hc, hyi]
      refine CallW.ofk (Fuse (-1) hd4) ?_
      rintro v5 H5 ⟨rfl, hn5, hx5, hd5⟩ hok5
      try simp only [newO_none] at hx5 hn5
      have hk5 := hx5.keepsAll hk4 hok hp hL
      replace hd5 : DS H5 p L ⟨ct, w, -1, true⟩ := by simpa using hd5
      simp (disch := first | omega | (simp; done) | assumption) [wr64, wrU8, wrU64, Nat.add_assoc, -getElem?_pos, List.getElem?_cons_zero, List.getElem?_cons_succ, t0, t1, t2, t7, t9, hc, hyi]
      refine CallW.val (Dead hd5) ?_
      simp (disch := first | omega | (simp; done) | assumption) [wr64, wrU8, wrU64, Nat.add_assoc, -getElem?_pos, List.getElem?_cons_zero, List.getElem?_cons_succ, t0, t1, t2, t7, t9, hc, hyi]
      refine CallW.ofk (Fill 1 _) ?_
      rintro v6 H6 ⟨hk6, hn6, q6, hq6, hq6n, hr6⟩ hok6
      try simp only [newO_none] at hk6 hn6 hq6
      have hd6 := hd5.keeps hk6
      have hk06 : H.keepsAll H6 := fun x o hx => hk6 x o (hk5 x o hx)
      simp (disch := first | omega | (simp; done) | assumption) [wr64, wrU8, wrU64, Nat.add_assoc, -getElem?_pos, List.getElem?_cons_zero, List.getElem?_cons_succ, t0, t1, t2, t7, t9]
      refine CallW.ofk (show ACall Tryd.prog _ [.ptr p 0, .int .i64 0, v6] _ _ from Write_dead (i := 0) hd6 hr6 (by rw [hct]; omega) (by omega) rfl) ?_
      rintro v7 H7 ⟨hk7, hn7, f7, ho7, hm7, rfl, hc7⟩ hok7
      try simp only [newO_none] at hk7 hn7
      have hd7 := hd6.keeps hk7
      have hk07 : H.keepsAll H7 := fun x o hx => hk7 x o (hk06 x o hx)
      simp (disch := first | omega | (simp; done) | assumption) [wr64, wrU8, wrU64, Nat.add_assoc, -getElem?_pos, List.getElem?_cons_zero, List.getElem?_cons_succ, t0, t1, t2, t7, t9]
      refine CallW.val (ELawNum (loadC_keeps hk07 hE) hc7) ?_
      simp (disch := first | omega | (simp; done) | assumption) [wr64, wrU8, wrU64, Nat.add_assoc, -getElem?_pos, List.getElem?_cons_zero, List.getElem?_cons_succ, t0, t1, t2, t7, t9, lawNum]
      refine CallW.ofk (Power hd7) ?_
      rintro v8 H8 ⟨rfl, hn8, hx8, hd8⟩ hok8
      try simp only [newO_none] at hx8 hn8
      have hk8 := hx8.keepsAll hk07 hok hp hL
      simp (disch := first | omega | (simp; done) | assumption) [wr64, wrU8, wrU64, Nat.add_assoc, -getElem?_pos, List.getElem?_cons_zero, List.getElem?_cons_succ, t0, t1, t2, t7, t9]
      refine iwp_loop (L2 p L H) 40 ⟨hk8, by omega, by omega, hok8, 0, ct, w, rfl, by omega, hct, hwr.1, by omega, hd8, by simp [t7], by simp⟩ ?_
      rintro k tm' H9 ⟨hk9, hp9, hL9, hok9, i9, ct9, w9, rfl, hi9, hct9, hw9, hw9', hd9, s7, s11⟩
      by_cases hlt9 : i9 < 40
      · have hlt9' : (i9 : Int) < 40 := by omega
        have hmod : ((i9 : Int).tmod 20) = ((i9 % 20 : Nat) : Int) := rfl
        simp (disch := first | omega | (simp; done) | assumption) [wr64, wrU8, wrU64, Nat.add_assoc, -getElem?_pos, List.getElem?_cons_zero, List.getElem?_cons_succ, s7, s11, hlt9', hmod]
        refine CallW.ofk (Fill (i9 : Int) _) ?_
        rintro v10 H10 ⟨hk10, hn10, q10, hq10, hq10n, hr10⟩ hok10
        try simp only [newO_none] at hk10 hn10 hq10
        have hd10 := hd9.keeps hk10
        have hk010 : H.keepsAll H10 := fun x o hx => hk10 x o (hk9 x o hx)
        simp (disch := first | omega | (simp; done) | assumption) [wr64, wrU8, wrU64, Nat.add_assoc, -getElem?_pos, List.getElem?_cons_zero, List.getElem?_cons_succ, s7, s11]
        refine CallW.ofk (Write_ok (i := i9 % 20) hd10 hr10 (by omega) (by omega) (by rw [hct9]; omega) rfl (by simp; omega) (by simp)) ?_
        rintro v11 H11 ⟨rfl, hn11, hx11, hd11⟩ hok11
        try simp only [newO_none] at hx11 hn11
        have hk11 := hx11.keepsAll hk010 hok hp hL
        replace hd11 : DS H11 p L ⟨ct9.set (i9 % 20) (some (fill i9)), w9 + 1, -1, false⟩ := by simpa [DK.write] using hd11
        simp (disch := first | omega | (simp; done) | assumption) [wr64, wrU8, wrU64, Nat.add_assoc, -getElem?_pos, List.getElem?_cons_zero, List.getElem?_cons_succ, s7, s11]
        refine ⟨40 - (i9 + 1), by omega, hk11, by omega, by omega, hok11, i9 + 1, _, w9 + 1, rfl, by omega, by simpa using hct9, by omega, by omega, hd11, by simp [s7], by simp⟩
      · obtain rfl : i9 = 40 := by omega
        simp (disch := first | omega | (simp; done) | assumption) [wr64, wrU8, wrU64, Nat.add_assoc, -getElem?_pos, List.getElem?_cons_zero, List.getElem?_cons_succ, s7, s11]
        refine CallW.val (Dead hd9) ?_
        simp (disch := first | omega | (simp; done) | assumption) [wr64, wrU8, wrU64, Nat.add_assoc, -getElem?_pos, List.getElem?_cons_zero, List.getElem?_cons_succ, s7, s11]
        refine CallW.val (Awake (loadC_keeps hk9 hE)) ?_
        simp (disch := first | omega | (simp; done) | assumption) [wr64, wrU8, wrU64, Nat.add_assoc, -getElem?_pos, List.getElem?_cons_zero, List.getElem?_cons_succ, s7, s11]
        exact hk9
    · simp (disch := first | omega | (simp; done) | assumption) [wr64, wrU8, wrU64, Nat.add_assoc, -getElem?_pos, List.getElem?_cons_zero, List.getElem?_cons_succ, t0, t1, t2, t7, t9, hc, hyi, hc0]
      refine CallW.val (Dead hd4) ?_
      simp (disch := first | omega | (simp; done) | assumption) [wr64, wrU8, wrU64, Nat.add_assoc, -getElem?_pos, List.getElem?_cons_zero, List.getElem?_cons_succ, t0, t1, t2, t7, t9, hc, hyi, hc0]
      refine CallW.ofk (Fuse (-1) hd4) ?_
      rintro v5 H5 ⟨rfl, hn5, hx5, hd5⟩ hok5
      try simp only [newO_none] at hx5 hn5
      have hk5 := hx5.keepsAll hk4 hok hp hL
      replace hd5 : DS H5 p L ⟨ct, w, -1, true⟩ := by simpa using hd5
      simp (disch := first | omega | (simp; done) | assumption) [wr64, wrU8, wrU64, Nat.add_assoc, -getElem?_pos, List.getElem?_cons_zero, List.getElem?_cons_succ, t0, t1, t2, t7, t9, hc, hyi, hc0]
      refine CallW.val (Dead hd5) ?_
      simp (disch := first | omega | (simp; done) | assumption) [wr64, wrU8, wrU64, Nat.add_assoc, -getElem?_pos, List.getElem?_cons_zero, List.getElem?_cons_succ, t0, t1, t2, t7, t9, hc, hyi, hc0]
      refine CallW.ofk (Fill 1 _) ?_
      rintro v6 H6 ⟨hk6, hn6, q6, hq6, hq6n, hr6⟩ hok6
      try simp only [newO_none] at hk6 hn6 hq6
      have hd6 := hd5.keeps hk6
      have hk06 : H.keepsAll H6 := fun x o hx => hk6 x o (hk5 x o hx)
      simp (disch := first | omega | (simp; done) | assumption) [wr64, wrU8, wrU64, Nat.add_assoc, -getElem?_pos, List.getElem?_cons_zero, List.getElem?_cons_succ, t0, t1, t2, t7, t9]
      refine CallW.ofk (show ACall Tryd.prog _ [.ptr p 0, .int .i64 0, v6] _ _ from Write_dead (i := 0) hd6 hr6 (by rw [hct]; omega) (by omega) rfl) ?_
      rintro v7 H7 ⟨hk7, hn7, f7, ho7, hm7, rfl, hc7⟩ hok7
      try simp only [newO_none] at hk7 hn7
      have hd7 := hd6.keeps hk7
      have hk07 : H.keepsAll H7 := fun x o hx => hk7 x o (hk06 x o hx)
      simp (disch := first | omega | (simp; done) | assumption) [wr64, wrU8, wrU64, Nat.add_assoc, -getElem?_pos, List.getElem?_cons_zero, List.getElem?_cons_succ, t0, t1, t2, t7, t9]
      refine CallW.val (ELawNum (loadC_keeps hk07 hE) hc7) ?_
      simp (disch := first | omega | (simp; done) | assumption) [wr64, wrU8, wrU64, Nat.add_assoc, -getElem?_pos, List.getElem?_cons_zero, List.getElem?_cons_succ, t0, t1, t2, t7, t9, lawNum]
      refine CallW.ofk (Power hd7) ?_
      rintro v8 H8 ⟨rfl, hn8, hx8, hd8⟩ hok8
      try simp only [newO_none] at hx8 hn8
      have hk8 := hx8.keepsAll hk07 hok hp hL
      simp (disch := first | omega | (simp; done) | assumption) [wr64, wrU8, wrU64, Nat.add_assoc, -getElem?_pos, List.getElem?_cons_zero, List.getElem?_cons_succ, t0, t1, t2, t7, t9]
      refine iwp_loop (L2 p L H) 40 ⟨hk8, by omega, by omega, hok8, 0, ct, w, rfl, by omega, hct, hwr.1, by omega, hd8, by simp [t7], by simp⟩ ?_
      rintro k tm' H9 ⟨hk9, hp9, hL9, hok9, i9, ct9, w9, rfl, hi9, hct9, hw9, hw9', hd9, s7, s11⟩
      by_cases hlt9 : i9 < 40
      · have hlt9' : (i9 : Int) < 40 := by omega
        have hmod : ((i9 : Int).tmod 20) = ((i9 % 20 : Nat) : Int) := rfl
        simp (disch := first | omega | (simp; done) | assumption) [wr64, wrU8, wrU64, Nat.add_assoc, -getElem?_pos, List.getElem?_cons_zero, List.getElem?_cons_succ, s7, s11, hlt9', hmod]
        refine CallW.ofk (Fill (i9 : Int) _) ?_
        rintro v10 H10 ⟨hk10, hn10, q10, hq10, hq10n, hr10⟩ hok10
        try simp only [newO_none] at hk10 hn10 hq10
        have hd10 := hd9.keeps hk10
        have hk010 : H.keepsAll H10 := fun x o hx => hk10 x o (hk9 x o hx)
        simp (disch := first | omega | (simp; done) | assumption) [wr64, wrU8, wrU64, Nat.add_assoc, -getElem?_pos, List.getElem?_cons_zero, List.getElem?_cons_succ, s7, s11]
        refine CallW.ofk (Write_ok (i := i9 % 20) hd10 hr10 (by omega) (by omega) (by rw [hct9]; omega) rfl (by simp; omega) (by simp)) ?_
        rintro v11 H11 ⟨rfl, hn11, hx11, hd11⟩ hok11
        try simp only [newO_none] at hx11 hn11
        have hk11 := hx11.keepsAll hk010 hok hp hL
        replace hd11 : DS H11 p L ⟨ct9.set (i9 % 20) (some (fill i9)), w9 + 1, -1, false⟩ := by simpa [DK.write] using hd11
        simp (disch := first | omega | (simp; done) | assumption) [wr64, wrU8, wrU64, Nat.add_assoc, -getElem?_pos, List.getElem?_cons_zero, List.getElem?_cons_succ, s7, s11]
        refine ⟨40 - (i9 + 1), by omega, hk11, by omega, by omega, hok11, i9 + 1, _, w9 + 1, rfl, by omega, by simpa using hct9, by omega, by omega, hd11, by simp [s7], by simp⟩
      · obtain rfl : i9 = 40 := by omega
        simp (disch := first | omega | (simp; done) | assumption) [wr64, wrU8, wrU64, Nat.add_assoc, -getElem?_pos, List.getElem?_cons_zero, List.getElem?_cons_succ, s7, s11]
        refine CallW.val (Dead hd9) ?_
        simp (disch := first | omega | (simp; done) | assumption) [wr64, wrU8, wrU64, Nat.add_assoc, -getElem?_pos, List.getElem?_cons_zero, List.getElem?_cons_succ, s7, s11]
        refine CallW.val (Awake (loadC_keeps hk9 hE)) ?_
        simp (disch := first | omega | (simp; done) | assumption) [wr64, wrU8, wrU64, Nat.add_assoc, -getElem?_pos, List.getElem?_cons_zero, List.getElem?_cons_succ, s7, s11]
        exact hk9
    · simp (disch := first | omega | (simp; done) | assumption) [wr64, wrU8, wrU64, Nat.add_assoc, -getElem?_pos, List.getElem?_cons_zero, List.getElem?_cons_succ, t0, t1, t2, t7, t9, hc, hyi, hc0]
      refine CallW.val (Dead hd4) ?_
      simp (disch := first | omega | (simp; done) | assumption) [wr64, wrU8, wrU64, Nat.add_assoc, -getElem?_pos, List.getElem?_cons_zero, List.getElem?_cons_succ, t0, t1, t2, t7, t9, hc, hyi, hc0]
      refine CallW.ofk (Fuse (-1) hd4) ?_
      rintro v5 H5 ⟨rfl, hn5, hx5, hd5⟩ hok5
      try simp only [newO_none] at hx5 hn5
      have hk5 := hx5.keepsAll hk4 hok hp hL
      replace hd5 : DS H5 p L ⟨ct, w, -1, false⟩ := by simpa using hd5
      simp (disch := first | omega | (simp; done) | assumption) [wr64, wrU8, wrU64, Nat.add_assoc, -getElem?_pos, List.getElem?_cons_zero, List.getElem?_cons_succ, t0, t1, t2, t7, t9, hc, hyi, hc0]
      refine CallW.val (Dead hd5) ?_
      simp (disch := first | omega | (simp; done) | assumption) [wr64, wrU8, wrU64, Nat.add_assoc, -getElem?_pos, List.getElem?_cons_zero, List.getElem?_cons_succ, t0, t1, t2, t7, t9, hc, hyi, hc0]
      refine CallW.ofk (Fill 1 _) ?_
      rintro v6 H6 ⟨hk6, hn6, q6, hq6, hq6n, hr6⟩ hok6
      try simp only [newO_none] at hk6 hn6 hq6
      have hd6 := hd5.keeps hk6
      have hk06 : H.keepsAll H6 := fun x o hx => hk6 x o (hk5 x o hx)
      simp (disch := first | omega | (simp; done) | assumption) [wr64, wrU8, wrU64, Nat.add_assoc, -getElem?_pos, List.getElem?_cons_zero, List.getElem?_cons_succ, t0, t1, t2, t7, t9]
      refine CallW.ofk (show ACall Tryd.prog _ [.ptr p 0, .int .i64 0, v6] _ _ from Write_ok (i := 0) hd6 hr6 (by omega) (by omega) (by rw [hct]; omega) rfl (by simp; omega) (by simp)) ?_
      rintro v7 H7 ⟨rfl, hn7, hx7, hd7⟩ hok7
      try simp only [newO_none] at hx7 hn7
      have hk7 := hx7.keepsAll hk06 hok hp hL
      replace hd7 : DS H7 p L ⟨ct.set 0 (some (fill 1)), w + 1, -1, false⟩ := by simpa [DK.write] using hd7
      simp (disch := first | omega | (simp; done) | assumption) [wr64, wrU8, wrU64, Nat.add_assoc, -getElem?_pos, List.getElem?_cons_zero, List.getElem?_cons_succ, t0, t1, t2, t7, t9]
      refine CallW.val (ELawNum (loadC_keeps hk7 hE) .nil) ?_
      simp (disch := first | omega | (simp; done) | assumption) [wr64, wrU8, wrU64, Nat.add_assoc, -getElem?_pos, List.getElem?_cons_zero, List.getElem?_cons_succ, t0, t1, t2, t7, t9, lawNum]
      refine CallW.val (Dead hd7) ?_
      simp (disch := first | omega | (simp; done) | assumption) [wr64, wrU8, wrU64, Nat.add_assoc, -getElem?_pos, List.getElem?_cons_zero, List.getElem?_cons_succ, t0, t1, t2, t7, t9, lawNum]
      refine CallW.ofk (Power hd7) ?_
      rintro v8 H8 ⟨rfl, hn8, hx8, hd8⟩ hok8
      try simp only [newO_none] at hx8 hn8
      have hk8 := hx8.keepsAll hk7 hok hp hL
      simp (disch := first | omega | (simp; done) | assumption) [wr64, wrU8, wrU64, Nat.add_assoc, -getElem?_pos, List.getElem?_cons_zero, List.getElem?_cons_succ, t0, t1, t2, t7, t9]
      refine iwp_loop (L2 p L H) 40 ⟨hk8, by omega, by omega, hok8, 0, ct.set 0 (some (fill 1)), w + 1, rfl, by omega, by simpa using hct, by omega, by omega, hd8, by simp [t7], by simp⟩ ?_
      rintro k tm' H9 ⟨hk9, hp9, hL9, hok9, i9, ct9, w9, rfl, hi9, hct9, hw9, hw9', hd9, s7, s11⟩
      by_cases hlt9 : i9 < 40
      · have hlt9' : (i9 : Int) < 40 := by omega
        have hmod : ((i9 : Int).tmod 20) = ((i9 % 20 : Nat) : Int) := rfl
        simp (disch := first | omega | (simp; done) | assumption) [wr64, wrU8, wrU64, Nat.add_assoc, -getElem?_pos, List.getElem?_cons_zero, List.getElem?_cons_succ, s7, s11, hlt9', hmod]
        refine CallW.ofk (Fill (i9 : Int) _) ?_
        rintro v10 H10 ⟨hk10, hn10, q10, hq10, hq10n, hr10⟩ hok10
        try simp only [newO_none] at hk10 hn10 hq10
        have hd10 := hd9.keeps hk10
        have hk010 : H.keepsAll H10 := fun x o hx => hk10 x o (hk9 x o hx)
        simp (disch := first | omega | (simp; done) | assumption) [wr64, wrU8, wrU64, Nat.add_assoc, -getElem?_pos, List.getElem?_cons_zero, List.getElem?_cons_succ, s7, s11]
        refine CallW.ofk (Write_ok (i := i9 % 20) hd10 hr10 (by omega) (by omega) (by rw [hct9]; omega) rfl (by simp; omega) (by simp)) ?_
        rintro v11 H11 ⟨rfl, hn11, hx11, hd11⟩ hok11
        try simp only [newO_none] at hx11 hn11
        have hk11 := hx11.keepsAll hk010 hok hp hL
        replace hd11 : DS H11 p L ⟨ct9.set (i9 % 20) (some (fill i9)), w9 + 1, -1, false⟩ := by simpa [DK.write] using hd11
        simp (disch := first | omega | (simp; done) | assumption) [wr64, wrU8, wrU64, Nat.add_assoc, -getElem?_pos, List.getElem?_cons_zero, List.getElem?_cons_succ, s7, s11]
        refine ⟨40 - (i9 + 1), by omega, hk11, by omega, by omega, hok11, i9 + 1, _, w9 + 1, rfl, by omega, by simpa using hct9, by omega, by omega, hd11, by simp [s7], by simp⟩
      · obtain rfl : i9 = 40 := by omega
        simp (disch := first | omega | (simp; done) | assumption) [wr64, wrU8, wrU64, Nat.add_assoc, -getElem?_pos, List.getElem?_cons_zero, List.getElem?_cons_succ, s7, s11]
        refine CallW.val (Dead hd9) ?_
        simp (disch := first | omega | (simp; done) | assumption) [wr64, wrU8, wrU64, Nat.add_assoc, -getElem?_pos, List.getElem?_cons_zero, List.getElem?_cons_succ, s7, s11]
        refine CallW.val (Awake (loadC_keeps hk9 hE)) ?_
        simp (disch := first | omega | (simp; done) | assumption) [wr64, wrU8, wrU64, Nat.add_assoc, -getElem?_pos, List.getElem?_cons_zero, List.getElem?_cons_succ, s7, s11]
        exact hk9
theorem DiskFuses.walk (a0 a1 a2 : Int) (W : World) (hsh : W.ShapedOpen Tryd.prog) (hG : DLaid.G W) (_ : (Lit.int .i64 a0).wf = true) (_ : (Lit.int .i64 a1).wf = true) (_ : (Lit.int .i64 a2).wf = true) :
    Calls Tryd.prog 4 #[.int .i64 a0, .int .i64 a1, .int .i64 a2] W fun e W' => e = .returned (.bool true) ∧ Below W.heap.size W W' :=
  DLaid.walk hsh hG (Law a0 a1 a2 _ (DLaid.H1_err W)) (.cons (.int ..) (.cons (.int ..) (.cons (.int ..) .nil)))
end Go.Proofs.YteaecdakffjneaaDoor.DFuses

-- written by hprint.py (wip/tools): the kit's print with hand contracts
import Derived.Test.YtndpokjakogpnaaDoorVx0
import Derived.Test.YtndpokjakogpnaaDoorVx1
import Derived.Test.YtndpokjakogpnaaDoorVx4
import Derived.Test.YtndpokjakogpnaaDoorVx5
import Derived.Test.YtndpokjakogpnaaDoorVx6
namespace Go.Proofs.YtndpokjakogpnaaDoor.V
open Go.RowKit Go.Proofs.YtndpokjakogpnaaDoorW.PrintWords Go.Proofs.YtndpokjakogpnaaDoorW.PrintLast Go.Proofs.YtndpokjakogpnaaDoorW.PrintMore
attribute [local go_sem] max2_int min2_int max_two min_two max_three min_three max_four min_four   -- for this text's walks alone
set_option linter.unusedVariables false
set_option linter.unusedSimpArgs false

attribute [local go_sem high] eqA35
/-! ### credenzalaw15_VersionTokens: function 9 -/
mutual
def credenzalaw15_VersionTokens.l0 : Nat → ByteArray → List (S35) → ByteArray → Int → Option (Bool)
  | 0, _, _, _, _ => none
  | k + 1, x0, x3, x4, x5 => if x5 < (x3.length : Int) then (if 0 ≤ x5 then (if ((rd_T35 x3 x5).f0) = 3 then (if ((rd_T35 x3 x5).f1).toList = ([] : List UInt8) then (if x4.size + 1 ≤ 9223372036854775807 then (if (x4 ++ (⟨#[48]⟩ : ByteArray)).size + 1 ≤ 9223372036854775807 then (credenzalaw15_VersionTokens.l0 k x0 x3 ((x4 ++ (⟨#[48]⟩ : ByteArray)) ++ (⟨#[46]⟩ : ByteArray)) (wrap64 (x5 + 1))) else (none)) else (none)) else (if x4.size + ((rd_T35 x3 x5).f1).size ≤ 9223372036854775807 then (if (x4 ++ ((rd_T35 x3 x5).f1)).size + 1 ≤ 9223372036854775807 then (credenzalaw15_VersionTokens.l0 k x0 x3 ((x4 ++ ((rd_T35 x3 x5).f1)) ++ (⟨#[46]⟩ : ByteArray)) (wrap64 (x5 + 1))) else (none)) else (none))) else (if ((rd_T35 x3 x5).f0) = 2 then (if ((rd_T35 x3 x5).f1).toList = ([] : List UInt8) then (some false) else (if x4.size + ((rd_T35 x3 x5).f1).size ≤ 9223372036854775807 then (if (x4 ++ ((rd_T35 x3 x5).f1)).size + 1 ≤ 9223372036854775807 then (credenzalaw15_VersionTokens.l0 k x0 x3 ((x4 ++ ((rd_T35 x3 x5).f1)) ++ (⟨#[46]⟩ : ByteArray)) (wrap64 (x5 + 1))) else (none)) else (none))) else (if ((rd_T35 x3 x5).f0) = 0 then (if ((rd_T35 x3 x5).f1).toList = ([126] : List UInt8) then (if x4.size + ((rd_T35 x3 x5).f1).size ≤ 9223372036854775807 then (if (x4 ++ ((rd_T35 x3 x5).f1)).size + 1 ≤ 9223372036854775807 then (credenzalaw15_VersionTokens.l0 k x0 x3 ((x4 ++ ((rd_T35 x3 x5).f1)) ++ (⟨#[46]⟩ : ByteArray)) (wrap64 (x5 + 1))) else (none)) else (none)) else (some false)) else (some false)))) else (none)) else ((version_Tokens.f k x4).bind fun t293 => (if (t293.length : Int) = (x3.length : Int) then (credenzalaw15_VersionTokens.l1 k x0 x3 x4 t293 0) else (some false)))
def credenzalaw15_VersionTokens.l1 : Nat → ByteArray → List (S35) → ByteArray → List (S35) → Int → Option (Bool)
  | 0, _, _, _, _, _ => none
  | k + 1, x0, x3, x4, x7, x8 => if x8 < (x3.length : Int) then (if 0 ≤ x8 then (if x8 < (x7.length : Int) then (if (!(((rd_T35 x7 x8).f0) == ((rd_T35 x3 x8).f0)) || (!((((rd_T35 x7 x8).f1).toList) == (((rd_T35 x3 x8).f1).toList)))) = true then (some false) else (credenzalaw15_VersionTokens.l1 k x0 x3 x4 x7 (wrap64 (x8 + 1)))) else (none)) else (none)) else ((version_Compare.f k x4 x0).bind fun t298 => (if t298 = 0 then ((credenzalaw15_awake.f k).bind fun t299 => (some t299)) else (some false)))
end
def credenzalaw15_VersionTokens.f (k : Nat) (a0 : ByteArray) : Option (Bool) := if (a0.size : Int) > 200 then ((credenzalaw15_awake.f k).bind fun t287 => (some t287)) else ((version_Tokens.f k a0).bind fun t288 => (credenzalaw15_VersionTokens.l0 k a0 t288 (⟨#[]⟩ : ByteArray) 0))
theorem credenzalaw15_VersionTokens.mono_l : ∀ k, (∀ y0 y1 y2 y3, LeO (credenzalaw15_VersionTokens.l0 k y0 y1 y2 y3) (credenzalaw15_VersionTokens.l0 (k + 1) y0 y1 y2 y3)) ∧ (∀ y0 y1 y2 y3 y4, LeO (credenzalaw15_VersionTokens.l1 k y0 y1 y2 y3 y4) (credenzalaw15_VersionTokens.l1 (k + 1) y0 y1 y2 y3 y4))
  | 0 => ⟨fun _ _ _ _ r h => by simp [credenzalaw15_VersionTokens.l0] at h, fun _ _ _ _ _ r h => by simp [credenzalaw15_VersionTokens.l1] at h⟩
  | k + 1 => by
    obtain ⟨ih0, ih1⟩ := credenzalaw15_VersionTokens.mono_l k
    refine ⟨?_, ?_⟩
    · intro y0 y1 y2 y3
      unfold credenzalaw15_VersionTokens.l0
      repeat' first
      | (with_reducible exact ih0 _ _ _ _)
      | (with_reducible exact ih1 _ _ _ _ _)
      | (with_reducible exact credenzalaw15_awake.mono _)
      | (with_reducible exact version_Compare.mono _ _ _)
      | (with_reducible exact version_Tokens.mono _ _)
      | (with_reducible exact LeO.refl _)
      | (with_reducible exact LeO.none _)
      | (with_reducible refine LeO.ite ?_ ?_)
      | (with_reducible refine LeO.bind ?_ (fun _ => ?_))
      | exact ih0 _ _ _ _
      | exact ih1 _ _ _ _ _
      | exact credenzalaw15_awake.mono _
      | exact version_Compare.mono _ _ _
      | exact version_Tokens.mono _ _
      | exact LeO.none _
      | refine LeO.ite ?_ ?_
      | refine LeO.bind ?_ (fun _ => ?_)
    · intro y0 y1 y2 y3 y4
      unfold credenzalaw15_VersionTokens.l1
      repeat' first
      | (with_reducible exact ih0 _ _ _ _)
      | (with_reducible exact ih1 _ _ _ _ _)
      | (with_reducible exact credenzalaw15_awake.mono _)
      | (with_reducible exact version_Compare.mono _ _ _)
      | (with_reducible exact version_Tokens.mono _ _)
      | (with_reducible exact LeO.refl _)
      | (with_reducible exact LeO.none _)
      | (with_reducible refine LeO.ite ?_ ?_)
      | (with_reducible refine LeO.bind ?_ (fun _ => ?_))
      | exact ih0 _ _ _ _
      | exact ih1 _ _ _ _ _
      | exact credenzalaw15_awake.mono _
      | exact version_Compare.mono _ _ _
      | exact version_Tokens.mono _ _
      | exact LeO.none _
      | refine LeO.ite ?_ ?_
      | refine LeO.bind ?_ (fun _ => ?_)
theorem credenzalaw15_VersionTokens.mono : ∀ a0 k, LeO (credenzalaw15_VersionTokens.f k a0) (credenzalaw15_VersionTokens.f (k + 1) a0) := by
  intro a0 k
  obtain ⟨ih0, ih1⟩ := credenzalaw15_VersionTokens.mono_l k
  unfold credenzalaw15_VersionTokens.f
  repeat' first
      | (with_reducible exact ih0 _ _ _ _)
      | (with_reducible exact ih1 _ _ _ _ _)
      | (with_reducible exact credenzalaw15_awake.mono _)
      | (with_reducible exact version_Compare.mono _ _ _)
      | (with_reducible exact version_Tokens.mono _ _)
      | (with_reducible exact LeO.refl _)
      | (with_reducible exact LeO.none _)
      | (with_reducible refine LeO.ite ?_ ?_)
      | (with_reducible refine LeO.bind ?_ (fun _ => ?_))
      | exact ih0 _ _ _ _
      | exact ih1 _ _ _ _ _
      | exact credenzalaw15_awake.mono _
      | exact version_Compare.mono _ _ _
      | exact version_Tokens.mono _ _
      | exact LeO.none _
      | refine LeO.ite ?_ ?_
      | refine LeO.bind ?_ (fun _ => ?_)
set_option maxHeartbeats 8000000 in
set_option maxRecDepth 100000 in
theorem credenzalaw15_VersionTokens.calls (k : Nat) (a0 : ByteArray) (r : Bool) (w : World) (h : credenzalaw15_VersionTokens.f k a0 = some r) :
    Calls Tryd.prog 9 #[.string a0] w fun e w' => e = .returned (.bool r) ∧ Below w.heap.size w w' := by
  have hu35 := Tryd.underlying35
  have HB := Aside0.mk (Below.refl w.heap.size w)
  have H : (if (a0.size : Int) > 200 then ((credenzalaw15_awake.f k).bind fun t287 => (some t287)) else ((version_Tokens.f k a0).bind fun t288 => (credenzalaw15_VersionTokens.l0 k a0 t288 (⟨#[]⟩ : ByteArray) 0))) = some r := h
  clear h
  by_cases c2 : (a0.size : Int) > 200
  · rw [if_pos c2] at H
    have c2b0 : decide (200 < (a0.size : Int)) = true := decide_eq_true c2
    have c2b1 : decide (200 < a0.size) = true := decide_eq_true (by omega)
    clear c2
    replace H := Option.bind_eq_some_iff.mp H
    obtain ⟨t287, A30, H⟩ := H
    replace H : (some t287) = some r := H
    have A3 := Aside0.mk A30
    clear A30
    obtain rfl := Option.some.inj H
    go_enter Tryd.func9, Tryd.ntmps9
    go_wp2_with (first | (go_at_call 13; (with_reducible refine (credenzalaw15_awake.calls k  t287 _ A3.out).mono ?_); rintro e w4 ⟨rfl, hb⟩; have n0_ := Aside0.mk (below_step (by repeat (first | (with_reducible first | exact HB.out | apply below_alloc | apply pw_below_drewN | apply below_drew1) | exact HB.out)) hb); clear HB; have HB := n0_; clear n0_; (try clear hb); (try clear hb2); (try clear hk); (try clear hi)))
    repeat (go_quiet (first | (go_at_call 13; (with_reducible refine (credenzalaw15_awake.calls k  t287 _ A3.out).mono ?_); rintro e w4 ⟨rfl, hb⟩; have n0_ := Aside0.mk (below_step (by repeat (first | (with_reducible first | exact HB.out | apply below_alloc | apply pw_below_drewN | apply below_drew1) | exact HB.out)) hb); clear HB; have HB := n0_; clear n0_; (try clear hb); (try clear hb2); (try clear hk); (try clear hi))); try go_wp2_with (first | (go_at_call 13; (with_reducible refine (credenzalaw15_awake.calls k  t287 _ A3.out).mono ?_); rintro e w4 ⟨rfl, hb⟩; have n0_ := Aside0.mk (below_step (by repeat (first | (with_reducible first | exact HB.out | apply below_alloc | apply pw_below_drewN | apply below_drew1) | exact HB.out)) hb); clear HB; have HB := n0_; clear n0_; (try clear hb); (try clear hb2); (try clear hk); (try clear hi))))
    go_ret
    exact ⟨by first | rfl | (simp [errW_none, errW_some] <;> rfl) | (simp [*, errW_none, errW_some] <;> rfl), by repeat (first | (with_reducible first | exact HB.out | apply below_alloc | apply pw_below_drewN | apply below_drew1) | exact HB.out)⟩
  · rw [if_neg c2] at H
    have c2b0 : decide (200 < (a0.size : Int)) = false := decide_eq_false c2
    have c2b1 : decide (200 < a0.size) = false := decide_eq_false (by omega)
    clear c2
    replace H := Option.bind_eq_some_iff.mp H
    obtain ⟨t288, A50, H⟩ := H
    replace H : (credenzalaw15_VersionTokens.l0 k a0 t288 (⟨#[]⟩ : ByteArray) 0) = some r := H
    have A5 := Aside0.mk A50
    clear A50
    have H' := Aside0.mk H
    clear H
    go_enter Tryd.func9, Tryd.ntmps9
    go_wp2_with (first | (go_at_call 16; (with_reducible refine (version_Tokens.calls k a0 t288 _ A5.out).mono ?_); rintro e w6 ⟨v289, rfl, ho0, hb⟩; have n0_ := Aside0.mk (Kd.V_lower (Kd.V_mono (ok' := fun k_ => True) ho0 (fun k_ hk_ => trivial)) (below_size (by repeat (first | (with_reducible first | exact HB.out | apply below_alloc | apply pw_below_drewN | apply below_drew1) | exact HB.out)))); have n1_ := Aside0.mk (below_step (by repeat (first | (with_reducible first | exact HB.out | apply below_alloc | apply pw_below_drewN | apply below_drew1) | exact HB.out)) hb); clear HB; have HO290 := n0_; have HB := n1_; clear n0_ n1_; (try clear hb); (try clear hb2); (try clear hk); (try clear hi); (try clear ho0)))
    repeat (go_quiet (first | (go_at_call 16; (with_reducible refine (version_Tokens.calls k a0 t288 _ A5.out).mono ?_); rintro e w6 ⟨v289, rfl, ho0, hb⟩; have n0_ := Aside0.mk (Kd.V_lower (Kd.V_mono (ok' := fun k_ => True) ho0 (fun k_ hk_ => trivial)) (below_size (by repeat (first | (with_reducible first | exact HB.out | apply below_alloc | apply pw_below_drewN | apply below_drew1) | exact HB.out)))); have n1_ := Aside0.mk (below_step (by repeat (first | (with_reducible first | exact HB.out | apply below_alloc | apply pw_below_drewN | apply below_drew1) | exact HB.out)) hb); clear HB; have HO290 := n0_; have HB := n1_; clear n0_ n1_; (try clear hb); (try clear hb2); (try clear hk); (try clear hi); (try clear ho0))); try go_wp2_with (first | (go_at_call 16; (with_reducible refine (version_Tokens.calls k a0 t288 _ A5.out).mono ?_); rintro e w6 ⟨v289, rfl, ho0, hb⟩; have n0_ := Aside0.mk (Kd.V_lower (Kd.V_mono (ok' := fun k_ => True) ho0 (fun k_ hk_ => trivial)) (below_size (by repeat (first | (with_reducible first | exact HB.out | apply below_alloc | apply pw_below_drewN | apply below_drew1) | exact HB.out)))); have n1_ := Aside0.mk (below_step (by repeat (first | (with_reducible first | exact HB.out | apply below_alloc | apply pw_below_drewN | apply below_drew1) | exact HB.out)) hb); clear HB; have HO290 := n0_; have HB := n1_; clear n0_ n1_; (try clear hb); (try clear hb2); (try clear hk); (try clear hi); (try clear ho0))))
    go_loopg [4, 5] k (fun kq v4 v5 w' => ∃ (x4_1 : ByteArray) (x5_1 : Int), v4 = .string x4_1 ∧ v5 = .int .i64 x5_1 ∧ Aside0 (credenzalaw15_VersionTokens.l0 kq a0 t288 x4_1 x5_1 = some r) ∧ Aside0 (kq ≤ k) ∧ Aside0 (Kd.V k35 35 w' w.heap.size (fun _ => True) v289 t288) ∧ Aside0 (Below w.heap.size w w'))
    case atStart => exact ⟨((⟨#[]⟩ : ByteArray)), (0), (by first | rfl | (simp; done) | (simp [*]; done)), (by first | rfl | (simp; done) | (simp [*]; done)), H', ⟨Nat.le_refl _⟩, ⟨by (with_reducible repeat (first | apply Kd.V_alloc | apply Kd.V_drewN | apply Kd.V_drew)); exact HO290.out⟩, ⟨by repeat (first | (with_reducible first | exact HB.out | apply below_alloc | apply pw_below_drewN | apply below_drew1) | exact HB.out)⟩⟩
    case round =>
      clear H'
      try clear c2
      try clear c2b0
      try clear c2b1
      try clear p2
      obtain ⟨x4_1, x5_1, rfl, rfl, HA, HK1, HO_3, HB⟩ := hrel
      cases gk with
      | zero => exact absurd HA.out (by simp [credenzalaw15_VersionTokens.l0])
      | succ k1 =>
        have H := HA.out
        clear HA
        simp only [credenzalaw15_VersionTokens.l0] at H
        by_cases c7 : x5_1 < (t288.length : Int)
        · rw [if_pos c7] at H
          have c7b0 : decide (x5_1 < (t288.length : Int)) = true := decide_eq_true c7
          clear c7
          by_cases c8 : 0 ≤ x5_1
          · rw [if_pos c8] at H
            have c8b0 : decide (0 ≤ x5_1) = true := decide_eq_true c8
            clear c8
            by_cases c9 : ((rd_T35 t288 x5_1).f0) = 3
            · rw [if_pos c9] at H
              have c9b0 : (((rd_T35 t288 x5_1).f0) == 3) = true := beq_iff_eq.mpr c9
              have c9b1 : (((rd_T35 t288 x5_1).f0) != 3) = false := bne_eq_false_iff_eq.mpr c9
              clear c9
              by_cases c10 : ((rd_T35 t288 x5_1).f1).toList = ([] : List UInt8)
              · rw [if_pos c10] at H
                have c10b0 : (((rd_T35 t288 x5_1).f1).toList == ([] : List UInt8)) = true := beq_iff_eq.mpr c10
                have c10b1 : (((rd_T35 t288 x5_1).f1).toList != ([] : List UInt8)) = false := bne_eq_false_iff_eq.mpr c10
                clear c10
                by_cases c11 : x4_1.size + 1 ≤ 9223372036854775807
                · rw [if_pos c11] at H
                  have c11b0 := eq_true c11
                  have c11b1 : decide (x4_1.size + 1 ≤ 9223372036854775807) = true := decide_eq_true c11
                  try have c11b2 : (9223372036854775807 < x4_1.size + 1) = False := eq_false (Nat.not_lt.2 c11)
                  by_cases c12 : (x4_1 ++ (⟨#[48]⟩ : ByteArray)).size + 1 ≤ 9223372036854775807
                  · rw [if_pos c12] at H
                    have c12b0 := eq_true c12
                    have c12b1 : decide ((x4_1 ++ (⟨#[48]⟩ : ByteArray)).size + 1 ≤ 9223372036854775807) = true := decide_eq_true c12
                    try have c12b2 : (9223372036854775807 < (x4_1 ++ (⟨#[48]⟩ : ByteArray)).size + 1) = False := eq_false (Nat.not_lt.2 c12)
                    (try (have c12n : x4_1.size + 1 + 1 ≤ 9223372036854775807 := by (have z_ := c12; simp only [ByteArray.size_append] at z_; exact z_)))
                    (try (have c12n0 := eq_true c12n))
                    (try (have c12n1 : decide (x4_1.size + 1 + 1 ≤ 9223372036854775807) = true := decide_eq_true c12n))
                    (try (have c12n2 : (9223372036854775807 < x4_1.size + 1 + 1) = False := eq_false (Nat.not_lt.2 c12n)))
                    have H' := Aside0.mk H
                    clear H
                    obtain ⟨Ao13, co13, eo13⟩ := Kd.V_slice HO_3.out
                    subst eo13
                    have p291 : 0 ≤ (x5_1 : Int) := of_decide_eq_true (by first | (with_reducible assumption) | assumption)
                    have q291 : x5_1 < (t288.length : Int) := of_decide_eq_true (by first | (with_reducible assumption) | assumption)
                    obtain ⟨ad291, e291, hx291_0, hx291_1⟩ := at_T35 (Kd.V_reads' HO_3.out).2.2 x5_1 p291 q291
                    cases e291
                    replace p291 := eq_true p291
                    replace q291 := eq_true q291
                    have p292 : 0 ≤ (x5_1 : Int) := of_decide_eq_true (by first | (with_reducible assumption) | assumption)
                    have q292 : x5_1 < (t288.length : Int) := of_decide_eq_true (by first | (with_reducible assumption) | assumption)
                    obtain ⟨ad292, e292, hx292_0, hx292_1⟩ := at_T35 (Kd.V_reads' HO_3.out).2.2 x5_1 p292 q292
                    obtain rfl : ad291 = ad292 := (by injection e292)
                    replace p292 := eq_true p292
                    replace q292 := eq_true q292
                    go_wp2
                    repeat (go_quiet (fail); try go_wp2)
                    go_roundg k1
                    case measure => have := HK1.out; omega
                    case rel => exact ⟨((x4_1 ++ (⟨#[48]⟩ : ByteArray)) ++ (⟨#[46]⟩ : ByteArray)), (wrap64 (x5_1 + 1)), (by first | rfl | (simp; done) | (simp [*]; done)), (by first | rfl | (simp; done) | (simp [*]; done)), H', ⟨by have := HK1.out; omega⟩, ⟨by (with_reducible repeat (first | apply Kd.V_alloc | apply Kd.V_drewN | apply Kd.V_drew)); exact HO_3.out⟩, ⟨by repeat (first | (with_reducible first | exact HB.out | apply below_alloc | apply pw_below_drewN | apply below_drew1) | exact HB.out)⟩⟩
                  · rw [if_neg c12] at H
                    exact absurd H (by simp)
                · rw [if_neg c11] at H
                  exact absurd H (by simp)
              · rw [if_neg c10] at H
                have c10b0 : (((rd_T35 t288 x5_1).f1).toList == ([] : List UInt8)) = false := beq_eq_false_iff_ne.mpr c10
                have c10b1 : (((rd_T35 t288 x5_1).f1).toList != ([] : List UInt8)) = true := bne_iff_ne.mpr c10
                by_cases c14 : x4_1.size + ((rd_T35 t288 x5_1).f1).size ≤ 9223372036854775807
                · rw [if_pos c14] at H
                  have c14b0 := eq_true c14
                  have c14b1 : decide (x4_1.size + ((rd_T35 t288 x5_1).f1).size ≤ 9223372036854775807) = true := decide_eq_true c14
                  try have c14b2 : (9223372036854775807 < x4_1.size + ((rd_T35 t288 x5_1).f1).size) = False := eq_false (Nat.not_lt.2 c14)
                  by_cases c15 : (x4_1 ++ ((rd_T35 t288 x5_1).f1)).size + 1 ≤ 9223372036854775807
                  · rw [if_pos c15] at H
                    have c15b0 := eq_true c15
                    have c15b1 : decide ((x4_1 ++ ((rd_T35 t288 x5_1).f1)).size + 1 ≤ 9223372036854775807) = true := decide_eq_true c15
                    try have c15b2 : (9223372036854775807 < (x4_1 ++ ((rd_T35 t288 x5_1).f1)).size + 1) = False := eq_false (Nat.not_lt.2 c15)
                    (try (have c15n : x4_1.size + ((rd_T35 t288 x5_1).f1).size + 1 ≤ 9223372036854775807 := by (have z_ := c15; simp only [ByteArray.size_append] at z_; exact z_)))
                    (try (have c15n0 := eq_true c15n))
                    (try (have c15n1 : decide (x4_1.size + ((rd_T35 t288 x5_1).f1).size + 1 ≤ 9223372036854775807) = true := decide_eq_true c15n))
                    (try (have c15n2 : (9223372036854775807 < x4_1.size + ((rd_T35 t288 x5_1).f1).size + 1) = False := eq_false (Nat.not_lt.2 c15n)))
                    have H' := Aside0.mk H
                    clear H
                    obtain ⟨Ao16, co16, eo16⟩ := Kd.V_slice HO_3.out
                    subst eo16
                    have p291 : 0 ≤ (x5_1 : Int) := of_decide_eq_true (by first | (with_reducible assumption) | assumption)
                    have q291 : x5_1 < (t288.length : Int) := of_decide_eq_true (by first | (with_reducible assumption) | assumption)
                    obtain ⟨ad291, e291, hx291_0, hx291_1⟩ := at_T35 (Kd.V_reads' HO_3.out).2.2 x5_1 p291 q291
                    cases e291
                    replace p291 := eq_true p291
                    replace q291 := eq_true q291
                    have p292 : 0 ≤ (x5_1 : Int) := of_decide_eq_true (by first | (with_reducible assumption) | assumption)
                    have q292 : x5_1 < (t288.length : Int) := of_decide_eq_true (by first | (with_reducible assumption) | assumption)
                    obtain ⟨ad292, e292, hx292_0, hx292_1⟩ := at_T35 (Kd.V_reads' HO_3.out).2.2 x5_1 p292 q292
                    obtain rfl : ad291 = ad292 := (by injection e292)
                    replace p292 := eq_true p292
                    replace q292 := eq_true q292
                    go_wp2
                    repeat (go_quiet (fail); try go_wp2)
                    go_roundg k1
                    case measure => have := HK1.out; omega
                    case rel => exact ⟨((x4_1 ++ ((rd_T35 t288 x5_1).f1)) ++ (⟨#[46]⟩ : ByteArray)), (wrap64 (x5_1 + 1)), (by first | rfl | (simp; done) | (simp [*]; done)), (by first | rfl | (simp; done) | (simp [*]; done)), H', ⟨by have := HK1.out; omega⟩, ⟨by (with_reducible repeat (first | apply Kd.V_alloc | apply Kd.V_drewN | apply Kd.V_drew)); exact HO_3.out⟩, ⟨by repeat (first | (with_reducible first | exact HB.out | apply below_alloc | apply pw_below_drewN | apply below_drew1) | exact HB.out)⟩⟩
                  · rw [if_neg c15] at H
                    exact absurd H (by simp)
                · rw [if_neg c14] at H
                  exact absurd H (by simp)
            · rw [if_neg c9] at H
              have c9b0 : (((rd_T35 t288 x5_1).f0) == 3) = false := beq_eq_false_iff_ne.mpr c9
              have c9b1 : (((rd_T35 t288 x5_1).f0) != 3) = true := bne_iff_ne.mpr c9
              by_cases c17 : ((rd_T35 t288 x5_1).f0) = 2
              · rw [if_pos c17] at H
                have c17b0 : (((rd_T35 t288 x5_1).f0) == 2) = true := beq_iff_eq.mpr c17
                have c17b1 : (((rd_T35 t288 x5_1).f0) != 2) = false := bne_eq_false_iff_eq.mpr c17
                clear c17
                by_cases c18 : ((rd_T35 t288 x5_1).f1).toList = ([] : List UInt8)
                · rw [if_pos c18] at H
                  have c18b0 : (((rd_T35 t288 x5_1).f1).toList == ([] : List UInt8)) = true := beq_iff_eq.mpr c18
                  have c18b1 : (((rd_T35 t288 x5_1).f1).toList != ([] : List UInt8)) = false := bne_eq_false_iff_eq.mpr c18
                  clear c18
                  obtain rfl := Option.some.inj H
                  obtain ⟨Ao19, co19, eo19⟩ := Kd.V_slice HO_3.out
                  subst eo19
                  have p291 : 0 ≤ (x5_1 : Int) := of_decide_eq_true (by first | (with_reducible assumption) | assumption)
                  have q291 : x5_1 < (t288.length : Int) := of_decide_eq_true (by first | (with_reducible assumption) | assumption)
                  obtain ⟨ad291, e291, hx291_0, hx291_1⟩ := at_T35 (Kd.V_reads' HO_3.out).2.2 x5_1 p291 q291
                  cases e291
                  replace p291 := eq_true p291
                  replace q291 := eq_true q291
                  have p292 : 0 ≤ (x5_1 : Int) := of_decide_eq_true (by first | (with_reducible assumption) | assumption)
                  have q292 : x5_1 < (t288.length : Int) := of_decide_eq_true (by first | (with_reducible assumption) | assumption)
                  obtain ⟨ad292, e292, hx292_0, hx292_1⟩ := at_T35 (Kd.V_reads' HO_3.out).2.2 x5_1 p292 q292
                  obtain rfl : ad291 = ad292 := (by injection e292)
                  replace p292 := eq_true p292
                  replace q292 := eq_true q292
                  go_wp2
                  repeat (go_quiet (fail); try go_wp2)
                  go_ret
                  exact ⟨by first | rfl | (simp [errW_none, errW_some] <;> rfl) | (simp [*, errW_none, errW_some] <;> rfl), by repeat (first | (with_reducible first | exact HB.out | apply below_alloc | apply pw_below_drewN | apply below_drew1) | exact HB.out)⟩
                · rw [if_neg c18] at H
                  have c18b0 : (((rd_T35 t288 x5_1).f1).toList == ([] : List UInt8)) = false := beq_eq_false_iff_ne.mpr c18
                  have c18b1 : (((rd_T35 t288 x5_1).f1).toList != ([] : List UInt8)) = true := bne_iff_ne.mpr c18
                  by_cases c20 : x4_1.size + ((rd_T35 t288 x5_1).f1).size ≤ 9223372036854775807
                  · rw [if_pos c20] at H
                    have c20b0 := eq_true c20
                    have c20b1 : decide (x4_1.size + ((rd_T35 t288 x5_1).f1).size ≤ 9223372036854775807) = true := decide_eq_true c20
                    try have c20b2 : (9223372036854775807 < x4_1.size + ((rd_T35 t288 x5_1).f1).size) = False := eq_false (Nat.not_lt.2 c20)
                    by_cases c21 : (x4_1 ++ ((rd_T35 t288 x5_1).f1)).size + 1 ≤ 9223372036854775807
                    · rw [if_pos c21] at H
                      have c21b0 := eq_true c21
                      have c21b1 : decide ((x4_1 ++ ((rd_T35 t288 x5_1).f1)).size + 1 ≤ 9223372036854775807) = true := decide_eq_true c21
                      try have c21b2 : (9223372036854775807 < (x4_1 ++ ((rd_T35 t288 x5_1).f1)).size + 1) = False := eq_false (Nat.not_lt.2 c21)
                      (try (have c21n : x4_1.size + ((rd_T35 t288 x5_1).f1).size + 1 ≤ 9223372036854775807 := by (have z_ := c21; simp only [ByteArray.size_append] at z_; exact z_)))
                      (try (have c21n0 := eq_true c21n))
                      (try (have c21n1 : decide (x4_1.size + ((rd_T35 t288 x5_1).f1).size + 1 ≤ 9223372036854775807) = true := decide_eq_true c21n))
                      (try (have c21n2 : (9223372036854775807 < x4_1.size + ((rd_T35 t288 x5_1).f1).size + 1) = False := eq_false (Nat.not_lt.2 c21n)))
                      have H' := Aside0.mk H
                      clear H
                      obtain ⟨Ao22, co22, eo22⟩ := Kd.V_slice HO_3.out
                      subst eo22
                      have p291 : 0 ≤ (x5_1 : Int) := of_decide_eq_true (by first | (with_reducible assumption) | assumption)
                      have q291 : x5_1 < (t288.length : Int) := of_decide_eq_true (by first | (with_reducible assumption) | assumption)
                      obtain ⟨ad291, e291, hx291_0, hx291_1⟩ := at_T35 (Kd.V_reads' HO_3.out).2.2 x5_1 p291 q291
                      cases e291
                      replace p291 := eq_true p291
                      replace q291 := eq_true q291
                      have p292 : 0 ≤ (x5_1 : Int) := of_decide_eq_true (by first | (with_reducible assumption) | assumption)
                      have q292 : x5_1 < (t288.length : Int) := of_decide_eq_true (by first | (with_reducible assumption) | assumption)
                      obtain ⟨ad292, e292, hx292_0, hx292_1⟩ := at_T35 (Kd.V_reads' HO_3.out).2.2 x5_1 p292 q292
                      obtain rfl : ad291 = ad292 := (by injection e292)
                      replace p292 := eq_true p292
                      replace q292 := eq_true q292
                      go_wp2
                      repeat (go_quiet (fail); try go_wp2)
                      go_roundg k1
                      case measure => have := HK1.out; omega
                      case rel => exact ⟨((x4_1 ++ ((rd_T35 t288 x5_1).f1)) ++ (⟨#[46]⟩ : ByteArray)), (wrap64 (x5_1 + 1)), (by first | rfl | (simp; done) | (simp [*]; done)), (by first | rfl | (simp; done) | (simp [*]; done)), H', ⟨by have := HK1.out; omega⟩, ⟨by (with_reducible repeat (first | apply Kd.V_alloc | apply Kd.V_drewN | apply Kd.V_drew)); exact HO_3.out⟩, ⟨by repeat (first | (with_reducible first | exact HB.out | apply below_alloc | apply pw_below_drewN | apply below_drew1) | exact HB.out)⟩⟩
                    · rw [if_neg c21] at H
                      exact absurd H (by simp)
                  · rw [if_neg c20] at H
                    exact absurd H (by simp)
              · rw [if_neg c17] at H
                have c17b0 : (((rd_T35 t288 x5_1).f0) == 2) = false := beq_eq_false_iff_ne.mpr c17
                have c17b1 : (((rd_T35 t288 x5_1).f0) != 2) = true := bne_iff_ne.mpr c17
                by_cases c23 : ((rd_T35 t288 x5_1).f0) = 0
                · rw [if_pos c23] at H
                  have c23b0 : (((rd_T35 t288 x5_1).f0) == 0) = true := beq_iff_eq.mpr c23
                  have c23b1 : (((rd_T35 t288 x5_1).f0) != 0) = false := bne_eq_false_iff_eq.mpr c23
                  clear c23
                  by_cases c24 : ((rd_T35 t288 x5_1).f1).toList = ([126] : List UInt8)
                  · rw [if_pos c24] at H
                    have c24b0 : (((rd_T35 t288 x5_1).f1).toList == ([126] : List UInt8)) = true := beq_iff_eq.mpr c24
                    have c24b1 : (((rd_T35 t288 x5_1).f1).toList != ([126] : List UInt8)) = false := bne_eq_false_iff_eq.mpr c24
                    clear c24
                    by_cases c25 : x4_1.size + ((rd_T35 t288 x5_1).f1).size ≤ 9223372036854775807
                    · rw [if_pos c25] at H
                      have c25b0 := eq_true c25
                      have c25b1 : decide (x4_1.size + ((rd_T35 t288 x5_1).f1).size ≤ 9223372036854775807) = true := decide_eq_true c25
                      try have c25b2 : (9223372036854775807 < x4_1.size + ((rd_T35 t288 x5_1).f1).size) = False := eq_false (Nat.not_lt.2 c25)
                      by_cases c26 : (x4_1 ++ ((rd_T35 t288 x5_1).f1)).size + 1 ≤ 9223372036854775807
                      · rw [if_pos c26] at H
                        have c26b0 := eq_true c26
                        have c26b1 : decide ((x4_1 ++ ((rd_T35 t288 x5_1).f1)).size + 1 ≤ 9223372036854775807) = true := decide_eq_true c26
                        try have c26b2 : (9223372036854775807 < (x4_1 ++ ((rd_T35 t288 x5_1).f1)).size + 1) = False := eq_false (Nat.not_lt.2 c26)
                        (try (have c26n : x4_1.size + ((rd_T35 t288 x5_1).f1).size + 1 ≤ 9223372036854775807 := by (have z_ := c26; simp only [ByteArray.size_append] at z_; exact z_)))
                        (try (have c26n0 := eq_true c26n))
                        (try (have c26n1 : decide (x4_1.size + ((rd_T35 t288 x5_1).f1).size + 1 ≤ 9223372036854775807) = true := decide_eq_true c26n))
                        (try (have c26n2 : (9223372036854775807 < x4_1.size + ((rd_T35 t288 x5_1).f1).size + 1) = False := eq_false (Nat.not_lt.2 c26n)))
                        have H' := Aside0.mk H
                        clear H
                        obtain ⟨Ao27, co27, eo27⟩ := Kd.V_slice HO_3.out
                        subst eo27
                        have p291 : 0 ≤ (x5_1 : Int) := of_decide_eq_true (by first | (with_reducible assumption) | assumption)
                        have q291 : x5_1 < (t288.length : Int) := of_decide_eq_true (by first | (with_reducible assumption) | assumption)
                        obtain ⟨ad291, e291, hx291_0, hx291_1⟩ := at_T35 (Kd.V_reads' HO_3.out).2.2 x5_1 p291 q291
                        cases e291
                        replace p291 := eq_true p291
                        replace q291 := eq_true q291
                        have p292 : 0 ≤ (x5_1 : Int) := of_decide_eq_true (by first | (with_reducible assumption) | assumption)
                        have q292 : x5_1 < (t288.length : Int) := of_decide_eq_true (by first | (with_reducible assumption) | assumption)
                        obtain ⟨ad292, e292, hx292_0, hx292_1⟩ := at_T35 (Kd.V_reads' HO_3.out).2.2 x5_1 p292 q292
                        obtain rfl : ad291 = ad292 := (by injection e292)
                        replace p292 := eq_true p292
                        replace q292 := eq_true q292
                        go_wp2
                        repeat (go_quiet (fail); try go_wp2)
                        go_roundg k1
                        case measure => have := HK1.out; omega
                        case rel => exact ⟨((x4_1 ++ ((rd_T35 t288 x5_1).f1)) ++ (⟨#[46]⟩ : ByteArray)), (wrap64 (x5_1 + 1)), (by first | rfl | (simp; done) | (simp [*]; done)), (by first | rfl | (simp; done) | (simp [*]; done)), H', ⟨by have := HK1.out; omega⟩, ⟨by (with_reducible repeat (first | apply Kd.V_alloc | apply Kd.V_drewN | apply Kd.V_drew)); exact HO_3.out⟩, ⟨by repeat (first | (with_reducible first | exact HB.out | apply below_alloc | apply pw_below_drewN | apply below_drew1) | exact HB.out)⟩⟩
                      · rw [if_neg c26] at H
                        exact absurd H (by simp)
                    · rw [if_neg c25] at H
                      exact absurd H (by simp)
                  · rw [if_neg c24] at H
                    have c24b0 : (((rd_T35 t288 x5_1).f1).toList == ([126] : List UInt8)) = false := beq_eq_false_iff_ne.mpr c24
                    have c24b1 : (((rd_T35 t288 x5_1).f1).toList != ([126] : List UInt8)) = true := bne_iff_ne.mpr c24
                    obtain rfl := Option.some.inj H
                    obtain ⟨Ao28, co28, eo28⟩ := Kd.V_slice HO_3.out
                    subst eo28
                    have p291 : 0 ≤ (x5_1 : Int) := of_decide_eq_true (by first | (with_reducible assumption) | assumption)
                    have q291 : x5_1 < (t288.length : Int) := of_decide_eq_true (by first | (with_reducible assumption) | assumption)
                    obtain ⟨ad291, e291, hx291_0, hx291_1⟩ := at_T35 (Kd.V_reads' HO_3.out).2.2 x5_1 p291 q291
                    cases e291
                    replace p291 := eq_true p291
                    replace q291 := eq_true q291
                    have p292 : 0 ≤ (x5_1 : Int) := of_decide_eq_true (by first | (with_reducible assumption) | assumption)
                    have q292 : x5_1 < (t288.length : Int) := of_decide_eq_true (by first | (with_reducible assumption) | assumption)
                    obtain ⟨ad292, e292, hx292_0, hx292_1⟩ := at_T35 (Kd.V_reads' HO_3.out).2.2 x5_1 p292 q292
                    obtain rfl : ad291 = ad292 := (by injection e292)
                    replace p292 := eq_true p292
                    replace q292 := eq_true q292
                    go_wp2
                    repeat (go_quiet (fail); try go_wp2)
                    go_ret
                    exact ⟨by first | rfl | (simp [errW_none, errW_some] <;> rfl) | (simp [*, errW_none, errW_some] <;> rfl), by repeat (first | (with_reducible first | exact HB.out | apply below_alloc | apply pw_below_drewN | apply below_drew1) | exact HB.out)⟩
                · rw [if_neg c23] at H
                  have c23b0 : (((rd_T35 t288 x5_1).f0) == 0) = false := beq_eq_false_iff_ne.mpr c23
                  have c23b1 : (((rd_T35 t288 x5_1).f0) != 0) = true := bne_iff_ne.mpr c23
                  obtain rfl := Option.some.inj H
                  obtain ⟨Ao29, co29, eo29⟩ := Kd.V_slice HO_3.out
                  subst eo29
                  have p291 : 0 ≤ (x5_1 : Int) := of_decide_eq_true (by first | (with_reducible assumption) | assumption)
                  have q291 : x5_1 < (t288.length : Int) := of_decide_eq_true (by first | (with_reducible assumption) | assumption)
                  obtain ⟨ad291, e291, hx291_0, hx291_1⟩ := at_T35 (Kd.V_reads' HO_3.out).2.2 x5_1 p291 q291
                  cases e291
                  replace p291 := eq_true p291
                  replace q291 := eq_true q291
                  have p292 : 0 ≤ (x5_1 : Int) := of_decide_eq_true (by first | (with_reducible assumption) | assumption)
                  have q292 : x5_1 < (t288.length : Int) := of_decide_eq_true (by first | (with_reducible assumption) | assumption)
                  obtain ⟨ad292, e292, hx292_0, hx292_1⟩ := at_T35 (Kd.V_reads' HO_3.out).2.2 x5_1 p292 q292
                  obtain rfl : ad291 = ad292 := (by injection e292)
                  replace p292 := eq_true p292
                  replace q292 := eq_true q292
                  go_wp2
                  repeat (go_quiet (fail); try go_wp2)
                  go_ret
                  exact ⟨by first | rfl | (simp [errW_none, errW_some] <;> rfl) | (simp [*, errW_none, errW_some] <;> rfl), by repeat (first | (with_reducible first | exact HB.out | apply below_alloc | apply pw_below_drewN | apply below_drew1) | exact HB.out)⟩
          · rw [if_neg c8] at H
            exact absurd H (by simp)
        · rw [if_neg c7] at H
          have c7b0 : decide (x5_1 < (t288.length : Int)) = false := decide_eq_false c7
          clear c7
          replace H := Option.bind_eq_some_iff.mp H
          obtain ⟨t293, A300, H⟩ := H
          replace H : (if (t293.length : Int) = (t288.length : Int) then (credenzalaw15_VersionTokens.l1 k1 a0 t288 x4_1 t293 0) else (some false)) = some r := H
          have A30 := Aside0.mk A300
          clear A300
          by_cases c31 : (t293.length : Int) = (t288.length : Int)
          · rw [if_pos c31] at H
            have c31b0 : ((t293.length : Int) == (t288.length : Int)) = true := beq_iff_eq.mpr c31
            have c31b1 : ((t293.length : Int) != (t288.length : Int)) = false := bne_eq_false_iff_eq.mpr c31
            have c31b2 : (t293.length == t288.length) = true := by first | simpa using c31 | (simp at c31 ⊢; omega)
            clear c31
            have H' := Aside0.mk H
            clear H
            obtain ⟨Ao32, co32, eo32⟩ := Kd.V_slice HO_3.out
            subst eo32
            go_wp2_with (first | (go_at_call 16; (with_reducible refine (version_Tokens.calls k1 x4_1 t293 _ A30.out).mono ?_); rintro e w33 ⟨v294, rfl, ho0, hb⟩; have n0_ := Aside0.mk (Kd.V_below (by (with_reducible repeat (first | apply Kd.V_alloc | apply Kd.V_drewN | apply Kd.V_drew)); exact HO_3.out) hb); have n1_ := Aside0.mk (Kd.V_lower (Kd.V_mono (ok' := fun k_ => True) ho0 (fun k_ hk_ => trivial)) (below_size (by repeat (first | (with_reducible first | exact HB.out | apply below_alloc | apply pw_below_drewN | apply below_drew1) | exact HB.out)))); have n2_ := Aside0.mk (below_step (by repeat (first | (with_reducible first | exact HB.out | apply below_alloc | apply pw_below_drewN | apply below_drew1) | exact HB.out)) hb); clear HO_3; clear HB; have HO_3 := n0_; have HO295 := n1_; have HB := n2_; clear n0_ n1_ n2_; (try clear hb); (try clear hb2); (try clear hk); (try clear hi); (try clear ho0); obtain ⟨Ao34, co34, eo34⟩ := Kd.V_slice HO295.out; subst eo34))
            repeat (go_quiet (first | (go_at_call 16; (with_reducible refine (version_Tokens.calls k1 x4_1 t293 _ A30.out).mono ?_); rintro e w33 ⟨v294, rfl, ho0, hb⟩; have n0_ := Aside0.mk (Kd.V_below (by (with_reducible repeat (first | apply Kd.V_alloc | apply Kd.V_drewN | apply Kd.V_drew)); exact HO_3.out) hb); have n1_ := Aside0.mk (Kd.V_lower (Kd.V_mono (ok' := fun k_ => True) ho0 (fun k_ hk_ => trivial)) (below_size (by repeat (first | (with_reducible first | exact HB.out | apply below_alloc | apply pw_below_drewN | apply below_drew1) | exact HB.out)))); have n2_ := Aside0.mk (below_step (by repeat (first | (with_reducible first | exact HB.out | apply below_alloc | apply pw_below_drewN | apply below_drew1) | exact HB.out)) hb); clear HO_3; clear HB; have HO_3 := n0_; have HO295 := n1_; have HB := n2_; clear n0_ n1_ n2_; (try clear hb); (try clear hb2); (try clear hk); (try clear hi); (try clear ho0); obtain ⟨Ao34, co34, eo34⟩ := Kd.V_slice HO295.out; subst eo34)); try go_wp2_with (first | (go_at_call 16; (with_reducible refine (version_Tokens.calls k1 x4_1 t293 _ A30.out).mono ?_); rintro e w33 ⟨v294, rfl, ho0, hb⟩; have n0_ := Aside0.mk (Kd.V_below (by (with_reducible repeat (first | apply Kd.V_alloc | apply Kd.V_drewN | apply Kd.V_drew)); exact HO_3.out) hb); have n1_ := Aside0.mk (Kd.V_lower (Kd.V_mono (ok' := fun k_ => True) ho0 (fun k_ hk_ => trivial)) (below_size (by repeat (first | (with_reducible first | exact HB.out | apply below_alloc | apply pw_below_drewN | apply below_drew1) | exact HB.out)))); have n2_ := Aside0.mk (below_step (by repeat (first | (with_reducible first | exact HB.out | apply below_alloc | apply pw_below_drewN | apply below_drew1) | exact HB.out)) hb); clear HO_3; clear HB; have HO_3 := n0_; have HO295 := n1_; have HB := n2_; clear n0_ n1_ n2_; (try clear hb); (try clear hb2); (try clear hk); (try clear hi); (try clear ho0); obtain ⟨Ao34, co34, eo34⟩ := Kd.V_slice HO295.out; subst eo34)))
            go_loopg [8] k1 (fun kq v8 w' => ∃ (x8_2 : Int), v8 = .int .i64 x8_2 ∧ Aside0 (credenzalaw15_VersionTokens.l1 kq a0 t288 x4_1 t293 x8_2 = some r) ∧ Aside0 (kq ≤ k1) ∧ Aside0 (Kd.V k35 35 w' w.heap.size (fun _ => True) (.slice Ao32 t288.length co32) t288) ∧ Aside0 (Kd.V k35 35 w' w.heap.size (fun _ => True) (.slice Ao34 t293.length co34) t293) ∧ Aside0 (Below w.heap.size w w'))
            case atStart => exact ⟨(0), (by first | rfl | (simp; done) | (simp [*]; done)), H', ⟨Nat.le_refl _⟩, ⟨by (with_reducible repeat (first | apply Kd.V_alloc | apply Kd.V_drewN | apply Kd.V_drew)); exact HO_3.out⟩, ⟨by (with_reducible repeat (first | apply Kd.V_alloc | apply Kd.V_drewN | apply Kd.V_drew)); exact HO295.out⟩, ⟨by repeat (first | (with_reducible first | exact HB.out | apply below_alloc | apply pw_below_drewN | apply below_drew1) | exact HB.out)⟩⟩
            case round =>
              clear H'
              try clear c1
              try clear c2
              try clear c2b0
              try clear c2b1
              try clear p2
              try clear q2
              try clear hx2
              try clear c3
              try clear p6
              try clear c7
              try clear c7b0
              try clear c8
              try clear c8b0
              try clear c9
              try clear c9b0
              try clear c9b1
              try clear c10
              try clear c10b0
              try clear c10b1
              try clear c11
              try clear c11b0
              try clear c11b1
              try clear c11b2
              try clear c12
              try clear c12b0
              try clear c12b1
              try clear c12b2
              try clear c14
              try clear c14b0
              try clear c14b1
              try clear c14b2
              try clear c15
              try clear c15b0
              try clear c15b1
              try clear c15b2
              try clear c17
              try clear c17b0
              try clear c17b1
              try clear c18
              try clear c18b0
              try clear c18b1
              try clear c20
              try clear c20b0
              try clear c20b1
              try clear c20b2
              try clear c21
              try clear c21b0
              try clear c21b1
              try clear c21b2
              try clear c23
              try clear c23b0
              try clear c23b1
              try clear c24
              try clear c24b0
              try clear c24b1
              try clear c25
              try clear c25b0
              try clear c25b1
              try clear c25b2
              try clear c26
              try clear c26b0
              try clear c26b1
              try clear c26b2
              try clear p29
              try clear q29
              try clear hx29
              try clear c31
              try clear c31b0
              try clear c31b1
              try clear c31b2
              try clear hx291_0
              try clear hx291_1
              try clear hx292_0
              try clear hx292_1
              try clear p2
              try clear p291
              try clear p292
              try clear q291
              try clear q292
              obtain ⟨x8_2, rfl, HA, HK2, HO_3, HO_7, HB⟩ := hrel
              cases gk with
              | zero => exact absurd HA.out (by simp [credenzalaw15_VersionTokens.l1])
              | succ k2 =>
                have H := HA.out
                clear HA
                simp only [credenzalaw15_VersionTokens.l1] at H
                by_cases c35 : x8_2 < (t288.length : Int)
                · rw [if_pos c35] at H
                  have c35b0 : decide (x8_2 < (t288.length : Int)) = true := decide_eq_true c35
                  clear c35
                  by_cases c36 : 0 ≤ x8_2
                  · rw [if_pos c36] at H
                    have c36b0 : decide (0 ≤ x8_2) = true := decide_eq_true c36
                    clear c36
                    by_cases c37 : x8_2 < (t293.length : Int)
                    · rw [if_pos c37] at H
                      have c37b0 : decide (x8_2 < (t293.length : Int)) = true := decide_eq_true c37
                      clear c37
                      by_cases c38 : (!(((rd_T35 t293 x8_2).f0) == ((rd_T35 t288 x8_2).f0)) || (!((((rd_T35 t293 x8_2).f1).toList) == (((rd_T35 t288 x8_2).f1).toList)))) = true
                      · rw [if_pos c38] at H
                        have c38b0 : (!(((rd_T35 t293 x8_2).f0) == ((rd_T35 t288 x8_2).f0)) || (!((((rd_T35 t293 x8_2).f1).toList) == (((rd_T35 t288 x8_2).f1).toList)))) = true := c38
                        clear c38
                        obtain rfl := Option.some.inj H
                        have p296 : 0 ≤ (x8_2 : Int) := of_decide_eq_true (by first | (with_reducible assumption) | assumption)
                        have q296 : x8_2 < (t293.length : Int) := of_decide_eq_true (by first | (with_reducible assumption) | assumption)
                        obtain ⟨ad296, e296, hx296_0, hx296_1⟩ := at_T35 (Kd.V_reads' HO_7.out).2.2 x8_2 p296 q296
                        cases e296
                        replace p296 := eq_true p296
                        replace q296 := eq_true q296
                        have p297 : 0 ≤ (x8_2 : Int) := of_decide_eq_true (by first | (with_reducible assumption) | assumption)
                        have q297 : x8_2 < (t288.length : Int) := of_decide_eq_true (by first | (with_reducible assumption) | assumption)
                        obtain ⟨ad297, e297, hx297_0, hx297_1⟩ := at_T35 (Kd.V_reads' HO_3.out).2.2 x8_2 p297 q297
                        cases e297
                        replace p297 := eq_true p297
                        replace q297 := eq_true q297
                        go_wp2
                        repeat (go_quiet (fail); try go_wp2)
                        go_ret
                        exact ⟨by first | rfl | (simp [errW_none, errW_some] <;> rfl) | (simp [*, errW_none, errW_some] <;> rfl), by repeat (first | (with_reducible first | exact HB.out | apply below_alloc | apply pw_below_drewN | apply below_drew1) | exact HB.out)⟩
                      · rw [if_neg c38] at H
                        have c38b0 : (!(((rd_T35 t293 x8_2).f0) == ((rd_T35 t288 x8_2).f0)) || (!((((rd_T35 t293 x8_2).f1).toList) == (((rd_T35 t288 x8_2).f1).toList)))) = false := by simpa using c38
                        clear c38
                        have H' := Aside0.mk H
                        clear H
                        have p296 : 0 ≤ (x8_2 : Int) := of_decide_eq_true (by first | (with_reducible assumption) | assumption)
                        have q296 : x8_2 < (t293.length : Int) := of_decide_eq_true (by first | (with_reducible assumption) | assumption)
                        obtain ⟨ad296, e296, hx296_0, hx296_1⟩ := at_T35 (Kd.V_reads' HO_7.out).2.2 x8_2 p296 q296
                        cases e296
                        replace p296 := eq_true p296
                        replace q296 := eq_true q296
                        have p297 : 0 ≤ (x8_2 : Int) := of_decide_eq_true (by first | (with_reducible assumption) | assumption)
                        have q297 : x8_2 < (t288.length : Int) := of_decide_eq_true (by first | (with_reducible assumption) | assumption)
                        obtain ⟨ad297, e297, hx297_0, hx297_1⟩ := at_T35 (Kd.V_reads' HO_3.out).2.2 x8_2 p297 q297
                        cases e297
                        replace p297 := eq_true p297
                        replace q297 := eq_true q297
                        go_wp2
                        repeat (go_quiet (fail); try go_wp2)
                        go_roundg k2
                        case measure => have := HK1.out; have := HK2.out; omega
                        case rel => exact ⟨(wrap64 (x8_2 + 1)), (by first | rfl | (simp; done) | (simp [*]; done)), H', ⟨by have := HK1.out; have := HK2.out; omega⟩, ⟨by (with_reducible repeat (first | apply Kd.V_alloc | apply Kd.V_drewN | apply Kd.V_drew)); exact HO_3.out⟩, ⟨by (with_reducible repeat (first | apply Kd.V_alloc | apply Kd.V_drewN | apply Kd.V_drew)); exact HO_7.out⟩, ⟨by repeat (first | (with_reducible first | exact HB.out | apply below_alloc | apply pw_below_drewN | apply below_drew1) | exact HB.out)⟩⟩
                    · rw [if_neg c37] at H
                      exact absurd H (by simp)
                  · rw [if_neg c36] at H
                    exact absurd H (by simp)
                · rw [if_neg c35] at H
                  have c35b0 : decide (x8_2 < (t288.length : Int)) = false := decide_eq_false c35
                  clear c35
                  replace H := Option.bind_eq_some_iff.mp H
                  obtain ⟨t298, A390, H⟩ := H
                  replace H : (if t298 = 0 then ((credenzalaw15_awake.f k2).bind fun t299 => (some t299)) else (some false)) = some r := H
                  have A39 := Aside0.mk A390
                  clear A390
                  by_cases c40 : t298 = 0
                  · rw [if_pos c40] at H
                    have c40b0 : (t298 == 0) = true := beq_iff_eq.mpr c40
                    have c40b1 : (t298 != 0) = false := bne_eq_false_iff_eq.mpr c40
                    clear c40
                    replace H := Option.bind_eq_some_iff.mp H
                    obtain ⟨t299, A410, H⟩ := H
                    replace H : (some t299) = some r := H
                    have A41 := Aside0.mk A410
                    clear A410
                    obtain rfl := Option.some.inj H
                    go_wp2_with (first | (go_at_call 12; (with_reducible refine (version_Compare.calls k2 x4_1 a0 t298 _ A39.out).mono ?_); rintro e w42 ⟨rfl, hb⟩; have n0_ := Aside0.mk (Kd.V_below (by (with_reducible repeat (first | apply Kd.V_alloc | apply Kd.V_drewN | apply Kd.V_drew)); exact HO_3.out) hb); have n1_ := Aside0.mk (Kd.V_below (by (with_reducible repeat (first | apply Kd.V_alloc | apply Kd.V_drewN | apply Kd.V_drew)); exact HO_7.out) hb); have n2_ := Aside0.mk (below_step (by repeat (first | (with_reducible first | exact HB.out | apply below_alloc | apply pw_below_drewN | apply below_drew1) | exact HB.out)) hb); clear HO_3; clear HO_7; clear HB; have HO_3 := n0_; have HO_7 := n1_; have HB := n2_; clear n0_ n1_ n2_; (try clear hb); (try clear hb2); (try clear hk); (try clear hi)) | (go_at_call 13; (with_reducible refine (credenzalaw15_awake.calls k2  t299 _ A41.out).mono ?_); rintro e w43 ⟨rfl, hb⟩; have n0_ := Aside0.mk (Kd.V_below (by (with_reducible repeat (first | apply Kd.V_alloc | apply Kd.V_drewN | apply Kd.V_drew)); exact HO_3.out) hb); have n1_ := Aside0.mk (Kd.V_below (by (with_reducible repeat (first | apply Kd.V_alloc | apply Kd.V_drewN | apply Kd.V_drew)); exact HO_7.out) hb); have n2_ := Aside0.mk (below_step (by repeat (first | (with_reducible first | exact HB.out | apply below_alloc | apply pw_below_drewN | apply below_drew1) | exact HB.out)) hb); clear HO_3; clear HO_7; clear HB; have HO_3 := n0_; have HO_7 := n1_; have HB := n2_; clear n0_ n1_ n2_; (try clear hb); (try clear hb2); (try clear hk); (try clear hi)))
                    repeat (go_quiet (first | (go_at_call 12; (with_reducible refine (version_Compare.calls k2 x4_1 a0 t298 _ A39.out).mono ?_); rintro e w42 ⟨rfl, hb⟩; have n0_ := Aside0.mk (Kd.V_below (by (with_reducible repeat (first | apply Kd.V_alloc | apply Kd.V_drewN | apply Kd.V_drew)); exact HO_3.out) hb); have n1_ := Aside0.mk (Kd.V_below (by (with_reducible repeat (first | apply Kd.V_alloc | apply Kd.V_drewN | apply Kd.V_drew)); exact HO_7.out) hb); have n2_ := Aside0.mk (below_step (by repeat (first | (with_reducible first | exact HB.out | apply below_alloc | apply pw_below_drewN | apply below_drew1) | exact HB.out)) hb); clear HO_3; clear HO_7; clear HB; have HO_3 := n0_; have HO_7 := n1_; have HB := n2_; clear n0_ n1_ n2_; (try clear hb); (try clear hb2); (try clear hk); (try clear hi)) | (go_at_call 13; (with_reducible refine (credenzalaw15_awake.calls k2  t299 _ A41.out).mono ?_); rintro e w43 ⟨rfl, hb⟩; have n0_ := Aside0.mk (Kd.V_below (by (with_reducible repeat (first | apply Kd.V_alloc | apply Kd.V_drewN | apply Kd.V_drew)); exact HO_3.out) hb); have n1_ := Aside0.mk (Kd.V_below (by (with_reducible repeat (first | apply Kd.V_alloc | apply Kd.V_drewN | apply Kd.V_drew)); exact HO_7.out) hb); have n2_ := Aside0.mk (below_step (by repeat (first | (with_reducible first | exact HB.out | apply below_alloc | apply pw_below_drewN | apply below_drew1) | exact HB.out)) hb); clear HO_3; clear HO_7; clear HB; have HO_3 := n0_; have HO_7 := n1_; have HB := n2_; clear n0_ n1_ n2_; (try clear hb); (try clear hb2); (try clear hk); (try clear hi))); try go_wp2_with (first | (go_at_call 12; (with_reducible refine (version_Compare.calls k2 x4_1 a0 t298 _ A39.out).mono ?_); rintro e w42 ⟨rfl, hb⟩; have n0_ := Aside0.mk (Kd.V_below (by (with_reducible repeat (first | apply Kd.V_alloc | apply Kd.V_drewN | apply Kd.V_drew)); exact HO_3.out) hb); have n1_ := Aside0.mk (Kd.V_below (by (with_reducible repeat (first | apply Kd.V_alloc | apply Kd.V_drewN | apply Kd.V_drew)); exact HO_7.out) hb); have n2_ := Aside0.mk (below_step (by repeat (first | (with_reducible first | exact HB.out | apply below_alloc | apply pw_below_drewN | apply below_drew1) | exact HB.out)) hb); clear HO_3; clear HO_7; clear HB; have HO_3 := n0_; have HO_7 := n1_; have HB := n2_; clear n0_ n1_ n2_; (try clear hb); (try clear hb2); (try clear hk); (try clear hi)) | (go_at_call 13; (with_reducible refine (credenzalaw15_awake.calls k2  t299 _ A41.out).mono ?_); rintro e w43 ⟨rfl, hb⟩; have n0_ := Aside0.mk (Kd.V_below (by (with_reducible repeat (first | apply Kd.V_alloc | apply Kd.V_drewN | apply Kd.V_drew)); exact HO_3.out) hb); have n1_ := Aside0.mk (Kd.V_below (by (with_reducible repeat (first | apply Kd.V_alloc | apply Kd.V_drewN | apply Kd.V_drew)); exact HO_7.out) hb); have n2_ := Aside0.mk (below_step (by repeat (first | (with_reducible first | exact HB.out | apply below_alloc | apply pw_below_drewN | apply below_drew1) | exact HB.out)) hb); clear HO_3; clear HO_7; clear HB; have HO_3 := n0_; have HO_7 := n1_; have HB := n2_; clear n0_ n1_ n2_; (try clear hb); (try clear hb2); (try clear hk); (try clear hi))))
                    go_ret
                    exact ⟨by first | rfl | (simp [errW_none, errW_some] <;> rfl) | (simp [*, errW_none, errW_some] <;> rfl), by repeat (first | (with_reducible first | exact HB.out | apply below_alloc | apply pw_below_drewN | apply below_drew1) | exact HB.out)⟩
                  · rw [if_neg c40] at H
                    have c40b0 : (t298 == 0) = false := beq_eq_false_iff_ne.mpr c40
                    have c40b1 : (t298 != 0) = true := bne_iff_ne.mpr c40
                    obtain rfl := Option.some.inj H
                    go_wp2_with (first | (go_at_call 12; (with_reducible refine (version_Compare.calls k2 x4_1 a0 t298 _ A39.out).mono ?_); rintro e w44 ⟨rfl, hb⟩; have n0_ := Aside0.mk (Kd.V_below (by (with_reducible repeat (first | apply Kd.V_alloc | apply Kd.V_drewN | apply Kd.V_drew)); exact HO_3.out) hb); have n1_ := Aside0.mk (Kd.V_below (by (with_reducible repeat (first | apply Kd.V_alloc | apply Kd.V_drewN | apply Kd.V_drew)); exact HO_7.out) hb); have n2_ := Aside0.mk (below_step (by repeat (first | (with_reducible first | exact HB.out | apply below_alloc | apply pw_below_drewN | apply below_drew1) | exact HB.out)) hb); clear HO_3; clear HO_7; clear HB; have HO_3 := n0_; have HO_7 := n1_; have HB := n2_; clear n0_ n1_ n2_; (try clear hb); (try clear hb2); (try clear hk); (try clear hi)))
                    repeat (go_quiet (first | (go_at_call 12; (with_reducible refine (version_Compare.calls k2 x4_1 a0 t298 _ A39.out).mono ?_); rintro e w44 ⟨rfl, hb⟩; have n0_ := Aside0.mk (Kd.V_below (by (with_reducible repeat (first | apply Kd.V_alloc | apply Kd.V_drewN | apply Kd.V_drew)); exact HO_3.out) hb); have n1_ := Aside0.mk (Kd.V_below (by (with_reducible repeat (first | apply Kd.V_alloc | apply Kd.V_drewN | apply Kd.V_drew)); exact HO_7.out) hb); have n2_ := Aside0.mk (below_step (by repeat (first | (with_reducible first | exact HB.out | apply below_alloc | apply pw_below_drewN | apply below_drew1) | exact HB.out)) hb); clear HO_3; clear HO_7; clear HB; have HO_3 := n0_; have HO_7 := n1_; have HB := n2_; clear n0_ n1_ n2_; (try clear hb); (try clear hb2); (try clear hk); (try clear hi))); try go_wp2_with (first | (go_at_call 12; (with_reducible refine (version_Compare.calls k2 x4_1 a0 t298 _ A39.out).mono ?_); rintro e w44 ⟨rfl, hb⟩; have n0_ := Aside0.mk (Kd.V_below (by (with_reducible repeat (first | apply Kd.V_alloc | apply Kd.V_drewN | apply Kd.V_drew)); exact HO_3.out) hb); have n1_ := Aside0.mk (Kd.V_below (by (with_reducible repeat (first | apply Kd.V_alloc | apply Kd.V_drewN | apply Kd.V_drew)); exact HO_7.out) hb); have n2_ := Aside0.mk (below_step (by repeat (first | (with_reducible first | exact HB.out | apply below_alloc | apply pw_below_drewN | apply below_drew1) | exact HB.out)) hb); clear HO_3; clear HO_7; clear HB; have HO_3 := n0_; have HO_7 := n1_; have HB := n2_; clear n0_ n1_ n2_; (try clear hb); (try clear hb2); (try clear hk); (try clear hi))))
                    go_ret
                    exact ⟨by first | rfl | (simp [errW_none, errW_some] <;> rfl) | (simp [*, errW_none, errW_some] <;> rfl), by repeat (first | (with_reducible first | exact HB.out | apply below_alloc | apply pw_below_drewN | apply below_drew1) | exact HB.out)⟩
          · rw [if_neg c31] at H
            have c31b0 : ((t293.length : Int) == (t288.length : Int)) = false := beq_eq_false_iff_ne.mpr c31
            have c31b1 : ((t293.length : Int) != (t288.length : Int)) = true := bne_iff_ne.mpr c31
            have c31b2 : (t293.length == t288.length) = false := by first | simpa using c31 | (simp at c31 ⊢; omega)
            obtain rfl := Option.some.inj H
            obtain ⟨Ao45, co45, eo45⟩ := Kd.V_slice HO_3.out
            subst eo45
            go_wp2_with (first | (go_at_call 16; (with_reducible refine (version_Tokens.calls k1 x4_1 t293 _ A30.out).mono ?_); rintro e w46 ⟨v294, rfl, ho0, hb⟩; have n0_ := Aside0.mk (Kd.V_below (by (with_reducible repeat (first | apply Kd.V_alloc | apply Kd.V_drewN | apply Kd.V_drew)); exact HO_3.out) hb); have n1_ := Aside0.mk (Kd.V_lower (Kd.V_mono (ok' := fun k_ => True) ho0 (fun k_ hk_ => trivial)) (below_size (by repeat (first | (with_reducible first | exact HB.out | apply below_alloc | apply pw_below_drewN | apply below_drew1) | exact HB.out)))); have n2_ := Aside0.mk (below_step (by repeat (first | (with_reducible first | exact HB.out | apply below_alloc | apply pw_below_drewN | apply below_drew1) | exact HB.out)) hb); clear HO_3; clear HB; have HO_3 := n0_; have HO295 := n1_; have HB := n2_; clear n0_ n1_ n2_; (try clear hb); (try clear hb2); (try clear hk); (try clear hi); (try clear ho0); obtain ⟨Ao47, co47, eo47⟩ := Kd.V_slice HO295.out; subst eo47))
            repeat (go_quiet (first | (go_at_call 16; (with_reducible refine (version_Tokens.calls k1 x4_1 t293 _ A30.out).mono ?_); rintro e w46 ⟨v294, rfl, ho0, hb⟩; have n0_ := Aside0.mk (Kd.V_below (by (with_reducible repeat (first | apply Kd.V_alloc | apply Kd.V_drewN | apply Kd.V_drew)); exact HO_3.out) hb); have n1_ := Aside0.mk (Kd.V_lower (Kd.V_mono (ok' := fun k_ => True) ho0 (fun k_ hk_ => trivial)) (below_size (by repeat (first | (with_reducible first | exact HB.out | apply below_alloc | apply pw_below_drewN | apply below_drew1) | exact HB.out)))); have n2_ := Aside0.mk (below_step (by repeat (first | (with_reducible first | exact HB.out | apply below_alloc | apply pw_below_drewN | apply below_drew1) | exact HB.out)) hb); clear HO_3; clear HB; have HO_3 := n0_; have HO295 := n1_; have HB := n2_; clear n0_ n1_ n2_; (try clear hb); (try clear hb2); (try clear hk); (try clear hi); (try clear ho0); obtain ⟨Ao47, co47, eo47⟩ := Kd.V_slice HO295.out; subst eo47)); try go_wp2_with (first | (go_at_call 16; (with_reducible refine (version_Tokens.calls k1 x4_1 t293 _ A30.out).mono ?_); rintro e w46 ⟨v294, rfl, ho0, hb⟩; have n0_ := Aside0.mk (Kd.V_below (by (with_reducible repeat (first | apply Kd.V_alloc | apply Kd.V_drewN | apply Kd.V_drew)); exact HO_3.out) hb); have n1_ := Aside0.mk (Kd.V_lower (Kd.V_mono (ok' := fun k_ => True) ho0 (fun k_ hk_ => trivial)) (below_size (by repeat (first | (with_reducible first | exact HB.out | apply below_alloc | apply pw_below_drewN | apply below_drew1) | exact HB.out)))); have n2_ := Aside0.mk (below_step (by repeat (first | (with_reducible first | exact HB.out | apply below_alloc | apply pw_below_drewN | apply below_drew1) | exact HB.out)) hb); clear HO_3; clear HB; have HO_3 := n0_; have HO295 := n1_; have HB := n2_; clear n0_ n1_ n2_; (try clear hb); (try clear hb2); (try clear hk); (try clear hi); (try clear ho0); obtain ⟨Ao47, co47, eo47⟩ := Kd.V_slice HO295.out; subst eo47)))
            go_ret
            exact ⟨by first | rfl | (simp [errW_none, errW_some] <;> rfl) | (simp [*, errW_none, errW_some] <;> rfl), by repeat (first | (with_reducible first | exact HB.out | apply below_alloc | apply pw_below_drewN | apply below_drew1) | exact HB.out)⟩

/-- THE ONE PURE STATEMENT of credenzalaw15_VersionTokens: yours. -/
def credenzalaw15_VersionTokens.Pure : Prop := ∀ (a0 : ByteArray), a0.size ≤ 140737488351232 → ∃ k, credenzalaw15_VersionTokens.f k a0 = some true
theorem credenzalaw15_VersionTokens.walk (P : credenzalaw15_VersionTokens.Pure) (a0 : ByteArray) (w : World) (w0 : a0.size ≤ 140737488351232) :
    Calls Tryd.prog 9 #[.string a0] w fun e w' => e = .returned (.bool true) ∧ Below w.heap.size w w' := by
  obtain ⟨k, h⟩ := P a0 w0
  refine (credenzalaw15_VersionTokens.calls k a0 true w h).mono ?_
  rintro e w' ⟨rfl, hd⟩
  exact ⟨rfl, hd⟩

end Go.Proofs.YtndpokjakogpnaaDoor.V

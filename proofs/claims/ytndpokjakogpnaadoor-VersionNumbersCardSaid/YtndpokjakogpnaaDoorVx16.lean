-- written by hprint.py (wip/tools): the kit's print with hand contracts
import Derived.Test.YtndpokjakogpnaaDoorVx0
import Derived.Test.YtndpokjakogpnaaDoorVx2
import Derived.Test.YtndpokjakogpnaaDoorVx5
import Derived.Test.YtndpokjakogpnaaDoorVx6
import Derived.Test.YtndpokjakogpnaaDoorVx15
namespace Go.Proofs.YtndpokjakogpnaaDoor.V
open Go.RowKit Go.Proofs.YtndpokjakogpnaaDoorW.PrintWords Go.Proofs.YtndpokjakogpnaaDoorW.PrintLast Go.Proofs.YtndpokjakogpnaaDoorW.PrintMore
attribute [local go_sem] max2_int min2_int max_two min_two max_three min_three max_four min_four   -- for this text's walks alone
set_option linter.unusedVariables false
set_option linter.unusedSimpArgs false

/-! ### credenzalaw15_VersionNumbers: function 7 -/
mutual
def credenzalaw15_VersionNumbers.j0 : Nat → Int → Int → ByteArray → ByteArray → Int → Option (Bool)
  | 0, _, _, _, _, _ => none
  | k + 1, x0, x1, x12, x13, x14 => if x0 > x1 then (credenzalaw15_VersionNumbers.j1 k x12 x13 1) else (credenzalaw15_VersionNumbers.j1 k x12 x13 x14)
def credenzalaw15_VersionNumbers.j1 : Nat → ByteArray → ByteArray → Int → Option (Bool)
  | 0, _, _, _ => none
  | k + 1, x12, x13, x14 => (version_Compare.f k x12 x13).bind fun t267 => (if t267 = x14 then (if x12.size + 2 ≤ 9223372036854775807 then ((version_Compare.f k (x12 ++ (⟨#[46, 49]⟩ : ByteArray)) x13).bind fun t268 => ((credenzalaw15_map3.f x14).bind fun t269 => (if t268 = t269 then ((credenzalaw15_awake.f k).bind fun t270 => (some t270)) else (some false)))) else (none)) else (some false))
end
def credenzalaw15_VersionNumbers.f (k : Nat) (a0 : Int) (a1 : Int) (a2 : Int) (a3 : Int) (a4 : ByteArray) : Option (Bool) := if (a4.size : Int) > 100 then ((credenzalaw15_awake.f k).bind fun t262 => (some t262)) else (if a4.size + 1 ≤ 9223372036854775807 then ((credenzalaw15_VersionNumbers_1.f k a2).bind fun t263 => (if (a4 ++ (⟨#[46]⟩ : ByteArray)).size + t263.size ≤ 9223372036854775807 then ((credenzaref2_Num.f k (Go.bits .and .i64 a0 16777215)).bind fun t264 => (if ((a4 ++ (⟨#[46]⟩ : ByteArray)) ++ t263).size + t264.size ≤ 9223372036854775807 then ((credenzalaw15_VersionNumbers_1.f k a3).bind fun t265 => (if (a4 ++ (⟨#[46]⟩ : ByteArray)).size + t265.size ≤ 9223372036854775807 then ((credenzaref2_Num.f k (Go.bits .and .i64 a1 16777215)).bind fun t266 => (if ((a4 ++ (⟨#[46]⟩ : ByteArray)) ++ t265).size + t266.size ≤ 9223372036854775807 then (if (Go.bits .and .i64 a0 16777215) < (Go.bits .and .i64 a1 16777215) then (credenzalaw15_VersionNumbers.j0 k (Go.bits .and .i64 a0 16777215) (Go.bits .and .i64 a1 16777215) (((a4 ++ (⟨#[46]⟩ : ByteArray)) ++ t263) ++ t264) (((a4 ++ (⟨#[46]⟩ : ByteArray)) ++ t265) ++ t266) (-1)) else (credenzalaw15_VersionNumbers.j0 k (Go.bits .and .i64 a0 16777215) (Go.bits .and .i64 a1 16777215) (((a4 ++ (⟨#[46]⟩ : ByteArray)) ++ t263) ++ t264) (((a4 ++ (⟨#[46]⟩ : ByteArray)) ++ t265) ++ t266) 0)) else (none))) else (none))) else (none))) else (none))) else (none))
theorem credenzalaw15_VersionNumbers.mono_l : ∀ k, (∀ y0 y1 y2 y3 y4, LeO (credenzalaw15_VersionNumbers.j0 k y0 y1 y2 y3 y4) (credenzalaw15_VersionNumbers.j0 (k + 1) y0 y1 y2 y3 y4)) ∧ (∀ y0 y1 y2, LeO (credenzalaw15_VersionNumbers.j1 k y0 y1 y2) (credenzalaw15_VersionNumbers.j1 (k + 1) y0 y1 y2))
  | 0 => ⟨fun _ _ _ _ _ r h => by simp [credenzalaw15_VersionNumbers.j0] at h, fun _ _ _ r h => by simp [credenzalaw15_VersionNumbers.j1] at h⟩
  | k + 1 => by
    obtain ⟨ih0, ih1⟩ := credenzalaw15_VersionNumbers.mono_l k
    refine ⟨?_, ?_⟩
    · intro y0 y1 y2 y3 y4
      unfold credenzalaw15_VersionNumbers.j0
      repeat' first
      | (with_reducible exact ih0 _ _ _ _ _)
      | (with_reducible exact ih1 _ _ _)
      | (with_reducible exact credenzalaw15_VersionNumbers_1.mono _ _)
      | (with_reducible exact credenzalaw15_awake.mono _)
      | (with_reducible exact credenzaref2_Num.mono _ _)
      | (with_reducible exact version_Compare.mono _ _ _)
      | (with_reducible exact LeO.refl _)
      | (with_reducible exact LeO.none _)
      | (with_reducible refine LeO.ite ?_ ?_)
      | (with_reducible refine LeO.bind ?_ (fun _ => ?_))
      | exact ih0 _ _ _ _ _
      | exact ih1 _ _ _
      | exact credenzalaw15_VersionNumbers_1.mono _ _
      | exact credenzalaw15_awake.mono _
      | exact credenzaref2_Num.mono _ _
      | exact version_Compare.mono _ _ _
      | exact LeO.none _
      | refine LeO.ite ?_ ?_
      | refine LeO.bind ?_ (fun _ => ?_)
    · intro y0 y1 y2
      unfold credenzalaw15_VersionNumbers.j1
      repeat' first
      | (with_reducible exact ih0 _ _ _ _ _)
      | (with_reducible exact ih1 _ _ _)
      | (with_reducible exact credenzalaw15_VersionNumbers_1.mono _ _)
      | (with_reducible exact credenzalaw15_awake.mono _)
      | (with_reducible exact credenzaref2_Num.mono _ _)
      | (with_reducible exact version_Compare.mono _ _ _)
      | (with_reducible exact LeO.refl _)
      | (with_reducible exact LeO.none _)
      | (with_reducible refine LeO.ite ?_ ?_)
      | (with_reducible refine LeO.bind ?_ (fun _ => ?_))
      | exact ih0 _ _ _ _ _
      | exact ih1 _ _ _
      | exact credenzalaw15_VersionNumbers_1.mono _ _
      | exact credenzalaw15_awake.mono _
      | exact credenzaref2_Num.mono _ _
      | exact version_Compare.mono _ _ _
      | exact LeO.none _
      | refine LeO.ite ?_ ?_
      | refine LeO.bind ?_ (fun _ => ?_)
theorem credenzalaw15_VersionNumbers.mono : ∀ a0 a1 a2 a3 a4 k, LeO (credenzalaw15_VersionNumbers.f k a0 a1 a2 a3 a4) (credenzalaw15_VersionNumbers.f (k + 1) a0 a1 a2 a3 a4) := by
  intro a0 a1 a2 a3 a4 k
  obtain ⟨ih0, ih1⟩ := credenzalaw15_VersionNumbers.mono_l k
  unfold credenzalaw15_VersionNumbers.f
  repeat' first
      | (with_reducible exact ih0 _ _ _ _ _)
      | (with_reducible exact ih1 _ _ _)
      | (with_reducible exact credenzalaw15_VersionNumbers_1.mono _ _)
      | (with_reducible exact credenzalaw15_awake.mono _)
      | (with_reducible exact credenzaref2_Num.mono _ _)
      | (with_reducible exact version_Compare.mono _ _ _)
      | (with_reducible exact LeO.refl _)
      | (with_reducible exact LeO.none _)
      | (with_reducible refine LeO.ite ?_ ?_)
      | (with_reducible refine LeO.bind ?_ (fun _ => ?_))
      | exact ih0 _ _ _ _ _
      | exact ih1 _ _ _
      | exact credenzalaw15_VersionNumbers_1.mono _ _
      | exact credenzalaw15_awake.mono _
      | exact credenzaref2_Num.mono _ _
      | exact version_Compare.mono _ _ _
      | exact LeO.none _
      | refine LeO.ite ?_ ?_
      | refine LeO.bind ?_ (fun _ => ?_)
set_option maxHeartbeats 8000000 in
set_option maxRecDepth 100000 in
theorem credenzalaw15_VersionNumbers.calls (k : Nat) (a0 : Int) (a1 : Int) (a2 : Int) (a3 : Int) (a4 : ByteArray) (r : Bool) (w : World) (h : credenzalaw15_VersionNumbers.f k a0 a1 a2 a3 a4 = some r) :
    Calls Tryd.prog 7 #[.int .i64 a0, .int .i64 a1, .int .i64 a2, .int .i64 a3, .string a4] w fun e w' => e = .returned (.bool r) ∧ Below w.heap.size w w' := by
  have HB := Aside0.mk (Below.refl w.heap.size w)
  have H : (if (a4.size : Int) > 100 then ((credenzalaw15_awake.f k).bind fun t262 => (some t262)) else (if a4.size + 1 ≤ 9223372036854775807 then ((credenzalaw15_VersionNumbers_1.f k a2).bind fun t263 => (if (a4 ++ (⟨#[46]⟩ : ByteArray)).size + t263.size ≤ 9223372036854775807 then ((credenzaref2_Num.f k (Go.bits .and .i64 a0 16777215)).bind fun t264 => (if ((a4 ++ (⟨#[46]⟩ : ByteArray)) ++ t263).size + t264.size ≤ 9223372036854775807 then ((credenzalaw15_VersionNumbers_1.f k a3).bind fun t265 => (if (a4 ++ (⟨#[46]⟩ : ByteArray)).size + t265.size ≤ 9223372036854775807 then ((credenzaref2_Num.f k (Go.bits .and .i64 a1 16777215)).bind fun t266 => (if ((a4 ++ (⟨#[46]⟩ : ByteArray)) ++ t265).size + t266.size ≤ 9223372036854775807 then (if (Go.bits .and .i64 a0 16777215) < (Go.bits .and .i64 a1 16777215) then (credenzalaw15_VersionNumbers.j0 k (Go.bits .and .i64 a0 16777215) (Go.bits .and .i64 a1 16777215) (((a4 ++ (⟨#[46]⟩ : ByteArray)) ++ t263) ++ t264) (((a4 ++ (⟨#[46]⟩ : ByteArray)) ++ t265) ++ t266) (-1)) else (credenzalaw15_VersionNumbers.j0 k (Go.bits .and .i64 a0 16777215) (Go.bits .and .i64 a1 16777215) (((a4 ++ (⟨#[46]⟩ : ByteArray)) ++ t263) ++ t264) (((a4 ++ (⟨#[46]⟩ : ByteArray)) ++ t265) ++ t266) 0)) else (none))) else (none))) else (none))) else (none))) else (none))) = some r := h
  clear h
  by_cases c6 : (a4.size : Int) > 100
  · rw [if_pos c6] at H
    have c6b0 : decide (100 < (a4.size : Int)) = true := decide_eq_true c6
    have c6b1 : decide (100 < a4.size) = true := decide_eq_true (by omega)
    clear c6
    replace H := Option.bind_eq_some_iff.mp H
    obtain ⟨t262, A70, H⟩ := H
    replace H : (some t262) = some r := H
    have A7 := Aside0.mk A70
    clear A70
    obtain rfl := Option.some.inj H
    go_enter Tryd.func7, Tryd.ntmps7
    go_wp2_with (first | ((with_reducible refine gate_callee (f := 13) rfl ?_); refine goesL_ (some 18) rfl rfl Tryd.func13 (by kernel_rfl) rfl #[] rfl (by (try simp only [List.map_toArray, List.map_cons, List.map_nil]); first | done | rfl | (simp only [List.length_drop, List.length_take]; rfl)) ?_; (with_reducible refine (credenzalaw15_awake.calls k  t262 _ A7.out).mono ?_); rintro e w8 ⟨rfl, hb⟩; refine ⟨_, rfl, ?_⟩; have n0_ := Aside0.mk (below_step (by repeat (first | (with_reducible first | exact HB.out | apply below_alloc | apply pw_below_drewN | apply below_drew1) | exact HB.out)) hb); clear HB; have HB := n0_; clear n0_; (try clear hb); (try clear hb2); (try clear hk); (try clear hi)))
    go_ret
    exact ⟨by first | rfl | (simp [errW_none, errW_some] <;> rfl) | (simp [*, errW_none, errW_some] <;> rfl), by repeat (first | (with_reducible first | exact HB.out | apply below_alloc | apply pw_below_drewN | apply below_drew1) | exact HB.out)⟩
  · rw [if_neg c6] at H
    have c6b0 : decide (100 < (a4.size : Int)) = false := decide_eq_false c6
    have c6b1 : decide (100 < a4.size) = false := decide_eq_false (by omega)
    clear c6
    by_cases c9 : a4.size + 1 ≤ 9223372036854775807
    · rw [if_pos c9] at H
      have c9b0 := eq_true c9
      have c9b1 : decide (a4.size + 1 ≤ 9223372036854775807) = true := decide_eq_true c9
      try have c9b2 : (9223372036854775807 < a4.size + 1) = False := eq_false (Nat.not_lt.2 c9)
      replace H := Option.bind_eq_some_iff.mp H
      obtain ⟨t263, A100, H⟩ := H
      replace H : (if (a4 ++ (⟨#[46]⟩ : ByteArray)).size + t263.size ≤ 9223372036854775807 then ((credenzaref2_Num.f k (Go.bits .and .i64 a0 16777215)).bind fun t264 => (if ((a4 ++ (⟨#[46]⟩ : ByteArray)) ++ t263).size + t264.size ≤ 9223372036854775807 then ((credenzalaw15_VersionNumbers_1.f k a3).bind fun t265 => (if (a4 ++ (⟨#[46]⟩ : ByteArray)).size + t265.size ≤ 9223372036854775807 then ((credenzaref2_Num.f k (Go.bits .and .i64 a1 16777215)).bind fun t266 => (if ((a4 ++ (⟨#[46]⟩ : ByteArray)) ++ t265).size + t266.size ≤ 9223372036854775807 then (if (Go.bits .and .i64 a0 16777215) < (Go.bits .and .i64 a1 16777215) then (credenzalaw15_VersionNumbers.j0 k (Go.bits .and .i64 a0 16777215) (Go.bits .and .i64 a1 16777215) (((a4 ++ (⟨#[46]⟩ : ByteArray)) ++ t263) ++ t264) (((a4 ++ (⟨#[46]⟩ : ByteArray)) ++ t265) ++ t266) (-1)) else (credenzalaw15_VersionNumbers.j0 k (Go.bits .and .i64 a0 16777215) (Go.bits .and .i64 a1 16777215) (((a4 ++ (⟨#[46]⟩ : ByteArray)) ++ t263) ++ t264) (((a4 ++ (⟨#[46]⟩ : ByteArray)) ++ t265) ++ t266) 0)) else (none))) else (none))) else (none))) else (none)) = some r := H
      have A10 := Aside0.mk A100
      clear A100
      by_cases c11 : (a4 ++ (⟨#[46]⟩ : ByteArray)).size + t263.size ≤ 9223372036854775807
      · rw [if_pos c11] at H
        have c11b0 := eq_true c11
        have c11b1 : decide ((a4 ++ (⟨#[46]⟩ : ByteArray)).size + t263.size ≤ 9223372036854775807) = true := decide_eq_true c11
        try have c11b2 : (9223372036854775807 < (a4 ++ (⟨#[46]⟩ : ByteArray)).size + t263.size) = False := eq_false (Nat.not_lt.2 c11)
        (try (have c11n : a4.size + 1 + t263.size ≤ 9223372036854775807 := by (have z_ := c11; simp only [ByteArray.size_append] at z_; exact z_)))
        (try (have c11n0 := eq_true c11n))
        (try (have c11n1 : decide (a4.size + 1 + t263.size ≤ 9223372036854775807) = true := decide_eq_true c11n))
        (try (have c11n2 : (9223372036854775807 < a4.size + 1 + t263.size) = False := eq_false (Nat.not_lt.2 c11n)))
        replace H := Option.bind_eq_some_iff.mp H
        obtain ⟨t264, A120, H⟩ := H
        replace H : (if ((a4 ++ (⟨#[46]⟩ : ByteArray)) ++ t263).size + t264.size ≤ 9223372036854775807 then ((credenzalaw15_VersionNumbers_1.f k a3).bind fun t265 => (if (a4 ++ (⟨#[46]⟩ : ByteArray)).size + t265.size ≤ 9223372036854775807 then ((credenzaref2_Num.f k (Go.bits .and .i64 a1 16777215)).bind fun t266 => (if ((a4 ++ (⟨#[46]⟩ : ByteArray)) ++ t265).size + t266.size ≤ 9223372036854775807 then (if (Go.bits .and .i64 a0 16777215) < (Go.bits .and .i64 a1 16777215) then (credenzalaw15_VersionNumbers.j0 k (Go.bits .and .i64 a0 16777215) (Go.bits .and .i64 a1 16777215) (((a4 ++ (⟨#[46]⟩ : ByteArray)) ++ t263) ++ t264) (((a4 ++ (⟨#[46]⟩ : ByteArray)) ++ t265) ++ t266) (-1)) else (credenzalaw15_VersionNumbers.j0 k (Go.bits .and .i64 a0 16777215) (Go.bits .and .i64 a1 16777215) (((a4 ++ (⟨#[46]⟩ : ByteArray)) ++ t263) ++ t264) (((a4 ++ (⟨#[46]⟩ : ByteArray)) ++ t265) ++ t266) 0)) else (none))) else (none))) else (none)) = some r := H
        have A12 := Aside0.mk A120
        clear A120
        by_cases c13 : ((a4 ++ (⟨#[46]⟩ : ByteArray)) ++ t263).size + t264.size ≤ 9223372036854775807
        · rw [if_pos c13] at H
          have c13b0 := eq_true c13
          have c13b1 : decide (((a4 ++ (⟨#[46]⟩ : ByteArray)) ++ t263).size + t264.size ≤ 9223372036854775807) = true := decide_eq_true c13
          try have c13b2 : (9223372036854775807 < ((a4 ++ (⟨#[46]⟩ : ByteArray)) ++ t263).size + t264.size) = False := eq_false (Nat.not_lt.2 c13)
          (try (have c13n : a4.size + 1 + t263.size + t264.size ≤ 9223372036854775807 := by (have z_ := c13; simp only [ByteArray.size_append] at z_; exact z_)))
          (try (have c13n0 := eq_true c13n))
          (try (have c13n1 : decide (a4.size + 1 + t263.size + t264.size ≤ 9223372036854775807) = true := decide_eq_true c13n))
          (try (have c13n2 : (9223372036854775807 < a4.size + 1 + t263.size + t264.size) = False := eq_false (Nat.not_lt.2 c13n)))
          replace H := Option.bind_eq_some_iff.mp H
          obtain ⟨t265, A140, H⟩ := H
          replace H : (if (a4 ++ (⟨#[46]⟩ : ByteArray)).size + t265.size ≤ 9223372036854775807 then ((credenzaref2_Num.f k (Go.bits .and .i64 a1 16777215)).bind fun t266 => (if ((a4 ++ (⟨#[46]⟩ : ByteArray)) ++ t265).size + t266.size ≤ 9223372036854775807 then (if (Go.bits .and .i64 a0 16777215) < (Go.bits .and .i64 a1 16777215) then (credenzalaw15_VersionNumbers.j0 k (Go.bits .and .i64 a0 16777215) (Go.bits .and .i64 a1 16777215) (((a4 ++ (⟨#[46]⟩ : ByteArray)) ++ t263) ++ t264) (((a4 ++ (⟨#[46]⟩ : ByteArray)) ++ t265) ++ t266) (-1)) else (credenzalaw15_VersionNumbers.j0 k (Go.bits .and .i64 a0 16777215) (Go.bits .and .i64 a1 16777215) (((a4 ++ (⟨#[46]⟩ : ByteArray)) ++ t263) ++ t264) (((a4 ++ (⟨#[46]⟩ : ByteArray)) ++ t265) ++ t266) 0)) else (none))) else (none)) = some r := H
          have A14 := Aside0.mk A140
          clear A140
          by_cases c15 : (a4 ++ (⟨#[46]⟩ : ByteArray)).size + t265.size ≤ 9223372036854775807
          · rw [if_pos c15] at H
            have c15b0 := eq_true c15
            have c15b1 : decide ((a4 ++ (⟨#[46]⟩ : ByteArray)).size + t265.size ≤ 9223372036854775807) = true := decide_eq_true c15
            try have c15b2 : (9223372036854775807 < (a4 ++ (⟨#[46]⟩ : ByteArray)).size + t265.size) = False := eq_false (Nat.not_lt.2 c15)
            (try (have c15n : a4.size + 1 + t265.size ≤ 9223372036854775807 := by (have z_ := c15; simp only [ByteArray.size_append] at z_; exact z_)))
            (try (have c15n0 := eq_true c15n))
            (try (have c15n1 : decide (a4.size + 1 + t265.size ≤ 9223372036854775807) = true := decide_eq_true c15n))
            (try (have c15n2 : (9223372036854775807 < a4.size + 1 + t265.size) = False := eq_false (Nat.not_lt.2 c15n)))
            replace H := Option.bind_eq_some_iff.mp H
            obtain ⟨t266, A160, H⟩ := H
            replace H : (if ((a4 ++ (⟨#[46]⟩ : ByteArray)) ++ t265).size + t266.size ≤ 9223372036854775807 then (if (Go.bits .and .i64 a0 16777215) < (Go.bits .and .i64 a1 16777215) then (credenzalaw15_VersionNumbers.j0 k (Go.bits .and .i64 a0 16777215) (Go.bits .and .i64 a1 16777215) (((a4 ++ (⟨#[46]⟩ : ByteArray)) ++ t263) ++ t264) (((a4 ++ (⟨#[46]⟩ : ByteArray)) ++ t265) ++ t266) (-1)) else (credenzalaw15_VersionNumbers.j0 k (Go.bits .and .i64 a0 16777215) (Go.bits .and .i64 a1 16777215) (((a4 ++ (⟨#[46]⟩ : ByteArray)) ++ t263) ++ t264) (((a4 ++ (⟨#[46]⟩ : ByteArray)) ++ t265) ++ t266) 0)) else (none)) = some r := H
            have A16 := Aside0.mk A160
            clear A160
            by_cases c17 : ((a4 ++ (⟨#[46]⟩ : ByteArray)) ++ t265).size + t266.size ≤ 9223372036854775807
            · rw [if_pos c17] at H
              have c17b0 := eq_true c17
              have c17b1 : decide (((a4 ++ (⟨#[46]⟩ : ByteArray)) ++ t265).size + t266.size ≤ 9223372036854775807) = true := decide_eq_true c17
              try have c17b2 : (9223372036854775807 < ((a4 ++ (⟨#[46]⟩ : ByteArray)) ++ t265).size + t266.size) = False := eq_false (Nat.not_lt.2 c17)
              (try (have c17n : a4.size + 1 + t265.size + t266.size ≤ 9223372036854775807 := by (have z_ := c17; simp only [ByteArray.size_append] at z_; exact z_)))
              (try (have c17n0 := eq_true c17n))
              (try (have c17n1 : decide (a4.size + 1 + t265.size + t266.size ≤ 9223372036854775807) = true := decide_eq_true c17n))
              (try (have c17n2 : (9223372036854775807 < a4.size + 1 + t265.size + t266.size) = False := eq_false (Nat.not_lt.2 c17n)))
              have HC18 := Aside0.mk H
              clear H
              go_enter Tryd.func7, Tryd.ntmps7
              go_upto_if 43 with (first | (go_at_call 19; (with_reducible refine (credenzalaw15_VersionNumbers_1.calls k a2 t263 _ A10.out).mono ?_); rintro e w19 ⟨rfl, hb⟩; have n0_ := Aside0.mk (below_step (by repeat (first | (with_reducible first | exact HB.out | apply below_alloc | apply pw_below_drewN | apply below_drew1) | exact HB.out)) hb); clear HB; have HB := n0_; clear n0_; (try clear hb); (try clear hb2); (try clear hk); (try clear hi)) | ((with_reducible refine gate_callee (f := 11) rfl ?_); refine goesL_ (some 30) rfl rfl Tryd.func11 (by kernel_rfl) rfl #[.int .i64 (Go.bits .and .i64 a0 16777215)] rfl (by (try simp only [List.map_toArray, List.map_cons, List.map_nil]); first | done | rfl | (simp only [List.length_drop, List.length_take]; rfl)) ?_; (with_reducible refine (credenzaref2_Num.calls k (Go.bits .and .i64 a0 16777215) t264 _ A12.out).mono ?_); rintro e w' ⟨rfl, ⟨nd, rfl⟩⟩; refine ⟨_, rfl, ?_⟩) | (go_at_call 19; (with_reducible refine (credenzalaw15_VersionNumbers_1.calls k a3 t265 _ A14.out).mono ?_); rintro e w20 ⟨rfl, hb⟩; have n0_ := Aside0.mk (below_step (by repeat (first | (with_reducible first | exact HB.out | apply below_alloc | apply pw_below_drewN | apply below_drew1) | exact HB.out)) hb); clear HB; have HB := n0_; clear n0_; (try clear hb); (try clear hb2); (try clear hk); (try clear hi)) | ((with_reducible refine gate_callee (f := 11) rfl ?_); refine goesL_ (some 39) rfl rfl Tryd.func11 (by kernel_rfl) rfl #[.int .i64 (Go.bits .and .i64 a1 16777215)] rfl (by (try simp only [List.map_toArray, List.map_cons, List.map_nil]); first | done | rfl | (simp only [List.length_drop, List.length_take]; rfl)) ?_; (with_reducible refine (credenzaref2_Num.calls k (Go.bits .and .i64 a1 16777215) t266 _ A16.out).mono ?_); rintro e w' ⟨rfl, ⟨nd, rfl⟩⟩; refine ⟨_, rfl, ?_⟩))
              (try simp only [Act.put, List.setIfInBounds_toArray, List.set_cons_zero, List.set_cons_succ])
              go_cut [14] (fun v14 wc => ∃ (kq : Nat) (x14_17 : Int), v14 = .int .i64 x14_17 ∧ Aside0 (credenzalaw15_VersionNumbers.j0 kq (Go.bits .and .i64 a0 16777215) (Go.bits .and .i64 a1 16777215) (((a4 ++ (⟨#[46]⟩ : ByteArray)) ++ t263) ++ t264) (((a4 ++ (⟨#[46]⟩ : ByteArray)) ++ t265) ++ t266) x14_17 = some r) ∧ Aside0 (kq ≤ k) ∧ Aside0 (Below w.heap.size w wc))
              case first =>
                have H := HC18.out
                clear HC18
                by_cases c21 : (Go.bits .and .i64 a0 16777215) < (Go.bits .and .i64 a1 16777215)
                · rw [if_pos c21] at H
                  have c21b0 : decide ((Go.bits .and .i64 a0 16777215) < (Go.bits .and .i64 a1 16777215)) = true := decide_eq_true c21
                  clear c21
                  (first | rw [c21b0] | (simp only [i64_w, i32_w]; rw [c21b0]) | skip)
                  have H' := Aside0.mk H
                  clear H
                  go_wp2
                  go_meet
                  case rel => exact ⟨_, ((-1)), (by first | rfl | (simp; done) | (simp [*]; done)), H', ⟨by first | omega | exact Nat.le_refl _⟩, ⟨by repeat (first | (with_reducible first | exact HB.out | apply below_alloc | apply pw_below_drewN | apply below_drew1) | exact HB.out)⟩⟩
                · rw [if_neg c21] at H
                  have c21b0 : decide ((Go.bits .and .i64 a0 16777215) < (Go.bits .and .i64 a1 16777215)) = false := decide_eq_false c21
                  clear c21
                  (first | rw [c21b0] | (simp only [i64_w, i32_w]; rw [c21b0]) | skip)
                  have H' := Aside0.mk H
                  clear H
                  go_wp2
                  go_meet
                  case rel => exact ⟨_, (0), (by first | rfl | (simp; done) | (simp [*]; done)), H', ⟨by first | omega | exact Nat.le_refl _⟩, ⟨by repeat (first | (with_reducible first | exact HB.out | apply below_alloc | apply pw_below_drewN | apply below_drew1) | exact HB.out)⟩⟩
              case rest =>
                clear HC18
                try clear c1
                try clear c2
                try clear p2
                try clear c6
                try clear c6b0
                try clear c6b1
                try clear c7
                try clear c9
                try clear c9b0
                try clear c9b1
                try clear c9b2
                try clear c11
                try clear c11b0
                try clear c11b1
                try clear c11b2
                try clear c13
                try clear c13b0
                try clear c13b1
                try clear c13b2
                try clear c15
                try clear c15b0
                try clear c15b1
                try clear c15b2
                try clear c17
                try clear c17b0
                try clear c17b1
                try clear c17b2
                try clear c19
                try clear c21
                try clear c21b0
                obtain ⟨kq, x14_17, rfl, HA, HJ17, HB⟩ := hcut
                cases kq with
                | zero => exact absurd HA.out (by simp [credenzalaw15_VersionNumbers.j0])
                | succ kj17 =>
                  have H := HA.out
                  clear HA
                  simp only [credenzalaw15_VersionNumbers.j0] at H
                  have HC22 := Aside0.mk H
                  clear H
                  go_upto_if 46 with (fail)
                  go_cut [14] (fun v14 wc => ∃ (kq : Nat) (x14_21 : Int), v14 = .int .i64 x14_21 ∧ Aside0 (credenzalaw15_VersionNumbers.j1 kq (((a4 ++ (⟨#[46]⟩ : ByteArray)) ++ t263) ++ t264) (((a4 ++ (⟨#[46]⟩ : ByteArray)) ++ t265) ++ t266) x14_21 = some r) ∧ Aside0 (kq ≤ kj17) ∧ Aside0 (Below w.heap.size w wc))
                  case first =>
                    have H := HC22.out
                    clear HC22
                    by_cases c23 : (Go.bits .and .i64 a0 16777215) > (Go.bits .and .i64 a1 16777215)
                    · rw [if_pos c23] at H
                      have c23b0 : decide ((Go.bits .and .i64 a1 16777215) < (Go.bits .and .i64 a0 16777215)) = true := decide_eq_true c23
                      clear c23
                      (first | rw [c23b0] | (simp only [i64_w, i32_w]; rw [c23b0]) | skip)
                      have H' := Aside0.mk H
                      clear H
                      go_wp2
                      go_meet
                      case rel => exact ⟨_, (1), (by first | rfl | (simp; done) | (simp [*]; done)), H', ⟨by have := HJ17.out; first | omega | exact Nat.le_refl _⟩, ⟨by repeat (first | (with_reducible first | exact HB.out | apply below_alloc | apply pw_below_drewN | apply below_drew1) | exact HB.out)⟩⟩
                    · rw [if_neg c23] at H
                      have c23b0 : decide ((Go.bits .and .i64 a1 16777215) < (Go.bits .and .i64 a0 16777215)) = false := decide_eq_false c23
                      clear c23
                      (first | rw [c23b0] | (simp only [i64_w, i32_w]; rw [c23b0]) | skip)
                      have H' := Aside0.mk H
                      clear H
                      go_wp2
                      go_meet
                      case rel => exact ⟨_, (x14_17), (by first | rfl | (simp; done) | (simp [*]; done)), H', ⟨by have := HJ17.out; first | omega | exact Nat.le_refl _⟩, ⟨by repeat (first | (with_reducible first | exact HB.out | apply below_alloc | apply pw_below_drewN | apply below_drew1) | exact HB.out)⟩⟩
                  case rest =>
                    clear HC22
                    try clear c1
                    try clear c2
                    try clear p2
                    try clear c6
                    try clear c6b0
                    try clear c6b1
                    try clear c7
                    try clear c9
                    try clear c9b0
                    try clear c9b1
                    try clear c9b2
                    try clear c11
                    try clear c11b0
                    try clear c11b1
                    try clear c11b2
                    try clear c13
                    try clear c13b0
                    try clear c13b1
                    try clear c13b2
                    try clear c15
                    try clear c15b0
                    try clear c15b1
                    try clear c15b2
                    try clear c17
                    try clear c17b0
                    try clear c17b1
                    try clear c17b2
                    try clear c19
                    try clear c21
                    try clear c21b0
                    try clear c23
                    try clear c23b0
                    try clear p2
                    obtain ⟨kq, x14_21, rfl, HA, HJ21, HB⟩ := hcut
                    cases kq with
                    | zero => exact absurd HA.out (by simp [credenzalaw15_VersionNumbers.j1])
                    | succ kj21 =>
                      have H := HA.out
                      clear HA
                      simp only [credenzalaw15_VersionNumbers.j1] at H
                      replace H := Option.bind_eq_some_iff.mp H
                      obtain ⟨t267, A240, H⟩ := H
                      replace H : (if t267 = x14_21 then (if (((a4 ++ (⟨#[46]⟩ : ByteArray)) ++ t263) ++ t264).size + 2 ≤ 9223372036854775807 then ((version_Compare.f kj21 ((((a4 ++ (⟨#[46]⟩ : ByteArray)) ++ t263) ++ t264) ++ (⟨#[46, 49]⟩ : ByteArray)) (((a4 ++ (⟨#[46]⟩ : ByteArray)) ++ t265) ++ t266)).bind fun t268 => ((credenzalaw15_map3.f x14_21).bind fun t269 => (if t268 = t269 then ((credenzalaw15_awake.f kj21).bind fun t270 => (some t270)) else (some false)))) else (none)) else (some false)) = some r := H
                      have A24 := Aside0.mk A240
                      clear A240
                      by_cases c25 : t267 = x14_21
                      · rw [if_pos c25] at H
                        have c25b0 : (t267 == x14_21) = true := beq_iff_eq.mpr c25
                        have c25b1 : (t267 != x14_21) = false := bne_eq_false_iff_eq.mpr c25
                        clear c25
                        by_cases c26 : (((a4 ++ (⟨#[46]⟩ : ByteArray)) ++ t263) ++ t264).size + 2 ≤ 9223372036854775807
                        · rw [if_pos c26] at H
                          have c26b0 := eq_true c26
                          have c26b1 : decide ((((a4 ++ (⟨#[46]⟩ : ByteArray)) ++ t263) ++ t264).size + 2 ≤ 9223372036854775807) = true := decide_eq_true c26
                          try have c26b2 : (9223372036854775807 < (((a4 ++ (⟨#[46]⟩ : ByteArray)) ++ t263) ++ t264).size + 2) = False := eq_false (Nat.not_lt.2 c26)
                          (try (have c26n : a4.size + 1 + t263.size + t264.size + 2 ≤ 9223372036854775807 := by (have z_ := c26; simp only [ByteArray.size_append] at z_; exact z_)))
                          (try (have c26n0 := eq_true c26n))
                          (try (have c26n1 : decide (a4.size + 1 + t263.size + t264.size + 2 ≤ 9223372036854775807) = true := decide_eq_true c26n))
                          (try (have c26n2 : (9223372036854775807 < a4.size + 1 + t263.size + t264.size + 2) = False := eq_false (Nat.not_lt.2 c26n)))
                          replace H := Option.bind_eq_some_iff.mp H
                          obtain ⟨t268, A270, H⟩ := H
                          replace H : ((credenzalaw15_map3.f x14_21).bind fun t269 => (if t268 = t269 then ((credenzalaw15_awake.f kj21).bind fun t270 => (some t270)) else (some false))) = some r := H
                          have A27 := Aside0.mk A270
                          clear A270
                          replace H := Option.bind_eq_some_iff.mp H
                          obtain ⟨t269, A280, H⟩ := H
                          replace H : (if t268 = t269 then ((credenzalaw15_awake.f kj21).bind fun t270 => (some t270)) else (some false)) = some r := H
                          have A28 := Aside0.mk A280
                          clear A280
                          by_cases c29 : t268 = t269
                          · rw [if_pos c29] at H
                            have c29b0 : (t268 == t269) = true := beq_iff_eq.mpr c29
                            have c29b1 : (t268 != t269) = false := bne_eq_false_iff_eq.mpr c29
                            clear c29
                            replace H := Option.bind_eq_some_iff.mp H
                            obtain ⟨t270, A300, H⟩ := H
                            replace H : (some t270) = some r := H
                            have A30 := Aside0.mk A300
                            clear A300
                            obtain rfl := Option.some.inj H
                            go_wp2_with (first | ((with_reducible refine gate_callee (f := 12) rfl ?_); refine goesL_ (some 49) rfl rfl Tryd.func12 (by kernel_rfl) rfl #[.string (((a4 ++ (⟨#[46]⟩ : ByteArray)) ++ t263) ++ t264), .string (((a4 ++ (⟨#[46]⟩ : ByteArray)) ++ t265) ++ t266)] rfl (by (try simp only [List.map_toArray, List.map_cons, List.map_nil]); first | done | rfl | (simp only [List.length_drop, List.length_take]; rfl)) ?_; (with_reducible refine (version_Compare.calls kj21 (((a4 ++ (⟨#[46]⟩ : ByteArray)) ++ t263) ++ t264) (((a4 ++ (⟨#[46]⟩ : ByteArray)) ++ t265) ++ t266) t267 _ A24.out).mono ?_); rintro e w31 ⟨rfl, hb⟩; refine ⟨_, rfl, ?_⟩; have n0_ := Aside0.mk (below_step (by repeat (first | (with_reducible first | exact HB.out | apply below_alloc | apply pw_below_drewN | apply below_drew1) | exact HB.out)) hb); clear HB; have HB := n0_; clear n0_; (try clear hb); (try clear hb2); (try clear hk); (try clear hi)) | (go_at_call 12; (with_reducible refine (version_Compare.calls kj21 ((((a4 ++ (⟨#[46]⟩ : ByteArray)) ++ t263) ++ t264) ++ (⟨#[46, 49]⟩ : ByteArray)) (((a4 ++ (⟨#[46]⟩ : ByteArray)) ++ t265) ++ t266) t268 _ A27.out).mono ?_); rintro e w32 ⟨rfl, hb⟩; have n0_ := Aside0.mk (below_step (by repeat (first | (with_reducible first | exact HB.out | apply below_alloc | apply pw_below_drewN | apply below_drew1) | exact HB.out)) hb); clear HB; have HB := n0_; clear n0_; (try clear hb); (try clear hb2); (try clear hk); (try clear hi)) | (go_at_call 20; (with_reducible refine (credenzalaw15_map3.calls x14_21 t269 _ A28.out).mono ?_); rintro e w' ⟨rfl, ⟨nd, rfl⟩⟩) | (go_at_call 13; (with_reducible refine (credenzalaw15_awake.calls kj21  t270 _ A30.out).mono ?_); rintro e w33 ⟨rfl, hb⟩; have n0_ := Aside0.mk (below_step (by repeat (first | (with_reducible first | exact HB.out | apply below_alloc | apply pw_below_drewN | apply below_drew1) | exact HB.out)) hb); clear HB; have HB := n0_; clear n0_; (try clear hb); (try clear hb2); (try clear hk); (try clear hi)))
                            go_ret
                            exact ⟨by first | rfl | (simp [errW_none, errW_some] <;> rfl) | (simp [*, errW_none, errW_some] <;> rfl), by repeat (first | (with_reducible first | exact HB.out | apply below_alloc | apply pw_below_drewN | apply below_drew1) | exact HB.out)⟩
                          · rw [if_neg c29] at H
                            have c29b0 : (t268 == t269) = false := beq_eq_false_iff_ne.mpr c29
                            have c29b1 : (t268 != t269) = true := bne_iff_ne.mpr c29
                            obtain rfl := Option.some.inj H
                            go_wp2_with (first | ((with_reducible refine gate_callee (f := 12) rfl ?_); refine goesL_ (some 49) rfl rfl Tryd.func12 (by kernel_rfl) rfl #[.string (((a4 ++ (⟨#[46]⟩ : ByteArray)) ++ t263) ++ t264), .string (((a4 ++ (⟨#[46]⟩ : ByteArray)) ++ t265) ++ t266)] rfl (by (try simp only [List.map_toArray, List.map_cons, List.map_nil]); first | done | rfl | (simp only [List.length_drop, List.length_take]; rfl)) ?_; (with_reducible refine (version_Compare.calls kj21 (((a4 ++ (⟨#[46]⟩ : ByteArray)) ++ t263) ++ t264) (((a4 ++ (⟨#[46]⟩ : ByteArray)) ++ t265) ++ t266) t267 _ A24.out).mono ?_); rintro e w34 ⟨rfl, hb⟩; refine ⟨_, rfl, ?_⟩; have n0_ := Aside0.mk (below_step (by repeat (first | (with_reducible first | exact HB.out | apply below_alloc | apply pw_below_drewN | apply below_drew1) | exact HB.out)) hb); clear HB; have HB := n0_; clear n0_; (try clear hb); (try clear hb2); (try clear hk); (try clear hi)) | (go_at_call 12; (with_reducible refine (version_Compare.calls kj21 ((((a4 ++ (⟨#[46]⟩ : ByteArray)) ++ t263) ++ t264) ++ (⟨#[46, 49]⟩ : ByteArray)) (((a4 ++ (⟨#[46]⟩ : ByteArray)) ++ t265) ++ t266) t268 _ A27.out).mono ?_); rintro e w35 ⟨rfl, hb⟩; have n0_ := Aside0.mk (below_step (by repeat (first | (with_reducible first | exact HB.out | apply below_alloc | apply pw_below_drewN | apply below_drew1) | exact HB.out)) hb); clear HB; have HB := n0_; clear n0_; (try clear hb); (try clear hb2); (try clear hk); (try clear hi)) | (go_at_call 20; (with_reducible refine (credenzalaw15_map3.calls x14_21 t269 _ A28.out).mono ?_); rintro e w' ⟨rfl, ⟨nd, rfl⟩⟩))
                            go_ret
                            exact ⟨by first | rfl | (simp [errW_none, errW_some] <;> rfl) | (simp [*, errW_none, errW_some] <;> rfl), by repeat (first | (with_reducible first | exact HB.out | apply below_alloc | apply pw_below_drewN | apply below_drew1) | exact HB.out)⟩
                        · rw [if_neg c26] at H
                          exact absurd H (by simp)
                      · rw [if_neg c25] at H
                        have c25b0 : (t267 == x14_21) = false := beq_eq_false_iff_ne.mpr c25
                        have c25b1 : (t267 != x14_21) = true := bne_iff_ne.mpr c25
                        obtain rfl := Option.some.inj H
                        go_wp2_with (first | ((with_reducible refine gate_callee (f := 12) rfl ?_); refine goesL_ (some 49) rfl rfl Tryd.func12 (by kernel_rfl) rfl #[.string (((a4 ++ (⟨#[46]⟩ : ByteArray)) ++ t263) ++ t264), .string (((a4 ++ (⟨#[46]⟩ : ByteArray)) ++ t265) ++ t266)] rfl (by (try simp only [List.map_toArray, List.map_cons, List.map_nil]); first | done | rfl | (simp only [List.length_drop, List.length_take]; rfl)) ?_; (with_reducible refine (version_Compare.calls kj21 (((a4 ++ (⟨#[46]⟩ : ByteArray)) ++ t263) ++ t264) (((a4 ++ (⟨#[46]⟩ : ByteArray)) ++ t265) ++ t266) t267 _ A24.out).mono ?_); rintro e w36 ⟨rfl, hb⟩; refine ⟨_, rfl, ?_⟩; have n0_ := Aside0.mk (below_step (by repeat (first | (with_reducible first | exact HB.out | apply below_alloc | apply pw_below_drewN | apply below_drew1) | exact HB.out)) hb); clear HB; have HB := n0_; clear n0_; (try clear hb); (try clear hb2); (try clear hk); (try clear hi)))
                        go_ret
                        exact ⟨by first | rfl | (simp [errW_none, errW_some] <;> rfl) | (simp [*, errW_none, errW_some] <;> rfl), by repeat (first | (with_reducible first | exact HB.out | apply below_alloc | apply pw_below_drewN | apply below_drew1) | exact HB.out)⟩
            · rw [if_neg c17] at H
              exact absurd H (by simp)
          · rw [if_neg c15] at H
            exact absurd H (by simp)
        · rw [if_neg c13] at H
          exact absurd H (by simp)
      · rw [if_neg c11] at H
        exact absurd H (by simp)
    · rw [if_neg c9] at H
      exact absurd H (by simp)

/-- THE ONE PURE STATEMENT of credenzalaw15_VersionNumbers: yours. -/
def credenzalaw15_VersionNumbers.Pure : Prop := ∀ (a0 : Int) (a1 : Int) (a2 : Int) (a3 : Int) (a4 : ByteArray), (Lit.int .i64 a0).wf = true → (Lit.int .i64 a1).wf = true → (Lit.int .i64 a2).wf = true → (Lit.int .i64 a3).wf = true → a4.size ≤ 140737488351232 → ∃ k, credenzalaw15_VersionNumbers.f k a0 a1 a2 a3 a4 = some true
theorem credenzalaw15_VersionNumbers.walk (P : credenzalaw15_VersionNumbers.Pure) (a0 : Int) (a1 : Int) (a2 : Int) (a3 : Int) (a4 : ByteArray) (w : World) (w0 : (Lit.int .i64 a0).wf = true) (w1 : (Lit.int .i64 a1).wf = true) (w2 : (Lit.int .i64 a2).wf = true) (w3 : (Lit.int .i64 a3).wf = true) (w4 : a4.size ≤ 140737488351232) :
    Calls Tryd.prog 7 #[.int .i64 a0, .int .i64 a1, .int .i64 a2, .int .i64 a3, .string a4] w fun e w' => e = .returned (.bool true) ∧ Below w.heap.size w w' := by
  obtain ⟨k, h⟩ := P a0 a1 a2 a3 a4 w0 w1 w2 w3 w4
  refine (credenzalaw15_VersionNumbers.calls k a0 a1 a2 a3 a4 true w h).mono ?_
  rintro e w' ⟨rfl, hd⟩
  exact ⟨rfl, hd⟩

end Go.Proofs.YtndpokjakogpnaaDoor.V

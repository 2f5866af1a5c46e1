-- written by hprint.py (wip/tools): the kit's print with hand contracts
import Derived.Test.YtndpokjakogpnaaDoorVx0
import Derived.Test.YtndpokjakogpnaaDoorVx2
import Derived.Test.YtndpokjakogpnaaDoorVx5
import Derived.Test.YtndpokjakogpnaaDoorVx6
import Derived.Test.YtndpokjakogpnaaDoorVx9
namespace Go.Proofs.YtndpokjakogpnaaDoor.V
open Go.RowKit Go.Proofs.YtndpokjakogpnaaDoorW.PrintWords Go.Proofs.YtndpokjakogpnaaDoorW.PrintLast Go.Proofs.YtndpokjakogpnaaDoorW.PrintMore
attribute [local go_sem] max2_int min2_int max_two min_two max_three min_three max_four min_four   -- for this text's walks alone
set_option linter.unusedVariables false
set_option linter.unusedSimpArgs false

/-! ### credenzalaw15_VersionTails: function 8 -/
mutual
def credenzalaw15_VersionTails.j0 : Nat → ByteArray → Int → List Int → Bool → Option (Bool)
  | 0, _, _, _, _ => none
  | k + 1, x0, x1, x2, x17 => if x17 = true then ((credenzalaw15_awake.f k).bind fun t271 => (some t271)) else (if x0.size + 1 ≤ 9223372036854775807 then (credenzalaw15_VersionTails.l0 k (x0 ++ (⟨#[46]⟩ : ByteArray)) x1 x2 (⟨#[]⟩ : ByteArray) 0) else (none))
def credenzalaw15_VersionTails.l0 : Nat → ByteArray → Int → List Int → ByteArray → Int → Option (Bool)
  | 0, _, _, _, _, _ => none
  | k + 1, x0, x1, x2, x7, x8 => if x8 < (x2.length : Int) then (if 0 ≤ x8 then ((credenzaref2_Letter.f (rd x2 x8)).bind fun t273 => (if t273 = true then (credenzalaw15_VersionTails.l0 k x0 x1 x2 x7 (wrap64 (x8 + 1))) else (if (rd x2 x8) = 126 then (credenzalaw15_VersionTails.l0 k x0 x1 x2 x7 (wrap64 (x8 + 1))) else ((some (([rd x2 x8] : List Int) : List Int)).bind fun y276 => (if x7.size + (strOfNums y276).size ≤ 9223372036854775807 then (credenzalaw15_VersionTails.l0 k x0 x1 x2 (x7 ++ (strOfNums y276)) (wrap64 (x8 + 1))) else (none)))))) else (none)) else ((credenzaref2_Num.f k (Go.bits .and .i64 x1 65535)).bind fun t279 => (if x0.size + x7.size ≤ 9223372036854775807 then (if (x0 ++ x7).size + t279.size ≤ 9223372036854775807 then ((version_Compare.f k ((x0 ++ x7) ++ t279) x0).bind fun t280 => (if t280 = 1 then (if (x0 ++ x7).size + 2 ≤ 9223372036854775807 then ((version_Compare.f k ((x0 ++ x7) ++ (⟨#[114, 99]⟩ : ByteArray)) x0).bind fun t281 => (if t281 = 1 then (if (x0 ++ x7).size + 1 ≤ 9223372036854775807 then (if ((x0 ++ x7) ++ (⟨#[126]⟩ : ByteArray)).size + t279.size ≤ 9223372036854775807 then ((version_Compare.f k (((x0 ++ x7) ++ (⟨#[126]⟩ : ByteArray)) ++ t279) x0).bind fun t282 => (if t282 = (-1) then ((version_Compare.f k (x0 ++ x7) x0).bind fun t283 => (credenzalaw15_VersionTails.j2 k x0 x7 t279 (t283 != 0))) else (credenzalaw15_VersionTails.j2 k x0 x7 t279 true))) else (none)) else (none)) else (credenzalaw15_VersionTails.j2 k x0 x7 t279 true))) else (none)) else (credenzalaw15_VersionTails.j2 k x0 x7 t279 true))) else (none)) else (none)))
def credenzalaw15_VersionTails.j2 : Nat → ByteArray → ByteArray → ByteArray → Bool → Option (Bool)
  | 0, _, _, _, _ => none
  | k + 1, x0, x7, x9, x86 => if x86 = true then (some false) else (if x0.size + x7.size ≤ 9223372036854775807 then (if (x0 ++ x7).size + x9.size ≤ 9223372036854775807 then (if x0.size + 2 ≤ 9223372036854775807 then ((version_Compare.f k ((x0 ++ x7) ++ x9) (x0 ++ (⟨#[114, 99]⟩ : ByteArray))).bind fun t284 => (if t284 = 1 then (if x0.size + 1 ≤ 9223372036854775807 then (if (x0 ++ x7).size + 2 ≤ 9223372036854775807 then ((version_Compare.f k (x0 ++ (⟨#[126]⟩ : ByteArray)) ((x0 ++ x7) ++ (⟨#[126, 126]⟩ : ByteArray))).bind fun t285 => (if t285 = 1 then ((credenzalaw15_awake.f k).bind fun t286 => (some t286)) else (some false))) else (none)) else (none)) else (some false))) else (none)) else (none)) else (none))
end
def credenzalaw15_VersionTails.f (k : Nat) (a0 : ByteArray) (a1 : Int) (l2 : List Int) : Option (Bool) := if (a0.size : Int) > 200 then (credenzalaw15_VersionTails.j0 k a0 a1 l2 true) else (credenzalaw15_VersionTails.j0 k a0 a1 l2 (decide ((l2.length : Int) > 50)))
theorem credenzalaw15_VersionTails.mono_l : ∀ k, (∀ y0 y1 y2 y3, LeO (credenzalaw15_VersionTails.j0 k y0 y1 y2 y3) (credenzalaw15_VersionTails.j0 (k + 1) y0 y1 y2 y3)) ∧ (∀ y0 y1 y2 y3 y4, LeO (credenzalaw15_VersionTails.l0 k y0 y1 y2 y3 y4) (credenzalaw15_VersionTails.l0 (k + 1) y0 y1 y2 y3 y4)) ∧ (∀ y0 y1 y2 y3, LeO (credenzalaw15_VersionTails.j2 k y0 y1 y2 y3) (credenzalaw15_VersionTails.j2 (k + 1) y0 y1 y2 y3))
  | 0 => ⟨fun _ _ _ _ r h => by simp [credenzalaw15_VersionTails.j0] at h, fun _ _ _ _ _ r h => by simp [credenzalaw15_VersionTails.l0] at h, fun _ _ _ _ r h => by simp [credenzalaw15_VersionTails.j2] at h⟩
  | k + 1 => by
    obtain ⟨ih0, ih1, ih2⟩ := credenzalaw15_VersionTails.mono_l k
    refine ⟨?_, ?_, ?_⟩
    · intro y0 y1 y2 y3
      unfold credenzalaw15_VersionTails.j0
      repeat' first
      | (with_reducible exact ih0 _ _ _ _)
      | (with_reducible exact ih1 _ _ _ _ _)
      | (with_reducible exact ih2 _ _ _ _)
      | (with_reducible exact credenzalaw15_awake.mono _)
      | (with_reducible exact credenzaref2_Num.mono _ _)
      | (with_reducible exact version_Compare.mono _ _ _)
      | (with_reducible exact LeO.refl _)
      | (with_reducible exact LeO.none _)
      | (with_reducible refine LeO.ite ?_ ?_)
      | (with_reducible refine LeO.bind ?_ (fun _ => ?_))
      | exact ih0 _ _ _ _
      | exact ih1 _ _ _ _ _
      | exact ih2 _ _ _ _
      | exact credenzalaw15_awake.mono _
      | exact credenzaref2_Num.mono _ _
      | exact version_Compare.mono _ _ _
      | exact LeO.none _
      | refine LeO.ite ?_ ?_
      | refine LeO.bind ?_ (fun _ => ?_)
    · intro y0 y1 y2 y3 y4
      unfold credenzalaw15_VersionTails.l0
      repeat' first
      | (with_reducible exact ih0 _ _ _ _)
      | (with_reducible exact ih1 _ _ _ _ _)
      | (with_reducible exact ih2 _ _ _ _)
      | (with_reducible exact credenzalaw15_awake.mono _)
      | (with_reducible exact credenzaref2_Num.mono _ _)
      | (with_reducible exact version_Compare.mono _ _ _)
      | (with_reducible exact LeO.refl _)
      | (with_reducible exact LeO.none _)
      | (with_reducible refine LeO.ite ?_ ?_)
      | (with_reducible refine LeO.bind ?_ (fun _ => ?_))
      | exact ih0 _ _ _ _
      | exact ih1 _ _ _ _ _
      | exact ih2 _ _ _ _
      | exact credenzalaw15_awake.mono _
      | exact credenzaref2_Num.mono _ _
      | exact version_Compare.mono _ _ _
      | exact LeO.none _
      | refine LeO.ite ?_ ?_
      | refine LeO.bind ?_ (fun _ => ?_)
    · intro y0 y1 y2 y3
      unfold credenzalaw15_VersionTails.j2
      repeat' first
      | (with_reducible exact ih0 _ _ _ _)
      | (with_reducible exact ih1 _ _ _ _ _)
      | (with_reducible exact ih2 _ _ _ _)
      | (with_reducible exact credenzalaw15_awake.mono _)
      | (with_reducible exact credenzaref2_Num.mono _ _)
      | (with_reducible exact version_Compare.mono _ _ _)
      | (with_reducible exact LeO.refl _)
      | (with_reducible exact LeO.none _)
      | (with_reducible refine LeO.ite ?_ ?_)
      | (with_reducible refine LeO.bind ?_ (fun _ => ?_))
      | exact ih0 _ _ _ _
      | exact ih1 _ _ _ _ _
      | exact ih2 _ _ _ _
      | exact credenzalaw15_awake.mono _
      | exact credenzaref2_Num.mono _ _
      | exact version_Compare.mono _ _ _
      | exact LeO.none _
      | refine LeO.ite ?_ ?_
      | refine LeO.bind ?_ (fun _ => ?_)
theorem credenzalaw15_VersionTails.mono : ∀ a0 a1 a2 k, LeO (credenzalaw15_VersionTails.f k a0 a1 a2) (credenzalaw15_VersionTails.f (k + 1) a0 a1 a2) := by
  intro a0 a1 a2 k
  obtain ⟨ih0, ih1, ih2⟩ := credenzalaw15_VersionTails.mono_l k
  unfold credenzalaw15_VersionTails.f
  repeat' first
      | (with_reducible exact ih0 _ _ _ _)
      | (with_reducible exact ih1 _ _ _ _ _)
      | (with_reducible exact ih2 _ _ _ _)
      | (with_reducible exact credenzalaw15_awake.mono _)
      | (with_reducible exact credenzaref2_Num.mono _ _)
      | (with_reducible exact version_Compare.mono _ _ _)
      | (with_reducible exact LeO.refl _)
      | (with_reducible exact LeO.none _)
      | (with_reducible refine LeO.ite ?_ ?_)
      | (with_reducible refine LeO.bind ?_ (fun _ => ?_))
      | exact ih0 _ _ _ _
      | exact ih1 _ _ _ _ _
      | exact ih2 _ _ _ _
      | exact credenzalaw15_awake.mono _
      | exact credenzaref2_Num.mono _ _
      | exact version_Compare.mono _ _ _
      | exact LeO.none _
      | refine LeO.ite ?_ ?_
      | refine LeO.bind ?_ (fun _ => ?_)
set_option maxHeartbeats 8000000 in
set_option maxRecDepth 100000 in
theorem credenzalaw15_VersionTails.calls (k : Nat) (a0 : ByteArray) (a1 : Int) (A2 : Option Addr) (c2 : Nat) (l2 : List Int) (r : Bool) (w : World) (hr2 : Kd.C (Kd.int .u8) w A2 l2.length l2) (hc2 : l2.length ≤ c2) (h : credenzalaw15_VersionTails.f k a0 a1 l2 = some r) :
    Calls Tryd.prog 8 #[.string a0, .int .i64 a1, .slice A2 l2.length c2] w fun e w' => e = .returned (.bool r) ∧ Below w.heap.size w w' := by
  have HR2 := Aside0.mk hr2
  have HC2 := Aside0.mk hc2
  clear hr2 hc2
  have HB := Aside0.mk (Below.refl w.heap.size w)
  have H : (if (a0.size : Int) > 200 then (credenzalaw15_VersionTails.j0 k a0 a1 l2 true) else (credenzalaw15_VersionTails.j0 k a0 a1 l2 (decide ((l2.length : Int) > 50)))) = some r := h
  clear h
  have HC4 := Aside0.mk H
  clear H
  go_enter Tryd.func8, Tryd.ntmps8
  go_upto_region 1 with (fail)
  go_cut [17] (fun v17 wc => ∃ (kq : Nat) (x17_3 : Bool), v17 = .bool x17_3 ∧ Aside0 (credenzalaw15_VersionTails.j0 kq a0 a1 l2 x17_3 = some r) ∧ Aside0 (kq ≤ k) ∧ Aside0 (Below w.heap.size w wc))
  case first =>
    have H := HC4.out
    clear HC4
    by_cases c5 : (a0.size : Int) > 200
    · rw [if_pos c5] at H
      have c5b0 : decide (200 < (a0.size : Int)) = true := decide_eq_true c5
      have c5b1 : decide (200 < a0.size) = true := decide_eq_true (by omega)
      clear c5
      (first | rw [c5b0] | (simp only [i64_w, i32_w]; rw [c5b0]) | skip)
      have H' := Aside0.mk H
      clear H
      go_wp2
      go_meet
      case rel => exact ⟨_, (true), (by first | rfl | (simp; done) | (simp [*]; done)), H', ⟨by first | omega | exact Nat.le_refl _⟩, ⟨by repeat (first | (with_reducible first | exact HB.out | apply below_alloc | apply pw_below_drewN | apply below_drew1) | exact HB.out)⟩⟩
    · rw [if_neg c5] at H
      have c5b0 : decide (200 < (a0.size : Int)) = false := decide_eq_false c5
      have c5b1 : decide (200 < a0.size) = false := decide_eq_false (by omega)
      clear c5
      (first | rw [c5b0] | (simp only [i64_w, i32_w]; rw [c5b0]) | skip)
      have H' := Aside0.mk H
      clear H
      go_wp2
      go_meet
      case rel => exact ⟨_, (decide ((l2.length : Int) > 50)), (by first | rfl | (simp; done) | (simp [*]; done)), H', ⟨by first | omega | exact Nat.le_refl _⟩, ⟨by repeat (first | (with_reducible first | exact HB.out | apply below_alloc | apply pw_below_drewN | apply below_drew1) | exact HB.out)⟩⟩
  case rest =>
    clear HC4
    try clear c2
    try clear p2
    try clear c5
    try clear c5b0
    try clear c5b1
    obtain ⟨kq, x17_3, rfl, HA, HJ3, HB⟩ := hcut
    cases kq with
    | zero => exact absurd HA.out (by simp [credenzalaw15_VersionTails.j0])
    | succ kj3 =>
      have H := HA.out
      clear HA
      simp only [credenzalaw15_VersionTails.j0] at H
      by_cases c6 : x17_3 = true
      · subst c6
        have H1 : ((credenzalaw15_awake.f kj3).bind fun t271 => (some t271)) = some r := by rw [if_pos rfl] at H; exact H
        clear H
        have H := H1
        clear H1
        replace H := Option.bind_eq_some_iff.mp H
        obtain ⟨t271, A70, H⟩ := H
        replace H : (some t271) = some r := H
        have A7 := Aside0.mk A70
        clear A70
        obtain rfl := Option.some.inj H
        go_wp2_with (first | ((with_reducible refine gate_callee (f := 13) rfl ?_); refine goesL_ (some 18) rfl rfl Tryd.func13 (by kernel_rfl) rfl #[] rfl (by (try simp only [List.map_toArray, List.map_cons, List.map_nil]); first | done | rfl | (simp only [List.length_drop, List.length_take]; rfl)) ?_; (with_reducible refine (credenzalaw15_awake.calls kj3  t271 _ A7.out).mono ?_); rintro e w8 ⟨rfl, hb⟩; refine ⟨_, rfl, ?_⟩; have n0_ := Aside0.mk (below_step (by repeat (first | (with_reducible first | exact HB.out | apply below_alloc | apply pw_below_drewN | apply below_drew1) | exact HB.out)) hb); clear HB; have HB := n0_; clear n0_; (try clear hb); (try clear hb2); (try clear hk); (try clear hi)))
        go_ret
        exact ⟨by first | rfl | (simp [errW_none, errW_some] <;> rfl) | (simp [*, errW_none, errW_some] <;> rfl), by repeat (first | (with_reducible first | exact HB.out | apply below_alloc | apply pw_below_drewN | apply below_drew1) | exact HB.out)⟩
      · replace c6 := Bool.eq_false_iff.mpr c6
        subst c6
        have H1 : (if a0.size + 1 ≤ 9223372036854775807 then (credenzalaw15_VersionTails.l0 kj3 (a0 ++ (⟨#[46]⟩ : ByteArray)) a1 l2 (⟨#[]⟩ : ByteArray) 0) else (none)) = some r := by rw [if_neg (show ¬ (false = true) by decide)] at H; exact H
        clear H
        have H := H1
        clear H1
        by_cases c9 : a0.size + 1 ≤ 9223372036854775807
        · rw [if_pos c9] at H
          have c9b0 := eq_true c9
          have c9b1 : decide (a0.size + 1 ≤ 9223372036854775807) = true := decide_eq_true c9
          try have c9b2 : (9223372036854775807 < a0.size + 1) = False := eq_false (Nat.not_lt.2 c9)
          have H' := Aside0.mk H
          clear H
          go_wp2
          go_loopg [7, 8] kj3 (fun kq v7 v8 w' => ∃ (x7_2 : ByteArray) (x8_2 : Int), v7 = .string x7_2 ∧ v8 = .int .i64 x8_2 ∧ Aside0 (credenzalaw15_VersionTails.l0 kq (a0 ++ (⟨#[46]⟩ : ByteArray)) a1 l2 x7_2 x8_2 = some r) ∧ Aside0 (kq ≤ kj3) ∧ Aside0 (Below w.heap.size w w'))
          case atStart => exact ⟨((⟨#[]⟩ : ByteArray)), (0), (by first | rfl | (simp; done) | (simp [*]; done)), (by first | rfl | (simp; done) | (simp [*]; done)), H', ⟨Nat.le_refl _⟩, ⟨by repeat (first | (with_reducible first | exact HB.out | apply below_alloc | apply pw_below_drewN | apply below_drew1) | exact HB.out)⟩⟩
          case round =>
            clear H'
            try clear c1
            try clear c2
            try clear p2
            try clear c5
            try clear c5b0
            try clear c5b1
            try clear c6
            try clear c8
            try clear c9
            try clear c9b0
            try clear c9b1
            try clear c9b2
            try clear p2
            obtain ⟨x7_2, x8_2, rfl, rfl, HA, HK2, HB⟩ := hrel
            cases gk with
            | zero => exact absurd HA.out (by simp [credenzalaw15_VersionTails.l0])
            | succ k2 =>
              have H := HA.out
              clear HA
              simp only [credenzalaw15_VersionTails.l0] at H
              by_cases c10 : x8_2 < (l2.length : Int)
              · rw [if_pos c10] at H
                have c10b0 : decide (x8_2 < (l2.length : Int)) = true := decide_eq_true c10
                clear c10
                by_cases c11 : 0 ≤ x8_2
                · rw [if_pos c11] at H
                  have c11b0 : decide (0 ≤ x8_2) = true := decide_eq_true c11
                  clear c11
                  replace H := Option.bind_eq_some_iff.mp H
                  obtain ⟨t273, A120, H⟩ := H
                  replace H : (if t273 = true then (credenzalaw15_VersionTails.l0 k2 (a0 ++ (⟨#[46]⟩ : ByteArray)) a1 l2 x7_2 (wrap64 (x8_2 + 1))) else (if (rd l2 x8_2) = 126 then (credenzalaw15_VersionTails.l0 k2 (a0 ++ (⟨#[46]⟩ : ByteArray)) a1 l2 x7_2 (wrap64 (x8_2 + 1))) else ((some (([rd l2 x8_2] : List Int) : List Int)).bind fun y276 => (if x7_2.size + (strOfNums y276).size ≤ 9223372036854775807 then (credenzalaw15_VersionTails.l0 k2 (a0 ++ (⟨#[46]⟩ : ByteArray)) a1 l2 (x7_2 ++ (strOfNums y276)) (wrap64 (x8_2 + 1))) else (none))))) = some r := H
                  have A12 := Aside0.mk A120
                  clear A120
                  by_cases c13 : t273 = true
                  · subst c13
                    have H1 : (credenzalaw15_VersionTails.l0 k2 (a0 ++ (⟨#[46]⟩ : ByteArray)) a1 l2 x7_2 (wrap64 (x8_2 + 1))) = some r := by rw [if_pos rfl] at H; exact H
                    clear H
                    have H := H1
                    clear H1
                    have H' := Aside0.mk H
                    clear H
                    have p272 : 0 ≤ (x8_2 : Int) := of_decide_eq_true (by first | (with_reducible assumption) | assumption)
                    have q272 : x8_2 < (l2.length : Int) := of_decide_eq_true (by first | (with_reducible assumption) | assumption)
                    obtain ⟨ad272, e272, hx272_0⟩ := Kd.at_int HR2.out x8_2 p272 q272
                    cases e272
                    replace hx272_0 := (HB.out.cell (World.block_lt_of_cell? w _ hx272_0)).trans hx272_0
                    replace p272 := eq_true p272
                    replace q272 := eq_true q272
                    go_wp2_with (first | ((with_reducible refine gate_callee (f := 21) rfl ?_); refine goesL_ (some 31) rfl rfl Tryd.func21 (by kernel_rfl) rfl #[.int .u8 (rd l2 x8_2)] rfl (by (try simp only [List.map_toArray, List.map_cons, List.map_nil]); first | done | rfl | (simp only [List.length_drop, List.length_take]; rfl)) ?_; (with_reducible refine (credenzaref2_Letter.calls (rd l2 x8_2) true _ A12.out).mono ?_); rintro e w' ⟨rfl, ⟨nd, rfl⟩⟩; refine ⟨_, rfl, ?_⟩))
                    go_roundg k2
                    case measure => have := HJ3.out; have := HK2.out; omega
                    case rel => exact ⟨(x7_2), (wrap64 (x8_2 + 1)), (by first | rfl | (simp; done) | (simp [*]; done)), (by first | rfl | (simp; done) | (simp [*]; done)), H', ⟨by have := HJ3.out; have := HK2.out; omega⟩, ⟨by repeat (first | (with_reducible first | exact HB.out | apply below_alloc | apply pw_below_drewN | apply below_drew1) | exact HB.out)⟩⟩
                  · replace c13 := Bool.eq_false_iff.mpr c13
                    subst c13
                    have H1 : (if (rd l2 x8_2) = 126 then (credenzalaw15_VersionTails.l0 k2 (a0 ++ (⟨#[46]⟩ : ByteArray)) a1 l2 x7_2 (wrap64 (x8_2 + 1))) else ((some (([rd l2 x8_2] : List Int) : List Int)).bind fun y276 => (if x7_2.size + (strOfNums y276).size ≤ 9223372036854775807 then (credenzalaw15_VersionTails.l0 k2 (a0 ++ (⟨#[46]⟩ : ByteArray)) a1 l2 (x7_2 ++ (strOfNums y276)) (wrap64 (x8_2 + 1))) else (none)))) = some r := by rw [if_neg (show ¬ (false = true) by decide)] at H; exact H
                    clear H
                    have H := H1
                    clear H1
                    by_cases c14 : (rd l2 x8_2) = 126
                    · rw [if_pos c14] at H
                      have c14b0 : ((rd l2 x8_2) == 126) = true := beq_iff_eq.mpr c14
                      have c14b1 : ((rd l2 x8_2) != 126) = false := bne_eq_false_iff_eq.mpr c14
                      clear c14
                      have H' := Aside0.mk H
                      clear H
                      have p272 : 0 ≤ (x8_2 : Int) := of_decide_eq_true (by first | (with_reducible assumption) | assumption)
                      have q272 : x8_2 < (l2.length : Int) := of_decide_eq_true (by first | (with_reducible assumption) | assumption)
                      obtain ⟨ad272, e272, hx272_0⟩ := Kd.at_int HR2.out x8_2 p272 q272
                      cases e272
                      replace hx272_0 := (HB.out.cell (World.block_lt_of_cell? w _ hx272_0)).trans hx272_0
                      replace p272 := eq_true p272
                      replace q272 := eq_true q272
                      go_wp2_with (first | ((with_reducible refine gate_callee (f := 21) rfl ?_); refine goesL_ (some 31) rfl rfl Tryd.func21 (by kernel_rfl) rfl #[.int .u8 (rd l2 x8_2)] rfl (by (try simp only [List.map_toArray, List.map_cons, List.map_nil]); first | done | rfl | (simp only [List.length_drop, List.length_take]; rfl)) ?_; (with_reducible refine (credenzaref2_Letter.calls (rd l2 x8_2) false _ A12.out).mono ?_); rintro e w' ⟨rfl, ⟨nd, rfl⟩⟩; refine ⟨_, rfl, ?_⟩; have p274 : 0 ≤ (x8_2 : Int) := of_decide_eq_true (by first | (with_reducible assumption) | assumption); have q274 : x8_2 < (l2.length : Int) := of_decide_eq_true (by first | (with_reducible assumption) | assumption); obtain ⟨ad274, e274, hx274_0⟩ := Kd.at_int HR2.out x8_2 p274 q274; obtain rfl : ad272 = ad274 := (by injection e274); replace hx274_0 := (HB.out.cell (World.block_lt_of_cell? w _ hx274_0)).trans hx274_0; replace p274 := eq_true p274; replace q274 := eq_true q274))
                      go_roundg k2
                      case measure => have := HJ3.out; have := HK2.out; omega
                      case rel => exact ⟨(x7_2), (wrap64 (x8_2 + 1)), (by first | rfl | (simp; done) | (simp [*]; done)), (by first | rfl | (simp; done) | (simp [*]; done)), H', ⟨by have := HJ3.out; have := HK2.out; omega⟩, ⟨by repeat (first | (with_reducible first | exact HB.out | apply below_alloc | apply pw_below_drewN | apply below_drew1) | exact HB.out)⟩⟩
                    · rw [if_neg c14] at H
                      have c14b0 : ((rd l2 x8_2) == 126) = false := beq_eq_false_iff_ne.mpr c14
                      have c14b1 : ((rd l2 x8_2) != 126) = true := bne_iff_ne.mpr c14
                      obtain ⟨y276, hy276⟩ : ∃ y_ : List Int, y_ = (([rd l2 x8_2] : List Int)) := ⟨_, rfl⟩
                      replace H : (if x7_2.size + (strOfNums y276).size ≤ 9223372036854775807 then (credenzalaw15_VersionTails.l0 k2 (a0 ++ (⟨#[46]⟩ : ByteArray)) a1 l2 (x7_2 ++ (strOfNums y276)) (wrap64 (x8_2 + 1))) else (none)) = some r := by first | (rw [hy276]; with_reducible exact H) | (have H2_ := (Option.bind_some _ _).symm.trans H; rw [hy276]; with_reducible exact H2_) | (have H2_ := (Option.bind_some _ _).symm.trans H; with_reducible exact H2_) | with_reducible exact H | (rw [hy276]; exact H) | exact H
                      have Ny276 := Aside0.mk hy276
                      clear hy276
                      by_cases c15 : x7_2.size + (strOfNums y276).size ≤ 9223372036854775807
                      · rw [if_pos c15] at H
                        have c15b0 := eq_true c15
                        have c15b1 : decide (x7_2.size + (strOfNums y276).size ≤ 9223372036854775807) = true := decide_eq_true c15
                        try have c15b2 : (9223372036854775807 < x7_2.size + (strOfNums y276).size) = False := eq_false (Nat.not_lt.2 c15)
                        have H' := Aside0.mk H
                        clear H
                        have p272 : 0 ≤ (x8_2 : Int) := of_decide_eq_true (by first | (with_reducible assumption) | assumption)
                        have q272 : x8_2 < (l2.length : Int) := of_decide_eq_true (by first | (with_reducible assumption) | assumption)
                        obtain ⟨ad272, e272, hx272_0⟩ := Kd.at_int HR2.out x8_2 p272 q272
                        cases e272
                        replace hx272_0 := (HB.out.cell (World.block_lt_of_cell? w _ hx272_0)).trans hx272_0
                        replace p272 := eq_true p272
                        replace q272 := eq_true q272
                        go_wp2_with (first | ((with_reducible refine gate_callee (f := 21) rfl ?_); refine goesL_ (some 31) rfl rfl Tryd.func21 (by kernel_rfl) rfl #[.int .u8 (rd l2 x8_2)] rfl (by (try simp only [List.map_toArray, List.map_cons, List.map_nil]); first | done | rfl | (simp only [List.length_drop, List.length_take]; rfl)) ?_; (with_reducible refine (credenzaref2_Letter.calls (rd l2 x8_2) false _ A12.out).mono ?_); rintro e w' ⟨rfl, ⟨nd, rfl⟩⟩; refine ⟨_, rfl, ?_⟩; have p274 : 0 ≤ (x8_2 : Int) := of_decide_eq_true (by first | (with_reducible assumption) | assumption); have q274 : x8_2 < (l2.length : Int) := of_decide_eq_true (by first | (with_reducible assumption) | assumption); obtain ⟨ad274, e274, hx274_0⟩ := Kd.at_int HR2.out x8_2 p274 q274; obtain rfl : ad272 = ad274 := (by injection e274); replace hx274_0 := (HB.out.cell (World.block_lt_of_cell? w _ hx274_0)).trans hx274_0; replace p274 := eq_true p274; replace q274 := eq_true q274; have p275 : 0 ≤ (x8_2 : Int) := of_decide_eq_true (by first | (with_reducible assumption) | assumption); have q275 : x8_2 < (l2.length : Int) := of_decide_eq_true (by first | (with_reducible assumption) | assumption); obtain ⟨ad275, e275, hx275_0⟩ := Kd.at_int HR2.out x8_2 p275 q275; obtain rfl : ad272 = ad275 := (by injection e275); replace hx275_0 := (HB.out.cell (World.block_lt_of_cell? w _ hx275_0)).trans hx275_0; replace p275 := eq_true p275; replace q275 := eq_true q275) | ((with_reducible refine gate_dst (N := 45) rfl ?_); (try (refine gate_guard (by rfl) ?_; dsimp only)); refine Kd.R_lit (Kd.int .u8) _ 5 ?hg (N := 45) ?hd (xs := ([rd l2 x8_2] : List Int)) (inner := [.int .u8 (rd l2 x8_2)]) (ok := fun _ => True) (okp := fun _ => True) ?hr ?hp (fun _ hk => hk) trivial (Below.refl _ _) (Nat.le_refl _) (by simp) ?_; (case hd => rfl); (case hg => rfl); (case hr => first | (go_simp; done) | (go_simp; rfl)); (case hp => exact (Reps.one (show Kd.M (Kd.int .u8) _ _ _ (rd l2 x8_2) [.int .u8 (rd l2 x8_2)] from rfl) (Reps.none _ _))); intro v277 w16 ho17 hb hg_ hnew_; clear hg_ hnew_; (first | rw [← Ny276.out] at ho17 | (simp only [Int.reduceToNat] at ho17; rw [← Ny276.out] at ho17)); have n0_ := Aside0.mk (Kd.R_lower ho17 (below_size (by repeat (first | (with_reducible first | exact HB.out | apply below_alloc | apply pw_below_drewN | apply below_drew1) | exact HB.out)))); have n1_ := Aside0.mk (below_step (by repeat (first | (with_reducible first | exact HB.out | apply below_alloc | apply pw_below_drewN | apply below_drew1) | exact HB.out)) hb); clear HB; have HO278 := n0_; have HB := n1_; clear n0_ n1_; clear hb ho17; have hcv18 := own_string (P := Tryd.prog) Tryd.underlying27 Tryd.underlying5 Tryd.underlying9 (Kd.own_of_R HO278.out)))
                        go_roundg k2
                        case measure => have := HJ3.out; have := HK2.out; omega
                        case rel => exact ⟨(x7_2 ++ (strOfNums y276)), (wrap64 (x8_2 + 1)), (by first | rfl | (simp; done) | (simp [*]; done)), (by first | rfl | (simp; done) | (simp [*]; done)), H', ⟨by have := HJ3.out; have := HK2.out; omega⟩, ⟨by repeat (first | (with_reducible first | exact HB.out | apply below_alloc | apply pw_below_drewN | apply below_drew1) | exact HB.out)⟩⟩
                      · rw [if_neg c15] at H
                        exact absurd H (by simp)
                · rw [if_neg c11] at H
                  exact absurd H (by simp)
              · rw [if_neg c10] at H
                have c10b0 : decide (x8_2 < (l2.length : Int)) = false := decide_eq_false c10
                clear c10
                replace H := Option.bind_eq_some_iff.mp H
                obtain ⟨t279, A190, H⟩ := H
                replace H : (if (a0 ++ (⟨#[46]⟩ : ByteArray)).size + x7_2.size ≤ 9223372036854775807 then (if ((a0 ++ (⟨#[46]⟩ : ByteArray)) ++ x7_2).size + t279.size ≤ 9223372036854775807 then ((version_Compare.f k2 (((a0 ++ (⟨#[46]⟩ : ByteArray)) ++ x7_2) ++ t279) (a0 ++ (⟨#[46]⟩ : ByteArray))).bind fun t280 => (if t280 = 1 then (if ((a0 ++ (⟨#[46]⟩ : ByteArray)) ++ x7_2).size + 2 ≤ 9223372036854775807 then ((version_Compare.f k2 (((a0 ++ (⟨#[46]⟩ : ByteArray)) ++ x7_2) ++ (⟨#[114, 99]⟩ : ByteArray)) (a0 ++ (⟨#[46]⟩ : ByteArray))).bind fun t281 => (if t281 = 1 then (if ((a0 ++ (⟨#[46]⟩ : ByteArray)) ++ x7_2).size + 1 ≤ 9223372036854775807 then (if (((a0 ++ (⟨#[46]⟩ : ByteArray)) ++ x7_2) ++ (⟨#[126]⟩ : ByteArray)).size + t279.size ≤ 9223372036854775807 then ((version_Compare.f k2 ((((a0 ++ (⟨#[46]⟩ : ByteArray)) ++ x7_2) ++ (⟨#[126]⟩ : ByteArray)) ++ t279) (a0 ++ (⟨#[46]⟩ : ByteArray))).bind fun t282 => (if t282 = (-1) then ((version_Compare.f k2 ((a0 ++ (⟨#[46]⟩ : ByteArray)) ++ x7_2) (a0 ++ (⟨#[46]⟩ : ByteArray))).bind fun t283 => (credenzalaw15_VersionTails.j2 k2 (a0 ++ (⟨#[46]⟩ : ByteArray)) x7_2 t279 (t283 != 0))) else (credenzalaw15_VersionTails.j2 k2 (a0 ++ (⟨#[46]⟩ : ByteArray)) x7_2 t279 true))) else (none)) else (none)) else (credenzalaw15_VersionTails.j2 k2 (a0 ++ (⟨#[46]⟩ : ByteArray)) x7_2 t279 true))) else (none)) else (credenzalaw15_VersionTails.j2 k2 (a0 ++ (⟨#[46]⟩ : ByteArray)) x7_2 t279 true))) else (none)) else (none)) = some r := H
                have A19 := Aside0.mk A190
                clear A190
                have HC20 := Aside0.mk H
                clear H
                go_upto_region 11 with (first | ((with_reducible refine gate_callee (f := 11) rfl ?_); refine goesL_ (some 50) rfl rfl Tryd.func11 (by kernel_rfl) rfl #[.int .i64 (Go.bits .and .i64 a1 65535)] rfl (by (try simp only [List.map_toArray, List.map_cons, List.map_nil]); first | done | rfl | (simp only [List.length_drop, List.length_take]; rfl)) ?_; (with_reducible refine (credenzaref2_Num.calls k2 (Go.bits .and .i64 a1 65535) t279 _ A19.out).mono ?_); rintro e w' ⟨rfl, ⟨nd, rfl⟩⟩; refine ⟨_, rfl, ?_⟩))
                (try simp only [Act.put, List.setIfInBounds_toArray, List.set_cons_zero, List.set_cons_succ])
                go_cut [86] (fun v86 wc => ∃ (kq : Nat) (x86_19 : Bool), v86 = .bool x86_19 ∧ Aside0 (credenzalaw15_VersionTails.j2 kq (a0 ++ (⟨#[46]⟩ : ByteArray)) x7_2 t279 x86_19 = some r) ∧ Aside0 (kq ≤ k2) ∧ Aside0 (Below w.heap.size w wc))
                case first =>
                  have H := HC20.out
                  clear HC20
                  by_cases c21 : (a0 ++ (⟨#[46]⟩ : ByteArray)).size + x7_2.size ≤ 9223372036854775807
                  · rw [if_pos c21] at H
                    have c21b0 := eq_true c21
                    have c21b1 : decide ((a0 ++ (⟨#[46]⟩ : ByteArray)).size + x7_2.size ≤ 9223372036854775807) = true := decide_eq_true c21
                    try have c21b2 : (9223372036854775807 < (a0 ++ (⟨#[46]⟩ : ByteArray)).size + x7_2.size) = False := eq_false (Nat.not_lt.2 c21)
                    (try (have c21n : a0.size + 1 + x7_2.size ≤ 9223372036854775807 := by (have z_ := c21; simp only [ByteArray.size_append] at z_; exact z_)))
                    (try (have c21n0 := eq_true c21n))
                    (try (have c21n1 : decide (a0.size + 1 + x7_2.size ≤ 9223372036854775807) = true := decide_eq_true c21n))
                    (try (have c21n2 : (9223372036854775807 < a0.size + 1 + x7_2.size) = False := eq_false (Nat.not_lt.2 c21n)))
                    by_cases c22 : ((a0 ++ (⟨#[46]⟩ : ByteArray)) ++ x7_2).size + t279.size ≤ 9223372036854775807
                    · rw [if_pos c22] at H
                      have c22b0 := eq_true c22
                      have c22b1 : decide (((a0 ++ (⟨#[46]⟩ : ByteArray)) ++ x7_2).size + t279.size ≤ 9223372036854775807) = true := decide_eq_true c22
                      try have c22b2 : (9223372036854775807 < ((a0 ++ (⟨#[46]⟩ : ByteArray)) ++ x7_2).size + t279.size) = False := eq_false (Nat.not_lt.2 c22)
                      (try (have c22n : a0.size + 1 + x7_2.size + t279.size ≤ 9223372036854775807 := by (have z_ := c22; simp only [ByteArray.size_append] at z_; exact z_)))
                      (try (have c22n0 := eq_true c22n))
                      (try (have c22n1 : decide (a0.size + 1 + x7_2.size + t279.size ≤ 9223372036854775807) = true := decide_eq_true c22n))
                      (try (have c22n2 : (9223372036854775807 < a0.size + 1 + x7_2.size + t279.size) = False := eq_false (Nat.not_lt.2 c22n)))
                      replace H := Option.bind_eq_some_iff.mp H
                      obtain ⟨t280, A230, H⟩ := H
                      replace H : (if t280 = 1 then (if ((a0 ++ (⟨#[46]⟩ : ByteArray)) ++ x7_2).size + 2 ≤ 9223372036854775807 then ((version_Compare.f k2 (((a0 ++ (⟨#[46]⟩ : ByteArray)) ++ x7_2) ++ (⟨#[114, 99]⟩ : ByteArray)) (a0 ++ (⟨#[46]⟩ : ByteArray))).bind fun t281 => (if t281 = 1 then (if ((a0 ++ (⟨#[46]⟩ : ByteArray)) ++ x7_2).size + 1 ≤ 9223372036854775807 then (if (((a0 ++ (⟨#[46]⟩ : ByteArray)) ++ x7_2) ++ (⟨#[126]⟩ : ByteArray)).size + t279.size ≤ 9223372036854775807 then ((version_Compare.f k2 ((((a0 ++ (⟨#[46]⟩ : ByteArray)) ++ x7_2) ++ (⟨#[126]⟩ : ByteArray)) ++ t279) (a0 ++ (⟨#[46]⟩ : ByteArray))).bind fun t282 => (if t282 = (-1) then ((version_Compare.f k2 ((a0 ++ (⟨#[46]⟩ : ByteArray)) ++ x7_2) (a0 ++ (⟨#[46]⟩ : ByteArray))).bind fun t283 => (credenzalaw15_VersionTails.j2 k2 (a0 ++ (⟨#[46]⟩ : ByteArray)) x7_2 t279 (t283 != 0))) else (credenzalaw15_VersionTails.j2 k2 (a0 ++ (⟨#[46]⟩ : ByteArray)) x7_2 t279 true))) else (none)) else (none)) else (credenzalaw15_VersionTails.j2 k2 (a0 ++ (⟨#[46]⟩ : ByteArray)) x7_2 t279 true))) else (none)) else (credenzalaw15_VersionTails.j2 k2 (a0 ++ (⟨#[46]⟩ : ByteArray)) x7_2 t279 true)) = some r := H
                      have A23 := Aside0.mk A230
                      clear A230
                      by_cases c24 : t280 = 1
                      · rw [if_pos c24] at H
                        have c24b0 : (t280 == 1) = true := beq_iff_eq.mpr c24
                        have c24b1 : (t280 != 1) = false := bne_eq_false_iff_eq.mpr c24
                        clear c24
                        (first | rw [c24b0] | (simp only [i64_w, i32_w]; rw [c24b0]) | skip)
                        by_cases c25 : ((a0 ++ (⟨#[46]⟩ : ByteArray)) ++ x7_2).size + 2 ≤ 9223372036854775807
                        · rw [if_pos c25] at H
                          have c25b0 := eq_true c25
                          have c25b1 : decide (((a0 ++ (⟨#[46]⟩ : ByteArray)) ++ x7_2).size + 2 ≤ 9223372036854775807) = true := decide_eq_true c25
                          try have c25b2 : (9223372036854775807 < ((a0 ++ (⟨#[46]⟩ : ByteArray)) ++ x7_2).size + 2) = False := eq_false (Nat.not_lt.2 c25)
                          (try (have c25n : a0.size + 1 + x7_2.size + 2 ≤ 9223372036854775807 := by (have z_ := c25; simp only [ByteArray.size_append] at z_; exact z_)))
                          (try (have c25n0 := eq_true c25n))
                          (try (have c25n1 : decide (a0.size + 1 + x7_2.size + 2 ≤ 9223372036854775807) = true := decide_eq_true c25n))
                          (try (have c25n2 : (9223372036854775807 < a0.size + 1 + x7_2.size + 2) = False := eq_false (Nat.not_lt.2 c25n)))
                          replace H := Option.bind_eq_some_iff.mp H
                          obtain ⟨t281, A260, H⟩ := H
                          replace H : (if t281 = 1 then (if ((a0 ++ (⟨#[46]⟩ : ByteArray)) ++ x7_2).size + 1 ≤ 9223372036854775807 then (if (((a0 ++ (⟨#[46]⟩ : ByteArray)) ++ x7_2) ++ (⟨#[126]⟩ : ByteArray)).size + t279.size ≤ 9223372036854775807 then ((version_Compare.f k2 ((((a0 ++ (⟨#[46]⟩ : ByteArray)) ++ x7_2) ++ (⟨#[126]⟩ : ByteArray)) ++ t279) (a0 ++ (⟨#[46]⟩ : ByteArray))).bind fun t282 => (if t282 = (-1) then ((version_Compare.f k2 ((a0 ++ (⟨#[46]⟩ : ByteArray)) ++ x7_2) (a0 ++ (⟨#[46]⟩ : ByteArray))).bind fun t283 => (credenzalaw15_VersionTails.j2 k2 (a0 ++ (⟨#[46]⟩ : ByteArray)) x7_2 t279 (t283 != 0))) else (credenzalaw15_VersionTails.j2 k2 (a0 ++ (⟨#[46]⟩ : ByteArray)) x7_2 t279 true))) else (none)) else (none)) else (credenzalaw15_VersionTails.j2 k2 (a0 ++ (⟨#[46]⟩ : ByteArray)) x7_2 t279 true)) = some r := H
                          have A26 := Aside0.mk A260
                          clear A260
                          by_cases c27 : t281 = 1
                          · rw [if_pos c27] at H
                            have c27b0 : (t281 == 1) = true := beq_iff_eq.mpr c27
                            have c27b1 : (t281 != 1) = false := bne_eq_false_iff_eq.mpr c27
                            clear c27
                            by_cases c28 : ((a0 ++ (⟨#[46]⟩ : ByteArray)) ++ x7_2).size + 1 ≤ 9223372036854775807
                            · rw [if_pos c28] at H
                              have c28b0 := eq_true c28
                              have c28b1 : decide (((a0 ++ (⟨#[46]⟩ : ByteArray)) ++ x7_2).size + 1 ≤ 9223372036854775807) = true := decide_eq_true c28
                              try have c28b2 : (9223372036854775807 < ((a0 ++ (⟨#[46]⟩ : ByteArray)) ++ x7_2).size + 1) = False := eq_false (Nat.not_lt.2 c28)
                              (try (have c28n : a0.size + 1 + x7_2.size + 1 ≤ 9223372036854775807 := by (have z_ := c28; simp only [ByteArray.size_append] at z_; exact z_)))
                              (try (have c28n0 := eq_true c28n))
                              (try (have c28n1 : decide (a0.size + 1 + x7_2.size + 1 ≤ 9223372036854775807) = true := decide_eq_true c28n))
                              (try (have c28n2 : (9223372036854775807 < a0.size + 1 + x7_2.size + 1) = False := eq_false (Nat.not_lt.2 c28n)))
                              by_cases c29 : (((a0 ++ (⟨#[46]⟩ : ByteArray)) ++ x7_2) ++ (⟨#[126]⟩ : ByteArray)).size + t279.size ≤ 9223372036854775807
                              · rw [if_pos c29] at H
                                have c29b0 := eq_true c29
                                have c29b1 : decide ((((a0 ++ (⟨#[46]⟩ : ByteArray)) ++ x7_2) ++ (⟨#[126]⟩ : ByteArray)).size + t279.size ≤ 9223372036854775807) = true := decide_eq_true c29
                                try have c29b2 : (9223372036854775807 < (((a0 ++ (⟨#[46]⟩ : ByteArray)) ++ x7_2) ++ (⟨#[126]⟩ : ByteArray)).size + t279.size) = False := eq_false (Nat.not_lt.2 c29)
                                (try (have c29n : a0.size + 1 + x7_2.size + 1 + t279.size ≤ 9223372036854775807 := by (have z_ := c29; simp only [ByteArray.size_append] at z_; exact z_)))
                                (try (have c29n0 := eq_true c29n))
                                (try (have c29n1 : decide (a0.size + 1 + x7_2.size + 1 + t279.size ≤ 9223372036854775807) = true := decide_eq_true c29n))
                                (try (have c29n2 : (9223372036854775807 < a0.size + 1 + x7_2.size + 1 + t279.size) = False := eq_false (Nat.not_lt.2 c29n)))
                                replace H := Option.bind_eq_some_iff.mp H
                                obtain ⟨t282, A300, H⟩ := H
                                replace H : (if t282 = (-1) then ((version_Compare.f k2 ((a0 ++ (⟨#[46]⟩ : ByteArray)) ++ x7_2) (a0 ++ (⟨#[46]⟩ : ByteArray))).bind fun t283 => (credenzalaw15_VersionTails.j2 k2 (a0 ++ (⟨#[46]⟩ : ByteArray)) x7_2 t279 (t283 != 0))) else (credenzalaw15_VersionTails.j2 k2 (a0 ++ (⟨#[46]⟩ : ByteArray)) x7_2 t279 true)) = some r := H
                                have A30 := Aside0.mk A300
                                clear A300
                                by_cases c31 : t282 = (-1)
                                · rw [if_pos c31] at H
                                  have c31b0 : (t282 == (-1)) = true := beq_iff_eq.mpr c31
                                  have c31b1 : (t282 != (-1)) = false := bne_eq_false_iff_eq.mpr c31
                                  clear c31
                                  replace H := Option.bind_eq_some_iff.mp H
                                  obtain ⟨t283, A320, H⟩ := H
                                  replace H : (credenzalaw15_VersionTails.j2 k2 (a0 ++ (⟨#[46]⟩ : ByteArray)) x7_2 t279 (t283 != 0)) = some r := H
                                  have A32 := Aside0.mk A320
                                  clear A320
                                  have H' := Aside0.mk H
                                  clear H
                                  go_wp2_with (first | ((with_reducible refine gate_callee (f := 12) rfl ?_); refine goesL_ (some 57) rfl rfl Tryd.func12 (by kernel_rfl) rfl #[.string (((a0 ++ (⟨#[46]⟩ : ByteArray)) ++ x7_2) ++ t279), .string (a0 ++ (⟨#[46]⟩ : ByteArray))] rfl (by (try simp only [List.map_toArray, List.map_cons, List.map_nil]); first | done | rfl | (simp only [List.length_drop, List.length_take]; rfl)) ?_; (with_reducible refine (version_Compare.calls k2 (((a0 ++ (⟨#[46]⟩ : ByteArray)) ++ x7_2) ++ t279) (a0 ++ (⟨#[46]⟩ : ByteArray)) t280 _ A23.out).mono ?_); rintro e w33 ⟨rfl, hb⟩; refine ⟨_, rfl, ?_⟩; have n0_ := Aside0.mk (below_step (by repeat (first | (with_reducible first | exact HB.out | apply below_alloc | apply pw_below_drewN | apply below_drew1) | exact HB.out)) hb); clear HB; have HB := n0_; clear n0_; (try clear hb); (try clear hb2); (try clear hk); (try clear hi)) | (go_at_call 12; (with_reducible refine (version_Compare.calls k2 (((a0 ++ (⟨#[46]⟩ : ByteArray)) ++ x7_2) ++ (⟨#[114, 99]⟩ : ByteArray)) (a0 ++ (⟨#[46]⟩ : ByteArray)) t281 _ A26.out).mono ?_); rintro e w34 ⟨rfl, hb⟩; have n0_ := Aside0.mk (below_step (by repeat (first | (with_reducible first | exact HB.out | apply below_alloc | apply pw_below_drewN | apply below_drew1) | exact HB.out)) hb); clear HB; have HB := n0_; clear n0_; (try clear hb); (try clear hb2); (try clear hk); (try clear hi)) | (go_at_call 12; (with_reducible refine (version_Compare.calls k2 ((((a0 ++ (⟨#[46]⟩ : ByteArray)) ++ x7_2) ++ (⟨#[126]⟩ : ByteArray)) ++ t279) (a0 ++ (⟨#[46]⟩ : ByteArray)) t282 _ A30.out).mono ?_); rintro e w35 ⟨rfl, hb⟩; have n0_ := Aside0.mk (below_step (by repeat (first | (with_reducible first | exact HB.out | apply below_alloc | apply pw_below_drewN | apply below_drew1) | exact HB.out)) hb); clear HB; have HB := n0_; clear n0_; (try clear hb); (try clear hb2); (try clear hk); (try clear hi)) | (go_at_call 12; (with_reducible refine (version_Compare.calls k2 ((a0 ++ (⟨#[46]⟩ : ByteArray)) ++ x7_2) (a0 ++ (⟨#[46]⟩ : ByteArray)) t283 _ A32.out).mono ?_); rintro e w36 ⟨rfl, hb⟩; have n0_ := Aside0.mk (below_step (by repeat (first | (with_reducible first | exact HB.out | apply below_alloc | apply pw_below_drewN | apply below_drew1) | exact HB.out)) hb); clear HB; have HB := n0_; clear n0_; (try clear hb); (try clear hb2); (try clear hk); (try clear hi)))
                                  go_meet
                                  case rel => exact ⟨_, ((t283 != 0)), (by first | rfl | (simp; done) | (simp [*]; done)), H', ⟨by have := HJ3.out; have := HK2.out; first | omega | exact Nat.le_refl _⟩, ⟨by repeat (first | (with_reducible first | exact HB.out | apply below_alloc | apply pw_below_drewN | apply below_drew1) | exact HB.out)⟩⟩
                                · rw [if_neg c31] at H
                                  have c31b0 : (t282 == (-1)) = false := beq_eq_false_iff_ne.mpr c31
                                  have c31b1 : (t282 != (-1)) = true := bne_iff_ne.mpr c31
                                  have H' := Aside0.mk H
                                  clear H
                                  go_wp2_with (first | ((with_reducible refine gate_callee (f := 12) rfl ?_); refine goesL_ (some 57) rfl rfl Tryd.func12 (by kernel_rfl) rfl #[.string (((a0 ++ (⟨#[46]⟩ : ByteArray)) ++ x7_2) ++ t279), .string (a0 ++ (⟨#[46]⟩ : ByteArray))] rfl (by (try simp only [List.map_toArray, List.map_cons, List.map_nil]); first | done | rfl | (simp only [List.length_drop, List.length_take]; rfl)) ?_; (with_reducible refine (version_Compare.calls k2 (((a0 ++ (⟨#[46]⟩ : ByteArray)) ++ x7_2) ++ t279) (a0 ++ (⟨#[46]⟩ : ByteArray)) t280 _ A23.out).mono ?_); rintro e w37 ⟨rfl, hb⟩; refine ⟨_, rfl, ?_⟩; have n0_ := Aside0.mk (below_step (by repeat (first | (with_reducible first | exact HB.out | apply below_alloc | apply pw_below_drewN | apply below_drew1) | exact HB.out)) hb); clear HB; have HB := n0_; clear n0_; (try clear hb); (try clear hb2); (try clear hk); (try clear hi)) | (go_at_call 12; (with_reducible refine (version_Compare.calls k2 (((a0 ++ (⟨#[46]⟩ : ByteArray)) ++ x7_2) ++ (⟨#[114, 99]⟩ : ByteArray)) (a0 ++ (⟨#[46]⟩ : ByteArray)) t281 _ A26.out).mono ?_); rintro e w38 ⟨rfl, hb⟩; have n0_ := Aside0.mk (below_step (by repeat (first | (with_reducible first | exact HB.out | apply below_alloc | apply pw_below_drewN | apply below_drew1) | exact HB.out)) hb); clear HB; have HB := n0_; clear n0_; (try clear hb); (try clear hb2); (try clear hk); (try clear hi)) | (go_at_call 12; (with_reducible refine (version_Compare.calls k2 ((((a0 ++ (⟨#[46]⟩ : ByteArray)) ++ x7_2) ++ (⟨#[126]⟩ : ByteArray)) ++ t279) (a0 ++ (⟨#[46]⟩ : ByteArray)) t282 _ A30.out).mono ?_); rintro e w39 ⟨rfl, hb⟩; have n0_ := Aside0.mk (below_step (by repeat (first | (with_reducible first | exact HB.out | apply below_alloc | apply pw_below_drewN | apply below_drew1) | exact HB.out)) hb); clear HB; have HB := n0_; clear n0_; (try clear hb); (try clear hb2); (try clear hk); (try clear hi)))
                                  go_meet
                                  case rel => exact ⟨_, (true), (by first | rfl | (simp; done) | (simp [*]; done)), H', ⟨by have := HJ3.out; have := HK2.out; first | omega | exact Nat.le_refl _⟩, ⟨by repeat (first | (with_reducible first | exact HB.out | apply below_alloc | apply pw_below_drewN | apply below_drew1) | exact HB.out)⟩⟩
                              · rw [if_neg c29] at H
                                exact absurd H (by simp)
                            · rw [if_neg c28] at H
                              exact absurd H (by simp)
                          · rw [if_neg c27] at H
                            have c27b0 : (t281 == 1) = false := beq_eq_false_iff_ne.mpr c27
                            have c27b1 : (t281 != 1) = true := bne_iff_ne.mpr c27
                            have H' := Aside0.mk H
                            clear H
                            go_wp2_with (first | ((with_reducible refine gate_callee (f := 12) rfl ?_); refine goesL_ (some 57) rfl rfl Tryd.func12 (by kernel_rfl) rfl #[.string (((a0 ++ (⟨#[46]⟩ : ByteArray)) ++ x7_2) ++ t279), .string (a0 ++ (⟨#[46]⟩ : ByteArray))] rfl (by (try simp only [List.map_toArray, List.map_cons, List.map_nil]); first | done | rfl | (simp only [List.length_drop, List.length_take]; rfl)) ?_; (with_reducible refine (version_Compare.calls k2 (((a0 ++ (⟨#[46]⟩ : ByteArray)) ++ x7_2) ++ t279) (a0 ++ (⟨#[46]⟩ : ByteArray)) t280 _ A23.out).mono ?_); rintro e w40 ⟨rfl, hb⟩; refine ⟨_, rfl, ?_⟩; have n0_ := Aside0.mk (below_step (by repeat (first | (with_reducible first | exact HB.out | apply below_alloc | apply pw_below_drewN | apply below_drew1) | exact HB.out)) hb); clear HB; have HB := n0_; clear n0_; (try clear hb); (try clear hb2); (try clear hk); (try clear hi)) | (go_at_call 12; (with_reducible refine (version_Compare.calls k2 (((a0 ++ (⟨#[46]⟩ : ByteArray)) ++ x7_2) ++ (⟨#[114, 99]⟩ : ByteArray)) (a0 ++ (⟨#[46]⟩ : ByteArray)) t281 _ A26.out).mono ?_); rintro e w41 ⟨rfl, hb⟩; have n0_ := Aside0.mk (below_step (by repeat (first | (with_reducible first | exact HB.out | apply below_alloc | apply pw_below_drewN | apply below_drew1) | exact HB.out)) hb); clear HB; have HB := n0_; clear n0_; (try clear hb); (try clear hb2); (try clear hk); (try clear hi)))
                            go_meet
                            case rel => exact ⟨_, (true), (by first | rfl | (simp; done) | (simp [*]; done)), H', ⟨by have := HJ3.out; have := HK2.out; first | omega | exact Nat.le_refl _⟩, ⟨by repeat (first | (with_reducible first | exact HB.out | apply below_alloc | apply pw_below_drewN | apply below_drew1) | exact HB.out)⟩⟩
                        · rw [if_neg c25] at H
                          exact absurd H (by simp)
                      · rw [if_neg c24] at H
                        have c24b0 : (t280 == 1) = false := beq_eq_false_iff_ne.mpr c24
                        have c24b1 : (t280 != 1) = true := bne_iff_ne.mpr c24
                        (first | rw [c24b0] | (simp only [i64_w, i32_w]; rw [c24b0]) | skip)
                        have H' := Aside0.mk H
                        clear H
                        go_wp2_with (first | ((with_reducible refine gate_callee (f := 12) rfl ?_); refine goesL_ (some 57) rfl rfl Tryd.func12 (by kernel_rfl) rfl #[.string (((a0 ++ (⟨#[46]⟩ : ByteArray)) ++ x7_2) ++ t279), .string (a0 ++ (⟨#[46]⟩ : ByteArray))] rfl (by (try simp only [List.map_toArray, List.map_cons, List.map_nil]); first | done | rfl | (simp only [List.length_drop, List.length_take]; rfl)) ?_; (with_reducible refine (version_Compare.calls k2 (((a0 ++ (⟨#[46]⟩ : ByteArray)) ++ x7_2) ++ t279) (a0 ++ (⟨#[46]⟩ : ByteArray)) t280 _ A23.out).mono ?_); rintro e w42 ⟨rfl, hb⟩; refine ⟨_, rfl, ?_⟩; have n0_ := Aside0.mk (below_step (by repeat (first | (with_reducible first | exact HB.out | apply below_alloc | apply pw_below_drewN | apply below_drew1) | exact HB.out)) hb); clear HB; have HB := n0_; clear n0_; (try clear hb); (try clear hb2); (try clear hk); (try clear hi)))
                        go_meet
                        case rel => exact ⟨_, (true), (by first | rfl | (simp; done) | (simp [*]; done)), H', ⟨by have := HJ3.out; have := HK2.out; first | omega | exact Nat.le_refl _⟩, ⟨by repeat (first | (with_reducible first | exact HB.out | apply below_alloc | apply pw_below_drewN | apply below_drew1) | exact HB.out)⟩⟩
                    · rw [if_neg c22] at H
                      exact absurd H (by simp)
                  · rw [if_neg c21] at H
                    exact absurd H (by simp)
                case rest =>
                  clear HC20
                  try clear c1
                  try clear hcv1
                  try clear c2
                  try clear p2
                  try clear q2
                  try clear hx2
                  try clear c3
                  try clear c5
                  try clear c5b0
                  try clear c5b1
                  try clear c6
                  try clear p6
                  try clear c8
                  try clear c9
                  try clear c9b0
                  try clear c9b1
                  try clear c9b2
                  try clear c10
                  try clear c10b0
                  try clear c11
                  try clear c11b0
                  try clear c12
                  try clear c13
                  try clear c14
                  try clear c14b0
                  try clear c14b1
                  try clear c15
                  try clear c15b0
                  try clear c15b1
                  try clear c15b2
                  try clear hcv18
                  try clear c21
                  try clear c21b0
                  try clear c21b1
                  try clear c21b2
                  try clear c22
                  try clear c22b0
                  try clear c22b1
                  try clear c22b2
                  try clear c24
                  try clear c24b0
                  try clear c24b1
                  try clear c25
                  try clear c25b0
                  try clear c25b1
                  try clear c25b2
                  try clear c27
                  try clear c27b0
                  try clear c27b1
                  try clear p27
                  try clear q27
                  try clear hx27
                  try clear c28
                  try clear c28b0
                  try clear c28b1
                  try clear c28b2
                  try clear c29
                  try clear c29b0
                  try clear c29b1
                  try clear c29b2
                  try clear c31
                  try clear c31b0
                  try clear c31b1
                  try clear hx272_0
                  try clear hx274_0
                  try clear hx275_0
                  try clear p2
                  try clear p272
                  try clear p274
                  try clear p275
                  try clear q272
                  try clear q274
                  try clear q275
                  obtain ⟨kq, x86_19, rfl, HA, HJ19, HB⟩ := hcut
                  cases kq with
                  | zero => exact absurd HA.out (by simp [credenzalaw15_VersionTails.j2])
                  | succ kj19 =>
                    have H := HA.out
                    clear HA
                    simp only [credenzalaw15_VersionTails.j2] at H
                    by_cases c43 : x86_19 = true
                    · subst c43
                      have H1 : (some false) = some r := by rw [if_pos rfl] at H; exact H
                      clear H
                      have H := H1
                      clear H1
                      obtain rfl := Option.some.inj H
                      go_wp2
                      go_ret
                      exact ⟨by first | rfl | (simp [errW_none, errW_some] <;> rfl) | (simp [*, errW_none, errW_some] <;> rfl), by repeat (first | (with_reducible first | exact HB.out | apply below_alloc | apply pw_below_drewN | apply below_drew1) | exact HB.out)⟩
                    · replace c43 := Bool.eq_false_iff.mpr c43
                      subst c43
                      have H1 : (if (a0 ++ (⟨#[46]⟩ : ByteArray)).size + x7_2.size ≤ 9223372036854775807 then (if ((a0 ++ (⟨#[46]⟩ : ByteArray)) ++ x7_2).size + t279.size ≤ 9223372036854775807 then (if (a0 ++ (⟨#[46]⟩ : ByteArray)).size + 2 ≤ 9223372036854775807 then ((version_Compare.f kj19 (((a0 ++ (⟨#[46]⟩ : ByteArray)) ++ x7_2) ++ t279) ((a0 ++ (⟨#[46]⟩ : ByteArray)) ++ (⟨#[114, 99]⟩ : ByteArray))).bind fun t284 => (if t284 = 1 then (if (a0 ++ (⟨#[46]⟩ : ByteArray)).size + 1 ≤ 9223372036854775807 then (if ((a0 ++ (⟨#[46]⟩ : ByteArray)) ++ x7_2).size + 2 ≤ 9223372036854775807 then ((version_Compare.f kj19 ((a0 ++ (⟨#[46]⟩ : ByteArray)) ++ (⟨#[126]⟩ : ByteArray)) (((a0 ++ (⟨#[46]⟩ : ByteArray)) ++ x7_2) ++ (⟨#[126, 126]⟩ : ByteArray))).bind fun t285 => (if t285 = 1 then ((credenzalaw15_awake.f kj19).bind fun t286 => (some t286)) else (some false))) else (none)) else (none)) else (some false))) else (none)) else (none)) else (none)) = some r := by rw [if_neg (show ¬ (false = true) by decide)] at H; exact H
                      clear H
                      have H := H1
                      clear H1
                      by_cases c44 : (a0 ++ (⟨#[46]⟩ : ByteArray)).size + x7_2.size ≤ 9223372036854775807
                      · rw [if_pos c44] at H
                        have c44b0 := eq_true c44
                        have c44b1 : decide ((a0 ++ (⟨#[46]⟩ : ByteArray)).size + x7_2.size ≤ 9223372036854775807) = true := decide_eq_true c44
                        try have c44b2 : (9223372036854775807 < (a0 ++ (⟨#[46]⟩ : ByteArray)).size + x7_2.size) = False := eq_false (Nat.not_lt.2 c44)
                        (try (have c44n : a0.size + 1 + x7_2.size ≤ 9223372036854775807 := by (have z_ := c44; simp only [ByteArray.size_append] at z_; exact z_)))
                        (try (have c44n0 := eq_true c44n))
                        (try (have c44n1 : decide (a0.size + 1 + x7_2.size ≤ 9223372036854775807) = true := decide_eq_true c44n))
                        (try (have c44n2 : (9223372036854775807 < a0.size + 1 + x7_2.size) = False := eq_false (Nat.not_lt.2 c44n)))
                        by_cases c45 : ((a0 ++ (⟨#[46]⟩ : ByteArray)) ++ x7_2).size + t279.size ≤ 9223372036854775807
                        · rw [if_pos c45] at H
                          have c45b0 := eq_true c45
                          have c45b1 : decide (((a0 ++ (⟨#[46]⟩ : ByteArray)) ++ x7_2).size + t279.size ≤ 9223372036854775807) = true := decide_eq_true c45
                          try have c45b2 : (9223372036854775807 < ((a0 ++ (⟨#[46]⟩ : ByteArray)) ++ x7_2).size + t279.size) = False := eq_false (Nat.not_lt.2 c45)
                          (try (have c45n : a0.size + 1 + x7_2.size + t279.size ≤ 9223372036854775807 := by (have z_ := c45; simp only [ByteArray.size_append] at z_; exact z_)))
                          (try (have c45n0 := eq_true c45n))
                          (try (have c45n1 : decide (a0.size + 1 + x7_2.size + t279.size ≤ 9223372036854775807) = true := decide_eq_true c45n))
                          (try (have c45n2 : (9223372036854775807 < a0.size + 1 + x7_2.size + t279.size) = False := eq_false (Nat.not_lt.2 c45n)))
                          by_cases c46 : (a0 ++ (⟨#[46]⟩ : ByteArray)).size + 2 ≤ 9223372036854775807
                          · rw [if_pos c46] at H
                            have c46b0 := eq_true c46
                            have c46b1 : decide ((a0 ++ (⟨#[46]⟩ : ByteArray)).size + 2 ≤ 9223372036854775807) = true := decide_eq_true c46
                            try have c46b2 : (9223372036854775807 < (a0 ++ (⟨#[46]⟩ : ByteArray)).size + 2) = False := eq_false (Nat.not_lt.2 c46)
                            (try (have c46n : a0.size + 1 + 2 ≤ 9223372036854775807 := by (have z_ := c46; simp only [ByteArray.size_append] at z_; exact z_)))
                            (try (have c46n0 := eq_true c46n))
                            (try (have c46n1 : decide (a0.size + 1 + 2 ≤ 9223372036854775807) = true := decide_eq_true c46n))
                            (try (have c46n2 : (9223372036854775807 < a0.size + 1 + 2) = False := eq_false (Nat.not_lt.2 c46n)))
                            replace H := Option.bind_eq_some_iff.mp H
                            obtain ⟨t284, A470, H⟩ := H
                            replace H : (if t284 = 1 then (if (a0 ++ (⟨#[46]⟩ : ByteArray)).size + 1 ≤ 9223372036854775807 then (if ((a0 ++ (⟨#[46]⟩ : ByteArray)) ++ x7_2).size + 2 ≤ 9223372036854775807 then ((version_Compare.f kj19 ((a0 ++ (⟨#[46]⟩ : ByteArray)) ++ (⟨#[126]⟩ : ByteArray)) (((a0 ++ (⟨#[46]⟩ : ByteArray)) ++ x7_2) ++ (⟨#[126, 126]⟩ : ByteArray))).bind fun t285 => (if t285 = 1 then ((credenzalaw15_awake.f kj19).bind fun t286 => (some t286)) else (some false))) else (none)) else (none)) else (some false)) = some r := H
                            have A47 := Aside0.mk A470
                            clear A470
                            by_cases c48 : t284 = 1
                            · rw [if_pos c48] at H
                              have c48b0 : (t284 == 1) = true := beq_iff_eq.mpr c48
                              have c48b1 : (t284 != 1) = false := bne_eq_false_iff_eq.mpr c48
                              clear c48
                              by_cases c49 : (a0 ++ (⟨#[46]⟩ : ByteArray)).size + 1 ≤ 9223372036854775807
                              · rw [if_pos c49] at H
                                have c49b0 := eq_true c49
                                have c49b1 : decide ((a0 ++ (⟨#[46]⟩ : ByteArray)).size + 1 ≤ 9223372036854775807) = true := decide_eq_true c49
                                try have c49b2 : (9223372036854775807 < (a0 ++ (⟨#[46]⟩ : ByteArray)).size + 1) = False := eq_false (Nat.not_lt.2 c49)
                                (try (have c49n : a0.size + 1 + 1 ≤ 9223372036854775807 := by (have z_ := c49; simp only [ByteArray.size_append] at z_; exact z_)))
                                (try (have c49n0 := eq_true c49n))
                                (try (have c49n1 : decide (a0.size + 1 + 1 ≤ 9223372036854775807) = true := decide_eq_true c49n))
                                (try (have c49n2 : (9223372036854775807 < a0.size + 1 + 1) = False := eq_false (Nat.not_lt.2 c49n)))
                                by_cases c50 : ((a0 ++ (⟨#[46]⟩ : ByteArray)) ++ x7_2).size + 2 ≤ 9223372036854775807
                                · rw [if_pos c50] at H
                                  have c50b0 := eq_true c50
                                  have c50b1 : decide (((a0 ++ (⟨#[46]⟩ : ByteArray)) ++ x7_2).size + 2 ≤ 9223372036854775807) = true := decide_eq_true c50
                                  try have c50b2 : (9223372036854775807 < ((a0 ++ (⟨#[46]⟩ : ByteArray)) ++ x7_2).size + 2) = False := eq_false (Nat.not_lt.2 c50)
                                  (try (have c50n : a0.size + 1 + x7_2.size + 2 ≤ 9223372036854775807 := by (have z_ := c50; simp only [ByteArray.size_append] at z_; exact z_)))
                                  (try (have c50n0 := eq_true c50n))
                                  (try (have c50n1 : decide (a0.size + 1 + x7_2.size + 2 ≤ 9223372036854775807) = true := decide_eq_true c50n))
                                  (try (have c50n2 : (9223372036854775807 < a0.size + 1 + x7_2.size + 2) = False := eq_false (Nat.not_lt.2 c50n)))
                                  replace H := Option.bind_eq_some_iff.mp H
                                  obtain ⟨t285, A510, H⟩ := H
                                  replace H : (if t285 = 1 then ((credenzalaw15_awake.f kj19).bind fun t286 => (some t286)) else (some false)) = some r := H
                                  have A51 := Aside0.mk A510
                                  clear A510
                                  by_cases c52 : t285 = 1
                                  · rw [if_pos c52] at H
                                    have c52b0 : (t285 == 1) = true := beq_iff_eq.mpr c52
                                    have c52b1 : (t285 != 1) = false := bne_eq_false_iff_eq.mpr c52
                                    clear c52
                                    replace H := Option.bind_eq_some_iff.mp H
                                    obtain ⟨t286, A530, H⟩ := H
                                    replace H : (some t286) = some r := H
                                    have A53 := Aside0.mk A530
                                    clear A530
                                    obtain rfl := Option.some.inj H
                                    go_wp2_with (first | ((with_reducible refine gate_callee (f := 12) rfl ?_); refine goesL_ (some 94) rfl rfl Tryd.func12 (by kernel_rfl) rfl #[.string (((a0 ++ (⟨#[46]⟩ : ByteArray)) ++ x7_2) ++ t279), .string ((a0 ++ (⟨#[46]⟩ : ByteArray)) ++ (⟨#[114, 99]⟩ : ByteArray))] rfl (by (try simp only [List.map_toArray, List.map_cons, List.map_nil]); first | done | rfl | (simp only [List.length_drop, List.length_take]; rfl)) ?_; (with_reducible refine (version_Compare.calls kj19 (((a0 ++ (⟨#[46]⟩ : ByteArray)) ++ x7_2) ++ t279) ((a0 ++ (⟨#[46]⟩ : ByteArray)) ++ (⟨#[114, 99]⟩ : ByteArray)) t284 _ A47.out).mono ?_); rintro e w54 ⟨rfl, hb⟩; refine ⟨_, rfl, ?_⟩; have n0_ := Aside0.mk (below_step (by repeat (first | (with_reducible first | exact HB.out | apply below_alloc | apply pw_below_drewN | apply below_drew1) | exact HB.out)) hb); clear HB; have HB := n0_; clear n0_; (try clear hb); (try clear hb2); (try clear hk); (try clear hi)) | (go_at_call 12; (with_reducible refine (version_Compare.calls kj19 ((a0 ++ (⟨#[46]⟩ : ByteArray)) ++ (⟨#[126]⟩ : ByteArray)) (((a0 ++ (⟨#[46]⟩ : ByteArray)) ++ x7_2) ++ (⟨#[126, 126]⟩ : ByteArray)) t285 _ A51.out).mono ?_); rintro e w55 ⟨rfl, hb⟩; have n0_ := Aside0.mk (below_step (by repeat (first | (with_reducible first | exact HB.out | apply below_alloc | apply pw_below_drewN | apply below_drew1) | exact HB.out)) hb); clear HB; have HB := n0_; clear n0_; (try clear hb); (try clear hb2); (try clear hk); (try clear hi)) | (go_at_call 13; (with_reducible refine (credenzalaw15_awake.calls kj19  t286 _ A53.out).mono ?_); rintro e w56 ⟨rfl, hb⟩; have n0_ := Aside0.mk (below_step (by repeat (first | (with_reducible first | exact HB.out | apply below_alloc | apply pw_below_drewN | apply below_drew1) | exact HB.out)) hb); clear HB; have HB := n0_; clear n0_; (try clear hb); (try clear hb2); (try clear hk); (try clear hi)))
                                    go_ret
                                    exact ⟨by first | rfl | (simp [errW_none, errW_some] <;> rfl) | (simp [*, errW_none, errW_some] <;> rfl), by repeat (first | (with_reducible first | exact HB.out | apply below_alloc | apply pw_below_drewN | apply below_drew1) | exact HB.out)⟩
                                  · rw [if_neg c52] at H
                                    have c52b0 : (t285 == 1) = false := beq_eq_false_iff_ne.mpr c52
                                    have c52b1 : (t285 != 1) = true := bne_iff_ne.mpr c52
                                    obtain rfl := Option.some.inj H
                                    go_wp2_with (first | ((with_reducible refine gate_callee (f := 12) rfl ?_); refine goesL_ (some 94) rfl rfl Tryd.func12 (by kernel_rfl) rfl #[.string (((a0 ++ (⟨#[46]⟩ : ByteArray)) ++ x7_2) ++ t279), .string ((a0 ++ (⟨#[46]⟩ : ByteArray)) ++ (⟨#[114, 99]⟩ : ByteArray))] rfl (by (try simp only [List.map_toArray, List.map_cons, List.map_nil]); first | done | rfl | (simp only [List.length_drop, List.length_take]; rfl)) ?_; (with_reducible refine (version_Compare.calls kj19 (((a0 ++ (⟨#[46]⟩ : ByteArray)) ++ x7_2) ++ t279) ((a0 ++ (⟨#[46]⟩ : ByteArray)) ++ (⟨#[114, 99]⟩ : ByteArray)) t284 _ A47.out).mono ?_); rintro e w57 ⟨rfl, hb⟩; refine ⟨_, rfl, ?_⟩; have n0_ := Aside0.mk (below_step (by repeat (first | (with_reducible first | exact HB.out | apply below_alloc | apply pw_below_drewN | apply below_drew1) | exact HB.out)) hb); clear HB; have HB := n0_; clear n0_; (try clear hb); (try clear hb2); (try clear hk); (try clear hi)) | (go_at_call 12; (with_reducible refine (version_Compare.calls kj19 ((a0 ++ (⟨#[46]⟩ : ByteArray)) ++ (⟨#[126]⟩ : ByteArray)) (((a0 ++ (⟨#[46]⟩ : ByteArray)) ++ x7_2) ++ (⟨#[126, 126]⟩ : ByteArray)) t285 _ A51.out).mono ?_); rintro e w58 ⟨rfl, hb⟩; have n0_ := Aside0.mk (below_step (by repeat (first | (with_reducible first | exact HB.out | apply below_alloc | apply pw_below_drewN | apply below_drew1) | exact HB.out)) hb); clear HB; have HB := n0_; clear n0_; (try clear hb); (try clear hb2); (try clear hk); (try clear hi)))
                                    go_ret
                                    exact ⟨by first | rfl | (simp [errW_none, errW_some] <;> rfl) | (simp [*, errW_none, errW_some] <;> rfl), by repeat (first | (with_reducible first | exact HB.out | apply below_alloc | apply pw_below_drewN | apply below_drew1) | exact HB.out)⟩
                                · rw [if_neg c50] at H
                                  exact absurd H (by simp)
                              · rw [if_neg c49] at H
                                exact absurd H (by simp)
                            · rw [if_neg c48] at H
                              have c48b0 : (t284 == 1) = false := beq_eq_false_iff_ne.mpr c48
                              have c48b1 : (t284 != 1) = true := bne_iff_ne.mpr c48
                              obtain rfl := Option.some.inj H
                              go_wp2_with (first | ((with_reducible refine gate_callee (f := 12) rfl ?_); refine goesL_ (some 94) rfl rfl Tryd.func12 (by kernel_rfl) rfl #[.string (((a0 ++ (⟨#[46]⟩ : ByteArray)) ++ x7_2) ++ t279), .string ((a0 ++ (⟨#[46]⟩ : ByteArray)) ++ (⟨#[114, 99]⟩ : ByteArray))] rfl (by (try simp only [List.map_toArray, List.map_cons, List.map_nil]); first | done | rfl | (simp only [List.length_drop, List.length_take]; rfl)) ?_; (with_reducible refine (version_Compare.calls kj19 (((a0 ++ (⟨#[46]⟩ : ByteArray)) ++ x7_2) ++ t279) ((a0 ++ (⟨#[46]⟩ : ByteArray)) ++ (⟨#[114, 99]⟩ : ByteArray)) t284 _ A47.out).mono ?_); rintro e w59 ⟨rfl, hb⟩; refine ⟨_, rfl, ?_⟩; have n0_ := Aside0.mk (below_step (by repeat (first | (with_reducible first | exact HB.out | apply below_alloc | apply pw_below_drewN | apply below_drew1) | exact HB.out)) hb); clear HB; have HB := n0_; clear n0_; (try clear hb); (try clear hb2); (try clear hk); (try clear hi)))
                              go_ret
                              exact ⟨by first | rfl | (simp [errW_none, errW_some] <;> rfl) | (simp [*, errW_none, errW_some] <;> rfl), by repeat (first | (with_reducible first | exact HB.out | apply below_alloc | apply pw_below_drewN | apply below_drew1) | exact HB.out)⟩
                          · rw [if_neg c46] at H
                            exact absurd H (by simp)
                        · rw [if_neg c45] at H
                          exact absurd H (by simp)
                      · rw [if_neg c44] at H
                        exact absurd H (by simp)
        · rw [if_neg c9] at H
          exact absurd H (by simp)

/-- THE ONE PURE STATEMENT of credenzalaw15_VersionTails: yours. -/
def credenzalaw15_VersionTails.Pure : Prop := ∀ (a0 : ByteArray) (a1 : Int) (l2 : List Int), a0.size ≤ 140737488351232 → (Lit.int .i64 a1).wf = true → l2.length ≤ maxLen → l2.length * 1 ≤ 140737488351232 → (∀ x ∈ l2, (Lit.int .u8 x).wf = true) → ∃ k, credenzalaw15_VersionTails.f k a0 a1 l2 = some true
theorem credenzalaw15_VersionTails.walk (P : credenzalaw15_VersionTails.Pure) (a0 : ByteArray) (a1 : Int) (a2 : Option Addr) (len2 cap2 : Nat) (z2 : List Int) (w : World) (w0 : a0.size ≤ 140737488351232) (w1 : (Lit.int .i64 a1).wf = true) (w2 : (a2 = none ∧ len2 = 0 ∧ cap2 = 0 ∧ z2 = []) ∨ ∃ x, a2 = some x ∧ len2 ≤ cap2 ∧ cap2 ≤ maxLen ∧ z2.length = cap2 ∧ (∀ i, i < z2.length → w.cell? (x.add i) = some (.int .u8 (z2.getD i 0))) ∧ ∀ n ∈ z2, (Lit.int .u8 n).wf = true) (y2 : len2 * 1 ≤ 140737488351232) :
    Calls Tryd.prog 8 #[.string a0, .int .i64 a1, .slice a2 len2 cap2] w fun e w' => e = .returned (.bool true) ∧ Below w.heap.size w w' := by
  obtain ⟨l2, rfl, hr2, hm2, hw2, hc2⟩ := ReadsInt.ofRowC w2
  obtain ⟨k, h⟩ := P a0 a1 l2 w0 w1 hm2 y2 hw2
  refine (credenzalaw15_VersionTails.calls k a0 a1 _ _ l2 true w (Kd.C_of_reads (d := (0 : Int)) (h1 := fun _ => rfl) hr2) hc2 h).mono ?_
  rintro e w' ⟨rfl, hd⟩
  exact ⟨rfl, hd⟩

end Go.Proofs.YtndpokjakogpnaaDoor.V

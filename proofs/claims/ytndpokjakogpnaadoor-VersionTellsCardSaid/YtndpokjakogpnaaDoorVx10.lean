-- written by hprint.py (wip/tools): the kit's print with hand contracts
import Derived.Test.YtndpokjakogpnaaDoorVx0
import Derived.Test.YtndpokjakogpnaaDoorVx9
namespace Go.Proofs.YtndpokjakogpnaaDoor.V
open Go.RowKit Go.Proofs.YtndpokjakogpnaaDoorW.PrintWords Go.Proofs.YtndpokjakogpnaaDoorW.PrintLast Go.Proofs.YtndpokjakogpnaaDoorW.PrintMore
attribute [local go_sem] max2_int min2_int max_two min_two max_three min_three max_four min_four   -- for this text's walks alone
set_option linter.unusedVariables false
set_option linter.unusedSimpArgs false

/-! ### credenzaref14_Tokens: function 17 -/
mutual
def credenzaref14_Tokens.l0 : Nat → ByteArray → List (S35) → Int → Option ((List (S35)))
  | 0, _, _, _ => none
  | k + 1, x0, x3, x4 => if x4 < (x0.size : Int) then (if 0 ≤ x4 then ((credenzaref14_class.f k (bt x0 x4)).bind fun t176 => (credenzaref14_Tokens.l1 k x0 x3 x4 t176 1)) else (none)) else (some x3)
def credenzaref14_Tokens.j2 : Nat → ByteArray → List (S35) → Int → Int → Int → Option ((List (S35)))
  | 0, _, _, _, _, _ => none
  | k + 1, x0, x3, x4, x5, x6 => if 0 ≤ x4 then (if x4 ≤ (wrap64 (x4 + x6)) then (if (wrap64 (x4 + x6)) ≤ (x0.size : Int) then (credenzaref14_Tokens.l2 k x0 x3 x4 x5 x6 (x0.extract (x4 : Int).toNat ((wrap64 (x4 + x6)) : Int).toNat)) else (none)) else (none)) else (none)
def credenzaref14_Tokens.l2 : Nat → ByteArray → List (S35) → Int → Int → Int → ByteArray → Option ((List (S35)))
  | 0, _, _, _, _, _, _ => none
  | k + 1, x0, x3, x4, x5, x6, x7 => if x5 = 3 then (if (x7.size : Int) > 0 then (if 0 < (x7.size : Int) then (if (bt x7 0) = 48 then (if 1 ≤ (x7.size : Int) then (credenzaref14_Tokens.l2 k x0 x3 x4 x5 x6 (x7.extract 1 x7.size)) else (none)) else (if x5 ≥ 0 then (if x3.length < 5864062014805 then (credenzaref14_Tokens.l0 k x0 (x3 ++ [(⟨x5, x7⟩ : S35)]) (wrap64 (x4 + x6))) else (none)) else (credenzaref14_Tokens.l0 k x0 x3 (wrap64 (x4 + x6))))) else (none)) else (if x5 ≥ 0 then (if x3.length < 5864062014805 then (credenzaref14_Tokens.l0 k x0 (x3 ++ [(⟨x5, x7⟩ : S35)]) (wrap64 (x4 + x6))) else (none)) else (credenzaref14_Tokens.l0 k x0 x3 (wrap64 (x4 + x6))))) else (if x5 ≥ 0 then (if x3.length < 5864062014805 then (credenzaref14_Tokens.l0 k x0 (x3 ++ [(⟨x5, x7⟩ : S35)]) (wrap64 (x4 + x6))) else (none)) else (credenzaref14_Tokens.l0 k x0 x3 (wrap64 (x4 + x6))))
def credenzaref14_Tokens.l1 : Nat → ByteArray → List (S35) → Int → Int → Int → Option ((List (S35)))
  | 0, _, _, _, _, _ => none
  | k + 1, x0, x3, x4, x5, x6 => if x5 = 0 then (credenzaref14_Tokens.j2 k x0 x3 x4 x5 x6) else (if x5 ≥ 0 then (if (wrap64 (x4 + x6)) < (x0.size : Int) then (if 0 ≤ (wrap64 (x4 + x6)) then ((credenzaref14_class.f k (bt x0 (wrap64 (x4 + x6)))).bind fun t177 => (if t177 = x5 then (credenzaref14_Tokens.l1 k x0 x3 x4 x5 (wrap64 (x6 + 1))) else (credenzaref14_Tokens.j2 k x0 x3 x4 x5 x6))) else (none)) else (credenzaref14_Tokens.j2 k x0 x3 x4 x5 x6)) else (credenzaref14_Tokens.j2 k x0 x3 x4 x5 x6))
end
def credenzaref14_Tokens.f (k : Nat) (a0 : ByteArray) : Option ((List (S35))) := credenzaref14_Tokens.l0 k a0 ([] : List (S35)) 0
theorem credenzaref14_Tokens.mono_l : ∀ k, (∀ y0 y1 y2, LeO (credenzaref14_Tokens.l0 k y0 y1 y2) (credenzaref14_Tokens.l0 (k + 1) y0 y1 y2)) ∧ (∀ y0 y1 y2 y3 y4, LeO (credenzaref14_Tokens.j2 k y0 y1 y2 y3 y4) (credenzaref14_Tokens.j2 (k + 1) y0 y1 y2 y3 y4)) ∧ (∀ y0 y1 y2 y3 y4 y5, LeO (credenzaref14_Tokens.l2 k y0 y1 y2 y3 y4 y5) (credenzaref14_Tokens.l2 (k + 1) y0 y1 y2 y3 y4 y5)) ∧ (∀ y0 y1 y2 y3 y4, LeO (credenzaref14_Tokens.l1 k y0 y1 y2 y3 y4) (credenzaref14_Tokens.l1 (k + 1) y0 y1 y2 y3 y4))
  | 0 => ⟨fun _ _ _ r h => by simp [credenzaref14_Tokens.l0] at h, fun _ _ _ _ _ r h => by simp [credenzaref14_Tokens.j2] at h, fun _ _ _ _ _ _ r h => by simp [credenzaref14_Tokens.l2] at h, fun _ _ _ _ _ r h => by simp [credenzaref14_Tokens.l1] at h⟩
  | k + 1 => by
    obtain ⟨ih0, ih1, ih2, ih3⟩ := credenzaref14_Tokens.mono_l k
    refine ⟨?_, ?_, ?_, ?_⟩
    · intro y0 y1 y2
      unfold credenzaref14_Tokens.l0
      repeat' first
      | (with_reducible exact ih0 _ _ _)
      | (with_reducible exact ih1 _ _ _ _ _)
      | (with_reducible exact ih2 _ _ _ _ _ _)
      | (with_reducible exact ih3 _ _ _ _ _)
      | (with_reducible exact credenzaref14_class.mono _ _)
      | (with_reducible exact LeO.refl _)
      | (with_reducible exact LeO.none _)
      | (with_reducible refine LeO.ite ?_ ?_)
      | (with_reducible refine LeO.bind ?_ (fun _ => ?_))
      | exact ih0 _ _ _
      | exact ih1 _ _ _ _ _
      | exact ih2 _ _ _ _ _ _
      | exact ih3 _ _ _ _ _
      | exact credenzaref14_class.mono _ _
      | exact LeO.none _
      | refine LeO.ite ?_ ?_
      | refine LeO.bind ?_ (fun _ => ?_)
    · intro y0 y1 y2 y3 y4
      unfold credenzaref14_Tokens.j2
      repeat' first
      | (with_reducible exact ih0 _ _ _)
      | (with_reducible exact ih1 _ _ _ _ _)
      | (with_reducible exact ih2 _ _ _ _ _ _)
      | (with_reducible exact ih3 _ _ _ _ _)
      | (with_reducible exact credenzaref14_class.mono _ _)
      | (with_reducible exact LeO.refl _)
      | (with_reducible exact LeO.none _)
      | (with_reducible refine LeO.ite ?_ ?_)
      | (with_reducible refine LeO.bind ?_ (fun _ => ?_))
      | exact ih0 _ _ _
      | exact ih1 _ _ _ _ _
      | exact ih2 _ _ _ _ _ _
      | exact ih3 _ _ _ _ _
      | exact credenzaref14_class.mono _ _
      | exact LeO.none _
      | refine LeO.ite ?_ ?_
      | refine LeO.bind ?_ (fun _ => ?_)
    · intro y0 y1 y2 y3 y4 y5
      unfold credenzaref14_Tokens.l2
      repeat' first
      | (with_reducible exact ih0 _ _ _)
      | (with_reducible exact ih1 _ _ _ _ _)
      | (with_reducible exact ih2 _ _ _ _ _ _)
      | (with_reducible exact ih3 _ _ _ _ _)
      | (with_reducible exact credenzaref14_class.mono _ _)
      | (with_reducible exact LeO.refl _)
      | (with_reducible exact LeO.none _)
      | (with_reducible refine LeO.ite ?_ ?_)
      | (with_reducible refine LeO.bind ?_ (fun _ => ?_))
      | exact ih0 _ _ _
      | exact ih1 _ _ _ _ _
      | exact ih2 _ _ _ _ _ _
      | exact ih3 _ _ _ _ _
      | exact credenzaref14_class.mono _ _
      | exact LeO.none _
      | refine LeO.ite ?_ ?_
      | refine LeO.bind ?_ (fun _ => ?_)
    · intro y0 y1 y2 y3 y4
      unfold credenzaref14_Tokens.l1
      repeat' first
      | (with_reducible exact ih0 _ _ _)
      | (with_reducible exact ih1 _ _ _ _ _)
      | (with_reducible exact ih2 _ _ _ _ _ _)
      | (with_reducible exact ih3 _ _ _ _ _)
      | (with_reducible exact credenzaref14_class.mono _ _)
      | (with_reducible exact LeO.refl _)
      | (with_reducible exact LeO.none _)
      | (with_reducible refine LeO.ite ?_ ?_)
      | (with_reducible refine LeO.bind ?_ (fun _ => ?_))
      | exact ih0 _ _ _
      | exact ih1 _ _ _ _ _
      | exact ih2 _ _ _ _ _ _
      | exact ih3 _ _ _ _ _
      | exact credenzaref14_class.mono _ _
      | exact LeO.none _
      | refine LeO.ite ?_ ?_
      | refine LeO.bind ?_ (fun _ => ?_)
theorem credenzaref14_Tokens.mono : ∀ a0 k, LeO (credenzaref14_Tokens.f k a0) (credenzaref14_Tokens.f (k + 1) a0) := by
  intro a0 k
  obtain ⟨ih0, ih1, ih2, ih3⟩ := credenzaref14_Tokens.mono_l k
  unfold credenzaref14_Tokens.f
  repeat' first
      | (with_reducible exact ih0 _ _ _)
      | (with_reducible exact ih1 _ _ _ _ _)
      | (with_reducible exact ih2 _ _ _ _ _ _)
      | (with_reducible exact ih3 _ _ _ _ _)
      | (with_reducible exact credenzaref14_class.mono _ _)
      | (with_reducible exact LeO.refl _)
      | (with_reducible exact LeO.none _)
      | (with_reducible refine LeO.ite ?_ ?_)
      | (with_reducible refine LeO.bind ?_ (fun _ => ?_))
      | exact ih0 _ _ _
      | exact ih1 _ _ _ _ _
      | exact ih2 _ _ _ _ _ _
      | exact ih3 _ _ _ _ _
      | exact credenzaref14_class.mono _ _
      | exact LeO.none _
      | refine LeO.ite ?_ ?_
      | refine LeO.bind ?_ (fun _ => ?_)
set_option maxHeartbeats 8000000 in
set_option maxRecDepth 100000 in
theorem credenzaref14_Tokens.calls (k : Nat) (a0 : ByteArray) (r : List (S35)) (w : World) (h : credenzaref14_Tokens.f k a0 = some r) :
    Calls Tryd.prog 17 #[.string a0] w fun e w' => ∃ v0_ : Value, e = .returned (v0_) ∧ Kd.R k35 35 w' w.heap.size (fun _ => True) v0_ r ∧ Below w.heap.size w w' := by
  have hu35 := Tryd.underlying35
  have HB := Aside0.mk (Below.refl w.heap.size w)
  have H : (credenzaref14_Tokens.l0 k a0 ([] : List (S35)) 0) = some r := h
  clear h
  have H' := Aside0.mk H
  clear H
  go_enter Tryd.func17, Tryd.ntmps17
  go_wp2
  go_loopg [3, 4] k (fun kq v3 v4 w' => ∃ (x3_1 : List (S35)) (x4_1 : Int), v4 = .int .i64 x4_1 ∧ Aside0 (credenzaref14_Tokens.l0 kq a0 x3_1 x4_1 = some r) ∧ Aside0 (kq ≤ k) ∧ Aside0 (Kd.R k35 35 w' w.heap.size (fun _ => True) v3 x3_1) ∧ Aside0 (Below w.heap.size w w'))
  case atStart => exact ⟨(([] : List (S35))), (0), (by first | rfl | (simp; done) | (simp [*]; done)), H', ⟨Nat.le_refl _⟩, ⟨by first | exact Kd.R_nil _ _ _ _ _ | exact Kd.N_nil _ _ _ _ _ | exact Kd.V_nil _ _ _ _ _ | exact Kd.Q_nil _ _ _ _ _ | exact Kd.S_nil _ _ _ _ _⟩, ⟨by repeat (first | (with_reducible first | exact HB.out | apply below_alloc | apply pw_below_drewN | apply below_drew1) | exact HB.out)⟩⟩
  case round =>
    clear H'
    try clear c1
    obtain ⟨x3_1, x4_1, rfl, HA, HK1, HO_3, HB⟩ := hrel
    cases gk with
    | zero => exact absurd HA.out (by simp [credenzaref14_Tokens.l0])
    | succ k1 =>
      have H := HA.out
      clear HA
      simp only [credenzaref14_Tokens.l0] at H
      by_cases c2 : x4_1 < (a0.size : Int)
      · rw [if_pos c2] at H
        have c2b0 : decide (x4_1 < (a0.size : Int)) = true := decide_eq_true c2
        clear c2
        by_cases c3 : 0 ≤ x4_1
        · rw [if_pos c3] at H
          have c3b0 : decide (0 ≤ x4_1) = true := decide_eq_true c3
          clear c3
          replace H := Option.bind_eq_some_iff.mp H
          obtain ⟨t176, A50, H⟩ := H
          replace H : (credenzaref14_Tokens.l1 k1 a0 x3_1 x4_1 t176 1) = some r := H
          have A5 := Aside0.mk A50
          clear A50
          have HC6 := Aside0.mk H
          clear H
          have p4 : 0 ≤ (x4_1 : Int) := of_decide_eq_true (by first | (with_reducible assumption) | assumption)
          have q4 : x4_1 < (a0.size : Int) := of_decide_eq_true (by first | (with_reducible assumption) | assumption)
          have hx4 := bt_at a0 x4_1
          replace p4 := eq_true p4
          replace q4 := eq_true q4
          go_upto_block 2 with (first | ((with_reducible refine gate_callee (f := 32) rfl ?_); refine goesL_ (some 15) rfl rfl Tryd.func32 (by kernel_rfl) rfl #[.int .u8 (bt a0 x4_1)] rfl (by (try simp only [List.map_toArray, List.map_cons, List.map_nil]); first | done | rfl | (simp only [List.length_drop, List.length_take]; rfl)) ?_; (with_reducible refine (credenzaref14_class.calls k1 (bt a0 x4_1) t176 _ A5.out).mono ?_); rintro e w' ⟨rfl, ⟨nd, rfl⟩⟩; refine ⟨_, rfl, ?_⟩))
          (try simp only [Act.put, List.setIfInBounds_toArray, List.set_cons_zero, List.set_cons_succ])
          go_cut [6] (fun v6 wc => ∃ (kq : Nat) (x6_5 : Int), v6 = .int .i64 x6_5 ∧ Aside0 (credenzaref14_Tokens.j2 kq a0 x3_1 x4_1 t176 x6_5 = some r) ∧ Aside0 (kq ≤ k1) ∧ Aside0 (Kd.R k35 35 wc w.heap.size (fun _ => True) u3 x3_1) ∧ Aside0 (Below w.heap.size w wc))
          case first =>
            have H := HC6.out
            clear HC6
            have H' := Aside0.mk H
            clear H
            go_wp2
            go_loopg [6] k1 (fun kq v6 w' => ∃ (x6_2 : Int), v6 = .int .i64 x6_2 ∧ Aside0 (credenzaref14_Tokens.l1 kq a0 x3_1 x4_1 t176 x6_2 = some r) ∧ Aside0 (kq ≤ k1) ∧ Aside0 (Kd.R k35 35 w' w.heap.size (fun _ => True) u3 x3_1) ∧ Aside0 (Below w.heap.size w w'))
            case atStart => exact ⟨(1), (by first | rfl | (simp; done) | (simp [*]; done)), H', ⟨Nat.le_refl _⟩, ⟨by (with_reducible repeat (first | apply Kd.R_alloc | apply Kd.R_drewN | apply Kd.R_drew)); exact HO_3.out⟩, ⟨by repeat (first | (with_reducible first | exact HB.out | apply below_alloc | apply pw_below_drewN | apply below_drew1) | exact HB.out)⟩⟩
            case round =>
              clear H'
              try clear c1
              try clear c2
              try clear c2b0
              try clear p2
              try clear c3
              try clear c3b0
              try clear p4
              try clear q4
              try clear hx4
              try clear p4
              try clear q4
              obtain ⟨x6_2, rfl, HA, HK2, HO_3, HB⟩ := hrel
              cases gk with
              | zero => exact absurd HA.out (by simp [credenzaref14_Tokens.l1])
              | succ k2 =>
                have H := HA.out
                clear HA
                simp only [credenzaref14_Tokens.l1] at H
                by_cases c7 : t176 = 0
                · rw [if_pos c7] at H
                  have c7b0 : (t176 == 0) = true := beq_iff_eq.mpr c7
                  have c7b1 : (t176 != 0) = false := bne_eq_false_iff_eq.mpr c7
                  clear c7
                  (first | rw [c7b0] | (simp only [i64_w, i32_w]; rw [c7b0]) | skip)
                  have H' := Aside0.mk H
                  clear H
                  go_wp2
                  go_meet
                  case rel => exact ⟨_, (x6_2), (by first | rfl | (simp; done) | (simp [*]; done)), H', ⟨by have := HK1.out; have := HK2.out; first | omega | exact Nat.le_refl _⟩, ⟨by (with_reducible repeat (first | apply Kd.R_alloc | apply Kd.R_drewN | apply Kd.R_drew)); exact HO_3.out⟩, ⟨by repeat (first | (with_reducible first | exact HB.out | apply below_alloc | apply pw_below_drewN | apply below_drew1) | exact HB.out)⟩⟩
                · rw [if_neg c7] at H
                  have c7b0 : (t176 == 0) = false := beq_eq_false_iff_ne.mpr c7
                  have c7b1 : (t176 != 0) = true := bne_iff_ne.mpr c7
                  (first | rw [c7b0] | (simp only [i64_w, i32_w]; rw [c7b0]) | skip)
                  by_cases c8 : t176 ≥ 0
                  · rw [if_pos c8] at H
                    have c8b0 : decide (0 ≤ t176) = true := decide_eq_true c8
                    clear c8
                    by_cases c9 : (wrap64 (x4_1 + x6_2)) < (a0.size : Int)
                    · rw [if_pos c9] at H
                      have c9b0 : decide ((wrap64 (x4_1 + x6_2)) < (a0.size : Int)) = true := decide_eq_true c9
                      clear c9
                      obtain ⟨ji10, hji10⟩ : ∃ j_ : Int, (wrap64 (x4_1 + x6_2)) = j_ := ⟨_, rfl⟩
                      replace H : (if 0 ≤ (ji10) then ((credenzaref14_class.f k2 (bt a0 (ji10))).bind fun t177 => (if t177 = t176 then (credenzaref14_Tokens.l1 k2 a0 x3_1 x4_1 t176 (wrap64 (x6_2 + 1))) else (credenzaref14_Tokens.j2 k2 a0 x3_1 x4_1 t176 x6_2))) else (none)) = some r := by first | (rw [hji10] at H; exact H) | (simp only [hji10] at H ⊢; exact H)
                      (try rw [hji10] at c9b0)
                      have hji10w : (IntKind.i64.wrap (x4_1 + x6_2)) = ji10 := (i64_w _).trans hji10
                      by_cases c11 : 0 ≤ (ji10)
                      · rw [if_pos c11] at H
                        have c11b0 : decide (0 ≤ (ji10)) = true := decide_eq_true c11
                        clear c11
                        replace H := Option.bind_eq_some_iff.mp H
                        obtain ⟨t177, A130, H⟩ := H
                        replace H : (if t177 = t176 then (credenzaref14_Tokens.l1 k2 a0 x3_1 x4_1 t176 (wrap64 (x6_2 + 1))) else (credenzaref14_Tokens.j2 k2 a0 x3_1 x4_1 t176 x6_2)) = some r := H
                        have A13 := Aside0.mk A130
                        clear A130
                        by_cases c14 : t177 = t176
                        · rw [if_pos c14] at H
                          have c14b0 : (t177 == t176) = true := beq_iff_eq.mpr c14
                          have c14b1 : (t177 != t176) = false := bne_eq_false_iff_eq.mpr c14
                          clear c14
                          have H' := Aside0.mk H
                          clear H
                          have p12 : 0 ≤ ((ji10) : Int) := of_decide_eq_true (by first | (with_reducible assumption) | assumption)
                          have q12 : (ji10) < (a0.size : Int) := of_decide_eq_true (by first | (with_reducible assumption) | assumption)
                          have hx12 := bt_at a0 (ji10)
                          replace p12 := eq_true p12
                          replace q12 := eq_true q12
                          go_wp2_with (first | (go_at_call 32; (with_reducible refine (credenzaref14_class.calls k2 (bt a0 (ji10)) t177 _ A13.out).mono ?_); rintro e w' ⟨rfl, ⟨nd, rfl⟩⟩))
                          go_roundg k2
                          case measure => have := HK1.out; have := HK2.out; omega
                          case rel => exact ⟨(wrap64 (x6_2 + 1)), (by first | rfl | (simp; done) | (simp [*]; done)), H', ⟨by have := HK1.out; have := HK2.out; omega⟩, ⟨by (with_reducible repeat (first | apply Kd.R_alloc | apply Kd.R_drewN | apply Kd.R_drew)); exact HO_3.out⟩, ⟨by repeat (first | (with_reducible first | exact HB.out | apply below_alloc | apply pw_below_drewN | apply below_drew1) | exact HB.out)⟩⟩
                        · rw [if_neg c14] at H
                          have c14b0 : (t177 == t176) = false := beq_eq_false_iff_ne.mpr c14
                          have c14b1 : (t177 != t176) = true := bne_iff_ne.mpr c14
                          have H' := Aside0.mk H
                          clear H
                          have p12 : 0 ≤ ((ji10) : Int) := of_decide_eq_true (by first | (with_reducible assumption) | assumption)
                          have q12 : (ji10) < (a0.size : Int) := of_decide_eq_true (by first | (with_reducible assumption) | assumption)
                          have hx12 := bt_at a0 (ji10)
                          replace p12 := eq_true p12
                          replace q12 := eq_true q12
                          go_wp2_with (first | (go_at_call 32; (with_reducible refine (credenzaref14_class.calls k2 (bt a0 (ji10)) t177 _ A13.out).mono ?_); rintro e w' ⟨rfl, ⟨nd, rfl⟩⟩))
                          go_meet
                          case rel => exact ⟨_, (x6_2), (by first | rfl | (simp; done) | (simp [*]; done)), H', ⟨by have := HK1.out; have := HK2.out; first | omega | exact Nat.le_refl _⟩, ⟨by (with_reducible repeat (first | apply Kd.R_alloc | apply Kd.R_drewN | apply Kd.R_drew)); exact HO_3.out⟩, ⟨by repeat (first | (with_reducible first | exact HB.out | apply below_alloc | apply pw_below_drewN | apply below_drew1) | exact HB.out)⟩⟩
                      · rw [if_neg c11] at H
                        exact absurd H (by simp)
                    · rw [if_neg c9] at H
                      have c9b0 : decide ((wrap64 (x4_1 + x6_2)) < (a0.size : Int)) = false := decide_eq_false c9
                      clear c9
                      have H' := Aside0.mk H
                      clear H
                      go_wp2
                      go_meet
                      case rel => exact ⟨_, (x6_2), (by first | rfl | (simp; done) | (simp [*]; done)), H', ⟨by have := HK1.out; have := HK2.out; first | omega | exact Nat.le_refl _⟩, ⟨by (with_reducible repeat (first | apply Kd.R_alloc | apply Kd.R_drewN | apply Kd.R_drew)); exact HO_3.out⟩, ⟨by repeat (first | (with_reducible first | exact HB.out | apply below_alloc | apply pw_below_drewN | apply below_drew1) | exact HB.out)⟩⟩
                  · rw [if_neg c8] at H
                    have c8b0 : decide (0 ≤ t176) = false := decide_eq_false c8
                    clear c8
                    have H' := Aside0.mk H
                    clear H
                    go_wp2
                    go_meet
                    case rel => exact ⟨_, (x6_2), (by first | rfl | (simp; done) | (simp [*]; done)), H', ⟨by have := HK1.out; have := HK2.out; first | omega | exact Nat.le_refl _⟩, ⟨by (with_reducible repeat (first | apply Kd.R_alloc | apply Kd.R_drewN | apply Kd.R_drew)); exact HO_3.out⟩, ⟨by repeat (first | (with_reducible first | exact HB.out | apply below_alloc | apply pw_below_drewN | apply below_drew1) | exact HB.out)⟩⟩
          case rest =>
            clear HC6
            try clear c1
            try clear p1
            try clear q1
            try clear hx1
            try clear c2
            try clear c2b0
            try clear p2
            try clear c3
            try clear c3b0
            try clear p4
            try clear q4
            try clear hx4
            try clear p6
            try clear c7
            try clear c7b0
            try clear c7b1
            try clear c8
            try clear c8b0
            try clear c9
            try clear c9b0
            try clear c11
            try clear c11b0
            try clear p12
            try clear q12
            try clear hx12
            try clear c14
            try clear c14b0
            try clear c14b1
            try clear p12
            try clear p2
            try clear p4
            try clear q12
            try clear q4
            obtain ⟨kq, x6_5, rfl, HA, HJ5, HO_3, HB⟩ := hcut
            cases kq with
            | zero => exact absurd HA.out (by simp [credenzaref14_Tokens.j2])
            | succ kj5 =>
              have H := HA.out
              clear HA
              simp only [credenzaref14_Tokens.j2] at H
              by_cases c15 : 0 ≤ x4_1
              · rw [if_pos c15] at H
                have c15b0 := eq_true c15
                have c15b1 : decide (0 ≤ x4_1) = true := decide_eq_true c15
                clear c15
                by_cases c16 : x4_1 ≤ (wrap64 (x4_1 + x6_5))
                · rw [if_pos c16] at H
                  have c16b0 := eq_true c16
                  have c16b1 : decide (x4_1 ≤ (wrap64 (x4_1 + x6_5))) = true := decide_eq_true c16
                  by_cases c17 : (wrap64 (x4_1 + x6_5)) ≤ (a0.size : Int)
                  · rw [if_pos c17] at H
                    have c17b0 := eq_true c17
                    have c17b1 : decide ((wrap64 (x4_1 + x6_5)) ≤ (a0.size : Int)) = true := decide_eq_true c17
                    have H' := Aside0.mk H
                    clear H
                    go_wp2
                    go_loopg [7] kj5 (fun kq v7 w' => ∃ (x7_3 : ByteArray), v7 = .string x7_3 ∧ Aside0 (credenzaref14_Tokens.l2 kq a0 x3_1 x4_1 t176 x6_5 x7_3 = some r) ∧ Aside0 (kq ≤ kj5) ∧ Aside0 (Kd.R k35 35 w' w.heap.size (fun _ => True) u3 x3_1) ∧ Aside0 (Below w.heap.size w w'))
                    case atStart => exact ⟨(a0.extract (x4_1 : Int).toNat ((wrap64 (x4_1 + x6_5)) : Int).toNat), (by first | rfl | (simp; done) | (simp [*]; done)), H', ⟨Nat.le_refl _⟩, ⟨by (with_reducible repeat (first | apply Kd.R_alloc | apply Kd.R_drewN | apply Kd.R_drew)); exact HO_3.out⟩, ⟨by repeat (first | (with_reducible first | exact HB.out | apply below_alloc | apply pw_below_drewN | apply below_drew1) | exact HB.out)⟩⟩
                    case round =>
                      clear H'
                      try clear c1
                      try clear p1
                      try clear q1
                      try clear hx1
                      try clear c2
                      try clear c2b0
                      try clear p2
                      try clear c3
                      try clear c3b0
                      try clear p4
                      try clear q4
                      try clear hx4
                      try clear p6
                      try clear c7
                      try clear c7b0
                      try clear c7b1
                      try clear c8
                      try clear c8b0
                      try clear c9
                      try clear c9b0
                      try clear c11
                      try clear c11b0
                      try clear p12
                      try clear q12
                      try clear hx12
                      try clear c14
                      try clear c14b0
                      try clear c14b1
                      try clear c15
                      try clear c15b0
                      try clear c15b1
                      try clear c16
                      try clear c16b0
                      try clear c16b1
                      try clear c17
                      try clear c17b0
                      try clear c17b1
                      try clear p1
                      try clear p12
                      try clear p2
                      try clear p4
                      try clear p6
                      try clear q1
                      try clear q12
                      try clear q4
                      obtain ⟨x7_3, rfl, HA, HK3, HO_3, HB⟩ := hrel
                      cases gk with
                      | zero => exact absurd HA.out (by simp [credenzaref14_Tokens.l2])
                      | succ k3 =>
                        have H := HA.out
                        clear HA
                        simp only [credenzaref14_Tokens.l2] at H
                        by_cases c18 : t176 = 3
                        · rw [if_pos c18] at H
                          have c18b0 : (t176 == 3) = true := beq_iff_eq.mpr c18
                          have c18b1 : (t176 != 3) = false := bne_eq_false_iff_eq.mpr c18
                          clear c18
                          by_cases c19 : (x7_3.size : Int) > 0
                          · rw [if_pos c19] at H
                            have c19b0 : decide (0 < (x7_3.size : Int)) = true := decide_eq_true c19
                            have c19b1 : decide (0 < x7_3.size) = true := decide_eq_true (by omega)
                            clear c19
                            by_cases c20 : 0 < (x7_3.size : Int)
                            · rw [if_pos c20] at H
                              have c20b0 : decide (0 < (x7_3.size : Int)) = true := decide_eq_true c20
                              have c20b1 : decide (0 < x7_3.size) = true := decide_eq_true (by omega)
                              clear c20
                              by_cases c22 : (bt x7_3 0) = 48
                              · rw [if_pos c22] at H
                                have c22b0 : ((bt x7_3 0) == 48) = true := beq_iff_eq.mpr c22
                                have c22b1 : ((bt x7_3 0) != 48) = false := bne_eq_false_iff_eq.mpr c22
                                clear c22
                                by_cases c23 : 1 ≤ (x7_3.size : Int)
                                · rw [if_pos c23] at H
                                  have c23b0 := eq_true c23
                                  have c23b1 : decide (1 ≤ (x7_3.size : Int)) = true := decide_eq_true c23
                                  clear c23
                                  have H' := Aside0.mk H
                                  clear H
                                  have p21 : 0 ≤ (0 : Int) := (by omega)
                                  have q21 : 0 < x7_3.size := (by have : (0 : Int) < (x7_3.size : Int) := of_decide_eq_true (by first | (with_reducible assumption) | assumption); omega)
                                  have hx21 : ∀ h : 0 < x7_3.size, ((x7_3[0]'h).toNat : Int) = bt x7_3 0 := bt_at x7_3 0
                                  clear p21
                                  have qi21 : (0 < (x7_3.size : Int)) = True := eq_true (of_decide_eq_true (by first | (with_reducible assumption) | assumption))
                                  replace q21 := eq_true q21
                                  go_wp2
                                  go_roundg k3
                                  case measure => have := HK1.out; have := HJ5.out; have := HK3.out; omega
                                  case rel => exact ⟨(x7_3.extract 1 x7_3.size), (by first | rfl | (simp; done) | (simp [*]; done)), H', ⟨by have := HK1.out; have := HJ5.out; have := HK3.out; omega⟩, ⟨by (with_reducible repeat (first | apply Kd.R_alloc | apply Kd.R_drewN | apply Kd.R_drew)); exact HO_3.out⟩, ⟨by repeat (first | (with_reducible first | exact HB.out | apply below_alloc | apply pw_below_drewN | apply below_drew1) | exact HB.out)⟩⟩
                                · rw [if_neg c23] at H
                                  exact absurd H (by simp)
                              · rw [if_neg c22] at H
                                have c22b0 : ((bt x7_3 0) == 48) = false := beq_eq_false_iff_ne.mpr c22
                                have c22b1 : ((bt x7_3 0) != 48) = true := bne_iff_ne.mpr c22
                                by_cases c24 : t176 ≥ 0
                                · rw [if_pos c24] at H
                                  have c24b0 : decide (0 ≤ t176) = true := decide_eq_true c24
                                  clear c24
                                  by_cases c25 : x3_1.length < 5864062014805
                                  · rw [if_pos c25] at H
                                    have LMc25 := Aside0.mk c25
                                    clear c25
                                    obtain ⟨y178, hy178⟩ : ∃ y_ : List (S35), y_ = (x3_1 ++ [(⟨t176, x7_3⟩ : S35)]) := ⟨_, rfl⟩
                                    replace H : (credenzaref14_Tokens.l0 k3 a0 y178 (wrap64 (x4_1 + x6_5))) = some r := by first | (rw [hy178]; with_reducible exact H) | (have H2_ := (Option.bind_some _ _).symm.trans H; rw [hy178]; with_reducible exact H2_) | (have H2_ := (Option.bind_some _ _).symm.trans H; with_reducible exact H2_) | with_reducible exact H | (rw [hy178]; exact H) | exact H
                                    have Ny178 := Aside0.mk hy178
                                    clear hy178
                                    have H' := Aside0.mk H
                                    clear H
                                    have p21 : 0 ≤ (0 : Int) := (by omega)
                                    have q21 : 0 < x7_3.size := (by have : (0 : Int) < (x7_3.size : Int) := of_decide_eq_true (by first | (with_reducible assumption) | assumption); omega)
                                    have hx21 : ∀ h : 0 < x7_3.size, ((x7_3[0]'h).toNat : Int) = bt x7_3 0 := bt_at x7_3 0
                                    clear p21
                                    have qi21 : (0 < (x7_3.size : Int)) = True := eq_true (of_decide_eq_true (by first | (with_reducible assumption) | assumption))
                                    replace q21 := eq_true q21
                                    go_wp2_with (first | ((with_reducible refine gate_builtin (b := .append) (xs := #[.tmp 64, .tmp 68]) rfl ?_); (try (refine gate_guard (by rfl) ?_; dsimp only)); at_builtin; refine Kd.R_append k35 (w0 := w) w.heap.size rfl (.tmp 64) (.tmp 68) 32 35 (.agg #[(.int .i64 0), (.string ⟨#[]⟩)]) 24 rfl Tryd.underlying32 info35 rfl (by decide) (by omega) u3 x3_1 (⟨t176, x7_3⟩ : S35) [.int .i64 t176, .string x7_3] (fun _ => True) (fun _ => False) rfl rfl ?aP (fun _ hk => hk.elim) ?aF ?aO ?aB ?aS ?aL ?_; (case aP => exact k35_mkM _ _ _ (⟨t176, x7_3⟩ : S35)); (case aB => exact (by repeat (first | (with_reducible first | exact HB.out | apply below_alloc | apply pw_below_drewN | apply below_drew1) | exact HB.out))); (case aF => exact (fun _ _ => trivial)); (case aO => exact (by (with_reducible repeat (first | apply Kd.R_alloc | apply Kd.R_drewN | apply Kd.R_drew)); exact HO_3.out)); (case aS => exact (below_size (by repeat (first | (with_reducible first | exact HB.out | apply below_alloc | apply pw_below_drewN | apply below_drew1) | exact HB.out)))); (case aL => have := LMc25.out; omega); intro v179 w26 ho hb hg hat; rw [← Ny178.out] at ho; have n0_ := Aside0.mk (hb); have n1_ := Aside0.mk (ho); clear HB; clear HO_3; have HB := n0_; have HO180 := n1_; clear n0_ n1_; clear ho hb hg hat))
                                    go_roundg k3
                                    case measure => have := HK1.out; have := HJ5.out; have := HK3.out; omega
                                    case rel => exact ⟨(y178), (wrap64 (x4_1 + x6_5)), (by first | rfl | (simp; done) | (simp [*]; done)), H', ⟨by have := HK1.out; have := HJ5.out; have := HK3.out; omega⟩, ⟨by (with_reducible repeat (first | apply Kd.R_alloc | apply Kd.R_drewN | apply Kd.R_drew)); exact HO180.out⟩, ⟨by repeat (first | (with_reducible first | exact HB.out | apply below_alloc | apply pw_below_drewN | apply below_drew1) | exact HB.out)⟩⟩
                                  · rw [if_neg c25] at H
                                    exact absurd H (by simp)
                                · rw [if_neg c24] at H
                                  have c24b0 : decide (0 ≤ t176) = false := decide_eq_false c24
                                  clear c24
                                  have H' := Aside0.mk H
                                  clear H
                                  have p21 : 0 ≤ (0 : Int) := (by omega)
                                  have q21 : 0 < x7_3.size := (by have : (0 : Int) < (x7_3.size : Int) := of_decide_eq_true (by first | (with_reducible assumption) | assumption); omega)
                                  have hx21 : ∀ h : 0 < x7_3.size, ((x7_3[0]'h).toNat : Int) = bt x7_3 0 := bt_at x7_3 0
                                  clear p21
                                  have qi21 : (0 < (x7_3.size : Int)) = True := eq_true (of_decide_eq_true (by first | (with_reducible assumption) | assumption))
                                  replace q21 := eq_true q21
                                  go_wp2
                                  go_roundg k3
                                  case measure => have := HK1.out; have := HJ5.out; have := HK3.out; omega
                                  case rel => exact ⟨(x3_1), (wrap64 (x4_1 + x6_5)), (by first | rfl | (simp; done) | (simp [*]; done)), H', ⟨by have := HK1.out; have := HJ5.out; have := HK3.out; omega⟩, ⟨by (with_reducible repeat (first | apply Kd.R_alloc | apply Kd.R_drewN | apply Kd.R_drew)); exact HO_3.out⟩, ⟨by repeat (first | (with_reducible first | exact HB.out | apply below_alloc | apply pw_below_drewN | apply below_drew1) | exact HB.out)⟩⟩
                            · rw [if_neg c20] at H
                              exact absurd H (by simp)
                          · rw [if_neg c19] at H
                            have c19b0 : decide (0 < (x7_3.size : Int)) = false := decide_eq_false c19
                            have c19b1 : decide (0 < x7_3.size) = false := decide_eq_false (by omega)
                            clear c19
                            by_cases c27 : t176 ≥ 0
                            · rw [if_pos c27] at H
                              have c27b0 : decide (0 ≤ t176) = true := decide_eq_true c27
                              clear c27
                              by_cases c28 : x3_1.length < 5864062014805
                              · rw [if_pos c28] at H
                                have LMc28 := Aside0.mk c28
                                clear c28
                                obtain ⟨y181, hy181⟩ : ∃ y_ : List (S35), y_ = (x3_1 ++ [(⟨t176, x7_3⟩ : S35)]) := ⟨_, rfl⟩
                                replace H : (credenzaref14_Tokens.l0 k3 a0 y181 (wrap64 (x4_1 + x6_5))) = some r := by first | (rw [hy181]; with_reducible exact H) | (have H2_ := (Option.bind_some _ _).symm.trans H; rw [hy181]; with_reducible exact H2_) | (have H2_ := (Option.bind_some _ _).symm.trans H; with_reducible exact H2_) | with_reducible exact H | (rw [hy181]; exact H) | exact H
                                have Ny181 := Aside0.mk hy181
                                clear hy181
                                have H' := Aside0.mk H
                                clear H
                                go_wp2_with (first | ((with_reducible refine gate_builtin (b := .append) (xs := #[.tmp 64, .tmp 68]) rfl ?_); (try (refine gate_guard (by rfl) ?_; dsimp only)); at_builtin; refine Kd.R_append k35 (w0 := w) w.heap.size rfl (.tmp 64) (.tmp 68) 32 35 (.agg #[(.int .i64 0), (.string ⟨#[]⟩)]) 24 rfl Tryd.underlying32 info35 rfl (by decide) (by omega) u3 x3_1 (⟨t176, x7_3⟩ : S35) [.int .i64 t176, .string x7_3] (fun _ => True) (fun _ => False) rfl rfl ?aP (fun _ hk => hk.elim) ?aF ?aO ?aB ?aS ?aL ?_; (case aP => exact k35_mkM _ _ _ (⟨t176, x7_3⟩ : S35)); (case aB => exact (by repeat (first | (with_reducible first | exact HB.out | apply below_alloc | apply pw_below_drewN | apply below_drew1) | exact HB.out))); (case aF => exact (fun _ _ => trivial)); (case aO => exact (by (with_reducible repeat (first | apply Kd.R_alloc | apply Kd.R_drewN | apply Kd.R_drew)); exact HO_3.out)); (case aS => exact (below_size (by repeat (first | (with_reducible first | exact HB.out | apply below_alloc | apply pw_below_drewN | apply below_drew1) | exact HB.out)))); (case aL => have := LMc28.out; omega); intro v182 w29 ho hb hg hat; rw [← Ny181.out] at ho; have n0_ := Aside0.mk (hb); have n1_ := Aside0.mk (ho); clear HB; clear HO_3; have HB := n0_; have HO183 := n1_; clear n0_ n1_; clear ho hb hg hat))
                                go_roundg k3
                                case measure => have := HK1.out; have := HJ5.out; have := HK3.out; omega
                                case rel => exact ⟨(y181), (wrap64 (x4_1 + x6_5)), (by first | rfl | (simp; done) | (simp [*]; done)), H', ⟨by have := HK1.out; have := HJ5.out; have := HK3.out; omega⟩, ⟨by (with_reducible repeat (first | apply Kd.R_alloc | apply Kd.R_drewN | apply Kd.R_drew)); exact HO183.out⟩, ⟨by repeat (first | (with_reducible first | exact HB.out | apply below_alloc | apply pw_below_drewN | apply below_drew1) | exact HB.out)⟩⟩
                              · rw [if_neg c28] at H
                                exact absurd H (by simp)
                            · rw [if_neg c27] at H
                              have c27b0 : decide (0 ≤ t176) = false := decide_eq_false c27
                              clear c27
                              have H' := Aside0.mk H
                              clear H
                              go_wp2
                              go_roundg k3
                              case measure => have := HK1.out; have := HJ5.out; have := HK3.out; omega
                              case rel => exact ⟨(x3_1), (wrap64 (x4_1 + x6_5)), (by first | rfl | (simp; done) | (simp [*]; done)), H', ⟨by have := HK1.out; have := HJ5.out; have := HK3.out; omega⟩, ⟨by (with_reducible repeat (first | apply Kd.R_alloc | apply Kd.R_drewN | apply Kd.R_drew)); exact HO_3.out⟩, ⟨by repeat (first | (with_reducible first | exact HB.out | apply below_alloc | apply pw_below_drewN | apply below_drew1) | exact HB.out)⟩⟩
                        · rw [if_neg c18] at H
                          have c18b0 : (t176 == 3) = false := beq_eq_false_iff_ne.mpr c18
                          have c18b1 : (t176 != 3) = true := bne_iff_ne.mpr c18
                          by_cases c30 : t176 ≥ 0
                          · rw [if_pos c30] at H
                            have c30b0 : decide (0 ≤ t176) = true := decide_eq_true c30
                            clear c30
                            by_cases c31 : x3_1.length < 5864062014805
                            · rw [if_pos c31] at H
                              have LMc31 := Aside0.mk c31
                              clear c31
                              obtain ⟨y184, hy184⟩ : ∃ y_ : List (S35), y_ = (x3_1 ++ [(⟨t176, x7_3⟩ : S35)]) := ⟨_, rfl⟩
                              replace H : (credenzaref14_Tokens.l0 k3 a0 y184 (wrap64 (x4_1 + x6_5))) = some r := by first | (rw [hy184]; with_reducible exact H) | (have H2_ := (Option.bind_some _ _).symm.trans H; rw [hy184]; with_reducible exact H2_) | (have H2_ := (Option.bind_some _ _).symm.trans H; with_reducible exact H2_) | with_reducible exact H | (rw [hy184]; exact H) | exact H
                              have Ny184 := Aside0.mk hy184
                              clear hy184
                              have H' := Aside0.mk H
                              clear H
                              go_wp2_with (first | ((with_reducible refine gate_builtin (b := .append) (xs := #[.tmp 64, .tmp 68]) rfl ?_); (try (refine gate_guard (by rfl) ?_; dsimp only)); at_builtin; refine Kd.R_append k35 (w0 := w) w.heap.size rfl (.tmp 64) (.tmp 68) 32 35 (.agg #[(.int .i64 0), (.string ⟨#[]⟩)]) 24 rfl Tryd.underlying32 info35 rfl (by decide) (by omega) u3 x3_1 (⟨t176, x7_3⟩ : S35) [.int .i64 t176, .string x7_3] (fun _ => True) (fun _ => False) rfl rfl ?aP (fun _ hk => hk.elim) ?aF ?aO ?aB ?aS ?aL ?_; (case aP => exact k35_mkM _ _ _ (⟨t176, x7_3⟩ : S35)); (case aB => exact (by repeat (first | (with_reducible first | exact HB.out | apply below_alloc | apply pw_below_drewN | apply below_drew1) | exact HB.out))); (case aF => exact (fun _ _ => trivial)); (case aO => exact (by (with_reducible repeat (first | apply Kd.R_alloc | apply Kd.R_drewN | apply Kd.R_drew)); exact HO_3.out)); (case aS => exact (below_size (by repeat (first | (with_reducible first | exact HB.out | apply below_alloc | apply pw_below_drewN | apply below_drew1) | exact HB.out)))); (case aL => have := LMc31.out; omega); intro v185 w32 ho hb hg hat; rw [← Ny184.out] at ho; have n0_ := Aside0.mk (hb); have n1_ := Aside0.mk (ho); clear HB; clear HO_3; have HB := n0_; have HO186 := n1_; clear n0_ n1_; clear ho hb hg hat))
                              go_roundg k3
                              case measure => have := HK1.out; have := HJ5.out; have := HK3.out; omega
                              case rel => exact ⟨(y184), (wrap64 (x4_1 + x6_5)), (by first | rfl | (simp; done) | (simp [*]; done)), H', ⟨by have := HK1.out; have := HJ5.out; have := HK3.out; omega⟩, ⟨by (with_reducible repeat (first | apply Kd.R_alloc | apply Kd.R_drewN | apply Kd.R_drew)); exact HO186.out⟩, ⟨by repeat (first | (with_reducible first | exact HB.out | apply below_alloc | apply pw_below_drewN | apply below_drew1) | exact HB.out)⟩⟩
                            · rw [if_neg c31] at H
                              exact absurd H (by simp)
                          · rw [if_neg c30] at H
                            have c30b0 : decide (0 ≤ t176) = false := decide_eq_false c30
                            clear c30
                            have H' := Aside0.mk H
                            clear H
                            go_wp2
                            go_roundg k3
                            case measure => have := HK1.out; have := HJ5.out; have := HK3.out; omega
                            case rel => exact ⟨(x3_1), (wrap64 (x4_1 + x6_5)), (by first | rfl | (simp; done) | (simp [*]; done)), H', ⟨by have := HK1.out; have := HJ5.out; have := HK3.out; omega⟩, ⟨by (with_reducible repeat (first | apply Kd.R_alloc | apply Kd.R_drewN | apply Kd.R_drew)); exact HO_3.out⟩, ⟨by repeat (first | (with_reducible first | exact HB.out | apply below_alloc | apply pw_below_drewN | apply below_drew1) | exact HB.out)⟩⟩
                  · rw [if_neg c17] at H
                    exact absurd H (by simp)
                · rw [if_neg c16] at H
                  exact absurd H (by simp)
              · rw [if_neg c15] at H
                exact absurd H (by simp)
        · rw [if_neg c3] at H
          exact absurd H (by simp)
      · rw [if_neg c2] at H
        have c2b0 : decide (x4_1 < (a0.size : Int)) = false := decide_eq_false c2
        clear c2
        obtain rfl := Option.some.inj H
        go_wp2
        go_ret
        exact ⟨_, by first | rfl | (simp [errW_none, errW_some] <;> rfl) | (simp [*, errW_none, errW_some] <;> rfl), by (with_reducible repeat (first | apply Kd.R_alloc | apply Kd.R_drewN | apply Kd.R_drew)); exact HO_3.out, by repeat (first | (with_reducible first | exact HB.out | apply below_alloc | apply pw_below_drewN | apply below_drew1) | exact HB.out)⟩

end Go.Proofs.YtndpokjakogpnaaDoor.V

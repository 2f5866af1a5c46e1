-- written by hprint.py (wip/tools): the kit's print with hand contracts
import Derived.Test.YtndpokjakogpnaaDoorVx0
import Derived.Test.YtndpokjakogpnaaDoorVx10
import Derived.Test.YtndpokjakogpnaaDoorVx11
namespace Go.Proofs.YtndpokjakogpnaaDoor.V
open Go.RowKit Go.Proofs.YtndpokjakogpnaaDoorW.PrintWords Go.Proofs.YtndpokjakogpnaaDoorW.PrintLast Go.Proofs.YtndpokjakogpnaaDoorW.PrintMore
attribute [local go_sem] max2_int min2_int max_two min_two max_three min_three max_four min_four   -- for this text's walks alone
set_option linter.unusedVariables false
set_option linter.unusedSimpArgs false

/-! ### credenzaref14_Compare: function 18 -/
mutual
def credenzaref14_Compare.l0 : Nat → List (S35) → List (S35) → Int → Option (Int)
  | 0, _, _, _ => none
  | k + 1, x5, x6, x7 => if x7 < (x5.length : Int) then (credenzaref14_Compare.j1 k x5 x6 x7 true) else (credenzaref14_Compare.j1 k x5 x6 x7 (decide (x7 < (x6.length : Int))))
def credenzaref14_Compare.j1 : Nat → List (S35) → List (S35) → Int → Bool → Option (Int)
  | 0, _, _, _, _ => none
  | k + 1, x5, x6, x7, x24 => if x24 = true then ((credenzaref14_at.f x5 x7).bind fun bt195 => ((credenzaref14_at.f x6 x7).bind fun bt197 => ((credenzaref14_order.f bt195.1 bt197.1).bind fun t201 => (if t201 = 0 then (credenzaref14_Compare.j2 k x5 x6 x7 t201 (bt195.1 == 3) bt195.1 bt195.2 bt197.1 bt197.2) else (credenzaref14_Compare.j2 k x5 x6 x7 t201 false bt195.1 bt195.2 bt197.1 bt197.2))))) else (some 0)
def credenzaref14_Compare.j2 : Nat → List (S35) → List (S35) → Int → Int → Bool → Int → ByteArray → Int → ByteArray → Option (Int)
  | 0, _, _, _, _, _, _, _, _, _ => none
  | k + 1, x5, x6, x7, x10, x44, x200000, x200001, x201000, x201001 => if x44 = true then ((credenzaref14_order.f (x200001.size : Int) (x201001.size : Int)).bind fun t202 => (credenzaref14_Compare.j3 k x5 x6 x7 t202 x200000 x200001 x201000 x201001)) else (credenzaref14_Compare.j3 k x5 x6 x7 x10 x200000 x200001 x201000 x201001)
def credenzaref14_Compare.j3 : Nat → List (S35) → List (S35) → Int → Int → Int → ByteArray → Int → ByteArray → Option (Int)
  | 0, _, _, _, _, _, _, _, _ => none
  | k + 1, x5, x6, x7, x10, x200000, x200001, x201000, x201001 => if x10 = 0 then ((credenzaref14_texts.f x200001 x201001).bind fun t203 => (if t203 = 0 then (credenzaref14_Compare.l0 k x5 x6 (wrap64 (x7 + 1))) else (some t203))) else (some x10)
end
def credenzaref14_Compare.f (k : Nat) (a0 : ByteArray) (a1 : ByteArray) : Option (Int) := (credenzaref14_Tokens.f k a0).bind fun t189 => ((credenzaref14_Tokens.f k a1).bind fun t192 => (credenzaref14_Compare.l0 k t189 t192 0))
theorem credenzaref14_Compare.mono_l : ∀ k, (∀ y0 y1 y2, LeO (credenzaref14_Compare.l0 k y0 y1 y2) (credenzaref14_Compare.l0 (k + 1) y0 y1 y2)) ∧ (∀ y0 y1 y2 y3, LeO (credenzaref14_Compare.j1 k y0 y1 y2 y3) (credenzaref14_Compare.j1 (k + 1) y0 y1 y2 y3)) ∧ (∀ y0 y1 y2 y3 y4 y5 y6 y7 y8, LeO (credenzaref14_Compare.j2 k y0 y1 y2 y3 y4 y5 y6 y7 y8) (credenzaref14_Compare.j2 (k + 1) y0 y1 y2 y3 y4 y5 y6 y7 y8)) ∧ (∀ y0 y1 y2 y3 y4 y5 y6 y7, LeO (credenzaref14_Compare.j3 k y0 y1 y2 y3 y4 y5 y6 y7) (credenzaref14_Compare.j3 (k + 1) y0 y1 y2 y3 y4 y5 y6 y7))
  | 0 => ⟨fun _ _ _ r h => by simp [credenzaref14_Compare.l0] at h, fun _ _ _ _ r h => by simp [credenzaref14_Compare.j1] at h, fun _ _ _ _ _ _ _ _ _ r h => by simp [credenzaref14_Compare.j2] at h, fun _ _ _ _ _ _ _ _ r h => by simp [credenzaref14_Compare.j3] at h⟩
  | k + 1 => by
    obtain ⟨ih0, ih1, ih2, ih3⟩ := credenzaref14_Compare.mono_l k
    refine ⟨?_, ?_, ?_, ?_⟩
    · intro y0 y1 y2
      unfold credenzaref14_Compare.l0
      repeat' first
      | (with_reducible exact ih0 _ _ _)
      | (with_reducible exact ih1 _ _ _ _)
      | (with_reducible exact ih2 _ _ _ _ _ _ _ _ _)
      | (with_reducible exact ih3 _ _ _ _ _ _ _ _)
      | (with_reducible exact credenzaref14_Tokens.mono _ _)
      | (with_reducible exact LeO.refl _)
      | (with_reducible exact LeO.none _)
      | (with_reducible refine LeO.ite ?_ ?_)
      | (with_reducible refine LeO.bind ?_ (fun _ => ?_))
      | exact ih0 _ _ _
      | exact ih1 _ _ _ _
      | exact ih2 _ _ _ _ _ _ _ _ _
      | exact ih3 _ _ _ _ _ _ _ _
      | exact credenzaref14_Tokens.mono _ _
      | exact LeO.none _
      | refine LeO.ite ?_ ?_
      | refine LeO.bind ?_ (fun _ => ?_)
    · intro y0 y1 y2 y3
      unfold credenzaref14_Compare.j1
      repeat' first
      | (with_reducible exact ih0 _ _ _)
      | (with_reducible exact ih1 _ _ _ _)
      | (with_reducible exact ih2 _ _ _ _ _ _ _ _ _)
      | (with_reducible exact ih3 _ _ _ _ _ _ _ _)
      | (with_reducible exact credenzaref14_Tokens.mono _ _)
      | (with_reducible exact LeO.refl _)
      | (with_reducible exact LeO.none _)
      | (with_reducible refine LeO.ite ?_ ?_)
      | (with_reducible refine LeO.bind ?_ (fun _ => ?_))
      | exact ih0 _ _ _
      | exact ih1 _ _ _ _
      | exact ih2 _ _ _ _ _ _ _ _ _
      | exact ih3 _ _ _ _ _ _ _ _
      | exact credenzaref14_Tokens.mono _ _
      | exact LeO.none _
      | refine LeO.ite ?_ ?_
      | refine LeO.bind ?_ (fun _ => ?_)
    · intro y0 y1 y2 y3 y4 y5 y6 y7 y8
      unfold credenzaref14_Compare.j2
      repeat' first
      | (with_reducible exact ih0 _ _ _)
      | (with_reducible exact ih1 _ _ _ _)
      | (with_reducible exact ih2 _ _ _ _ _ _ _ _ _)
      | (with_reducible exact ih3 _ _ _ _ _ _ _ _)
      | (with_reducible exact credenzaref14_Tokens.mono _ _)
      | (with_reducible exact LeO.refl _)
      | (with_reducible exact LeO.none _)
      | (with_reducible refine LeO.ite ?_ ?_)
      | (with_reducible refine LeO.bind ?_ (fun _ => ?_))
      | exact ih0 _ _ _
      | exact ih1 _ _ _ _
      | exact ih2 _ _ _ _ _ _ _ _ _
      | exact ih3 _ _ _ _ _ _ _ _
      | exact credenzaref14_Tokens.mono _ _
      | exact LeO.none _
      | refine LeO.ite ?_ ?_
      | refine LeO.bind ?_ (fun _ => ?_)
    · intro y0 y1 y2 y3 y4 y5 y6 y7
      unfold credenzaref14_Compare.j3
      repeat' first
      | (with_reducible exact ih0 _ _ _)
      | (with_reducible exact ih1 _ _ _ _)
      | (with_reducible exact ih2 _ _ _ _ _ _ _ _ _)
      | (with_reducible exact ih3 _ _ _ _ _ _ _ _)
      | (with_reducible exact credenzaref14_Tokens.mono _ _)
      | (with_reducible exact LeO.refl _)
      | (with_reducible exact LeO.none _)
      | (with_reducible refine LeO.ite ?_ ?_)
      | (with_reducible refine LeO.bind ?_ (fun _ => ?_))
      | exact ih0 _ _ _
      | exact ih1 _ _ _ _
      | exact ih2 _ _ _ _ _ _ _ _ _
      | exact ih3 _ _ _ _ _ _ _ _
      | exact credenzaref14_Tokens.mono _ _
      | exact LeO.none _
      | refine LeO.ite ?_ ?_
      | refine LeO.bind ?_ (fun _ => ?_)
theorem credenzaref14_Compare.mono : ∀ a0 a1 k, LeO (credenzaref14_Compare.f k a0 a1) (credenzaref14_Compare.f (k + 1) a0 a1) := by
  intro a0 a1 k
  obtain ⟨ih0, ih1, ih2, ih3⟩ := credenzaref14_Compare.mono_l k
  unfold credenzaref14_Compare.f
  repeat' first
      | (with_reducible exact ih0 _ _ _)
      | (with_reducible exact ih1 _ _ _ _)
      | (with_reducible exact ih2 _ _ _ _ _ _ _ _ _)
      | (with_reducible exact ih3 _ _ _ _ _ _ _ _)
      | (with_reducible exact credenzaref14_Tokens.mono _ _)
      | (with_reducible exact LeO.refl _)
      | (with_reducible exact LeO.none _)
      | (with_reducible refine LeO.ite ?_ ?_)
      | (with_reducible refine LeO.bind ?_ (fun _ => ?_))
      | exact ih0 _ _ _
      | exact ih1 _ _ _ _
      | exact ih2 _ _ _ _ _ _ _ _ _
      | exact ih3 _ _ _ _ _ _ _ _
      | exact credenzaref14_Tokens.mono _ _
      | exact LeO.none _
      | refine LeO.ite ?_ ?_
      | refine LeO.bind ?_ (fun _ => ?_)
set_option maxHeartbeats 8000000 in
set_option maxRecDepth 100000 in
theorem credenzaref14_Compare.calls (k : Nat) (a0 : ByteArray) (a1 : ByteArray) (r : Int) (w : World) (h : credenzaref14_Compare.f k a0 a1 = some r) :
    Calls Tryd.prog 18 #[.string a0, .string a1] w fun e w' => e = .returned (.int .i64 r) ∧ Below w.heap.size w w' := by
  have hu35 := Tryd.underlying35
  have HB := Aside0.mk (Below.refl w.heap.size w)
  have H : ((credenzaref14_Tokens.f k a0).bind fun t189 => ((credenzaref14_Tokens.f k a1).bind fun t192 => (credenzaref14_Compare.l0 k t189 t192 0))) = some r := h
  clear h
  replace H := Option.bind_eq_some_iff.mp H
  obtain ⟨t189, A30, H⟩ := H
  replace H : ((credenzaref14_Tokens.f k a1).bind fun t192 => (credenzaref14_Compare.l0 k t189 t192 0)) = some r := H
  have A3 := Aside0.mk A30
  clear A30
  replace H := Option.bind_eq_some_iff.mp H
  obtain ⟨t192, A40, H⟩ := H
  replace H : (credenzaref14_Compare.l0 k t189 t192 0) = some r := H
  have A4 := Aside0.mk A40
  clear A40
  have H' := Aside0.mk H
  clear H
  go_enter Tryd.func18, Tryd.ntmps18
  go_wp2_with (first | ((with_reducible refine gate_callee (f := 17) rfl ?_); refine goesL_ (some 12) rfl rfl Tryd.func17 (by kernel_rfl) rfl #[.string a0] rfl (by (try simp only [List.map_toArray, List.map_cons, List.map_nil]); first | done | rfl | (simp only [List.length_drop, List.length_take]; rfl)) ?_; (with_reducible refine (credenzaref14_Tokens.calls k a0 t189 _ A3.out).mono ?_); rintro e w5 ⟨v190, rfl, ho0, hb⟩; refine ⟨_, rfl, ?_⟩; have n0_ := Aside0.mk (Kd.R_lower ho0 (below_size (by repeat (first | (with_reducible first | exact HB.out | apply below_alloc | apply pw_below_drewN | apply below_drew1) | exact HB.out)))); have n1_ := Aside0.mk (below_step (by repeat (first | (with_reducible first | exact HB.out | apply below_alloc | apply pw_below_drewN | apply below_drew1) | exact HB.out)) hb); clear HB; have HO191 := n0_; have HB := n1_; clear n0_ n1_; (try clear hb); (try clear hb2); (try clear hk); (try clear hi); (try clear ho0)) | ((with_reducible refine gate_callee (f := 17) rfl ?_); refine goesL_ (some 14) rfl rfl Tryd.func17 (by kernel_rfl) rfl #[.string a1] rfl (by (try simp only [List.map_toArray, List.map_cons, List.map_nil]); first | done | rfl | (simp only [List.length_drop, List.length_take]; rfl)) ?_; (with_reducible refine (credenzaref14_Tokens.calls k a1 t192 _ A4.out).mono ?_); rintro e w6 ⟨v193, rfl, ho0, hb⟩; refine ⟨_, rfl, ?_⟩; have n0_ := Aside0.mk (Kd.R_elder' (by (with_reducible repeat (first | apply Kd.R_alloc | apply Kd.R_drewN | apply Kd.R_drew)); exact HO191.out) (Kd.R_base ho0) hb); have n1_ := Aside0.mk (Kd.R_lower (Kd.R_new' ho0 (Kd.R_lt (by (with_reducible repeat (first | apply Kd.R_alloc | apply Kd.R_drewN | apply Kd.R_drew)); exact HO191.out))) (below_size (by repeat (first | (with_reducible first | exact HB.out | apply below_alloc | apply pw_below_drewN | apply below_drew1) | exact HB.out)))); have n2_ := Aside0.mk (below_step (by repeat (first | (with_reducible first | exact HB.out | apply below_alloc | apply pw_below_drewN | apply below_drew1) | exact HB.out)) hb); clear HO191; clear HB; have HO191 := n0_; have HO194 := n1_; have HB := n2_; clear n0_ n1_ n2_; (try clear hb); (try clear hb2); (try clear hk); (try clear hi); (try clear ho0)))
  go_loopg [7] k (fun kq v7 w' => ∃ (x7_1 : Int), v7 = .int .i64 x7_1 ∧ Aside0 (credenzaref14_Compare.l0 kq t189 t192 x7_1 = some r) ∧ Aside0 (kq ≤ k) ∧ Aside0 (Kd.R k35 35 w' w.heap.size (fun k_ => some k_ ≠ (v193 : Value).ownBlock) v190 t189) ∧ Aside0 (Kd.R k35 35 w' w.heap.size (fun k_ => some k_ ≠ (v190 : Value).ownBlock) v193 t192) ∧ Aside0 (Below w.heap.size w w'))
  case atStart => exact ⟨(0), (by first | rfl | (simp; done) | (simp [*]; done)), H', ⟨Nat.le_refl _⟩, ⟨by (with_reducible repeat (first | apply Kd.R_alloc | apply Kd.R_drewN | apply Kd.R_drew)); exact Kd.R_mono HO191.out (fun _ hk => hk.2)⟩, ⟨by (with_reducible repeat (first | apply Kd.R_alloc | apply Kd.R_drewN | apply Kd.R_drew)); exact Kd.R_mono HO194.out (fun _ hk => hk.2)⟩, ⟨by repeat (first | (with_reducible first | exact HB.out | apply below_alloc | apply pw_below_drewN | apply below_drew1) | exact HB.out)⟩⟩
  case round =>
    clear H'
    try clear c1
    try clear p2
    obtain ⟨x7_1, rfl, HA, HK1, HO_5, HO_6, HB⟩ := hrel
    cases gk with
    | zero => exact absurd HA.out (by simp [credenzaref14_Compare.l0])
    | succ k1 =>
      have H := HA.out
      clear HA
      simp only [credenzaref14_Compare.l0] at H
      have HC7 := Aside0.mk H
      clear H
      go_upto_region 3 with (fail)
      go_cut [24] (fun v24 wc => ∃ (kq : Nat) (x24_6 : Bool), v24 = .bool x24_6 ∧ Aside0 (credenzaref14_Compare.j1 kq t189 t192 x7_1 x24_6 = some r) ∧ Aside0 (kq ≤ k1) ∧ Aside0 (Kd.R k35 35 wc w.heap.size (fun k_ => some k_ ≠ (v193 : Value).ownBlock) v190 t189) ∧ Aside0 (Kd.R k35 35 wc w.heap.size (fun k_ => some k_ ≠ (v190 : Value).ownBlock) v193 t192) ∧ Aside0 (Below w.heap.size w wc))
      case first =>
        have H := HC7.out
        clear HC7
        by_cases c8 : x7_1 < (t189.length : Int)
        · rw [if_pos c8] at H
          have c8b0 : decide (x7_1 < (t189.length : Int)) = true := decide_eq_true c8
          clear c8
          (first | rw [c8b0] | (simp only [i64_w, i32_w]; rw [c8b0]) | skip)
          have H' := Aside0.mk H
          clear H
          obtain ⟨Ao9, co9, eo9⟩ := Kd.R_slice HO_5.out
          subst eo9
          go_wp2
          go_meet
          case rel => exact ⟨_, (true), (by first | rfl | (simp; done) | (simp [*]; done)), H', ⟨by have := HK1.out; first | omega | exact Nat.le_refl _⟩, ⟨by (with_reducible repeat (first | apply Kd.R_alloc | apply Kd.R_drewN | apply Kd.R_drew)); exact HO_5.out⟩, ⟨by (with_reducible repeat (first | apply Kd.R_alloc | apply Kd.R_drewN | apply Kd.R_drew)); exact HO_6.out⟩, ⟨by repeat (first | (with_reducible first | exact HB.out | apply below_alloc | apply pw_below_drewN | apply below_drew1) | exact HB.out)⟩⟩
        · rw [if_neg c8] at H
          have c8b0 : decide (x7_1 < (t189.length : Int)) = false := decide_eq_false c8
          clear c8
          (first | rw [c8b0] | (simp only [i64_w, i32_w]; rw [c8b0]) | skip)
          have H' := Aside0.mk H
          clear H
          obtain ⟨Ao10, co10, eo10⟩ := Kd.R_slice HO_5.out
          subst eo10
          obtain ⟨Ao11, co11, eo11⟩ := Kd.R_slice HO_6.out
          subst eo11
          go_wp2
          go_meet
          case rel => exact ⟨_, (decide (x7_1 < (t192.length : Int))), (by first | rfl | (simp; done) | (simp [*]; done)), H', ⟨by have := HK1.out; first | omega | exact Nat.le_refl _⟩, ⟨by (with_reducible repeat (first | apply Kd.R_alloc | apply Kd.R_drewN | apply Kd.R_drew)); exact HO_5.out⟩, ⟨by (with_reducible repeat (first | apply Kd.R_alloc | apply Kd.R_drewN | apply Kd.R_drew)); exact HO_6.out⟩, ⟨by repeat (first | (with_reducible first | exact HB.out | apply below_alloc | apply pw_below_drewN | apply below_drew1) | exact HB.out)⟩⟩
      case rest =>
        clear HC7
        try clear c1
        try clear p2
        try clear c8
        try clear c8b0
        try clear p2
        obtain ⟨kq, x24_6, rfl, HA, HJ6, HO_5, HO_6, HB⟩ := hcut
        cases kq with
        | zero => exact absurd HA.out (by simp [credenzaref14_Compare.j1])
        | succ kj6 =>
          have H := HA.out
          clear HA
          simp only [credenzaref14_Compare.j1] at H
          by_cases c12 : x24_6 = true
          · subst c12
            have H1 : ((credenzaref14_at.f t189 x7_1).bind fun bt195 => ((credenzaref14_at.f t192 x7_1).bind fun bt197 => ((credenzaref14_order.f bt195.1 bt197.1).bind fun t201 => (if t201 = 0 then (credenzaref14_Compare.j2 kj6 t189 t192 x7_1 t201 (bt195.1 == 3) bt195.1 bt195.2 bt197.1 bt197.2) else (credenzaref14_Compare.j2 kj6 t189 t192 x7_1 t201 false bt195.1 bt195.2 bt197.1 bt197.2))))) = some r := by rw [if_pos rfl] at H; exact H
            clear H
            have H := H1
            clear H1
            replace H := Option.bind_eq_some_iff.mp H
            obtain ⟨⟨t195, t196⟩, A130, H⟩ := H
            replace H : ((credenzaref14_at.f t192 x7_1).bind fun bt197 => ((credenzaref14_order.f t195 bt197.1).bind fun t201 => (if t201 = 0 then (credenzaref14_Compare.j2 kj6 t189 t192 x7_1 t201 (t195 == 3) t195 t196 bt197.1 bt197.2) else (credenzaref14_Compare.j2 kj6 t189 t192 x7_1 t201 false t195 t196 bt197.1 bt197.2)))) = some r := H
            have A13 := Aside0.mk A130
            clear A130
            replace H := Option.bind_eq_some_iff.mp H
            obtain ⟨⟨t197, t198⟩, A140, H⟩ := H
            replace H : ((credenzaref14_order.f t195 t197).bind fun t201 => (if t201 = 0 then (credenzaref14_Compare.j2 kj6 t189 t192 x7_1 t201 (t195 == 3) t195 t196 t197 t198) else (credenzaref14_Compare.j2 kj6 t189 t192 x7_1 t201 false t195 t196 t197 t198))) = some r := H
            have A14 := Aside0.mk A140
            clear A140
            replace H := Option.bind_eq_some_iff.mp H
            obtain ⟨t201, A150, H⟩ := H
            replace H : (if t201 = 0 then (credenzaref14_Compare.j2 kj6 t189 t192 x7_1 t201 (t195 == 3) t195 t196 t197 t198) else (credenzaref14_Compare.j2 kj6 t189 t192 x7_1 t201 false t195 t196 t197 t198)) = some r := H
            have A15 := Aside0.mk A150
            clear A150
            have HC16 := Aside0.mk H
            clear H
            obtain ⟨Ao17, co17, eo17⟩ := Kd.R_slice HO_5.out
            subst eo17
            go_upto_region 7 with (first | ((with_reducible refine gate_callee (f := 33) rfl ?_); refine goesL_ (some 29) rfl rfl Tryd.func33 (by kernel_rfl) rfl #[.slice Ao17 t189.length co17, .int .i64 x7_1] rfl (by (try simp only [List.map_toArray, List.map_cons, List.map_nil]); first | done | rfl | (simp only [List.length_drop, List.length_take]; rfl)) ?_; (with_reducible refine (credenzaref14_at.calls _ _ t189 x7_1 t195 t196 _ ?side1 ?side2 A13.out).mono ?_); (case side1 => repeat (first | exact (Kd.R_reads' HO_5.out).2.2 | (with_reducible refine Kd.C_alloc ?_ _) | (with_reducible refine Kd.C_drewN ?_ _) | (with_reducible refine Kd.C_drew ?_))); (case side2 => exact (Kd.R_reads' HO_5.out).2.1); rintro e w18 ⟨rfl, hb⟩; refine ⟨_, rfl, ?_⟩; have n0_ := Aside0.mk (Kd.R_below (by (with_reducible repeat (first | apply Kd.R_alloc | apply Kd.R_drewN | apply Kd.R_drew)); exact HO_5.out) hb); have n1_ := Aside0.mk (Kd.R_below (by (with_reducible repeat (first | apply Kd.R_alloc | apply Kd.R_drewN | apply Kd.R_drew)); exact HO_6.out) hb); have n2_ := Aside0.mk (below_step (by repeat (first | (with_reducible first | exact HB.out | apply below_alloc | apply pw_below_drewN | apply below_drew1) | exact HB.out)) hb); clear HO_5; clear HO_6; clear HB; have HO_5 := n0_; have HO_6 := n1_; have HB := n2_; clear n0_ n1_ n2_; (try clear hb); (try clear hb2); (try clear hk); (try clear hi); obtain ⟨Ao19, co19, eo19⟩ := Kd.R_slice HO_6.out; subst eo19) | ((with_reducible refine gate_callee (f := 33) rfl ?_); refine goesL_ (some 32) rfl rfl Tryd.func33 (by kernel_rfl) rfl #[.slice Ao19 t192.length co19, .int .i64 x7_1] rfl (by (try simp only [List.map_toArray, List.map_cons, List.map_nil]); first | done | rfl | (simp only [List.length_drop, List.length_take]; rfl)) ?_; (with_reducible refine (credenzaref14_at.calls _ _ t192 x7_1 t197 t198 _ ?side1 ?side2 A14.out).mono ?_); (case side1 => repeat (first | exact (Kd.R_reads' HO_6.out).2.2 | (with_reducible refine Kd.C_alloc ?_ _) | (with_reducible refine Kd.C_drewN ?_ _) | (with_reducible refine Kd.C_drew ?_))); (case side2 => exact (Kd.R_reads' HO_6.out).2.1); rintro e w20 ⟨rfl, hb⟩; refine ⟨_, rfl, ?_⟩; have n0_ := Aside0.mk (Kd.R_below (by (with_reducible repeat (first | apply Kd.R_alloc | apply Kd.R_drewN | apply Kd.R_drew)); exact HO_5.out) hb); have n1_ := Aside0.mk (Kd.R_below (by (with_reducible repeat (first | apply Kd.R_alloc | apply Kd.R_drewN | apply Kd.R_drew)); exact HO_6.out) hb); have n2_ := Aside0.mk (below_step (by repeat (first | (with_reducible first | exact HB.out | apply below_alloc | apply pw_below_drewN | apply below_drew1) | exact HB.out)) hb); clear HO_5; clear HO_6; clear HB; have HO_5 := n0_; have HO_6 := n1_; have HB := n2_; clear n0_ n1_ n2_; (try clear hb); (try clear hb2); (try clear hk); (try clear hi)) | ((with_reducible refine gate_dst (N := 8) rfl ?_); (try (refine gate_guard (by rfl) ?_; dsimp only)); refine box_event ?hg (N := 8) ?hd (cs := #[.int .i64 0, .string (⟨#[]⟩ : ByteArray)]) (t := 35) ?hr ?_; (case hd => rfl); (case hg => rfl); (case hr => first | (go_simp; done) | (go_simp; rfl)); intro gb199 hg w21 hbox hb; have n0_ := Aside0.mk (Kd.R_below (Kd.R_elderB (by (with_reducible repeat (first | apply Kd.R_alloc | apply Kd.R_drewN | apply Kd.R_drew)); exact HO_5.out) gb199 (Nat.le_of_eq hg.symm)) hb); have n1_ := Aside0.mk (Kd.R_below (Kd.R_elderB (by (with_reducible repeat (first | apply Kd.R_alloc | apply Kd.R_drewN | apply Kd.R_drew)); exact HO_6.out) gb199 (Nat.le_of_eq hg.symm)) hb); have n2_ := Aside0.mk (below_step (by repeat (first | (with_reducible first | exact HB.out | apply below_alloc | apply pw_below_drewN | apply below_drew1) | exact HB.out)) hb); have n3_ := Aside0.mk (hbox); have n4_ := Aside0.mk ((by rw [hg]; exact (below_size (by repeat (first | (with_reducible first | exact HB.out | apply below_alloc | apply pw_below_drewN | apply below_drew1) | exact HB.out))) : w.heap.size ≤ gb199)); have n5_ := Aside0.mk ((by rw [hg]; exact (below_size (by repeat (first | (with_reducible first | exact HB.out | apply below_alloc | apply pw_below_drewN | apply below_drew1) | exact HB.out))) : w.heap.size ≤ gb199)); clear HO_5; clear HO_6; clear HB; have HO_5 := n0_; have HO_6 := n1_; have HB := n2_; have BK199 := n3_; have GW199 := n4_; have GE199 := n5_; clear n0_ n1_ n2_ n3_ n4_ n5_; clear hb hbox hg) | ((with_reducible refine gate_dst (N := 9) rfl ?_); (try (refine gate_guard (by rfl) ?_; dsimp only)); refine box_event ?hg (N := 9) ?hd (cs := #[.int .i64 0, .string (⟨#[]⟩ : ByteArray)]) (t := 35) ?hr ?_; (case hd => rfl); (case hg => rfl); (case hr => first | (go_simp; done) | (go_simp; rfl)); intro gb200 hg w22 hbox hb; have n0_ := Aside0.mk (Kd.R_below (Kd.R_elderB (by (with_reducible repeat (first | apply Kd.R_alloc | apply Kd.R_drewN | apply Kd.R_drew)); exact HO_5.out) gb200 (Nat.le_of_eq hg.symm)) hb); have n1_ := Aside0.mk (Kd.R_below (Kd.R_elderB (by (with_reducible repeat (first | apply Kd.R_alloc | apply Kd.R_drewN | apply Kd.R_drew)); exact HO_6.out) gb200 (Nat.le_of_eq hg.symm)) hb); have n2_ := Aside0.mk (blk_below (g := gb199) (o := .cells #[.int .i64 0, .string (⟨#[]⟩ : ByteArray)] 35 (0, 0)) (by (with_reducible repeat (first | refine blk_drewN ?_ _ | refine blk_drew ?_ | refine blk_alloc ?_ _)); exact BK199.out) hb); have n3_ := Aside0.mk (below_step (by repeat (first | (with_reducible first | exact HB.out | apply below_alloc | apply pw_below_drewN | apply below_drew1 | refine below_set ?_ GE199.out) | exact HB.out)) hb); have n4_ := Aside0.mk (hbox); have n5_ := Aside0.mk ((by rw [hg]; exact (below_size (by repeat (first | (with_reducible first | exact HB.out | apply below_alloc | apply pw_below_drewN | apply below_drew1 | refine below_set ?_ GE199.out) | exact HB.out))) : w.heap.size ≤ gb200)); have n6_ := Aside0.mk ((by rw [hg]; exact (below_size (by repeat (first | (with_reducible first | exact HB.out | apply below_alloc | apply pw_below_drewN | apply below_drew1 | refine below_set ?_ GE199.out) | exact HB.out))) : w.heap.size ≤ gb200)); have n7_ := Aside0.mk ((by rw [hg]; exact Nat.ne_of_lt (blk_lt (g := gb199) (o := .cells #[.int .i64 0, .string (⟨#[]⟩ : ByteArray)] 35 (0, 0)) (by (with_reducible repeat (first | refine blk_drewN ?_ _ | refine blk_drew ?_ | refine blk_alloc ?_ _)); exact BK199.out)) : gb199 ≠ gb200)); have n8_ := Aside0.mk ((by rw [hg]; exact Nat.ne_of_gt (blk_lt (g := gb199) (o := .cells #[.int .i64 0, .string (⟨#[]⟩ : ByteArray)] 35 (0, 0)) (by (with_reducible repeat (first | refine blk_drewN ?_ _ | refine blk_drew ?_ | refine blk_alloc ?_ _)); exact BK199.out)) : gb200 ≠ gb199)); clear HO_5; clear HO_6; clear BK199; clear HB; have HO_5 := n0_; have HO_6 := n1_; have BK199 := n2_; have HB := n3_; have BK200 := n4_; have GW200 := n5_; have GE200 := n6_; have NB199_200 := n7_; have NB200_199 := n8_; clear n0_ n1_ n2_ n3_ n4_ n5_ n6_ n7_ n8_; clear hb hbox hg; have hnb23 := NB199_200.out; have hnc23 := NB200_199.out; have hcz24_0 : w22.cell? ⟨gb199, 0, none⟩ = some (.int .i64 0) := (blk_cell BK199.out 0).trans rfl; have hcz24_1 : w22.cell? ⟨gb199, 1, none⟩ = some (.string (⟨#[]⟩ : ByteArray)) := (blk_cell BK199.out 1).trans rfl; have hfz24_0 := blk_frozen BK199.out 0; have hfz24_1 := blk_frozen BK199.out 1; have hcz25_0 : w22.cell? ⟨gb200, 0, none⟩ = some (.int .i64 0) := (blk_cell BK200.out 0).trans rfl; have hcz25_1 : w22.cell? ⟨gb200, 1, none⟩ = some (.string (⟨#[]⟩ : ByteArray)) := (blk_cell BK200.out 1).trans rfl; have hfz25_0 := blk_frozen BK200.out 0; have hfz25_1 := blk_frozen BK200.out 1) | ((with_reducible refine gate_callee (f := 34) rfl ?_); refine goesL_ (some 37) rfl rfl Tryd.func34 (by kernel_rfl) rfl #[.int .i64 t195, .int .i64 t197] rfl (by (try simp only [List.map_toArray, List.map_cons, List.map_nil]); first | done | rfl | (simp only [List.length_drop, List.length_take]; rfl)) ?_; (with_reducible refine (credenzaref14_order.calls t195 t197 t201 _ A15.out).mono ?_); rintro e w' ⟨rfl, ⟨nd, rfl⟩⟩; refine ⟨_, rfl, ?_⟩))
            (try simp only [Act.put, List.setIfInBounds_toArray, List.set_cons_zero, List.set_cons_succ])
            go_cut [44] (fun v44 wc => ∃ (kq : Nat) (x44_15 : Bool), v44 = .bool x44_15 ∧ Aside0 (credenzaref14_Compare.j2 kq t189 t192 x7_1 t201 x44_15 t195 t196 t197 t198 = some r) ∧ Aside0 (kq ≤ kj6) ∧ Aside0 (Kd.R k35 35 wc w.heap.size (fun k_ => some k_ ≠ ((.slice Ao19 t192.length co19) : Value).ownBlock ∧ k_ ≠ gb199 ∧ k_ ≠ gb200) (.slice Ao17 t189.length co17) t189) ∧ Aside0 (Kd.R k35 35 wc w.heap.size (fun k_ => some k_ ≠ ((.slice Ao17 t189.length co17) : Value).ownBlock ∧ k_ ≠ gb199 ∧ k_ ≠ gb200) (.slice Ao19 t192.length co19) t192) ∧ Aside0 (wc.heap[gb199]? = some (.cells #[.int .i64 t195, .string t196] 35 (0, 0))) ∧ Aside0 (wc.heap[gb200]? = some (.cells #[.int .i64 t197, .string t198] 35 (0, 0))) ∧ Aside0 (Below w.heap.size w wc))
            case first =>
              have H := HC16.out
              clear HC16
              by_cases c26 : t201 = 0
              · rw [if_pos c26] at H
                have c26b0 : (t201 == 0) = true := beq_iff_eq.mpr c26
                have c26b1 : (t201 != 0) = false := bne_eq_false_iff_eq.mpr c26
                clear c26
                (first | rw [c26b0] | (simp only [i64_w, i32_w]; rw [c26b0]) | skip)
                have H' := Aside0.mk H
                clear H
                have hnb27 := NB199_200.out
                have hnc27 := NB200_199.out
                have hcz28_0 : w22.cell? ⟨gb199, 0, none⟩ = some (.int .i64 0) := (blk_cell BK199.out 0).trans rfl
                have hcz28_1 : w22.cell? ⟨gb199, 1, none⟩ = some (.string (⟨#[]⟩ : ByteArray)) := (blk_cell BK199.out 1).trans rfl
                have hfz28_0 := blk_frozen BK199.out 0
                have hfz28_1 := blk_frozen BK199.out 1
                go_wp2
                go_meet
                case rel => exact ⟨_, ((t195 == 3)), (by first | rfl | (simp; done) | (simp [*]; done)), H', ⟨by have := HK1.out; have := HJ6.out; first | omega | exact Nat.le_refl _⟩, ⟨by (with_reducible repeat (first | apply Kd.R_alloc | apply Kd.R_drewN | apply Kd.R_drew)); exact Kd.R_mono (Kd.R_far (p := ⟨gb200, 1, none⟩) (Kd.R_far (p := ⟨gb200, 0, none⟩) (Kd.R_far (p := ⟨gb199, 1, none⟩) (Kd.R_far (p := ⟨gb199, 0, none⟩) (Kd.R_mono (Kd.R_mono HO_5.out (fun k_ hk => (⟨hk, hk.1.2⟩ : _ ∧ k_ ≠ gb199))) (fun k_ hk => (⟨hk, hk.1.2⟩ : _ ∧ k_ ≠ gb200))) (fun _ hk => hk.1.2) (.int .i64 t195)) (fun _ hk => hk.1.2) (.string t196)) (fun _ hk => hk.2) (.int .i64 t197)) (fun _ hk => hk.2) (.string t198)) (fun _ hk => ⟨hk.1.1.1.1, ⟨hk.1.1.1.2, hk.1.1.2⟩⟩)⟩, ⟨by (with_reducible repeat (first | apply Kd.R_alloc | apply Kd.R_drewN | apply Kd.R_drew)); exact Kd.R_mono (Kd.R_far (p := ⟨gb200, 1, none⟩) (Kd.R_far (p := ⟨gb200, 0, none⟩) (Kd.R_far (p := ⟨gb199, 1, none⟩) (Kd.R_far (p := ⟨gb199, 0, none⟩) (Kd.R_mono (Kd.R_mono HO_6.out (fun k_ hk => (⟨hk, hk.1.2⟩ : _ ∧ k_ ≠ gb199))) (fun k_ hk => (⟨hk, hk.1.2⟩ : _ ∧ k_ ≠ gb200))) (fun _ hk => hk.1.2) (.int .i64 t195)) (fun _ hk => hk.1.2) (.string t196)) (fun _ hk => hk.2) (.int .i64 t197)) (fun _ hk => hk.2) (.string t198)) (fun _ hk => ⟨hk.1.1.1.1, ⟨hk.1.1.1.2, hk.1.1.2⟩⟩)⟩, ⟨by (with_reducible repeat (first | refine blk_drewN ?_ _ | refine blk_drew ?_ | refine blk_alloc ?_ _)); refine blk_far ?_ NB199_200.out _; (with_reducible repeat (first | refine blk_drewN ?_ _ | refine blk_drew ?_ | refine blk_alloc ?_ _)); refine blk_far ?_ NB199_200.out _; (with_reducible repeat (first | refine blk_drewN ?_ _ | refine blk_drew ?_ | refine blk_alloc ?_ _)); refine blk_put (cs := #[.int .i64 t195, .string (⟨#[]⟩ : ByteArray)]) ?_ 1 _ rfl; (with_reducible repeat (first | refine blk_drewN ?_ _ | refine blk_drew ?_ | refine blk_alloc ?_ _)); refine blk_put (cs := #[.int .i64 0, .string (⟨#[]⟩ : ByteArray)]) ?_ 0 _ rfl; (with_reducible repeat (first | refine blk_drewN ?_ _ | refine blk_drew ?_ | refine blk_alloc ?_ _)); exact BK199.out⟩, ⟨by (with_reducible repeat (first | refine blk_drewN ?_ _ | refine blk_drew ?_ | refine blk_alloc ?_ _)); refine blk_put (cs := #[.int .i64 t197, .string (⟨#[]⟩ : ByteArray)]) ?_ 1 _ rfl; (with_reducible repeat (first | refine blk_drewN ?_ _ | refine blk_drew ?_ | refine blk_alloc ?_ _)); refine blk_put (cs := #[.int .i64 0, .string (⟨#[]⟩ : ByteArray)]) ?_ 0 _ rfl; (with_reducible repeat (first | refine blk_drewN ?_ _ | refine blk_drew ?_ | refine blk_alloc ?_ _)); refine blk_far ?_ NB200_199.out _; (with_reducible repeat (first | refine blk_drewN ?_ _ | refine blk_drew ?_ | refine blk_alloc ?_ _)); refine blk_far ?_ NB200_199.out _; (with_reducible repeat (first | refine blk_drewN ?_ _ | refine blk_drew ?_ | refine blk_alloc ?_ _)); exact BK200.out⟩, ⟨by repeat (first | (with_reducible first | exact HB.out | apply below_alloc | apply pw_below_drewN | apply below_drew1 | refine below_set ?_ GE199.out | refine below_set ?_ GE200.out) | exact HB.out)⟩⟩
              · rw [if_neg c26] at H
                have c26b0 : (t201 == 0) = false := beq_eq_false_iff_ne.mpr c26
                have c26b1 : (t201 != 0) = true := bne_iff_ne.mpr c26
                (first | rw [c26b0] | (simp only [i64_w, i32_w]; rw [c26b0]) | skip)
                have H' := Aside0.mk H
                clear H
                go_wp2
                go_meet
                case rel => exact ⟨_, (false), (by first | rfl | (simp; done) | (simp [*]; done)), H', ⟨by have := HK1.out; have := HJ6.out; first | omega | exact Nat.le_refl _⟩, ⟨by (with_reducible repeat (first | apply Kd.R_alloc | apply Kd.R_drewN | apply Kd.R_drew)); exact Kd.R_mono (Kd.R_far (p := ⟨gb200, 1, none⟩) (Kd.R_far (p := ⟨gb200, 0, none⟩) (Kd.R_far (p := ⟨gb199, 1, none⟩) (Kd.R_far (p := ⟨gb199, 0, none⟩) (Kd.R_mono (Kd.R_mono HO_5.out (fun k_ hk => (⟨hk, hk.1.2⟩ : _ ∧ k_ ≠ gb199))) (fun k_ hk => (⟨hk, hk.1.2⟩ : _ ∧ k_ ≠ gb200))) (fun _ hk => hk.1.2) (.int .i64 t195)) (fun _ hk => hk.1.2) (.string t196)) (fun _ hk => hk.2) (.int .i64 t197)) (fun _ hk => hk.2) (.string t198)) (fun _ hk => ⟨hk.1.1.1.1, ⟨hk.1.1.1.2, hk.1.1.2⟩⟩)⟩, ⟨by (with_reducible repeat (first | apply Kd.R_alloc | apply Kd.R_drewN | apply Kd.R_drew)); exact Kd.R_mono (Kd.R_far (p := ⟨gb200, 1, none⟩) (Kd.R_far (p := ⟨gb200, 0, none⟩) (Kd.R_far (p := ⟨gb199, 1, none⟩) (Kd.R_far (p := ⟨gb199, 0, none⟩) (Kd.R_mono (Kd.R_mono HO_6.out (fun k_ hk => (⟨hk, hk.1.2⟩ : _ ∧ k_ ≠ gb199))) (fun k_ hk => (⟨hk, hk.1.2⟩ : _ ∧ k_ ≠ gb200))) (fun _ hk => hk.1.2) (.int .i64 t195)) (fun _ hk => hk.1.2) (.string t196)) (fun _ hk => hk.2) (.int .i64 t197)) (fun _ hk => hk.2) (.string t198)) (fun _ hk => ⟨hk.1.1.1.1, ⟨hk.1.1.1.2, hk.1.1.2⟩⟩)⟩, ⟨by (with_reducible repeat (first | refine blk_drewN ?_ _ | refine blk_drew ?_ | refine blk_alloc ?_ _)); refine blk_far ?_ NB199_200.out _; (with_reducible repeat (first | refine blk_drewN ?_ _ | refine blk_drew ?_ | refine blk_alloc ?_ _)); refine blk_far ?_ NB199_200.out _; (with_reducible repeat (first | refine blk_drewN ?_ _ | refine blk_drew ?_ | refine blk_alloc ?_ _)); refine blk_put (cs := #[.int .i64 t195, .string (⟨#[]⟩ : ByteArray)]) ?_ 1 _ rfl; (with_reducible repeat (first | refine blk_drewN ?_ _ | refine blk_drew ?_ | refine blk_alloc ?_ _)); refine blk_put (cs := #[.int .i64 0, .string (⟨#[]⟩ : ByteArray)]) ?_ 0 _ rfl; (with_reducible repeat (first | refine blk_drewN ?_ _ | refine blk_drew ?_ | refine blk_alloc ?_ _)); exact BK199.out⟩, ⟨by (with_reducible repeat (first | refine blk_drewN ?_ _ | refine blk_drew ?_ | refine blk_alloc ?_ _)); refine blk_put (cs := #[.int .i64 t197, .string (⟨#[]⟩ : ByteArray)]) ?_ 1 _ rfl; (with_reducible repeat (first | refine blk_drewN ?_ _ | refine blk_drew ?_ | refine blk_alloc ?_ _)); refine blk_put (cs := #[.int .i64 0, .string (⟨#[]⟩ : ByteArray)]) ?_ 0 _ rfl; (with_reducible repeat (first | refine blk_drewN ?_ _ | refine blk_drew ?_ | refine blk_alloc ?_ _)); refine blk_far ?_ NB200_199.out _; (with_reducible repeat (first | refine blk_drewN ?_ _ | refine blk_drew ?_ | refine blk_alloc ?_ _)); refine blk_far ?_ NB200_199.out _; (with_reducible repeat (first | refine blk_drewN ?_ _ | refine blk_drew ?_ | refine blk_alloc ?_ _)); exact BK200.out⟩, ⟨by repeat (first | (with_reducible first | exact HB.out | apply below_alloc | apply pw_below_drewN | apply below_drew1 | refine below_set ?_ GE199.out | refine below_set ?_ GE200.out) | exact HB.out)⟩⟩
            case rest =>
              clear HC16
              try clear c1
              try clear c2
              try clear p2
              try clear c3
              try clear c8
              try clear c8b0
              try clear c12
              try clear c17
              try clear c18
              try clear c23
              try clear c26
              try clear c26b0
              try clear c26b1
              try clear c27
              try clear hcz24_0
              try clear hcz24_1
              try clear hcz25_0
              try clear hcz25_1
              try clear hcz28_0
              try clear hcz28_1
              try clear hfz24_0
              try clear hfz24_1
              try clear hfz25_0
              try clear hfz25_1
              try clear hfz28_0
              try clear hfz28_1
              try clear p2
              obtain ⟨kq, x44_15, rfl, HA, HJ15, HO_5, HO_6, BK199, BK200, HB⟩ := hcut
              cases kq with
              | zero => exact absurd HA.out (by simp [credenzaref14_Compare.j2])
              | succ kj15 =>
                have H := HA.out
                clear HA
                simp only [credenzaref14_Compare.j2] at H
                have HC29 := Aside0.mk H
                clear H
                go_upto_if 44 with (fail)
                go_cut [10] (fun v10 wc => ∃ (kq : Nat) (x10_28 : Int), v10 = .int .i64 x10_28 ∧ Aside0 (credenzaref14_Compare.j3 kq t189 t192 x7_1 x10_28 t195 t196 t197 t198 = some r) ∧ Aside0 (kq ≤ kj15) ∧ Aside0 (Kd.R k35 35 wc w.heap.size (fun k_ => some k_ ≠ ((.slice Ao19 t192.length co19) : Value).ownBlock ∧ k_ ≠ gb199 ∧ k_ ≠ gb200) (.slice Ao17 t189.length co17) t189) ∧ Aside0 (Kd.R k35 35 wc w.heap.size (fun k_ => some k_ ≠ ((.slice Ao17 t189.length co17) : Value).ownBlock ∧ k_ ≠ gb199 ∧ k_ ≠ gb200) (.slice Ao19 t192.length co19) t192) ∧ Aside0 (wc.heap[gb199]? = some (.cells #[.int .i64 t195, .string t196] 35 (0, 0))) ∧ Aside0 (wc.heap[gb200]? = some (.cells #[.int .i64 t197, .string t198] 35 (0, 0))) ∧ Aside0 (Below w.heap.size w wc))
                case first =>
                  have H := HC29.out
                  clear HC29
                  by_cases c30 : x44_15 = true
                  · subst c30
                    have H1 : ((credenzaref14_order.f (t196.size : Int) (t198.size : Int)).bind fun t202 => (credenzaref14_Compare.j3 kj15 t189 t192 x7_1 t202 t195 t196 t197 t198)) = some r := by rw [if_pos rfl] at H; exact H
                    clear H
                    have H := H1
                    clear H1
                    replace H := Option.bind_eq_some_iff.mp H
                    obtain ⟨t202, A310, H⟩ := H
                    replace H : (credenzaref14_Compare.j3 kj15 t189 t192 x7_1 t202 t195 t196 t197 t198) = some r := H
                    have A31 := Aside0.mk A310
                    clear A310
                    have H' := Aside0.mk H
                    clear H
                    have hnb32 := NB199_200.out
                    have hnc32 := NB200_199.out
                    have hcz33_0 : wc.cell? ⟨gb199, 0, none⟩ = some (.int .i64 t195) := (blk_cell BK199.out 0).trans rfl
                    have hcz33_1 : wc.cell? ⟨gb199, 1, none⟩ = some (.string t196) := (blk_cell BK199.out 1).trans rfl
                    have hfz33_0 := blk_frozen BK199.out 0
                    have hfz33_1 := blk_frozen BK199.out 1
                    have hcz34_0 : wc.cell? ⟨gb200, 0, none⟩ = some (.int .i64 t197) := (blk_cell BK200.out 0).trans rfl
                    have hcz34_1 : wc.cell? ⟨gb200, 1, none⟩ = some (.string t198) := (blk_cell BK200.out 1).trans rfl
                    have hfz34_0 := blk_frozen BK200.out 0
                    have hfz34_1 := blk_frozen BK200.out 1
                    go_wp2_with (first | ((with_reducible refine gate_callee (f := 34) rfl ?_); refine goesL_ (some 51) rfl rfl Tryd.func34 (by kernel_rfl) rfl #[.int .i64 (t196.size : Int), .int .i64 (t198.size : Int)] rfl (by (try simp only [List.map_toArray, List.map_cons, List.map_nil]); first | done | rfl | (simp only [List.length_drop, List.length_take]; rfl)) ?_; (with_reducible refine (credenzaref14_order.calls (t196.size : Int) (t198.size : Int) t202 _ A31.out).mono ?_); rintro e w' ⟨rfl, ⟨nd, rfl⟩⟩; refine ⟨_, rfl, ?_⟩))
                    go_meet
                    case rel => exact ⟨_, (t202), (by first | rfl | (simp; done) | (simp [*]; done)), H', ⟨by have := HK1.out; have := HJ6.out; have := HJ15.out; first | omega | exact Nat.le_refl _⟩, ⟨by (with_reducible repeat (first | apply Kd.R_alloc | apply Kd.R_drewN | apply Kd.R_drew)); exact HO_5.out⟩, ⟨by (with_reducible repeat (first | apply Kd.R_alloc | apply Kd.R_drewN | apply Kd.R_drew)); exact HO_6.out⟩, ⟨by (with_reducible repeat (first | refine blk_drewN ?_ _ | refine blk_drew ?_ | refine blk_alloc ?_ _)); exact BK199.out⟩, ⟨by (with_reducible repeat (first | refine blk_drewN ?_ _ | refine blk_drew ?_ | refine blk_alloc ?_ _)); exact BK200.out⟩, ⟨by repeat (first | (with_reducible first | exact HB.out | apply below_alloc | apply pw_below_drewN | apply below_drew1 | refine below_set ?_ GE199.out | refine below_set ?_ GE200.out) | exact HB.out)⟩⟩
                  · replace c30 := Bool.eq_false_iff.mpr c30
                    subst c30
                    have H1 : (credenzaref14_Compare.j3 kj15 t189 t192 x7_1 t201 t195 t196 t197 t198) = some r := by rw [if_neg (show ¬ (false = true) by decide)] at H; exact H
                    clear H
                    have H := H1
                    clear H1
                    have H' := Aside0.mk H
                    clear H
                    go_wp2
                    go_meet
                    case rel => exact ⟨_, (t201), (by first | rfl | (simp; done) | (simp [*]; done)), H', ⟨by have := HK1.out; have := HJ6.out; have := HJ15.out; first | omega | exact Nat.le_refl _⟩, ⟨by (with_reducible repeat (first | apply Kd.R_alloc | apply Kd.R_drewN | apply Kd.R_drew)); exact HO_5.out⟩, ⟨by (with_reducible repeat (first | apply Kd.R_alloc | apply Kd.R_drewN | apply Kd.R_drew)); exact HO_6.out⟩, ⟨by (with_reducible repeat (first | refine blk_drewN ?_ _ | refine blk_drew ?_ | refine blk_alloc ?_ _)); exact BK199.out⟩, ⟨by (with_reducible repeat (first | refine blk_drewN ?_ _ | refine blk_drew ?_ | refine blk_alloc ?_ _)); exact BK200.out⟩, ⟨by repeat (first | (with_reducible first | exact HB.out | apply below_alloc | apply pw_below_drewN | apply below_drew1 | refine below_set ?_ GE199.out | refine below_set ?_ GE200.out) | exact HB.out)⟩⟩
                case rest =>
                  clear HC29
                  try clear c1
                  try clear c2
                  try clear p2
                  try clear c3
                  try clear c8
                  try clear c8b0
                  try clear c12
                  try clear c17
                  try clear c18
                  try clear c23
                  try clear c26
                  try clear c26b0
                  try clear c26b1
                  try clear c27
                  try clear c30
                  try clear c32
                  try clear c33
                  try clear c34
                  try clear hcz24_0
                  try clear hcz24_1
                  try clear hcz25_0
                  try clear hcz25_1
                  try clear hcz28_0
                  try clear hcz28_1
                  try clear hcz33_0
                  try clear hcz33_1
                  try clear hcz34_0
                  try clear hcz34_1
                  try clear hfz24_0
                  try clear hfz24_1
                  try clear hfz25_0
                  try clear hfz25_1
                  try clear hfz28_0
                  try clear hfz28_1
                  try clear hfz33_0
                  try clear hfz33_1
                  try clear hfz34_0
                  try clear hfz34_1
                  try clear p2
                  obtain ⟨kq, x10_28, rfl, HA, HJ28, HO_5, HO_6, BK199, BK200, HB⟩ := hcut
                  cases kq with
                  | zero => exact absurd HA.out (by simp [credenzaref14_Compare.j3])
                  | succ kj28 =>
                    have H := HA.out
                    clear HA
                    simp only [credenzaref14_Compare.j3] at H
                    by_cases c35 : x10_28 = 0
                    · rw [if_pos c35] at H
                      have c35b0 : (x10_28 == 0) = true := beq_iff_eq.mpr c35
                      have c35b1 : (x10_28 != 0) = false := bne_eq_false_iff_eq.mpr c35
                      clear c35
                      replace H := Option.bind_eq_some_iff.mp H
                      obtain ⟨t203, A360, H⟩ := H
                      replace H : (if t203 = 0 then (credenzaref14_Compare.l0 kj28 t189 t192 (wrap64 (x7_1 + 1))) else (some t203)) = some r := H
                      have A36 := Aside0.mk A360
                      clear A360
                      by_cases c37 : t203 = 0
                      · rw [if_pos c37] at H
                        have c37b0 : (t203 == 0) = true := beq_iff_eq.mpr c37
                        have c37b1 : (t203 != 0) = false := bne_eq_false_iff_eq.mpr c37
                        clear c37
                        have H' := Aside0.mk H
                        clear H
                        have hnb38 := NB199_200.out
                        have hnc38 := NB200_199.out
                        have hcz39_0 : wc.cell? ⟨gb199, 0, none⟩ = some (.int .i64 t195) := (blk_cell BK199.out 0).trans rfl
                        have hcz39_1 : wc.cell? ⟨gb199, 1, none⟩ = some (.string t196) := (blk_cell BK199.out 1).trans rfl
                        have hfz39_0 := blk_frozen BK199.out 0
                        have hfz39_1 := blk_frozen BK199.out 1
                        have hcz40_0 : wc.cell? ⟨gb200, 0, none⟩ = some (.int .i64 t197) := (blk_cell BK200.out 0).trans rfl
                        have hcz40_1 : wc.cell? ⟨gb200, 1, none⟩ = some (.string t198) := (blk_cell BK200.out 1).trans rfl
                        have hfz40_0 := blk_frozen BK200.out 0
                        have hfz40_1 := blk_frozen BK200.out 1
                        go_wp2_with (first | ((with_reducible refine gate_callee (f := 35) rfl ?_); refine goesL_ (some 58) rfl rfl Tryd.func35 (by kernel_rfl) rfl #[.string t196, .string t198] rfl (by (try simp only [List.map_toArray, List.map_cons, List.map_nil]); first | done | rfl | (simp only [List.length_drop, List.length_take]; rfl)) ?_; (with_reducible refine (credenzaref14_texts.calls t196 t198 t203 _ A36.out).mono ?_); rintro e w' ⟨rfl, ⟨nd, rfl⟩⟩; refine ⟨_, rfl, ?_⟩))
                        go_roundg kj28
                        case measure => have := HK1.out; have := HJ6.out; have := HJ15.out; have := HJ28.out; omega
                        case rel => exact ⟨(wrap64 (x7_1 + 1)), (by first | rfl | (simp; done) | (simp [*]; done)), H', ⟨by have := HK1.out; have := HJ6.out; have := HJ15.out; have := HJ28.out; omega⟩, ⟨by (with_reducible repeat (first | apply Kd.R_alloc | apply Kd.R_drewN | apply Kd.R_drew)); exact Kd.R_mono HO_5.out (fun _ hk => hk.1)⟩, ⟨by (with_reducible repeat (first | apply Kd.R_alloc | apply Kd.R_drewN | apply Kd.R_drew)); exact Kd.R_mono HO_6.out (fun _ hk => hk.1)⟩, ⟨by repeat (first | (with_reducible first | exact HB.out | apply below_alloc | apply pw_below_drewN | apply below_drew1 | refine below_set ?_ GE199.out | refine below_set ?_ GE200.out) | exact HB.out)⟩⟩
                      · rw [if_neg c37] at H
                        have c37b0 : (t203 == 0) = false := beq_eq_false_iff_ne.mpr c37
                        have c37b1 : (t203 != 0) = true := bne_iff_ne.mpr c37
                        obtain rfl := Option.some.inj H
                        have hnb41 := NB199_200.out
                        have hnc41 := NB200_199.out
                        have hcz42_0 : wc.cell? ⟨gb199, 0, none⟩ = some (.int .i64 t195) := (blk_cell BK199.out 0).trans rfl
                        have hcz42_1 : wc.cell? ⟨gb199, 1, none⟩ = some (.string t196) := (blk_cell BK199.out 1).trans rfl
                        have hfz42_0 := blk_frozen BK199.out 0
                        have hfz42_1 := blk_frozen BK199.out 1
                        have hcz43_0 : wc.cell? ⟨gb200, 0, none⟩ = some (.int .i64 t197) := (blk_cell BK200.out 0).trans rfl
                        have hcz43_1 : wc.cell? ⟨gb200, 1, none⟩ = some (.string t198) := (blk_cell BK200.out 1).trans rfl
                        have hfz43_0 := blk_frozen BK200.out 0
                        have hfz43_1 := blk_frozen BK200.out 1
                        go_wp2_with (first | ((with_reducible refine gate_callee (f := 35) rfl ?_); refine goesL_ (some 58) rfl rfl Tryd.func35 (by kernel_rfl) rfl #[.string t196, .string t198] rfl (by (try simp only [List.map_toArray, List.map_cons, List.map_nil]); first | done | rfl | (simp only [List.length_drop, List.length_take]; rfl)) ?_; (with_reducible refine (credenzaref14_texts.calls t196 t198 t203 _ A36.out).mono ?_); rintro e w' ⟨rfl, ⟨nd, rfl⟩⟩; refine ⟨_, rfl, ?_⟩))
                        go_ret
                        exact ⟨by first | rfl | (simp [errW_none, errW_some] <;> rfl) | (simp [*, errW_none, errW_some] <;> rfl), by repeat (first | (with_reducible first | exact HB.out | apply below_alloc | apply pw_below_drewN | apply below_drew1 | refine below_set ?_ GE199.out | refine below_set ?_ GE200.out) | exact HB.out)⟩
                    · rw [if_neg c35] at H
                      have c35b0 : (x10_28 == 0) = false := beq_eq_false_iff_ne.mpr c35
                      have c35b1 : (x10_28 != 0) = true := bne_iff_ne.mpr c35
                      obtain rfl := Option.some.inj H
                      go_wp2
                      go_ret
                      exact ⟨by first | rfl | (simp [errW_none, errW_some] <;> rfl) | (simp [*, errW_none, errW_some] <;> rfl), by repeat (first | (with_reducible first | exact HB.out | apply below_alloc | apply pw_below_drewN | apply below_drew1 | refine below_set ?_ GE199.out | refine below_set ?_ GE200.out) | exact HB.out)⟩
          · replace c12 := Bool.eq_false_iff.mpr c12
            subst c12
            have H1 : (some 0) = some r := by rw [if_neg (show ¬ (false = true) by decide)] at H; exact H
            clear H
            have H := H1
            clear H1
            obtain rfl := Option.some.inj H
            go_wp2
            go_ret
            exact ⟨by first | rfl | (simp [errW_none, errW_some] <;> rfl) | (simp [*, errW_none, errW_some] <;> rfl), by repeat (first | (with_reducible first | exact HB.out | apply below_alloc | apply pw_below_drewN | apply below_drew1) | exact HB.out)⟩

end Go.Proofs.YtndpokjakogpnaaDoor.V

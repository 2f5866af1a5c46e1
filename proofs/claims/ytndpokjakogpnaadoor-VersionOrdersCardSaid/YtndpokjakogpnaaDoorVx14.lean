-- written by hprint.py (wip/tools): the kit's print with hand contracts
import Derived.Test.YtndpokjakogpnaaDoorVx0
import Derived.Test.YtndpokjakogpnaaDoorVx5
import Derived.Test.YtndpokjakogpnaaDoorVx6
namespace Go.Proofs.YtndpokjakogpnaaDoor.V
open Go.RowKit Go.Proofs.YtndpokjakogpnaaDoorW.PrintWords Go.Proofs.YtndpokjakogpnaaDoorW.PrintLast Go.Proofs.YtndpokjakogpnaaDoorW.PrintMore
attribute [local go_sem] max2_int min2_int max_two min_two max_three min_three max_four min_four   -- for this text's walks alone
set_option linter.unusedVariables false
set_option linter.unusedSimpArgs false

/-! ### credenzalaw15_VersionOrders: function 6 -/
mutual
def credenzalaw15_VersionOrders.j0 : Nat → ByteArray → ByteArray → ByteArray → Bool → Option (Bool)
  | 0, _, _, _, _ => none
  | k + 1, x0, x1, x2, x22 => if x22 = true then ((credenzalaw15_awake.f k).bind fun t216 => (some t216)) else ((version_Compare.f k x0 x1).bind fun t217 => ((version_Compare.f k x1 x2).bind fun t218 => ((version_Compare.f k x0 x2).bind fun t219 => ((version_Compare.f k x0 x0).bind fun t220 => (if t220 = 0 then ((version_Compare.f k x1 x0).bind fun t221 => (if t221 = (wrap64 (-t217)) then (if t217 < (-1) then (credenzalaw15_VersionOrders.j1 k t217 t218 t219 true) else (credenzalaw15_VersionOrders.j1 k t217 t218 t219 (decide (t217 > 1)))) else (credenzalaw15_VersionOrders.j1 k t217 t218 t219 true))) else (credenzalaw15_VersionOrders.j1 k t217 t218 t219 true))))))
def credenzalaw15_VersionOrders.j1 : Nat → Int → Int → Int → Bool → Option (Bool)
  | 0, _, _, _, _ => none
  | k + 1, x7, x8, x9, x52 => if x52 = true then (some false) else (if x7 ≥ 0 then (if x8 ≥ 0 then (if x9 < 0 then (some false) else (if x7 ≤ 0 then (if x8 ≤ 0 then (if x9 > 0 then (some false) else (if x7 = 0 then (if x9 = x8 then (if x8 = 0 then (if x9 = x7 then ((credenzalaw15_awake.f k).bind fun t222 => (some t222)) else (some false)) else ((credenzalaw15_awake.f k).bind fun t223 => (some t223))) else (some false)) else (if x8 = 0 then (if x9 = x7 then ((credenzalaw15_awake.f k).bind fun t224 => (some t224)) else (some false)) else ((credenzalaw15_awake.f k).bind fun t225 => (some t225))))) else (if x7 = 0 then (if x9 = x8 then (if x8 = 0 then (if x9 = x7 then ((credenzalaw15_awake.f k).bind fun t226 => (some t226)) else (some false)) else ((credenzalaw15_awake.f k).bind fun t227 => (some t227))) else (some false)) else (if x8 = 0 then (if x9 = x7 then ((credenzalaw15_awake.f k).bind fun t228 => (some t228)) else (some false)) else ((credenzalaw15_awake.f k).bind fun t229 => (some t229))))) else (if x7 = 0 then (if x9 = x8 then (if x8 = 0 then (if x9 = x7 then ((credenzalaw15_awake.f k).bind fun t230 => (some t230)) else (some false)) else ((credenzalaw15_awake.f k).bind fun t231 => (some t231))) else (some false)) else (if x8 = 0 then (if x9 = x7 then ((credenzalaw15_awake.f k).bind fun t232 => (some t232)) else (some false)) else ((credenzalaw15_awake.f k).bind fun t233 => (some t233)))))) else (if x7 ≤ 0 then (if x8 ≤ 0 then (if x9 > 0 then (some false) else (if x7 = 0 then (if x9 = x8 then (if x8 = 0 then (if x9 = x7 then ((credenzalaw15_awake.f k).bind fun t234 => (some t234)) else (some false)) else ((credenzalaw15_awake.f k).bind fun t235 => (some t235))) else (some false)) else (if x8 = 0 then (if x9 = x7 then ((credenzalaw15_awake.f k).bind fun t236 => (some t236)) else (some false)) else ((credenzalaw15_awake.f k).bind fun t237 => (some t237))))) else (if x7 = 0 then (if x9 = x8 then (if x8 = 0 then (if x9 = x7 then ((credenzalaw15_awake.f k).bind fun t238 => (some t238)) else (some false)) else ((credenzalaw15_awake.f k).bind fun t239 => (some t239))) else (some false)) else (if x8 = 0 then (if x9 = x7 then ((credenzalaw15_awake.f k).bind fun t240 => (some t240)) else (some false)) else ((credenzalaw15_awake.f k).bind fun t241 => (some t241))))) else (if x7 = 0 then (if x9 = x8 then (if x8 = 0 then (if x9 = x7 then ((credenzalaw15_awake.f k).bind fun t242 => (some t242)) else (some false)) else ((credenzalaw15_awake.f k).bind fun t243 => (some t243))) else (some false)) else (if x8 = 0 then (if x9 = x7 then ((credenzalaw15_awake.f k).bind fun t244 => (some t244)) else (some false)) else ((credenzalaw15_awake.f k).bind fun t245 => (some t245)))))) else (if x7 ≤ 0 then (if x8 ≤ 0 then (if x9 > 0 then (some false) else (if x7 = 0 then (if x9 = x8 then (if x8 = 0 then (if x9 = x7 then ((credenzalaw15_awake.f k).bind fun t246 => (some t246)) else (some false)) else ((credenzalaw15_awake.f k).bind fun t247 => (some t247))) else (some false)) else (if x8 = 0 then (if x9 = x7 then ((credenzalaw15_awake.f k).bind fun t248 => (some t248)) else (some false)) else ((credenzalaw15_awake.f k).bind fun t249 => (some t249))))) else (if x7 = 0 then (if x9 = x8 then (if x8 = 0 then (if x9 = x7 then ((credenzalaw15_awake.f k).bind fun t250 => (some t250)) else (some false)) else ((credenzalaw15_awake.f k).bind fun t251 => (some t251))) else (some false)) else (if x8 = 0 then (if x9 = x7 then ((credenzalaw15_awake.f k).bind fun t252 => (some t252)) else (some false)) else ((credenzalaw15_awake.f k).bind fun t253 => (some t253))))) else (if x7 = 0 then (if x9 = x8 then (if x8 = 0 then (if x9 = x7 then ((credenzalaw15_awake.f k).bind fun t254 => (some t254)) else (some false)) else ((credenzalaw15_awake.f k).bind fun t255 => (some t255))) else (some false)) else (if x8 = 0 then (if x9 = x7 then ((credenzalaw15_awake.f k).bind fun t256 => (some t256)) else (some false)) else ((credenzalaw15_awake.f k).bind fun t257 => (some t257))))))
end
def credenzalaw15_VersionOrders.f (k : Nat) (a0 : ByteArray) (a1 : ByteArray) (a2 : ByteArray) : Option (Bool) := if (a0.size : Int) > 200 then (credenzalaw15_VersionOrders.j0 k a0 a1 a2 true) else (if (a1.size : Int) > 200 then (credenzalaw15_VersionOrders.j0 k a0 a1 a2 true) else (credenzalaw15_VersionOrders.j0 k a0 a1 a2 (decide ((a2.size : Int) > 200))))
theorem credenzalaw15_VersionOrders.mono_l : ∀ k, (∀ y0 y1 y2 y3, LeO (credenzalaw15_VersionOrders.j0 k y0 y1 y2 y3) (credenzalaw15_VersionOrders.j0 (k + 1) y0 y1 y2 y3)) ∧ (∀ y0 y1 y2 y3, LeO (credenzalaw15_VersionOrders.j1 k y0 y1 y2 y3) (credenzalaw15_VersionOrders.j1 (k + 1) y0 y1 y2 y3))
  | 0 => ⟨fun _ _ _ _ r h => by simp [credenzalaw15_VersionOrders.j0] at h, fun _ _ _ _ r h => by simp [credenzalaw15_VersionOrders.j1] at h⟩
  | k + 1 => by
    obtain ⟨ih0, ih1⟩ := credenzalaw15_VersionOrders.mono_l k
    refine ⟨?_, ?_⟩
    · intro y0 y1 y2 y3
      unfold credenzalaw15_VersionOrders.j0
      repeat' first
      | (with_reducible exact ih0 _ _ _ _)
      | (with_reducible exact ih1 _ _ _ _)
      | (with_reducible exact credenzalaw15_awake.mono _)
      | (with_reducible exact version_Compare.mono _ _ _)
      | (with_reducible exact LeO.refl _)
      | (with_reducible exact LeO.none _)
      | (with_reducible refine LeO.ite ?_ ?_)
      | (with_reducible refine LeO.bind ?_ (fun _ => ?_))
      | exact ih0 _ _ _ _
      | exact ih1 _ _ _ _
      | exact credenzalaw15_awake.mono _
      | exact version_Compare.mono _ _ _
      | exact LeO.none _
      | refine LeO.ite ?_ ?_
      | refine LeO.bind ?_ (fun _ => ?_)
    · intro y0 y1 y2 y3
      unfold credenzalaw15_VersionOrders.j1
      repeat' first
      | (with_reducible exact ih0 _ _ _ _)
      | (with_reducible exact ih1 _ _ _ _)
      | (with_reducible exact credenzalaw15_awake.mono _)
      | (with_reducible exact version_Compare.mono _ _ _)
      | (with_reducible exact LeO.refl _)
      | (with_reducible exact LeO.none _)
      | (with_reducible refine LeO.ite ?_ ?_)
      | (with_reducible refine LeO.bind ?_ (fun _ => ?_))
      | exact ih0 _ _ _ _
      | exact ih1 _ _ _ _
      | exact credenzalaw15_awake.mono _
      | exact version_Compare.mono _ _ _
      | exact LeO.none _
      | refine LeO.ite ?_ ?_
      | refine LeO.bind ?_ (fun _ => ?_)
theorem credenzalaw15_VersionOrders.mono : ∀ a0 a1 a2 k, LeO (credenzalaw15_VersionOrders.f k a0 a1 a2) (credenzalaw15_VersionOrders.f (k + 1) a0 a1 a2) := by
  intro a0 a1 a2 k
  obtain ⟨ih0, ih1⟩ := credenzalaw15_VersionOrders.mono_l k
  unfold credenzalaw15_VersionOrders.f
  repeat' first
      | (with_reducible exact ih0 _ _ _ _)
      | (with_reducible exact ih1 _ _ _ _)
      | (with_reducible exact credenzalaw15_awake.mono _)
      | (with_reducible exact version_Compare.mono _ _ _)
      | (with_reducible exact LeO.refl _)
      | (with_reducible exact LeO.none _)
      | (with_reducible refine LeO.ite ?_ ?_)
      | (with_reducible refine LeO.bind ?_ (fun _ => ?_))
      | exact ih0 _ _ _ _
      | exact ih1 _ _ _ _
      | exact credenzalaw15_awake.mono _
      | exact version_Compare.mono _ _ _
      | exact LeO.none _
      | refine LeO.ite ?_ ?_
      | refine LeO.bind ?_ (fun _ => ?_)
set_option maxHeartbeats 8000000 in
set_option maxRecDepth 100000 in
theorem credenzalaw15_VersionOrders.calls (k : Nat) (a0 : ByteArray) (a1 : ByteArray) (a2 : ByteArray) (r : Bool) (w : World) (h : credenzalaw15_VersionOrders.f k a0 a1 a2 = some r) :
    Calls Tryd.prog 6 #[.string a0, .string a1, .string a2] w fun e w' => e = .returned (.bool r) ∧ Below w.heap.size w w' := by
  have HB := Aside0.mk (Below.refl w.heap.size w)
  have H : (if (a0.size : Int) > 200 then (credenzalaw15_VersionOrders.j0 k a0 a1 a2 true) else (if (a1.size : Int) > 200 then (credenzalaw15_VersionOrders.j0 k a0 a1 a2 true) else (credenzalaw15_VersionOrders.j0 k a0 a1 a2 (decide ((a2.size : Int) > 200))))) = some r := h
  clear h
  have HC4 := Aside0.mk H
  clear H
  go_enter Tryd.func6, Tryd.ntmps6
  go_upto_region 1 with (fail)
  go_cut [22] (fun v22 wc => ∃ (kq : Nat) (x22_3 : Bool), v22 = .bool x22_3 ∧ Aside0 (credenzalaw15_VersionOrders.j0 kq a0 a1 a2 x22_3 = some r) ∧ Aside0 (kq ≤ k) ∧ Aside0 (Below w.heap.size w wc))
  case first =>
    have H := HC4.out
    clear HC4
    by_cases c5 : (a0.size : Int) > 200
    · rw [if_pos c5] at H
      have c5b0 : decide (200 < (a0.size : Int)) = true := decide_eq_true c5
      have c5b1 : decide (200 < a0.size) = true := decide_eq_true (by omega)
      clear c5
      (first | rw [c5b0] | (simp only [i64_w, i32_w]; rw [c5b0]) | skip)
      have H' := Aside0.mk H
      clear H
      go_wp2
      go_meet
      case rel => exact ⟨_, (true), (by first | rfl | (simp; done) | (simp [*]; done)), H', ⟨by first | omega | exact Nat.le_refl _⟩, ⟨by repeat (first | (with_reducible first | exact HB.out | apply below_alloc | apply pw_below_drewN | apply below_drew1) | exact HB.out)⟩⟩
    · rw [if_neg c5] at H
      have c5b0 : decide (200 < (a0.size : Int)) = false := decide_eq_false c5
      have c5b1 : decide (200 < a0.size) = false := decide_eq_false (by omega)
      clear c5
      (first | rw [c5b0] | (simp only [i64_w, i32_w]; rw [c5b0]) | skip)
      by_cases c6 : (a1.size : Int) > 200
      · rw [if_pos c6] at H
        have c6b0 : decide (200 < (a1.size : Int)) = true := decide_eq_true c6
        have c6b1 : decide (200 < a1.size) = true := decide_eq_true (by omega)
        clear c6
        have H' := Aside0.mk H
        clear H
        go_wp2
        go_meet
        case rel => exact ⟨_, (true), (by first | rfl | (simp; done) | (simp [*]; done)), H', ⟨by first | omega | exact Nat.le_refl _⟩, ⟨by repeat (first | (with_reducible first | exact HB.out | apply below_alloc | apply pw_below_drewN | apply below_drew1) | exact HB.out)⟩⟩
      · rw [if_neg c6] at H
        have c6b0 : decide (200 < (a1.size : Int)) = false := decide_eq_false c6
        have c6b1 : decide (200 < a1.size) = false := decide_eq_false (by omega)
        clear c6
        have H' := Aside0.mk H
        clear H
        go_wp2
        go_meet
        case rel => exact ⟨_, (decide ((a2.size : Int) > 200)), (by first | rfl | (simp; done) | (simp [*]; done)), H', ⟨by first | omega | exact Nat.le_refl _⟩, ⟨by repeat (first | (with_reducible first | exact HB.out | apply below_alloc | apply pw_below_drewN | apply below_drew1) | exact HB.out)⟩⟩
  case rest =>
    clear HC4
    try clear p2
    try clear c5
    try clear c5b0
    try clear c5b1
    try clear c6
    try clear c6b0
    try clear c6b1
    obtain ⟨kq, x22_3, rfl, HA, HJ3, HB⟩ := hcut
    cases kq with
    | zero => exact absurd HA.out (by simp [credenzalaw15_VersionOrders.j0])
    | succ kj3 =>
      have H := HA.out
      clear HA
      simp only [credenzalaw15_VersionOrders.j0] at H
      by_cases c7 : x22_3 = true
      · subst c7
        have H1 : ((credenzalaw15_awake.f kj3).bind fun t216 => (some t216)) = some r := by rw [if_pos rfl] at H; exact H
        clear H
        have H := H1
        clear H1
        replace H := Option.bind_eq_some_iff.mp H
        obtain ⟨t216, A80, H⟩ := H
        replace H : (some t216) = some r := H
        have A8 := Aside0.mk A80
        clear A80
        obtain rfl := Option.some.inj H
        go_wp2_with (first | ((with_reducible refine gate_callee (f := 13) rfl ?_); refine goesL_ (some 23) rfl rfl Tryd.func13 (by kernel_rfl) rfl #[] rfl (by (try simp only [List.map_toArray, List.map_cons, List.map_nil]); first | done | rfl | (simp only [List.length_drop, List.length_take]; rfl)) ?_; (with_reducible refine (credenzalaw15_awake.calls kj3  t216 _ A8.out).mono ?_); rintro e w9 ⟨rfl, hb⟩; refine ⟨_, rfl, ?_⟩; have n0_ := Aside0.mk (below_step (by repeat (first | (with_reducible first | exact HB.out | apply below_alloc | apply pw_below_drewN | apply below_drew1) | exact HB.out)) hb); clear HB; have HB := n0_; clear n0_; (try clear hb); (try clear hb2); (try clear hk); (try clear hi)))
        go_ret
        exact ⟨by first | rfl | (simp [errW_none, errW_some] <;> rfl) | (simp [*, errW_none, errW_some] <;> rfl), by repeat (first | (with_reducible first | exact HB.out | apply below_alloc | apply pw_below_drewN | apply below_drew1) | exact HB.out)⟩
      · replace c7 := Bool.eq_false_iff.mpr c7
        subst c7
        have H1 : ((version_Compare.f kj3 a0 a1).bind fun t217 => ((version_Compare.f kj3 a1 a2).bind fun t218 => ((version_Compare.f kj3 a0 a2).bind fun t219 => ((version_Compare.f kj3 a0 a0).bind fun t220 => (if t220 = 0 then ((version_Compare.f kj3 a1 a0).bind fun t221 => (if t221 = (wrap64 (-t217)) then (if t217 < (-1) then (credenzalaw15_VersionOrders.j1 kj3 t217 t218 t219 true) else (credenzalaw15_VersionOrders.j1 kj3 t217 t218 t219 (decide (t217 > 1)))) else (credenzalaw15_VersionOrders.j1 kj3 t217 t218 t219 true))) else (credenzalaw15_VersionOrders.j1 kj3 t217 t218 t219 true)))))) = some r := by rw [if_neg (show ¬ (false = true) by decide)] at H; exact H
        clear H
        have H := H1
        clear H1
        replace H := Option.bind_eq_some_iff.mp H
        obtain ⟨t217, A100, H⟩ := H
        replace H : ((version_Compare.f kj3 a1 a2).bind fun t218 => ((version_Compare.f kj3 a0 a2).bind fun t219 => ((version_Compare.f kj3 a0 a0).bind fun t220 => (if t220 = 0 then ((version_Compare.f kj3 a1 a0).bind fun t221 => (if t221 = (wrap64 (-t217)) then (if t217 < (-1) then (credenzalaw15_VersionOrders.j1 kj3 t217 t218 t219 true) else (credenzalaw15_VersionOrders.j1 kj3 t217 t218 t219 (decide (t217 > 1)))) else (credenzalaw15_VersionOrders.j1 kj3 t217 t218 t219 true))) else (credenzalaw15_VersionOrders.j1 kj3 t217 t218 t219 true))))) = some r := H
        have A10 := Aside0.mk A100
        clear A100
        replace H := Option.bind_eq_some_iff.mp H
        obtain ⟨t218, A110, H⟩ := H
        replace H : ((version_Compare.f kj3 a0 a2).bind fun t219 => ((version_Compare.f kj3 a0 a0).bind fun t220 => (if t220 = 0 then ((version_Compare.f kj3 a1 a0).bind fun t221 => (if t221 = (wrap64 (-t217)) then (if t217 < (-1) then (credenzalaw15_VersionOrders.j1 kj3 t217 t218 t219 true) else (credenzalaw15_VersionOrders.j1 kj3 t217 t218 t219 (decide (t217 > 1)))) else (credenzalaw15_VersionOrders.j1 kj3 t217 t218 t219 true))) else (credenzalaw15_VersionOrders.j1 kj3 t217 t218 t219 true)))) = some r := H
        have A11 := Aside0.mk A110
        clear A110
        replace H := Option.bind_eq_some_iff.mp H
        obtain ⟨t219, A120, H⟩ := H
        replace H : ((version_Compare.f kj3 a0 a0).bind fun t220 => (if t220 = 0 then ((version_Compare.f kj3 a1 a0).bind fun t221 => (if t221 = (wrap64 (-t217)) then (if t217 < (-1) then (credenzalaw15_VersionOrders.j1 kj3 t217 t218 t219 true) else (credenzalaw15_VersionOrders.j1 kj3 t217 t218 t219 (decide (t217 > 1)))) else (credenzalaw15_VersionOrders.j1 kj3 t217 t218 t219 true))) else (credenzalaw15_VersionOrders.j1 kj3 t217 t218 t219 true))) = some r := H
        have A12 := Aside0.mk A120
        clear A120
        have HC13 := Aside0.mk H
        clear H
        go_upto_region 4 with (first | ((with_reducible refine gate_callee (f := 12) rfl ?_); refine goesL_ (some 26) rfl rfl Tryd.func12 (by kernel_rfl) rfl #[.string a0, .string a1] rfl (by (try simp only [List.map_toArray, List.map_cons, List.map_nil]); first | done | rfl | (simp only [List.length_drop, List.length_take]; rfl)) ?_; (with_reducible refine (version_Compare.calls kj3 a0 a1 t217 _ A10.out).mono ?_); rintro e w14 ⟨rfl, hb⟩; refine ⟨_, rfl, ?_⟩; have n0_ := Aside0.mk (below_step (by repeat (first | (with_reducible first | exact HB.out | apply below_alloc | apply pw_below_drewN | apply below_drew1) | exact HB.out)) hb); clear HB; have HB := n0_; clear n0_; (try clear hb); (try clear hb2); (try clear hk); (try clear hi)) | ((with_reducible refine gate_callee (f := 12) rfl ?_); refine goesL_ (some 29) rfl rfl Tryd.func12 (by kernel_rfl) rfl #[.string a1, .string a2] rfl (by (try simp only [List.map_toArray, List.map_cons, List.map_nil]); first | done | rfl | (simp only [List.length_drop, List.length_take]; rfl)) ?_; (with_reducible refine (version_Compare.calls kj3 a1 a2 t218 _ A11.out).mono ?_); rintro e w15 ⟨rfl, hb⟩; refine ⟨_, rfl, ?_⟩; have n0_ := Aside0.mk (below_step (by repeat (first | (with_reducible first | exact HB.out | apply below_alloc | apply pw_below_drewN | apply below_drew1) | exact HB.out)) hb); clear HB; have HB := n0_; clear n0_; (try clear hb); (try clear hb2); (try clear hk); (try clear hi)) | ((with_reducible refine gate_callee (f := 12) rfl ?_); refine goesL_ (some 32) rfl rfl Tryd.func12 (by kernel_rfl) rfl #[.string a0, .string a2] rfl (by (try simp only [List.map_toArray, List.map_cons, List.map_nil]); first | done | rfl | (simp only [List.length_drop, List.length_take]; rfl)) ?_; (with_reducible refine (version_Compare.calls kj3 a0 a2 t219 _ A12.out).mono ?_); rintro e w16 ⟨rfl, hb⟩; refine ⟨_, rfl, ?_⟩; have n0_ := Aside0.mk (below_step (by repeat (first | (with_reducible first | exact HB.out | apply below_alloc | apply pw_below_drewN | apply below_drew1) | exact HB.out)) hb); clear HB; have HB := n0_; clear n0_; (try clear hb); (try clear hb2); (try clear hk); (try clear hi)))
        (try simp only [Act.put, List.setIfInBounds_toArray, List.set_cons_zero, List.set_cons_succ])
        go_cut [52] (fun v52 wc => ∃ (kq : Nat) (x52_12 : Bool), v52 = .bool x52_12 ∧ Aside0 (credenzalaw15_VersionOrders.j1 kq t217 t218 t219 x52_12 = some r) ∧ Aside0 (kq ≤ kj3) ∧ Aside0 (Below w.heap.size w wc))
        case first =>
          have H := HC13.out
          clear HC13
          replace H := Option.bind_eq_some_iff.mp H
          obtain ⟨t220, A170, H⟩ := H
          replace H : (if t220 = 0 then ((version_Compare.f kj3 a1 a0).bind fun t221 => (if t221 = (wrap64 (-t217)) then (if t217 < (-1) then (credenzalaw15_VersionOrders.j1 kj3 t217 t218 t219 true) else (credenzalaw15_VersionOrders.j1 kj3 t217 t218 t219 (decide (t217 > 1)))) else (credenzalaw15_VersionOrders.j1 kj3 t217 t218 t219 true))) else (credenzalaw15_VersionOrders.j1 kj3 t217 t218 t219 true)) = some r := H
          have A17 := Aside0.mk A170
          clear A170
          by_cases c18 : t220 = 0
          · rw [if_pos c18] at H
            have c18b0 : (t220 == 0) = true := beq_iff_eq.mpr c18
            have c18b1 : (t220 != 0) = false := bne_eq_false_iff_eq.mpr c18
            clear c18
            (first | rw [c18b0] | (simp only [i64_w, i32_w]; rw [c18b0]) | skip)
            replace H := Option.bind_eq_some_iff.mp H
            obtain ⟨t221, A190, H⟩ := H
            replace H : (if t221 = (wrap64 (-t217)) then (if t217 < (-1) then (credenzalaw15_VersionOrders.j1 kj3 t217 t218 t219 true) else (credenzalaw15_VersionOrders.j1 kj3 t217 t218 t219 (decide (t217 > 1)))) else (credenzalaw15_VersionOrders.j1 kj3 t217 t218 t219 true)) = some r := H
            have A19 := Aside0.mk A190
            clear A190
            by_cases c20 : t221 = (wrap64 (-t217))
            · rw [if_pos c20] at H
              have c20b0 : (t221 == (wrap64 (-t217))) = true := beq_iff_eq.mpr c20
              have c20b1 : (t221 != (wrap64 (-t217))) = false := bne_eq_false_iff_eq.mpr c20
              clear c20
              by_cases c21 : t217 < (-1)
              · rw [if_pos c21] at H
                have c21b0 : decide (t217 < (-1)) = true := decide_eq_true c21
                clear c21
                have H' := Aside0.mk H
                clear H
                go_wp2_with (first | ((with_reducible refine gate_callee (f := 12) rfl ?_); refine goesL_ (some 35) rfl rfl Tryd.func12 (by kernel_rfl) rfl #[.string a0, .string a0] rfl (by (try simp only [List.map_toArray, List.map_cons, List.map_nil]); first | done | rfl | (simp only [List.length_drop, List.length_take]; rfl)) ?_; (with_reducible refine (version_Compare.calls kj3 a0 a0 t220 _ A17.out).mono ?_); rintro e w22 ⟨rfl, hb⟩; refine ⟨_, rfl, ?_⟩; have n0_ := Aside0.mk (below_step (by repeat (first | (with_reducible first | exact HB.out | apply below_alloc | apply pw_below_drewN | apply below_drew1) | exact HB.out)) hb); clear HB; have HB := n0_; clear n0_; (try clear hb); (try clear hb2); (try clear hk); (try clear hi)) | (go_at_call 12; (with_reducible refine (version_Compare.calls kj3 a1 a0 t221 _ A19.out).mono ?_); rintro e w23 ⟨rfl, hb⟩; have n0_ := Aside0.mk (below_step (by repeat (first | (with_reducible first | exact HB.out | apply below_alloc | apply pw_below_drewN | apply below_drew1) | exact HB.out)) hb); clear HB; have HB := n0_; clear n0_; (try clear hb); (try clear hb2); (try clear hk); (try clear hi)))
                go_meet
                case rel => exact ⟨_, (true), (by first | rfl | (simp; done) | (simp [*]; done)), H', ⟨by have := HJ3.out; first | omega | exact Nat.le_refl _⟩, ⟨by repeat (first | (with_reducible first | exact HB.out | apply below_alloc | apply pw_below_drewN | apply below_drew1) | exact HB.out)⟩⟩
              · rw [if_neg c21] at H
                have c21b0 : decide (t217 < (-1)) = false := decide_eq_false c21
                clear c21
                have H' := Aside0.mk H
                clear H
                go_wp2_with (first | ((with_reducible refine gate_callee (f := 12) rfl ?_); refine goesL_ (some 35) rfl rfl Tryd.func12 (by kernel_rfl) rfl #[.string a0, .string a0] rfl (by (try simp only [List.map_toArray, List.map_cons, List.map_nil]); first | done | rfl | (simp only [List.length_drop, List.length_take]; rfl)) ?_; (with_reducible refine (version_Compare.calls kj3 a0 a0 t220 _ A17.out).mono ?_); rintro e w24 ⟨rfl, hb⟩; refine ⟨_, rfl, ?_⟩; have n0_ := Aside0.mk (below_step (by repeat (first | (with_reducible first | exact HB.out | apply below_alloc | apply pw_below_drewN | apply below_drew1) | exact HB.out)) hb); clear HB; have HB := n0_; clear n0_; (try clear hb); (try clear hb2); (try clear hk); (try clear hi)) | (go_at_call 12; (with_reducible refine (version_Compare.calls kj3 a1 a0 t221 _ A19.out).mono ?_); rintro e w25 ⟨rfl, hb⟩; have n0_ := Aside0.mk (below_step (by repeat (first | (with_reducible first | exact HB.out | apply below_alloc | apply pw_below_drewN | apply below_drew1) | exact HB.out)) hb); clear HB; have HB := n0_; clear n0_; (try clear hb); (try clear hb2); (try clear hk); (try clear hi)))
                go_meet
                case rel => exact ⟨_, (decide (t217 > 1)), (by first | rfl | (simp; done) | (simp [*]; done)), H', ⟨by have := HJ3.out; first | omega | exact Nat.le_refl _⟩, ⟨by repeat (first | (with_reducible first | exact HB.out | apply below_alloc | apply pw_below_drewN | apply below_drew1) | exact HB.out)⟩⟩
            · rw [if_neg c20] at H
              have c20b0 : (t221 == (wrap64 (-t217))) = false := beq_eq_false_iff_ne.mpr c20
              have c20b1 : (t221 != (wrap64 (-t217))) = true := bne_iff_ne.mpr c20
              have H' := Aside0.mk H
              clear H
              go_wp2_with (first | ((with_reducible refine gate_callee (f := 12) rfl ?_); refine goesL_ (some 35) rfl rfl Tryd.func12 (by kernel_rfl) rfl #[.string a0, .string a0] rfl (by (try simp only [List.map_toArray, List.map_cons, List.map_nil]); first | done | rfl | (simp only [List.length_drop, List.length_take]; rfl)) ?_; (with_reducible refine (version_Compare.calls kj3 a0 a0 t220 _ A17.out).mono ?_); rintro e w26 ⟨rfl, hb⟩; refine ⟨_, rfl, ?_⟩; have n0_ := Aside0.mk (below_step (by repeat (first | (with_reducible first | exact HB.out | apply below_alloc | apply pw_below_drewN | apply below_drew1) | exact HB.out)) hb); clear HB; have HB := n0_; clear n0_; (try clear hb); (try clear hb2); (try clear hk); (try clear hi)) | (go_at_call 12; (with_reducible refine (version_Compare.calls kj3 a1 a0 t221 _ A19.out).mono ?_); rintro e w27 ⟨rfl, hb⟩; have n0_ := Aside0.mk (below_step (by repeat (first | (with_reducible first | exact HB.out | apply below_alloc | apply pw_below_drewN | apply below_drew1) | exact HB.out)) hb); clear HB; have HB := n0_; clear n0_; (try clear hb); (try clear hb2); (try clear hk); (try clear hi)))
              go_meet
              case rel => exact ⟨_, (true), (by first | rfl | (simp; done) | (simp [*]; done)), H', ⟨by have := HJ3.out; first | omega | exact Nat.le_refl _⟩, ⟨by repeat (first | (with_reducible first | exact HB.out | apply below_alloc | apply pw_below_drewN | apply below_drew1) | exact HB.out)⟩⟩
          · rw [if_neg c18] at H
            have c18b0 : (t220 == 0) = false := beq_eq_false_iff_ne.mpr c18
            have c18b1 : (t220 != 0) = true := bne_iff_ne.mpr c18
            (first | rw [c18b0] | (simp only [i64_w, i32_w]; rw [c18b0]) | skip)
            have H' := Aside0.mk H
            clear H
            go_wp2_with (first | ((with_reducible refine gate_callee (f := 12) rfl ?_); refine goesL_ (some 35) rfl rfl Tryd.func12 (by kernel_rfl) rfl #[.string a0, .string a0] rfl (by (try simp only [List.map_toArray, List.map_cons, List.map_nil]); first | done | rfl | (simp only [List.length_drop, List.length_take]; rfl)) ?_; (with_reducible refine (version_Compare.calls kj3 a0 a0 t220 _ A17.out).mono ?_); rintro e w28 ⟨rfl, hb⟩; refine ⟨_, rfl, ?_⟩; have n0_ := Aside0.mk (below_step (by repeat (first | (with_reducible first | exact HB.out | apply below_alloc | apply pw_below_drewN | apply below_drew1) | exact HB.out)) hb); clear HB; have HB := n0_; clear n0_; (try clear hb); (try clear hb2); (try clear hk); (try clear hi)))
            go_meet
            case rel => exact ⟨_, (true), (by first | rfl | (simp; done) | (simp [*]; done)), H', ⟨by have := HJ3.out; first | omega | exact Nat.le_refl _⟩, ⟨by repeat (first | (with_reducible first | exact HB.out | apply below_alloc | apply pw_below_drewN | apply below_drew1) | exact HB.out)⟩⟩
        case rest =>
          clear HC13
          try clear c1
          try clear c2
          try clear p2
          try clear c5
          try clear c5b0
          try clear c5b1
          try clear c6
          try clear c6b0
          try clear c6b1
          try clear p6
          try clear c7
          try clear c12
          try clear c13
          try clear c18
          try clear c18b0
          try clear c18b1
          try clear c20
          try clear c20b0
          try clear c20b1
          try clear c21
          try clear c21b0
          try clear p2
          obtain ⟨kq, x52_12, rfl, HA, HJ12, HB⟩ := hcut
          cases kq with
          | zero => exact absurd HA.out (by simp [credenzalaw15_VersionOrders.j1])
          | succ kj12 =>
            have H := HA.out
            clear HA
            simp only [credenzalaw15_VersionOrders.j1] at H
            by_cases c29 : x52_12 = true
            · subst c29
              have H1 : (some false) = some r := by rw [if_pos rfl] at H; exact H
              clear H
              have H := H1
              clear H1
              obtain rfl := Option.some.inj H
              go_wp2
              go_ret
              exact ⟨by first | rfl | (simp [errW_none, errW_some] <;> rfl) | (simp [*, errW_none, errW_some] <;> rfl), by repeat (first | (with_reducible first | exact HB.out | apply below_alloc | apply pw_below_drewN | apply below_drew1) | exact HB.out)⟩
            · replace c29 := Bool.eq_false_iff.mpr c29
              subst c29
              have H1 : (if t217 ≥ 0 then (if t218 ≥ 0 then (if t219 < 0 then (some false) else (if t217 ≤ 0 then (if t218 ≤ 0 then (if t219 > 0 then (some false) else (if t217 = 0 then (if t219 = t218 then (if t218 = 0 then (if t219 = t217 then ((credenzalaw15_awake.f kj12).bind fun t222 => (some t222)) else (some false)) else ((credenzalaw15_awake.f kj12).bind fun t223 => (some t223))) else (some false)) else (if t218 = 0 then (if t219 = t217 then ((credenzalaw15_awake.f kj12).bind fun t224 => (some t224)) else (some false)) else ((credenzalaw15_awake.f kj12).bind fun t225 => (some t225))))) else (if t217 = 0 then (if t219 = t218 then (if t218 = 0 then (if t219 = t217 then ((credenzalaw15_awake.f kj12).bind fun t226 => (some t226)) else (some false)) else ((credenzalaw15_awake.f kj12).bind fun t227 => (some t227))) else (some false)) else (if t218 = 0 then (if t219 = t217 then ((credenzalaw15_awake.f kj12).bind fun t228 => (some t228)) else (some false)) else ((credenzalaw15_awake.f kj12).bind fun t229 => (some t229))))) else (if t217 = 0 then (if t219 = t218 then (if t218 = 0 then (if t219 = t217 then ((credenzalaw15_awake.f kj12).bind fun t230 => (some t230)) else (some false)) else ((credenzalaw15_awake.f kj12).bind fun t231 => (some t231))) else (some false)) else (if t218 = 0 then (if t219 = t217 then ((credenzalaw15_awake.f kj12).bind fun t232 => (some t232)) else (some false)) else ((credenzalaw15_awake.f kj12).bind fun t233 => (some t233)))))) else (if t217 ≤ 0 then (if t218 ≤ 0 then (if t219 > 0 then (some false) else (if t217 = 0 then (if t219 = t218 then (if t218 = 0 then (if t219 = t217 then ((credenzalaw15_awake.f kj12).bind fun t234 => (some t234)) else (some false)) else ((credenzalaw15_awake.f kj12).bind fun t235 => (some t235))) else (some false)) else (if t218 = 0 then (if t219 = t217 then ((credenzalaw15_awake.f kj12).bind fun t236 => (some t236)) else (some false)) else ((credenzalaw15_awake.f kj12).bind fun t237 => (some t237))))) else (if t217 = 0 then (if t219 = t218 then (if t218 = 0 then (if t219 = t217 then ((credenzalaw15_awake.f kj12).bind fun t238 => (some t238)) else (some false)) else ((credenzalaw15_awake.f kj12).bind fun t239 => (some t239))) else (some false)) else (if t218 = 0 then (if t219 = t217 then ((credenzalaw15_awake.f kj12).bind fun t240 => (some t240)) else (some false)) else ((credenzalaw15_awake.f kj12).bind fun t241 => (some t241))))) else (if t217 = 0 then (if t219 = t218 then (if t218 = 0 then (if t219 = t217 then ((credenzalaw15_awake.f kj12).bind fun t242 => (some t242)) else (some false)) else ((credenzalaw15_awake.f kj12).bind fun t243 => (some t243))) else (some false)) else (if t218 = 0 then (if t219 = t217 then ((credenzalaw15_awake.f kj12).bind fun t244 => (some t244)) else (some false)) else ((credenzalaw15_awake.f kj12).bind fun t245 => (some t245)))))) else (if t217 ≤ 0 then (if t218 ≤ 0 then (if t219 > 0 then (some false) else (if t217 = 0 then (if t219 = t218 then (if t218 = 0 then (if t219 = t217 then ((credenzalaw15_awake.f kj12).bind fun t246 => (some t246)) else (some false)) else ((credenzalaw15_awake.f kj12).bind fun t247 => (some t247))) else (some false)) else (if t218 = 0 then (if t219 = t217 then ((credenzalaw15_awake.f kj12).bind fun t248 => (some t248)) else (some false)) else ((credenzalaw15_awake.f kj12).bind fun t249 => (some t249))))) else (if t217 = 0 then (if t219 = t218 then (if t218 = 0 then (if t219 = t217 then ((credenzalaw15_awake.f kj12).bind fun t250 => (some t250)) else (some false)) else ((credenzalaw15_awake.f kj12).bind fun t251 => (some t251))) else (some false)) else (if t218 = 0 then (if t219 = t217 then ((credenzalaw15_awake.f kj12).bind fun t252 => (some t252)) else (some false)) else ((credenzalaw15_awake.f kj12).bind fun t253 => (some t253))))) else (if t217 = 0 then (if t219 = t218 then (if t218 = 0 then (if t219 = t217 then ((credenzalaw15_awake.f kj12).bind fun t254 => (some t254)) else (some false)) else ((credenzalaw15_awake.f kj12).bind fun t255 => (some t255))) else (some false)) else (if t218 = 0 then (if t219 = t217 then ((credenzalaw15_awake.f kj12).bind fun t256 => (some t256)) else (some false)) else ((credenzalaw15_awake.f kj12).bind fun t257 => (some t257)))))) = some r := by rw [if_neg (show ¬ (false = true) by decide)] at H; exact H
              clear H
              have H := H1
              clear H1
              by_cases c30 : t217 ≥ 0
              · rw [if_pos c30] at H
                have c30b0 : decide (0 ≤ t217) = true := decide_eq_true c30
                clear c30
                by_cases c31 : t218 ≥ 0
                · rw [if_pos c31] at H
                  have c31b0 : decide (0 ≤ t218) = true := decide_eq_true c31
                  clear c31
                  by_cases c32 : t219 < 0
                  · rw [if_pos c32] at H
                    have c32b0 : decide (t219 < 0) = true := decide_eq_true c32
                    clear c32
                    obtain rfl := Option.some.inj H
                    go_wp2
                    go_ret
                    exact ⟨by first | rfl | (simp [errW_none, errW_some] <;> rfl) | (simp [*, errW_none, errW_some] <;> rfl), by repeat (first | (with_reducible first | exact HB.out | apply below_alloc | apply pw_below_drewN | apply below_drew1) | exact HB.out)⟩
                  · rw [if_neg c32] at H
                    have c32b0 : decide (t219 < 0) = false := decide_eq_false c32
                    clear c32
                    by_cases c33 : t217 ≤ 0
                    · rw [if_pos c33] at H
                      have c33b0 : decide (t217 ≤ 0) = true := decide_eq_true c33
                      clear c33
                      by_cases c34 : t218 ≤ 0
                      · rw [if_pos c34] at H
                        have c34b0 : decide (t218 ≤ 0) = true := decide_eq_true c34
                        clear c34
                        by_cases c35 : t219 > 0
                        · rw [if_pos c35] at H
                          have c35b0 : decide (0 < t219) = true := decide_eq_true c35
                          clear c35
                          obtain rfl := Option.some.inj H
                          go_wp2
                          go_ret
                          exact ⟨by first | rfl | (simp [errW_none, errW_some] <;> rfl) | (simp [*, errW_none, errW_some] <;> rfl), by repeat (first | (with_reducible first | exact HB.out | apply below_alloc | apply pw_below_drewN | apply below_drew1) | exact HB.out)⟩
                        · rw [if_neg c35] at H
                          have c35b0 : decide (0 < t219) = false := decide_eq_false c35
                          clear c35
                          by_cases c36 : t217 = 0
                          · rw [if_pos c36] at H
                            have c36b0 : (t217 == 0) = true := beq_iff_eq.mpr c36
                            have c36b1 : (t217 != 0) = false := bne_eq_false_iff_eq.mpr c36
                            clear c36
                            by_cases c37 : t219 = t218
                            · rw [if_pos c37] at H
                              have c37b0 : (t219 == t218) = true := beq_iff_eq.mpr c37
                              have c37b1 : (t219 != t218) = false := bne_eq_false_iff_eq.mpr c37
                              clear c37
                              by_cases c38 : t218 = 0
                              · rw [if_pos c38] at H
                                have c38b0 : (t218 == 0) = true := beq_iff_eq.mpr c38
                                have c38b1 : (t218 != 0) = false := bne_eq_false_iff_eq.mpr c38
                                clear c38
                                by_cases c39 : t219 = t217
                                · rw [if_pos c39] at H
                                  have c39b0 : (t219 == t217) = true := beq_iff_eq.mpr c39
                                  have c39b1 : (t219 != t217) = false := bne_eq_false_iff_eq.mpr c39
                                  clear c39
                                  replace H := Option.bind_eq_some_iff.mp H
                                  obtain ⟨t222, A400, H⟩ := H
                                  replace H : (some t222) = some r := H
                                  have A40 := Aside0.mk A400
                                  clear A400
                                  obtain rfl := Option.some.inj H
                                  go_wp2_with (first | ((with_reducible refine gate_callee (f := 13) rfl ?_); refine goesL_ (some 93) rfl rfl Tryd.func13 (by kernel_rfl) rfl #[] rfl (by (try simp only [List.map_toArray, List.map_cons, List.map_nil]); first | done | rfl | (simp only [List.length_drop, List.length_take]; rfl)) ?_; (with_reducible refine (credenzalaw15_awake.calls kj12  t222 _ A40.out).mono ?_); rintro e w41 ⟨rfl, hb⟩; refine ⟨_, rfl, ?_⟩; have n0_ := Aside0.mk (below_step (by repeat (first | (with_reducible first | exact HB.out | apply below_alloc | apply pw_below_drewN | apply below_drew1) | exact HB.out)) hb); clear HB; have HB := n0_; clear n0_; (try clear hb); (try clear hb2); (try clear hk); (try clear hi)))
                                  go_ret
                                  exact ⟨by first | rfl | (simp [errW_none, errW_some] <;> rfl) | (simp [*, errW_none, errW_some] <;> rfl), by repeat (first | (with_reducible first | exact HB.out | apply below_alloc | apply pw_below_drewN | apply below_drew1) | exact HB.out)⟩
                                · rw [if_neg c39] at H
                                  have c39b0 : (t219 == t217) = false := beq_eq_false_iff_ne.mpr c39
                                  have c39b1 : (t219 != t217) = true := bne_iff_ne.mpr c39
                                  obtain rfl := Option.some.inj H
                                  go_wp2
                                  go_ret
                                  exact ⟨by first | rfl | (simp [errW_none, errW_some] <;> rfl) | (simp [*, errW_none, errW_some] <;> rfl), by repeat (first | (with_reducible first | exact HB.out | apply below_alloc | apply pw_below_drewN | apply below_drew1) | exact HB.out)⟩
                              · rw [if_neg c38] at H
                                have c38b0 : (t218 == 0) = false := beq_eq_false_iff_ne.mpr c38
                                have c38b1 : (t218 != 0) = true := bne_iff_ne.mpr c38
                                replace H := Option.bind_eq_some_iff.mp H
                                obtain ⟨t223, A420, H⟩ := H
                                replace H : (some t223) = some r := H
                                have A42 := Aside0.mk A420
                                clear A420
                                obtain rfl := Option.some.inj H
                                go_wp2_with (first | ((with_reducible refine gate_callee (f := 13) rfl ?_); refine goesL_ (some 93) rfl rfl Tryd.func13 (by kernel_rfl) rfl #[] rfl (by (try simp only [List.map_toArray, List.map_cons, List.map_nil]); first | done | rfl | (simp only [List.length_drop, List.length_take]; rfl)) ?_; (with_reducible refine (credenzalaw15_awake.calls kj12  t223 _ A42.out).mono ?_); rintro e w43 ⟨rfl, hb⟩; refine ⟨_, rfl, ?_⟩; have n0_ := Aside0.mk (below_step (by repeat (first | (with_reducible first | exact HB.out | apply below_alloc | apply pw_below_drewN | apply below_drew1) | exact HB.out)) hb); clear HB; have HB := n0_; clear n0_; (try clear hb); (try clear hb2); (try clear hk); (try clear hi)))
                                go_ret
                                exact ⟨by first | rfl | (simp [errW_none, errW_some] <;> rfl) | (simp [*, errW_none, errW_some] <;> rfl), by repeat (first | (with_reducible first | exact HB.out | apply below_alloc | apply pw_below_drewN | apply below_drew1) | exact HB.out)⟩
                            · rw [if_neg c37] at H
                              have c37b0 : (t219 == t218) = false := beq_eq_false_iff_ne.mpr c37
                              have c37b1 : (t219 != t218) = true := bne_iff_ne.mpr c37
                              obtain rfl := Option.some.inj H
                              go_wp2
                              go_ret
                              exact ⟨by first | rfl | (simp [errW_none, errW_some] <;> rfl) | (simp [*, errW_none, errW_some] <;> rfl), by repeat (first | (with_reducible first | exact HB.out | apply below_alloc | apply pw_below_drewN | apply below_drew1) | exact HB.out)⟩
                          · rw [if_neg c36] at H
                            have c36b0 : (t217 == 0) = false := beq_eq_false_iff_ne.mpr c36
                            have c36b1 : (t217 != 0) = true := bne_iff_ne.mpr c36
                            by_cases c44 : t218 = 0
                            · rw [if_pos c44] at H
                              have c44b0 : (t218 == 0) = true := beq_iff_eq.mpr c44
                              have c44b1 : (t218 != 0) = false := bne_eq_false_iff_eq.mpr c44
                              clear c44
                              by_cases c45 : t219 = t217
                              · rw [if_pos c45] at H
                                have c45b0 : (t219 == t217) = true := beq_iff_eq.mpr c45
                                have c45b1 : (t219 != t217) = false := bne_eq_false_iff_eq.mpr c45
                                clear c45
                                replace H := Option.bind_eq_some_iff.mp H
                                obtain ⟨t224, A460, H⟩ := H
                                replace H : (some t224) = some r := H
                                have A46 := Aside0.mk A460
                                clear A460
                                obtain rfl := Option.some.inj H
                                go_wp2_with (first | ((with_reducible refine gate_callee (f := 13) rfl ?_); refine goesL_ (some 93) rfl rfl Tryd.func13 (by kernel_rfl) rfl #[] rfl (by (try simp only [List.map_toArray, List.map_cons, List.map_nil]); first | done | rfl | (simp only [List.length_drop, List.length_take]; rfl)) ?_; (with_reducible refine (credenzalaw15_awake.calls kj12  t224 _ A46.out).mono ?_); rintro e w47 ⟨rfl, hb⟩; refine ⟨_, rfl, ?_⟩; have n0_ := Aside0.mk (below_step (by repeat (first | (with_reducible first | exact HB.out | apply below_alloc | apply pw_below_drewN | apply below_drew1) | exact HB.out)) hb); clear HB; have HB := n0_; clear n0_; (try clear hb); (try clear hb2); (try clear hk); (try clear hi)))
                                go_ret
                                exact ⟨by first | rfl | (simp [errW_none, errW_some] <;> rfl) | (simp [*, errW_none, errW_some] <;> rfl), by repeat (first | (with_reducible first | exact HB.out | apply below_alloc | apply pw_below_drewN | apply below_drew1) | exact HB.out)⟩
                              · rw [if_neg c45] at H
                                have c45b0 : (t219 == t217) = false := beq_eq_false_iff_ne.mpr c45
                                have c45b1 : (t219 != t217) = true := bne_iff_ne.mpr c45
                                obtain rfl := Option.some.inj H
                                go_wp2
                                go_ret
                                exact ⟨by first | rfl | (simp [errW_none, errW_some] <;> rfl) | (simp [*, errW_none, errW_some] <;> rfl), by repeat (first | (with_reducible first | exact HB.out | apply below_alloc | apply pw_below_drewN | apply below_drew1) | exact HB.out)⟩
                            · rw [if_neg c44] at H
                              have c44b0 : (t218 == 0) = false := beq_eq_false_iff_ne.mpr c44
                              have c44b1 : (t218 != 0) = true := bne_iff_ne.mpr c44
                              replace H := Option.bind_eq_some_iff.mp H
                              obtain ⟨t225, A480, H⟩ := H
                              replace H : (some t225) = some r := H
                              have A48 := Aside0.mk A480
                              clear A480
                              obtain rfl := Option.some.inj H
                              go_wp2_with (first | ((with_reducible refine gate_callee (f := 13) rfl ?_); refine goesL_ (some 93) rfl rfl Tryd.func13 (by kernel_rfl) rfl #[] rfl (by (try simp only [List.map_toArray, List.map_cons, List.map_nil]); first | done | rfl | (simp only [List.length_drop, List.length_take]; rfl)) ?_; (with_reducible refine (credenzalaw15_awake.calls kj12  t225 _ A48.out).mono ?_); rintro e w49 ⟨rfl, hb⟩; refine ⟨_, rfl, ?_⟩; have n0_ := Aside0.mk (below_step (by repeat (first | (with_reducible first | exact HB.out | apply below_alloc | apply pw_below_drewN | apply below_drew1) | exact HB.out)) hb); clear HB; have HB := n0_; clear n0_; (try clear hb); (try clear hb2); (try clear hk); (try clear hi)))
                              go_ret
                              exact ⟨by first | rfl | (simp [errW_none, errW_some] <;> rfl) | (simp [*, errW_none, errW_some] <;> rfl), by repeat (first | (with_reducible first | exact HB.out | apply below_alloc | apply pw_below_drewN | apply below_drew1) | exact HB.out)⟩
                      · rw [if_neg c34] at H
                        have c34b0 : decide (t218 ≤ 0) = false := decide_eq_false c34
                        clear c34
                        by_cases c50 : t217 = 0
                        · rw [if_pos c50] at H
                          have c50b0 : (t217 == 0) = true := beq_iff_eq.mpr c50
                          have c50b1 : (t217 != 0) = false := bne_eq_false_iff_eq.mpr c50
                          clear c50
                          by_cases c51 : t219 = t218
                          · rw [if_pos c51] at H
                            have c51b0 : (t219 == t218) = true := beq_iff_eq.mpr c51
                            have c51b1 : (t219 != t218) = false := bne_eq_false_iff_eq.mpr c51
                            clear c51
                            by_cases c52 : t218 = 0
                            · rw [if_pos c52] at H
                              have c52b0 : (t218 == 0) = true := beq_iff_eq.mpr c52
                              have c52b1 : (t218 != 0) = false := bne_eq_false_iff_eq.mpr c52
                              clear c52
                              by_cases c53 : t219 = t217
                              · rw [if_pos c53] at H
                                have c53b0 : (t219 == t217) = true := beq_iff_eq.mpr c53
                                have c53b1 : (t219 != t217) = false := bne_eq_false_iff_eq.mpr c53
                                clear c53
                                replace H := Option.bind_eq_some_iff.mp H
                                obtain ⟨t226, A540, H⟩ := H
                                replace H : (some t226) = some r := H
                                have A54 := Aside0.mk A540
                                clear A540
                                obtain rfl := Option.some.inj H
                                go_wp2_with (first | ((with_reducible refine gate_callee (f := 13) rfl ?_); refine goesL_ (some 93) rfl rfl Tryd.func13 (by kernel_rfl) rfl #[] rfl (by (try simp only [List.map_toArray, List.map_cons, List.map_nil]); first | done | rfl | (simp only [List.length_drop, List.length_take]; rfl)) ?_; (with_reducible refine (credenzalaw15_awake.calls kj12  t226 _ A54.out).mono ?_); rintro e w55 ⟨rfl, hb⟩; refine ⟨_, rfl, ?_⟩; have n0_ := Aside0.mk (below_step (by repeat (first | (with_reducible first | exact HB.out | apply below_alloc | apply pw_below_drewN | apply below_drew1) | exact HB.out)) hb); clear HB; have HB := n0_; clear n0_; (try clear hb); (try clear hb2); (try clear hk); (try clear hi)))
                                go_ret
                                exact ⟨by first | rfl | (simp [errW_none, errW_some] <;> rfl) | (simp [*, errW_none, errW_some] <;> rfl), by repeat (first | (with_reducible first | exact HB.out | apply below_alloc | apply pw_below_drewN | apply below_drew1) | exact HB.out)⟩
                              · rw [if_neg c53] at H
                                have c53b0 : (t219 == t217) = false := beq_eq_false_iff_ne.mpr c53
                                have c53b1 : (t219 != t217) = true := bne_iff_ne.mpr c53
                                obtain rfl := Option.some.inj H
                                go_wp2
                                go_ret
                                exact ⟨by first | rfl | (simp [errW_none, errW_some] <;> rfl) | (simp [*, errW_none, errW_some] <;> rfl), by repeat (first | (with_reducible first | exact HB.out | apply below_alloc | apply pw_below_drewN | apply below_drew1) | exact HB.out)⟩
                            · rw [if_neg c52] at H
                              have c52b0 : (t218 == 0) = false := beq_eq_false_iff_ne.mpr c52
                              have c52b1 : (t218 != 0) = true := bne_iff_ne.mpr c52
                              replace H := Option.bind_eq_some_iff.mp H
                              obtain ⟨t227, A560, H⟩ := H
                              replace H : (some t227) = some r := H
                              have A56 := Aside0.mk A560
                              clear A560
                              obtain rfl := Option.some.inj H
                              go_wp2_with (first | ((with_reducible refine gate_callee (f := 13) rfl ?_); refine goesL_ (some 93) rfl rfl Tryd.func13 (by kernel_rfl) rfl #[] rfl (by (try simp only [List.map_toArray, List.map_cons, List.map_nil]); first | done | rfl | (simp only [List.length_drop, List.length_take]; rfl)) ?_; (with_reducible refine (credenzalaw15_awake.calls kj12  t227 _ A56.out).mono ?_); rintro e w57 ⟨rfl, hb⟩; refine ⟨_, rfl, ?_⟩; have n0_ := Aside0.mk (below_step (by repeat (first | (with_reducible first | exact HB.out | apply below_alloc | apply pw_below_drewN | apply below_drew1) | exact HB.out)) hb); clear HB; have HB := n0_; clear n0_; (try clear hb); (try clear hb2); (try clear hk); (try clear hi)))
                              go_ret
                              exact ⟨by first | rfl | (simp [errW_none, errW_some] <;> rfl) | (simp [*, errW_none, errW_some] <;> rfl), by repeat (first | (with_reducible first | exact HB.out | apply below_alloc | apply pw_below_drewN | apply below_drew1) | exact HB.out)⟩
                          · rw [if_neg c51] at H
                            have c51b0 : (t219 == t218) = false := beq_eq_false_iff_ne.mpr c51
                            have c51b1 : (t219 != t218) = true := bne_iff_ne.mpr c51
                            obtain rfl := Option.some.inj H
                            go_wp2
                            go_ret
                            exact ⟨by first | rfl | (simp [errW_none, errW_some] <;> rfl) | (simp [*, errW_none, errW_some] <;> rfl), by repeat (first | (with_reducible first | exact HB.out | apply below_alloc | apply pw_below_drewN | apply below_drew1) | exact HB.out)⟩
                        · rw [if_neg c50] at H
                          have c50b0 : (t217 == 0) = false := beq_eq_false_iff_ne.mpr c50
                          have c50b1 : (t217 != 0) = true := bne_iff_ne.mpr c50
                          by_cases c58 : t218 = 0
                          · rw [if_pos c58] at H
                            have c58b0 : (t218 == 0) = true := beq_iff_eq.mpr c58
                            have c58b1 : (t218 != 0) = false := bne_eq_false_iff_eq.mpr c58
                            clear c58
                            by_cases c59 : t219 = t217
                            · rw [if_pos c59] at H
                              have c59b0 : (t219 == t217) = true := beq_iff_eq.mpr c59
                              have c59b1 : (t219 != t217) = false := bne_eq_false_iff_eq.mpr c59
                              clear c59
                              replace H := Option.bind_eq_some_iff.mp H
                              obtain ⟨t228, A600, H⟩ := H
                              replace H : (some t228) = some r := H
                              have A60 := Aside0.mk A600
                              clear A600
                              obtain rfl := Option.some.inj H
                              go_wp2_with (first | ((with_reducible refine gate_callee (f := 13) rfl ?_); refine goesL_ (some 93) rfl rfl Tryd.func13 (by kernel_rfl) rfl #[] rfl (by (try simp only [List.map_toArray, List.map_cons, List.map_nil]); first | done | rfl | (simp only [List.length_drop, List.length_take]; rfl)) ?_; (with_reducible refine (credenzalaw15_awake.calls kj12  t228 _ A60.out).mono ?_); rintro e w61 ⟨rfl, hb⟩; refine ⟨_, rfl, ?_⟩; have n0_ := Aside0.mk (below_step (by repeat (first | (with_reducible first | exact HB.out | apply below_alloc | apply pw_below_drewN | apply below_drew1) | exact HB.out)) hb); clear HB; have HB := n0_; clear n0_; (try clear hb); (try clear hb2); (try clear hk); (try clear hi)))
                              go_ret
                              exact ⟨by first | rfl | (simp [errW_none, errW_some] <;> rfl) | (simp [*, errW_none, errW_some] <;> rfl), by repeat (first | (with_reducible first | exact HB.out | apply below_alloc | apply pw_below_drewN | apply below_drew1) | exact HB.out)⟩
                            · rw [if_neg c59] at H
                              have c59b0 : (t219 == t217) = false := beq_eq_false_iff_ne.mpr c59
                              have c59b1 : (t219 != t217) = true := bne_iff_ne.mpr c59
                              obtain rfl := Option.some.inj H
                              go_wp2
                              go_ret
                              exact ⟨by first | rfl | (simp [errW_none, errW_some] <;> rfl) | (simp [*, errW_none, errW_some] <;> rfl), by repeat (first | (with_reducible first | exact HB.out | apply below_alloc | apply pw_below_drewN | apply below_drew1) | exact HB.out)⟩
                          · rw [if_neg c58] at H
                            have c58b0 : (t218 == 0) = false := beq_eq_false_iff_ne.mpr c58
                            have c58b1 : (t218 != 0) = true := bne_iff_ne.mpr c58
                            replace H := Option.bind_eq_some_iff.mp H
                            obtain ⟨t229, A620, H⟩ := H
                            replace H : (some t229) = some r := H
                            have A62 := Aside0.mk A620
                            clear A620
                            obtain rfl := Option.some.inj H
                            go_wp2_with (first | ((with_reducible refine gate_callee (f := 13) rfl ?_); refine goesL_ (some 93) rfl rfl Tryd.func13 (by kernel_rfl) rfl #[] rfl (by (try simp only [List.map_toArray, List.map_cons, List.map_nil]); first | done | rfl | (simp only [List.length_drop, List.length_take]; rfl)) ?_; (with_reducible refine (credenzalaw15_awake.calls kj12  t229 _ A62.out).mono ?_); rintro e w63 ⟨rfl, hb⟩; refine ⟨_, rfl, ?_⟩; have n0_ := Aside0.mk (below_step (by repeat (first | (with_reducible first | exact HB.out | apply below_alloc | apply pw_below_drewN | apply below_drew1) | exact HB.out)) hb); clear HB; have HB := n0_; clear n0_; (try clear hb); (try clear hb2); (try clear hk); (try clear hi)))
                            go_ret
                            exact ⟨by first | rfl | (simp [errW_none, errW_some] <;> rfl) | (simp [*, errW_none, errW_some] <;> rfl), by repeat (first | (with_reducible first | exact HB.out | apply below_alloc | apply pw_below_drewN | apply below_drew1) | exact HB.out)⟩
                    · rw [if_neg c33] at H
                      have c33b0 : decide (t217 ≤ 0) = false := decide_eq_false c33
                      clear c33
                      by_cases c64 : t217 = 0
                      · rw [if_pos c64] at H
                        have c64b0 : (t217 == 0) = true := beq_iff_eq.mpr c64
                        have c64b1 : (t217 != 0) = false := bne_eq_false_iff_eq.mpr c64
                        clear c64
                        by_cases c65 : t219 = t218
                        · rw [if_pos c65] at H
                          have c65b0 : (t219 == t218) = true := beq_iff_eq.mpr c65
                          have c65b1 : (t219 != t218) = false := bne_eq_false_iff_eq.mpr c65
                          clear c65
                          by_cases c66 : t218 = 0
                          · rw [if_pos c66] at H
                            have c66b0 : (t218 == 0) = true := beq_iff_eq.mpr c66
                            have c66b1 : (t218 != 0) = false := bne_eq_false_iff_eq.mpr c66
                            clear c66
                            by_cases c67 : t219 = t217
                            · rw [if_pos c67] at H
                              have c67b0 : (t219 == t217) = true := beq_iff_eq.mpr c67
                              have c67b1 : (t219 != t217) = false := bne_eq_false_iff_eq.mpr c67
                              clear c67
                              replace H := Option.bind_eq_some_iff.mp H
                              obtain ⟨t230, A680, H⟩ := H
                              replace H : (some t230) = some r := H
                              have A68 := Aside0.mk A680
                              clear A680
                              obtain rfl := Option.some.inj H
                              go_wp2_with (first | ((with_reducible refine gate_callee (f := 13) rfl ?_); refine goesL_ (some 93) rfl rfl Tryd.func13 (by kernel_rfl) rfl #[] rfl (by (try simp only [List.map_toArray, List.map_cons, List.map_nil]); first | done | rfl | (simp only [List.length_drop, List.length_take]; rfl)) ?_; (with_reducible refine (credenzalaw15_awake.calls kj12  t230 _ A68.out).mono ?_); rintro e w69 ⟨rfl, hb⟩; refine ⟨_, rfl, ?_⟩; have n0_ := Aside0.mk (below_step (by repeat (first | (with_reducible first | exact HB.out | apply below_alloc | apply pw_below_drewN | apply below_drew1) | exact HB.out)) hb); clear HB; have HB := n0_; clear n0_; (try clear hb); (try clear hb2); (try clear hk); (try clear hi)))
                              go_ret
                              exact ⟨by first | rfl | (simp [errW_none, errW_some] <;> rfl) | (simp [*, errW_none, errW_some] <;> rfl), by repeat (first | (with_reducible first | exact HB.out | apply below_alloc | apply pw_below_drewN | apply below_drew1) | exact HB.out)⟩
                            · rw [if_neg c67] at H
                              have c67b0 : (t219 == t217) = false := beq_eq_false_iff_ne.mpr c67
                              have c67b1 : (t219 != t217) = true := bne_iff_ne.mpr c67
                              obtain rfl := Option.some.inj H
                              go_wp2
                              go_ret
                              exact ⟨by first | rfl | (simp [errW_none, errW_some] <;> rfl) | (simp [*, errW_none, errW_some] <;> rfl), by repeat (first | (with_reducible first | exact HB.out | apply below_alloc | apply pw_below_drewN | apply below_drew1) | exact HB.out)⟩
                          · rw [if_neg c66] at H
                            have c66b0 : (t218 == 0) = false := beq_eq_false_iff_ne.mpr c66
                            have c66b1 : (t218 != 0) = true := bne_iff_ne.mpr c66
                            replace H := Option.bind_eq_some_iff.mp H
                            obtain ⟨t231, A700, H⟩ := H
                            replace H : (some t231) = some r := H
                            have A70 := Aside0.mk A700
                            clear A700
                            obtain rfl := Option.some.inj H
                            go_wp2_with (first | ((with_reducible refine gate_callee (f := 13) rfl ?_); refine goesL_ (some 93) rfl rfl Tryd.func13 (by kernel_rfl) rfl #[] rfl (by (try simp only [List.map_toArray, List.map_cons, List.map_nil]); first | done | rfl | (simp only [List.length_drop, List.length_take]; rfl)) ?_; (with_reducible refine (credenzalaw15_awake.calls kj12  t231 _ A70.out).mono ?_); rintro e w71 ⟨rfl, hb⟩; refine ⟨_, rfl, ?_⟩; have n0_ := Aside0.mk (below_step (by repeat (first | (with_reducible first | exact HB.out | apply below_alloc | apply pw_below_drewN | apply below_drew1) | exact HB.out)) hb); clear HB; have HB := n0_; clear n0_; (try clear hb); (try clear hb2); (try clear hk); (try clear hi)))
                            go_ret
                            exact ⟨by first | rfl | (simp [errW_none, errW_some] <;> rfl) | (simp [*, errW_none, errW_some] <;> rfl), by repeat (first | (with_reducible first | exact HB.out | apply below_alloc | apply pw_below_drewN | apply below_drew1) | exact HB.out)⟩
                        · rw [if_neg c65] at H
                          have c65b0 : (t219 == t218) = false := beq_eq_false_iff_ne.mpr c65
                          have c65b1 : (t219 != t218) = true := bne_iff_ne.mpr c65
                          obtain rfl := Option.some.inj H
                          go_wp2
                          go_ret
                          exact ⟨by first | rfl | (simp [errW_none, errW_some] <;> rfl) | (simp [*, errW_none, errW_some] <;> rfl), by repeat (first | (with_reducible first | exact HB.out | apply below_alloc | apply pw_below_drewN | apply below_drew1) | exact HB.out)⟩
                      · rw [if_neg c64] at H
                        have c64b0 : (t217 == 0) = false := beq_eq_false_iff_ne.mpr c64
                        have c64b1 : (t217 != 0) = true := bne_iff_ne.mpr c64
                        by_cases c72 : t218 = 0
                        · rw [if_pos c72] at H
                          have c72b0 : (t218 == 0) = true := beq_iff_eq.mpr c72
                          have c72b1 : (t218 != 0) = false := bne_eq_false_iff_eq.mpr c72
                          clear c72
                          by_cases c73 : t219 = t217
                          · rw [if_pos c73] at H
                            have c73b0 : (t219 == t217) = true := beq_iff_eq.mpr c73
                            have c73b1 : (t219 != t217) = false := bne_eq_false_iff_eq.mpr c73
                            clear c73
                            replace H := Option.bind_eq_some_iff.mp H
                            obtain ⟨t232, A740, H⟩ := H
                            replace H : (some t232) = some r := H
                            have A74 := Aside0.mk A740
                            clear A740
                            obtain rfl := Option.some.inj H
                            go_wp2_with (first | ((with_reducible refine gate_callee (f := 13) rfl ?_); refine goesL_ (some 93) rfl rfl Tryd.func13 (by kernel_rfl) rfl #[] rfl (by (try simp only [List.map_toArray, List.map_cons, List.map_nil]); first | done | rfl | (simp only [List.length_drop, List.length_take]; rfl)) ?_; (with_reducible refine (credenzalaw15_awake.calls kj12  t232 _ A74.out).mono ?_); rintro e w75 ⟨rfl, hb⟩; refine ⟨_, rfl, ?_⟩; have n0_ := Aside0.mk (below_step (by repeat (first | (with_reducible first | exact HB.out | apply below_alloc | apply pw_below_drewN | apply below_drew1) | exact HB.out)) hb); clear HB; have HB := n0_; clear n0_; (try clear hb); (try clear hb2); (try clear hk); (try clear hi)))
                            go_ret
                            exact ⟨by first | rfl | (simp [errW_none, errW_some] <;> rfl) | (simp [*, errW_none, errW_some] <;> rfl), by repeat (first | (with_reducible first | exact HB.out | apply below_alloc | apply pw_below_drewN | apply below_drew1) | exact HB.out)⟩
                          · rw [if_neg c73] at H
                            have c73b0 : (t219 == t217) = false := beq_eq_false_iff_ne.mpr c73
                            have c73b1 : (t219 != t217) = true := bne_iff_ne.mpr c73
                            obtain rfl := Option.some.inj H
                            go_wp2
                            go_ret
                            exact ⟨by first | rfl | (simp [errW_none, errW_some] <;> rfl) | (simp [*, errW_none, errW_some] <;> rfl), by repeat (first | (with_reducible first | exact HB.out | apply below_alloc | apply pw_below_drewN | apply below_drew1) | exact HB.out)⟩
                        · rw [if_neg c72] at H
                          have c72b0 : (t218 == 0) = false := beq_eq_false_iff_ne.mpr c72
                          have c72b1 : (t218 != 0) = true := bne_iff_ne.mpr c72
                          replace H := Option.bind_eq_some_iff.mp H
                          obtain ⟨t233, A760, H⟩ := H
                          replace H : (some t233) = some r := H
                          have A76 := Aside0.mk A760
                          clear A760
                          obtain rfl := Option.some.inj H
                          go_wp2_with (first | ((with_reducible refine gate_callee (f := 13) rfl ?_); refine goesL_ (some 93) rfl rfl Tryd.func13 (by kernel_rfl) rfl #[] rfl (by (try simp only [List.map_toArray, List.map_cons, List.map_nil]); first | done | rfl | (simp only [List.length_drop, List.length_take]; rfl)) ?_; (with_reducible refine (credenzalaw15_awake.calls kj12  t233 _ A76.out).mono ?_); rintro e w77 ⟨rfl, hb⟩; refine ⟨_, rfl, ?_⟩; have n0_ := Aside0.mk (below_step (by repeat (first | (with_reducible first | exact HB.out | apply below_alloc | apply pw_below_drewN | apply below_drew1) | exact HB.out)) hb); clear HB; have HB := n0_; clear n0_; (try clear hb); (try clear hb2); (try clear hk); (try clear hi)))
                          go_ret
                          exact ⟨by first | rfl | (simp [errW_none, errW_some] <;> rfl) | (simp [*, errW_none, errW_some] <;> rfl), by repeat (first | (with_reducible first | exact HB.out | apply below_alloc | apply pw_below_drewN | apply below_drew1) | exact HB.out)⟩
                · rw [if_neg c31] at H
                  have c31b0 : decide (0 ≤ t218) = false := decide_eq_false c31
                  clear c31
                  by_cases c78 : t217 ≤ 0
                  · rw [if_pos c78] at H
                    have c78b0 : decide (t217 ≤ 0) = true := decide_eq_true c78
                    clear c78
                    by_cases c79 : t218 ≤ 0
                    · rw [if_pos c79] at H
                      have c79b0 : decide (t218 ≤ 0) = true := decide_eq_true c79
                      clear c79
                      by_cases c80 : t219 > 0
                      · rw [if_pos c80] at H
                        have c80b0 : decide (0 < t219) = true := decide_eq_true c80
                        clear c80
                        obtain rfl := Option.some.inj H
                        go_wp2
                        go_ret
                        exact ⟨by first | rfl | (simp [errW_none, errW_some] <;> rfl) | (simp [*, errW_none, errW_some] <;> rfl), by repeat (first | (with_reducible first | exact HB.out | apply below_alloc | apply pw_below_drewN | apply below_drew1) | exact HB.out)⟩
                      · rw [if_neg c80] at H
                        have c80b0 : decide (0 < t219) = false := decide_eq_false c80
                        clear c80
                        by_cases c81 : t217 = 0
                        · rw [if_pos c81] at H
                          have c81b0 : (t217 == 0) = true := beq_iff_eq.mpr c81
                          have c81b1 : (t217 != 0) = false := bne_eq_false_iff_eq.mpr c81
                          clear c81
                          by_cases c82 : t219 = t218
                          · rw [if_pos c82] at H
                            have c82b0 : (t219 == t218) = true := beq_iff_eq.mpr c82
                            have c82b1 : (t219 != t218) = false := bne_eq_false_iff_eq.mpr c82
                            clear c82
                            by_cases c83 : t218 = 0
                            · rw [if_pos c83] at H
                              have c83b0 : (t218 == 0) = true := beq_iff_eq.mpr c83
                              have c83b1 : (t218 != 0) = false := bne_eq_false_iff_eq.mpr c83
                              clear c83
                              by_cases c84 : t219 = t217
                              · rw [if_pos c84] at H
                                have c84b0 : (t219 == t217) = true := beq_iff_eq.mpr c84
                                have c84b1 : (t219 != t217) = false := bne_eq_false_iff_eq.mpr c84
                                clear c84
                                replace H := Option.bind_eq_some_iff.mp H
                                obtain ⟨t234, A850, H⟩ := H
                                replace H : (some t234) = some r := H
                                have A85 := Aside0.mk A850
                                clear A850
                                obtain rfl := Option.some.inj H
                                go_wp2_with (first | ((with_reducible refine gate_callee (f := 13) rfl ?_); refine goesL_ (some 93) rfl rfl Tryd.func13 (by kernel_rfl) rfl #[] rfl (by (try simp only [List.map_toArray, List.map_cons, List.map_nil]); first | done | rfl | (simp only [List.length_drop, List.length_take]; rfl)) ?_; (with_reducible refine (credenzalaw15_awake.calls kj12  t234 _ A85.out).mono ?_); rintro e w86 ⟨rfl, hb⟩; refine ⟨_, rfl, ?_⟩; have n0_ := Aside0.mk (below_step (by repeat (first | (with_reducible first | exact HB.out | apply below_alloc | apply pw_below_drewN | apply below_drew1) | exact HB.out)) hb); clear HB; have HB := n0_; clear n0_; (try clear hb); (try clear hb2); (try clear hk); (try clear hi)))
                                go_ret
                                exact ⟨by first | rfl | (simp [errW_none, errW_some] <;> rfl) | (simp [*, errW_none, errW_some] <;> rfl), by repeat (first | (with_reducible first | exact HB.out | apply below_alloc | apply pw_below_drewN | apply below_drew1) | exact HB.out)⟩
                              · rw [if_neg c84] at H
                                have c84b0 : (t219 == t217) = false := beq_eq_false_iff_ne.mpr c84
                                have c84b1 : (t219 != t217) = true := bne_iff_ne.mpr c84
                                obtain rfl := Option.some.inj H
                                go_wp2
                                go_ret
                                exact ⟨by first | rfl | (simp [errW_none, errW_some] <;> rfl) | (simp [*, errW_none, errW_some] <;> rfl), by repeat (first | (with_reducible first | exact HB.out | apply below_alloc | apply pw_below_drewN | apply below_drew1) | exact HB.out)⟩
                            · rw [if_neg c83] at H
                              have c83b0 : (t218 == 0) = false := beq_eq_false_iff_ne.mpr c83
                              have c83b1 : (t218 != 0) = true := bne_iff_ne.mpr c83
                              replace H := Option.bind_eq_some_iff.mp H
                              obtain ⟨t235, A870, H⟩ := H
                              replace H : (some t235) = some r := H
                              have A87 := Aside0.mk A870
                              clear A870
                              obtain rfl := Option.some.inj H
                              go_wp2_with (first | ((with_reducible refine gate_callee (f := 13) rfl ?_); refine goesL_ (some 93) rfl rfl Tryd.func13 (by kernel_rfl) rfl #[] rfl (by (try simp only [List.map_toArray, List.map_cons, List.map_nil]); first | done | rfl | (simp only [List.length_drop, List.length_take]; rfl)) ?_; (with_reducible refine (credenzalaw15_awake.calls kj12  t235 _ A87.out).mono ?_); rintro e w88 ⟨rfl, hb⟩; refine ⟨_, rfl, ?_⟩; have n0_ := Aside0.mk (below_step (by repeat (first | (with_reducible first | exact HB.out | apply below_alloc | apply pw_below_drewN | apply below_drew1) | exact HB.out)) hb); clear HB; have HB := n0_; clear n0_; (try clear hb); (try clear hb2); (try clear hk); (try clear hi)))
                              go_ret
                              exact ⟨by first | rfl | (simp [errW_none, errW_some] <;> rfl) | (simp [*, errW_none, errW_some] <;> rfl), by repeat (first | (with_reducible first | exact HB.out | apply below_alloc | apply pw_below_drewN | apply below_drew1) | exact HB.out)⟩
                          · rw [if_neg c82] at H
                            have c82b0 : (t219 == t218) = false := beq_eq_false_iff_ne.mpr c82
                            have c82b1 : (t219 != t218) = true := bne_iff_ne.mpr c82
                            obtain rfl := Option.some.inj H
                            go_wp2
                            go_ret
                            exact ⟨by first | rfl | (simp [errW_none, errW_some] <;> rfl) | (simp [*, errW_none, errW_some] <;> rfl), by repeat (first | (with_reducible first | exact HB.out | apply below_alloc | apply pw_below_drewN | apply below_drew1) | exact HB.out)⟩
                        · rw [if_neg c81] at H
                          have c81b0 : (t217 == 0) = false := beq_eq_false_iff_ne.mpr c81
                          have c81b1 : (t217 != 0) = true := bne_iff_ne.mpr c81
                          by_cases c89 : t218 = 0
                          · rw [if_pos c89] at H
                            have c89b0 : (t218 == 0) = true := beq_iff_eq.mpr c89
                            have c89b1 : (t218 != 0) = false := bne_eq_false_iff_eq.mpr c89
                            clear c89
                            by_cases c90 : t219 = t217
                            · rw [if_pos c90] at H
                              have c90b0 : (t219 == t217) = true := beq_iff_eq.mpr c90
                              have c90b1 : (t219 != t217) = false := bne_eq_false_iff_eq.mpr c90
                              clear c90
                              replace H := Option.bind_eq_some_iff.mp H
                              obtain ⟨t236, A910, H⟩ := H
                              replace H : (some t236) = some r := H
                              have A91 := Aside0.mk A910
                              clear A910
                              obtain rfl := Option.some.inj H
                              go_wp2_with (first | ((with_reducible refine gate_callee (f := 13) rfl ?_); refine goesL_ (some 93) rfl rfl Tryd.func13 (by kernel_rfl) rfl #[] rfl (by (try simp only [List.map_toArray, List.map_cons, List.map_nil]); first | done | rfl | (simp only [List.length_drop, List.length_take]; rfl)) ?_; (with_reducible refine (credenzalaw15_awake.calls kj12  t236 _ A91.out).mono ?_); rintro e w92 ⟨rfl, hb⟩; refine ⟨_, rfl, ?_⟩; have n0_ := Aside0.mk (below_step (by repeat (first | (with_reducible first | exact HB.out | apply below_alloc | apply pw_below_drewN | apply below_drew1) | exact HB.out)) hb); clear HB; have HB := n0_; clear n0_; (try clear hb); (try clear hb2); (try clear hk); (try clear hi)))
                              go_ret
                              exact ⟨by first | rfl | (simp [errW_none, errW_some] <;> rfl) | (simp [*, errW_none, errW_some] <;> rfl), by repeat (first | (with_reducible first | exact HB.out | apply below_alloc | apply pw_below_drewN | apply below_drew1) | exact HB.out)⟩
                            · rw [if_neg c90] at H
                              have c90b0 : (t219 == t217) = false := beq_eq_false_iff_ne.mpr c90
                              have c90b1 : (t219 != t217) = true := bne_iff_ne.mpr c90
                              obtain rfl := Option.some.inj H
                              go_wp2
                              go_ret
                              exact ⟨by first | rfl | (simp [errW_none, errW_some] <;> rfl) | (simp [*, errW_none, errW_some] <;> rfl), by repeat (first | (with_reducible first | exact HB.out | apply below_alloc | apply pw_below_drewN | apply below_drew1) | exact HB.out)⟩
                          · rw [if_neg c89] at H
                            have c89b0 : (t218 == 0) = false := beq_eq_false_iff_ne.mpr c89
                            have c89b1 : (t218 != 0) = true := bne_iff_ne.mpr c89
                            replace H := Option.bind_eq_some_iff.mp H
                            obtain ⟨t237, A930, H⟩ := H
                            replace H : (some t237) = some r := H
                            have A93 := Aside0.mk A930
                            clear A930
                            obtain rfl := Option.some.inj H
                            go_wp2_with (first | ((with_reducible refine gate_callee (f := 13) rfl ?_); refine goesL_ (some 93) rfl rfl Tryd.func13 (by kernel_rfl) rfl #[] rfl (by (try simp only [List.map_toArray, List.map_cons, List.map_nil]); first | done | rfl | (simp only [List.length_drop, List.length_take]; rfl)) ?_; (with_reducible refine (credenzalaw15_awake.calls kj12  t237 _ A93.out).mono ?_); rintro e w94 ⟨rfl, hb⟩; refine ⟨_, rfl, ?_⟩; have n0_ := Aside0.mk (below_step (by repeat (first | (with_reducible first | exact HB.out | apply below_alloc | apply pw_below_drewN | apply below_drew1) | exact HB.out)) hb); clear HB; have HB := n0_; clear n0_; (try clear hb); (try clear hb2); (try clear hk); (try clear hi)))
                            go_ret
                            exact ⟨by first | rfl | (simp [errW_none, errW_some] <;> rfl) | (simp [*, errW_none, errW_some] <;> rfl), by repeat (first | (with_reducible first | exact HB.out | apply below_alloc | apply pw_below_drewN | apply below_drew1) | exact HB.out)⟩
                    · rw [if_neg c79] at H
                      have c79b0 : decide (t218 ≤ 0) = false := decide_eq_false c79
                      clear c79
                      by_cases c95 : t217 = 0
                      · rw [if_pos c95] at H
                        have c95b0 : (t217 == 0) = true := beq_iff_eq.mpr c95
                        have c95b1 : (t217 != 0) = false := bne_eq_false_iff_eq.mpr c95
                        clear c95
                        by_cases c96 : t219 = t218
                        · rw [if_pos c96] at H
                          have c96b0 : (t219 == t218) = true := beq_iff_eq.mpr c96
                          have c96b1 : (t219 != t218) = false := bne_eq_false_iff_eq.mpr c96
                          clear c96
                          by_cases c97 : t218 = 0
                          · rw [if_pos c97] at H
                            have c97b0 : (t218 == 0) = true := beq_iff_eq.mpr c97
                            have c97b1 : (t218 != 0) = false := bne_eq_false_iff_eq.mpr c97
                            clear c97
                            by_cases c98 : t219 = t217
                            · rw [if_pos c98] at H
                              have c98b0 : (t219 == t217) = true := beq_iff_eq.mpr c98
                              have c98b1 : (t219 != t217) = false := bne_eq_false_iff_eq.mpr c98
                              clear c98
                              replace H := Option.bind_eq_some_iff.mp H
                              obtain ⟨t238, A990, H⟩ := H
                              replace H : (some t238) = some r := H
                              have A99 := Aside0.mk A990
                              clear A990
                              obtain rfl := Option.some.inj H
                              go_wp2_with (first | ((with_reducible refine gate_callee (f := 13) rfl ?_); refine goesL_ (some 93) rfl rfl Tryd.func13 (by kernel_rfl) rfl #[] rfl (by (try simp only [List.map_toArray, List.map_cons, List.map_nil]); first | done | rfl | (simp only [List.length_drop, List.length_take]; rfl)) ?_; (with_reducible refine (credenzalaw15_awake.calls kj12  t238 _ A99.out).mono ?_); rintro e w100 ⟨rfl, hb⟩; refine ⟨_, rfl, ?_⟩; have n0_ := Aside0.mk (below_step (by repeat (first | (with_reducible first | exact HB.out | apply below_alloc | apply pw_below_drewN | apply below_drew1) | exact HB.out)) hb); clear HB; have HB := n0_; clear n0_; (try clear hb); (try clear hb2); (try clear hk); (try clear hi)))
                              go_ret
                              exact ⟨by first | rfl | (simp [errW_none, errW_some] <;> rfl) | (simp [*, errW_none, errW_some] <;> rfl), by repeat (first | (with_reducible first | exact HB.out | apply below_alloc | apply pw_below_drewN | apply below_drew1) | exact HB.out)⟩
                            · rw [if_neg c98] at H
                              have c98b0 : (t219 == t217) = false := beq_eq_false_iff_ne.mpr c98
                              have c98b1 : (t219 != t217) = true := bne_iff_ne.mpr c98
                              obtain rfl := Option.some.inj H
                              go_wp2
                              go_ret
                              exact ⟨by first | rfl | (simp [errW_none, errW_some] <;> rfl) | (simp [*, errW_none, errW_some] <;> rfl), by repeat (first | (with_reducible first | exact HB.out | apply below_alloc | apply pw_below_drewN | apply below_drew1) | exact HB.out)⟩
                          · rw [if_neg c97] at H
                            have c97b0 : (t218 == 0) = false := beq_eq_false_iff_ne.mpr c97
                            have c97b1 : (t218 != 0) = true := bne_iff_ne.mpr c97
                            replace H := Option.bind_eq_some_iff.mp H
                            obtain ⟨t239, A1010, H⟩ := H
                            replace H : (some t239) = some r := H
                            have A101 := Aside0.mk A1010
                            clear A1010
                            obtain rfl := Option.some.inj H
                            go_wp2_with (first | ((with_reducible refine gate_callee (f := 13) rfl ?_); refine goesL_ (some 93) rfl rfl Tryd.func13 (by kernel_rfl) rfl #[] rfl (by (try simp only [List.map_toArray, List.map_cons, List.map_nil]); first | done | rfl | (simp only [List.length_drop, List.length_take]; rfl)) ?_; (with_reducible refine (credenzalaw15_awake.calls kj12  t239 _ A101.out).mono ?_); rintro e w102 ⟨rfl, hb⟩; refine ⟨_, rfl, ?_⟩; have n0_ := Aside0.mk (below_step (by repeat (first | (with_reducible first | exact HB.out | apply below_alloc | apply pw_below_drewN | apply below_drew1) | exact HB.out)) hb); clear HB; have HB := n0_; clear n0_; (try clear hb); (try clear hb2); (try clear hk); (try clear hi)))
                            go_ret
                            exact ⟨by first | rfl | (simp [errW_none, errW_some] <;> rfl) | (simp [*, errW_none, errW_some] <;> rfl), by repeat (first | (with_reducible first | exact HB.out | apply below_alloc | apply pw_below_drewN | apply below_drew1) | exact HB.out)⟩
                        · rw [if_neg c96] at H
                          have c96b0 : (t219 == t218) = false := beq_eq_false_iff_ne.mpr c96
                          have c96b1 : (t219 != t218) = true := bne_iff_ne.mpr c96
                          obtain rfl := Option.some.inj H
                          go_wp2
                          go_ret
                          exact ⟨by first | rfl | (simp [errW_none, errW_some] <;> rfl) | (simp [*, errW_none, errW_some] <;> rfl), by repeat (first | (with_reducible first | exact HB.out | apply below_alloc | apply pw_below_drewN | apply below_drew1) | exact HB.out)⟩
                      · rw [if_neg c95] at H
                        have c95b0 : (t217 == 0) = false := beq_eq_false_iff_ne.mpr c95
                        have c95b1 : (t217 != 0) = true := bne_iff_ne.mpr c95
                        by_cases c103 : t218 = 0
                        · rw [if_pos c103] at H
                          have c103b0 : (t218 == 0) = true := beq_iff_eq.mpr c103
                          have c103b1 : (t218 != 0) = false := bne_eq_false_iff_eq.mpr c103
                          clear c103
                          by_cases c104 : t219 = t217
                          · rw [if_pos c104] at H
                            have c104b0 : (t219 == t217) = true := beq_iff_eq.mpr c104
                            have c104b1 : (t219 != t217) = false := bne_eq_false_iff_eq.mpr c104
                            clear c104
                            replace H := Option.bind_eq_some_iff.mp H
                            obtain ⟨t240, A1050, H⟩ := H
                            replace H : (some t240) = some r := H
                            have A105 := Aside0.mk A1050
                            clear A1050
                            obtain rfl := Option.some.inj H
                            go_wp2_with (first | ((with_reducible refine gate_callee (f := 13) rfl ?_); refine goesL_ (some 93) rfl rfl Tryd.func13 (by kernel_rfl) rfl #[] rfl (by (try simp only [List.map_toArray, List.map_cons, List.map_nil]); first | done | rfl | (simp only [List.length_drop, List.length_take]; rfl)) ?_; (with_reducible refine (credenzalaw15_awake.calls kj12  t240 _ A105.out).mono ?_); rintro e w106 ⟨rfl, hb⟩; refine ⟨_, rfl, ?_⟩; have n0_ := Aside0.mk (below_step (by repeat (first | (with_reducible first | exact HB.out | apply below_alloc | apply pw_below_drewN | apply below_drew1) | exact HB.out)) hb); clear HB; have HB := n0_; clear n0_; (try clear hb); (try clear hb2); (try clear hk); (try clear hi)))
                            go_ret
                            exact ⟨by first | rfl | (simp [errW_none, errW_some] <;> rfl) | (simp [*, errW_none, errW_some] <;> rfl), by repeat (first | (with_reducible first | exact HB.out | apply below_alloc | apply pw_below_drewN | apply below_drew1) | exact HB.out)⟩
                          · rw [if_neg c104] at H
                            have c104b0 : (t219 == t217) = false := beq_eq_false_iff_ne.mpr c104
                            have c104b1 : (t219 != t217) = true := bne_iff_ne.mpr c104
                            obtain rfl := Option.some.inj H
                            go_wp2
                            go_ret
                            exact ⟨by first | rfl | (simp [errW_none, errW_some] <;> rfl) | (simp [*, errW_none, errW_some] <;> rfl), by repeat (first | (with_reducible first | exact HB.out | apply below_alloc | apply pw_below_drewN | apply below_drew1) | exact HB.out)⟩
                        · rw [if_neg c103] at H
                          have c103b0 : (t218 == 0) = false := beq_eq_false_iff_ne.mpr c103
                          have c103b1 : (t218 != 0) = true := bne_iff_ne.mpr c103
                          replace H := Option.bind_eq_some_iff.mp H
                          obtain ⟨t241, A1070, H⟩ := H
                          replace H : (some t241) = some r := H
                          have A107 := Aside0.mk A1070
                          clear A1070
                          obtain rfl := Option.some.inj H
                          go_wp2_with (first | ((with_reducible refine gate_callee (f := 13) rfl ?_); refine goesL_ (some 93) rfl rfl Tryd.func13 (by kernel_rfl) rfl #[] rfl (by (try simp only [List.map_toArray, List.map_cons, List.map_nil]); first | done | rfl | (simp only [List.length_drop, List.length_take]; rfl)) ?_; (with_reducible refine (credenzalaw15_awake.calls kj12  t241 _ A107.out).mono ?_); rintro e w108 ⟨rfl, hb⟩; refine ⟨_, rfl, ?_⟩; have n0_ := Aside0.mk (below_step (by repeat (first | (with_reducible first | exact HB.out | apply below_alloc | apply pw_below_drewN | apply below_drew1) | exact HB.out)) hb); clear HB; have HB := n0_; clear n0_; (try clear hb); (try clear hb2); (try clear hk); (try clear hi)))
                          go_ret
                          exact ⟨by first | rfl | (simp [errW_none, errW_some] <;> rfl) | (simp [*, errW_none, errW_some] <;> rfl), by repeat (first | (with_reducible first | exact HB.out | apply below_alloc | apply pw_below_drewN | apply below_drew1) | exact HB.out)⟩
                  · rw [if_neg c78] at H
                    have c78b0 : decide (t217 ≤ 0) = false := decide_eq_false c78
                    clear c78
                    by_cases c109 : t217 = 0
                    · rw [if_pos c109] at H
                      have c109b0 : (t217 == 0) = true := beq_iff_eq.mpr c109
                      have c109b1 : (t217 != 0) = false := bne_eq_false_iff_eq.mpr c109
                      clear c109
                      by_cases c110 : t219 = t218
                      · rw [if_pos c110] at H
                        have c110b0 : (t219 == t218) = true := beq_iff_eq.mpr c110
                        have c110b1 : (t219 != t218) = false := bne_eq_false_iff_eq.mpr c110
                        clear c110
                        by_cases c111 : t218 = 0
                        · rw [if_pos c111] at H
                          have c111b0 : (t218 == 0) = true := beq_iff_eq.mpr c111
                          have c111b1 : (t218 != 0) = false := bne_eq_false_iff_eq.mpr c111
                          clear c111
                          by_cases c112 : t219 = t217
                          · rw [if_pos c112] at H
                            have c112b0 : (t219 == t217) = true := beq_iff_eq.mpr c112
                            have c112b1 : (t219 != t217) = false := bne_eq_false_iff_eq.mpr c112
                            clear c112
                            replace H := Option.bind_eq_some_iff.mp H
                            obtain ⟨t242, A1130, H⟩ := H
                            replace H : (some t242) = some r := H
                            have A113 := Aside0.mk A1130
                            clear A1130
                            obtain rfl := Option.some.inj H
                            go_wp2_with (first | ((with_reducible refine gate_callee (f := 13) rfl ?_); refine goesL_ (some 93) rfl rfl Tryd.func13 (by kernel_rfl) rfl #[] rfl (by (try simp only [List.map_toArray, List.map_cons, List.map_nil]); first | done | rfl | (simp only [List.length_drop, List.length_take]; rfl)) ?_; (with_reducible refine (credenzalaw15_awake.calls kj12  t242 _ A113.out).mono ?_); rintro e w114 ⟨rfl, hb⟩; refine ⟨_, rfl, ?_⟩; have n0_ := Aside0.mk (below_step (by repeat (first | (with_reducible first | exact HB.out | apply below_alloc | apply pw_below_drewN | apply below_drew1) | exact HB.out)) hb); clear HB; have HB := n0_; clear n0_; (try clear hb); (try clear hb2); (try clear hk); (try clear hi)))
                            go_ret
                            exact ⟨by first | rfl | (simp [errW_none, errW_some] <;> rfl) | (simp [*, errW_none, errW_some] <;> rfl), by repeat (first | (with_reducible first | exact HB.out | apply below_alloc | apply pw_below_drewN | apply below_drew1) | exact HB.out)⟩
                          · rw [if_neg c112] at H
                            have c112b0 : (t219 == t217) = false := beq_eq_false_iff_ne.mpr c112
                            have c112b1 : (t219 != t217) = true := bne_iff_ne.mpr c112
                            obtain rfl := Option.some.inj H
                            go_wp2
                            go_ret
                            exact ⟨by first | rfl | (simp [errW_none, errW_some] <;> rfl) | (simp [*, errW_none, errW_some] <;> rfl), by repeat (first | (with_reducible first | exact HB.out | apply below_alloc | apply pw_below_drewN | apply below_drew1) | exact HB.out)⟩
                        · rw [if_neg c111] at H
                          have c111b0 : (t218 == 0) = false := beq_eq_false_iff_ne.mpr c111
                          have c111b1 : (t218 != 0) = true := bne_iff_ne.mpr c111
                          replace H := Option.bind_eq_some_iff.mp H
                          obtain ⟨t243, A1150, H⟩ := H
                          replace H : (some t243) = some r := H
                          have A115 := Aside0.mk A1150
                          clear A1150
                          obtain rfl := Option.some.inj H
                          go_wp2_with (first | ((with_reducible refine gate_callee (f := 13) rfl ?_); refine goesL_ (some 93) rfl rfl Tryd.func13 (by kernel_rfl) rfl #[] rfl (by (try simp only [List.map_toArray, List.map_cons, List.map_nil]); first | done | rfl | (simp only [List.length_drop, List.length_take]; rfl)) ?_; (with_reducible refine (credenzalaw15_awake.calls kj12  t243 _ A115.out).mono ?_); rintro e w116 ⟨rfl, hb⟩; refine ⟨_, rfl, ?_⟩; have n0_ := Aside0.mk (below_step (by repeat (first | (with_reducible first | exact HB.out | apply below_alloc | apply pw_below_drewN | apply below_drew1) | exact HB.out)) hb); clear HB; have HB := n0_; clear n0_; (try clear hb); (try clear hb2); (try clear hk); (try clear hi)))
                          go_ret
                          exact ⟨by first | rfl | (simp [errW_none, errW_some] <;> rfl) | (simp [*, errW_none, errW_some] <;> rfl), by repeat (first | (with_reducible first | exact HB.out | apply below_alloc | apply pw_below_drewN | apply below_drew1) | exact HB.out)⟩
                      · rw [if_neg c110] at H
                        have c110b0 : (t219 == t218) = false := beq_eq_false_iff_ne.mpr c110
                        have c110b1 : (t219 != t218) = true := bne_iff_ne.mpr c110
                        obtain rfl := Option.some.inj H
                        go_wp2
                        go_ret
                        exact ⟨by first | rfl | (simp [errW_none, errW_some] <;> rfl) | (simp [*, errW_none, errW_some] <;> rfl), by repeat (first | (with_reducible first | exact HB.out | apply below_alloc | apply pw_below_drewN | apply below_drew1) | exact HB.out)⟩
                    · rw [if_neg c109] at H
                      have c109b0 : (t217 == 0) = false := beq_eq_false_iff_ne.mpr c109
                      have c109b1 : (t217 != 0) = true := bne_iff_ne.mpr c109
                      by_cases c117 : t218 = 0
                      · rw [if_pos c117] at H
                        have c117b0 : (t218 == 0) = true := beq_iff_eq.mpr c117
                        have c117b1 : (t218 != 0) = false := bne_eq_false_iff_eq.mpr c117
                        clear c117
                        by_cases c118 : t219 = t217
                        · rw [if_pos c118] at H
                          have c118b0 : (t219 == t217) = true := beq_iff_eq.mpr c118
                          have c118b1 : (t219 != t217) = false := bne_eq_false_iff_eq.mpr c118
                          clear c118
                          replace H := Option.bind_eq_some_iff.mp H
                          obtain ⟨t244, A1190, H⟩ := H
                          replace H : (some t244) = some r := H
                          have A119 := Aside0.mk A1190
                          clear A1190
                          obtain rfl := Option.some.inj H
                          go_wp2_with (first | ((with_reducible refine gate_callee (f := 13) rfl ?_); refine goesL_ (some 93) rfl rfl Tryd.func13 (by kernel_rfl) rfl #[] rfl (by (try simp only [List.map_toArray, List.map_cons, List.map_nil]); first | done | rfl | (simp only [List.length_drop, List.length_take]; rfl)) ?_; (with_reducible refine (credenzalaw15_awake.calls kj12  t244 _ A119.out).mono ?_); rintro e w120 ⟨rfl, hb⟩; refine ⟨_, rfl, ?_⟩; have n0_ := Aside0.mk (below_step (by repeat (first | (with_reducible first | exact HB.out | apply below_alloc | apply pw_below_drewN | apply below_drew1) | exact HB.out)) hb); clear HB; have HB := n0_; clear n0_; (try clear hb); (try clear hb2); (try clear hk); (try clear hi)))
                          go_ret
                          exact ⟨by first | rfl | (simp [errW_none, errW_some] <;> rfl) | (simp [*, errW_none, errW_some] <;> rfl), by repeat (first | (with_reducible first | exact HB.out | apply below_alloc | apply pw_below_drewN | apply below_drew1) | exact HB.out)⟩
                        · rw [if_neg c118] at H
                          have c118b0 : (t219 == t217) = false := beq_eq_false_iff_ne.mpr c118
                          have c118b1 : (t219 != t217) = true := bne_iff_ne.mpr c118
                          obtain rfl := Option.some.inj H
                          go_wp2
                          go_ret
                          exact ⟨by first | rfl | (simp [errW_none, errW_some] <;> rfl) | (simp [*, errW_none, errW_some] <;> rfl), by repeat (first | (with_reducible first | exact HB.out | apply below_alloc | apply pw_below_drewN | apply below_drew1) | exact HB.out)⟩
                      · rw [if_neg c117] at H
                        have c117b0 : (t218 == 0) = false := beq_eq_false_iff_ne.mpr c117
                        have c117b1 : (t218 != 0) = true := bne_iff_ne.mpr c117
                        replace H := Option.bind_eq_some_iff.mp H
                        obtain ⟨t245, A1210, H⟩ := H
                        replace H : (some t245) = some r := H
                        have A121 := Aside0.mk A1210
                        clear A1210
                        obtain rfl := Option.some.inj H
                        go_wp2_with (first | ((with_reducible refine gate_callee (f := 13) rfl ?_); refine goesL_ (some 93) rfl rfl Tryd.func13 (by kernel_rfl) rfl #[] rfl (by (try simp only [List.map_toArray, List.map_cons, List.map_nil]); first | done | rfl | (simp only [List.length_drop, List.length_take]; rfl)) ?_; (with_reducible refine (credenzalaw15_awake.calls kj12  t245 _ A121.out).mono ?_); rintro e w122 ⟨rfl, hb⟩; refine ⟨_, rfl, ?_⟩; have n0_ := Aside0.mk (below_step (by repeat (first | (with_reducible first | exact HB.out | apply below_alloc | apply pw_below_drewN | apply below_drew1) | exact HB.out)) hb); clear HB; have HB := n0_; clear n0_; (try clear hb); (try clear hb2); (try clear hk); (try clear hi)))
                        go_ret
                        exact ⟨by first | rfl | (simp [errW_none, errW_some] <;> rfl) | (simp [*, errW_none, errW_some] <;> rfl), by repeat (first | (with_reducible first | exact HB.out | apply below_alloc | apply pw_below_drewN | apply below_drew1) | exact HB.out)⟩
              · rw [if_neg c30] at H
                have c30b0 : decide (0 ≤ t217) = false := decide_eq_false c30
                clear c30
                by_cases c123 : t217 ≤ 0
                · rw [if_pos c123] at H
                  have c123b0 : decide (t217 ≤ 0) = true := decide_eq_true c123
                  clear c123
                  by_cases c124 : t218 ≤ 0
                  · rw [if_pos c124] at H
                    have c124b0 : decide (t218 ≤ 0) = true := decide_eq_true c124
                    clear c124
                    by_cases c125 : t219 > 0
                    · rw [if_pos c125] at H
                      have c125b0 : decide (0 < t219) = true := decide_eq_true c125
                      clear c125
                      obtain rfl := Option.some.inj H
                      go_wp2
                      go_ret
                      exact ⟨by first | rfl | (simp [errW_none, errW_some] <;> rfl) | (simp [*, errW_none, errW_some] <;> rfl), by repeat (first | (with_reducible first | exact HB.out | apply below_alloc | apply pw_below_drewN | apply below_drew1) | exact HB.out)⟩
                    · rw [if_neg c125] at H
                      have c125b0 : decide (0 < t219) = false := decide_eq_false c125
                      clear c125
                      by_cases c126 : t217 = 0
                      · rw [if_pos c126] at H
                        have c126b0 : (t217 == 0) = true := beq_iff_eq.mpr c126
                        have c126b1 : (t217 != 0) = false := bne_eq_false_iff_eq.mpr c126
                        clear c126
                        by_cases c127 : t219 = t218
                        · rw [if_pos c127] at H
                          have c127b0 : (t219 == t218) = true := beq_iff_eq.mpr c127
                          have c127b1 : (t219 != t218) = false := bne_eq_false_iff_eq.mpr c127
                          clear c127
                          by_cases c128 : t218 = 0
                          · rw [if_pos c128] at H
                            have c128b0 : (t218 == 0) = true := beq_iff_eq.mpr c128
                            have c128b1 : (t218 != 0) = false := bne_eq_false_iff_eq.mpr c128
                            clear c128
                            by_cases c129 : t219 = t217
                            · rw [if_pos c129] at H
                              have c129b0 : (t219 == t217) = true := beq_iff_eq.mpr c129
                              have c129b1 : (t219 != t217) = false := bne_eq_false_iff_eq.mpr c129
                              clear c129
                              replace H := Option.bind_eq_some_iff.mp H
                              obtain ⟨t246, A1300, H⟩ := H
                              replace H : (some t246) = some r := H
                              have A130 := Aside0.mk A1300
                              clear A1300
                              obtain rfl := Option.some.inj H
                              go_wp2_with (first | ((with_reducible refine gate_callee (f := 13) rfl ?_); refine goesL_ (some 93) rfl rfl Tryd.func13 (by kernel_rfl) rfl #[] rfl (by (try simp only [List.map_toArray, List.map_cons, List.map_nil]); first | done | rfl | (simp only [List.length_drop, List.length_take]; rfl)) ?_; (with_reducible refine (credenzalaw15_awake.calls kj12  t246 _ A130.out).mono ?_); rintro e w131 ⟨rfl, hb⟩; refine ⟨_, rfl, ?_⟩; have n0_ := Aside0.mk (below_step (by repeat (first | (with_reducible first | exact HB.out | apply below_alloc | apply pw_below_drewN | apply below_drew1) | exact HB.out)) hb); clear HB; have HB := n0_; clear n0_; (try clear hb); (try clear hb2); (try clear hk); (try clear hi)))
                              go_ret
                              exact ⟨by first | rfl | (simp [errW_none, errW_some] <;> rfl) | (simp [*, errW_none, errW_some] <;> rfl), by repeat (first | (with_reducible first | exact HB.out | apply below_alloc | apply pw_below_drewN | apply below_drew1) | exact HB.out)⟩
                            · rw [if_neg c129] at H
                              have c129b0 : (t219 == t217) = false := beq_eq_false_iff_ne.mpr c129
                              have c129b1 : (t219 != t217) = true := bne_iff_ne.mpr c129
                              obtain rfl := Option.some.inj H
                              go_wp2
                              go_ret
                              exact ⟨by first | rfl | (simp [errW_none, errW_some] <;> rfl) | (simp [*, errW_none, errW_some] <;> rfl), by repeat (first | (with_reducible first | exact HB.out | apply below_alloc | apply pw_below_drewN | apply below_drew1) | exact HB.out)⟩
                          · rw [if_neg c128] at H
                            have c128b0 : (t218 == 0) = false := beq_eq_false_iff_ne.mpr c128
                            have c128b1 : (t218 != 0) = true := bne_iff_ne.mpr c128
                            replace H := Option.bind_eq_some_iff.mp H
                            obtain ⟨t247, A1320, H⟩ := H
                            replace H : (some t247) = some r := H
                            have A132 := Aside0.mk A1320
                            clear A1320
                            obtain rfl := Option.some.inj H
                            go_wp2_with (first | ((with_reducible refine gate_callee (f := 13) rfl ?_); refine goesL_ (some 93) rfl rfl Tryd.func13 (by kernel_rfl) rfl #[] rfl (by (try simp only [List.map_toArray, List.map_cons, List.map_nil]); first | done | rfl | (simp only [List.length_drop, List.length_take]; rfl)) ?_; (with_reducible refine (credenzalaw15_awake.calls kj12  t247 _ A132.out).mono ?_); rintro e w133 ⟨rfl, hb⟩; refine ⟨_, rfl, ?_⟩; have n0_ := Aside0.mk (below_step (by repeat (first | (with_reducible first | exact HB.out | apply below_alloc | apply pw_below_drewN | apply below_drew1) | exact HB.out)) hb); clear HB; have HB := n0_; clear n0_; (try clear hb); (try clear hb2); (try clear hk); (try clear hi)))
                            go_ret
                            exact ⟨by first | rfl | (simp [errW_none, errW_some] <;> rfl) | (simp [*, errW_none, errW_some] <;> rfl), by repeat (first | (with_reducible first | exact HB.out | apply below_alloc | apply pw_below_drewN | apply below_drew1) | exact HB.out)⟩
                        · rw [if_neg c127] at H
                          have c127b0 : (t219 == t218) = false := beq_eq_false_iff_ne.mpr c127
                          have c127b1 : (t219 != t218) = true := bne_iff_ne.mpr c127
                          obtain rfl := Option.some.inj H
                          go_wp2
                          go_ret
                          exact ⟨by first | rfl | (simp [errW_none, errW_some] <;> rfl) | (simp [*, errW_none, errW_some] <;> rfl), by repeat (first | (with_reducible first | exact HB.out | apply below_alloc | apply pw_below_drewN | apply below_drew1) | exact HB.out)⟩
                      · rw [if_neg c126] at H
                        have c126b0 : (t217 == 0) = false := beq_eq_false_iff_ne.mpr c126
                        have c126b1 : (t217 != 0) = true := bne_iff_ne.mpr c126
                        by_cases c134 : t218 = 0
                        · rw [if_pos c134] at H
                          have c134b0 : (t218 == 0) = true := beq_iff_eq.mpr c134
                          have c134b1 : (t218 != 0) = false := bne_eq_false_iff_eq.mpr c134
                          clear c134
                          by_cases c135 : t219 = t217
                          · rw [if_pos c135] at H
                            have c135b0 : (t219 == t217) = true := beq_iff_eq.mpr c135
                            have c135b1 : (t219 != t217) = false := bne_eq_false_iff_eq.mpr c135
                            clear c135
                            replace H := Option.bind_eq_some_iff.mp H
                            obtain ⟨t248, A1360, H⟩ := H
                            replace H : (some t248) = some r := H
                            have A136 := Aside0.mk A1360
                            clear A1360
                            obtain rfl := Option.some.inj H
                            go_wp2_with (first | ((with_reducible refine gate_callee (f := 13) rfl ?_); refine goesL_ (some 93) rfl rfl Tryd.func13 (by kernel_rfl) rfl #[] rfl (by (try simp only [List.map_toArray, List.map_cons, List.map_nil]); first | done | rfl | (simp only [List.length_drop, List.length_take]; rfl)) ?_; (with_reducible refine (credenzalaw15_awake.calls kj12  t248 _ A136.out).mono ?_); rintro e w137 ⟨rfl, hb⟩; refine ⟨_, rfl, ?_⟩; have n0_ := Aside0.mk (below_step (by repeat (first | (with_reducible first | exact HB.out | apply below_alloc | apply pw_below_drewN | apply below_drew1) | exact HB.out)) hb); clear HB; have HB := n0_; clear n0_; (try clear hb); (try clear hb2); (try clear hk); (try clear hi)))
                            go_ret
                            exact ⟨by first | rfl | (simp [errW_none, errW_some] <;> rfl) | (simp [*, errW_none, errW_some] <;> rfl), by repeat (first | (with_reducible first | exact HB.out | apply below_alloc | apply pw_below_drewN | apply below_drew1) | exact HB.out)⟩
                          · rw [if_neg c135] at H
                            have c135b0 : (t219 == t217) = false := beq_eq_false_iff_ne.mpr c135
                            have c135b1 : (t219 != t217) = true := bne_iff_ne.mpr c135
                            obtain rfl := Option.some.inj H
                            go_wp2
                            go_ret
                            exact ⟨by first | rfl | (simp [errW_none, errW_some] <;> rfl) | (simp [*, errW_none, errW_some] <;> rfl), by repeat (first | (with_reducible first | exact HB.out | apply below_alloc | apply pw_below_drewN | apply below_drew1) | exact HB.out)⟩
                        · rw [if_neg c134] at H
                          have c134b0 : (t218 == 0) = false := beq_eq_false_iff_ne.mpr c134
                          have c134b1 : (t218 != 0) = true := bne_iff_ne.mpr c134
                          replace H := Option.bind_eq_some_iff.mp H
                          obtain ⟨t249, A1380, H⟩ := H
                          replace H : (some t249) = some r := H
                          have A138 := Aside0.mk A1380
                          clear A1380
                          obtain rfl := Option.some.inj H
                          go_wp2_with (first | ((with_reducible refine gate_callee (f := 13) rfl ?_); refine goesL_ (some 93) rfl rfl Tryd.func13 (by kernel_rfl) rfl #[] rfl (by (try simp only [List.map_toArray, List.map_cons, List.map_nil]); first | done | rfl | (simp only [List.length_drop, List.length_take]; rfl)) ?_; (with_reducible refine (credenzalaw15_awake.calls kj12  t249 _ A138.out).mono ?_); rintro e w139 ⟨rfl, hb⟩; refine ⟨_, rfl, ?_⟩; have n0_ := Aside0.mk (below_step (by repeat (first | (with_reducible first | exact HB.out | apply below_alloc | apply pw_below_drewN | apply below_drew1) | exact HB.out)) hb); clear HB; have HB := n0_; clear n0_; (try clear hb); (try clear hb2); (try clear hk); (try clear hi)))
                          go_ret
                          exact ⟨by first | rfl | (simp [errW_none, errW_some] <;> rfl) | (simp [*, errW_none, errW_some] <;> rfl), by repeat (first | (with_reducible first | exact HB.out | apply below_alloc | apply pw_below_drewN | apply below_drew1) | exact HB.out)⟩
                  · rw [if_neg c124] at H
                    have c124b0 : decide (t218 ≤ 0) = false := decide_eq_false c124
                    clear c124
                    by_cases c140 : t217 = 0
                    · rw [if_pos c140] at H
                      have c140b0 : (t217 == 0) = true := beq_iff_eq.mpr c140
                      have c140b1 : (t217 != 0) = false := bne_eq_false_iff_eq.mpr c140
                      clear c140
                      by_cases c141 : t219 = t218
                      · rw [if_pos c141] at H
                        have c141b0 : (t219 == t218) = true := beq_iff_eq.mpr c141
                        have c141b1 : (t219 != t218) = false := bne_eq_false_iff_eq.mpr c141
                        clear c141
                        by_cases c142 : t218 = 0
                        · rw [if_pos c142] at H
                          have c142b0 : (t218 == 0) = true := beq_iff_eq.mpr c142
                          have c142b1 : (t218 != 0) = false := bne_eq_false_iff_eq.mpr c142
                          clear c142
                          by_cases c143 : t219 = t217
                          · rw [if_pos c143] at H
                            have c143b0 : (t219 == t217) = true := beq_iff_eq.mpr c143
                            have c143b1 : (t219 != t217) = false := bne_eq_false_iff_eq.mpr c143
                            clear c143
                            replace H := Option.bind_eq_some_iff.mp H
                            obtain ⟨t250, A1440, H⟩ := H
                            replace H : (some t250) = some r := H
                            have A144 := Aside0.mk A1440
                            clear A1440
                            obtain rfl := Option.some.inj H
                            go_wp2_with (first | ((with_reducible refine gate_callee (f := 13) rfl ?_); refine goesL_ (some 93) rfl rfl Tryd.func13 (by kernel_rfl) rfl #[] rfl (by (try simp only [List.map_toArray, List.map_cons, List.map_nil]); first | done | rfl | (simp only [List.length_drop, List.length_take]; rfl)) ?_; (with_reducible refine (credenzalaw15_awake.calls kj12  t250 _ A144.out).mono ?_); rintro e w145 ⟨rfl, hb⟩; refine ⟨_, rfl, ?_⟩; have n0_ := Aside0.mk (below_step (by repeat (first | (with_reducible first | exact HB.out | apply below_alloc | apply pw_below_drewN | apply below_drew1) | exact HB.out)) hb); clear HB; have HB := n0_; clear n0_; (try clear hb); (try clear hb2); (try clear hk); (try clear hi)))
                            go_ret
                            exact ⟨by first | rfl | (simp [errW_none, errW_some] <;> rfl) | (simp [*, errW_none, errW_some] <;> rfl), by repeat (first | (with_reducible first | exact HB.out | apply below_alloc | apply pw_below_drewN | apply below_drew1) | exact HB.out)⟩
                          · rw [if_neg c143] at H
                            have c143b0 : (t219 == t217) = false := beq_eq_false_iff_ne.mpr c143
                            have c143b1 : (t219 != t217) = true := bne_iff_ne.mpr c143
                            obtain rfl := Option.some.inj H
                            go_wp2
                            go_ret
                            exact ⟨by first | rfl | (simp [errW_none, errW_some] <;> rfl) | (simp [*, errW_none, errW_some] <;> rfl), by repeat (first | (with_reducible first | exact HB.out | apply below_alloc | apply pw_below_drewN | apply below_drew1) | exact HB.out)⟩
                        · rw [if_neg c142] at H
                          have c142b0 : (t218 == 0) = false := beq_eq_false_iff_ne.mpr c142
                          have c142b1 : (t218 != 0) = true := bne_iff_ne.mpr c142
                          replace H := Option.bind_eq_some_iff.mp H
                          obtain ⟨t251, A1460, H⟩ := H
                          replace H : (some t251) = some r := H
                          have A146 := Aside0.mk A1460
                          clear A1460
                          obtain rfl := Option.some.inj H
                          go_wp2_with (first | ((with_reducible refine gate_callee (f := 13) rfl ?_); refine goesL_ (some 93) rfl rfl Tryd.func13 (by kernel_rfl) rfl #[] rfl (by (try simp only [List.map_toArray, List.map_cons, List.map_nil]); first | done | rfl | (simp only [List.length_drop, List.length_take]; rfl)) ?_; (with_reducible refine (credenzalaw15_awake.calls kj12  t251 _ A146.out).mono ?_); rintro e w147 ⟨rfl, hb⟩; refine ⟨_, rfl, ?_⟩; have n0_ := Aside0.mk (below_step (by repeat (first | (with_reducible first | exact HB.out | apply below_alloc | apply pw_below_drewN | apply below_drew1) | exact HB.out)) hb); clear HB; have HB := n0_; clear n0_; (try clear hb); (try clear hb2); (try clear hk); (try clear hi)))
                          go_ret
                          exact ⟨by first | rfl | (simp [errW_none, errW_some] <;> rfl) | (simp [*, errW_none, errW_some] <;> rfl), by repeat (first | (with_reducible first | exact HB.out | apply below_alloc | apply pw_below_drewN | apply below_drew1) | exact HB.out)⟩
                      · rw [if_neg c141] at H
                        have c141b0 : (t219 == t218) = false := beq_eq_false_iff_ne.mpr c141
                        have c141b1 : (t219 != t218) = true := bne_iff_ne.mpr c141
                        obtain rfl := Option.some.inj H
                        go_wp2
                        go_ret
                        exact ⟨by first | rfl | (simp [errW_none, errW_some] <;> rfl) | (simp [*, errW_none, errW_some] <;> rfl), by repeat (first | (with_reducible first | exact HB.out | apply below_alloc | apply pw_below_drewN | apply below_drew1) | exact HB.out)⟩
                    · rw [if_neg c140] at H
                      have c140b0 : (t217 == 0) = false := beq_eq_false_iff_ne.mpr c140
                      have c140b1 : (t217 != 0) = true := bne_iff_ne.mpr c140
                      by_cases c148 : t218 = 0
                      · rw [if_pos c148] at H
                        have c148b0 : (t218 == 0) = true := beq_iff_eq.mpr c148
                        have c148b1 : (t218 != 0) = false := bne_eq_false_iff_eq.mpr c148
                        clear c148
                        by_cases c149 : t219 = t217
                        · rw [if_pos c149] at H
                          have c149b0 : (t219 == t217) = true := beq_iff_eq.mpr c149
                          have c149b1 : (t219 != t217) = false := bne_eq_false_iff_eq.mpr c149
                          clear c149
                          replace H := Option.bind_eq_some_iff.mp H
                          obtain ⟨t252, A1500, H⟩ := H
                          replace H : (some t252) = some r := H
                          have A150 := Aside0.mk A1500
                          clear A1500
                          obtain rfl := Option.some.inj H
                          go_wp2_with (first | ((with_reducible refine gate_callee (f := 13) rfl ?_); refine goesL_ (some 93) rfl rfl Tryd.func13 (by kernel_rfl) rfl #[] rfl (by (try simp only [List.map_toArray, List.map_cons, List.map_nil]); first | done | rfl | (simp only [List.length_drop, List.length_take]; rfl)) ?_; (with_reducible refine (credenzalaw15_awake.calls kj12  t252 _ A150.out).mono ?_); rintro e w151 ⟨rfl, hb⟩; refine ⟨_, rfl, ?_⟩; have n0_ := Aside0.mk (below_step (by repeat (first | (with_reducible first | exact HB.out | apply below_alloc | apply pw_below_drewN | apply below_drew1) | exact HB.out)) hb); clear HB; have HB := n0_; clear n0_; (try clear hb); (try clear hb2); (try clear hk); (try clear hi)))
                          go_ret
                          exact ⟨by first | rfl | (simp [errW_none, errW_some] <;> rfl) | (simp [*, errW_none, errW_some] <;> rfl), by repeat (first | (with_reducible first | exact HB.out | apply below_alloc | apply pw_below_drewN | apply below_drew1) | exact HB.out)⟩
                        · rw [if_neg c149] at H
                          have c149b0 : (t219 == t217) = false := beq_eq_false_iff_ne.mpr c149
                          have c149b1 : (t219 != t217) = true := bne_iff_ne.mpr c149
                          obtain rfl := Option.some.inj H
                          go_wp2
                          go_ret
                          exact ⟨by first | rfl | (simp [errW_none, errW_some] <;> rfl) | (simp [*, errW_none, errW_some] <;> rfl), by repeat (first | (with_reducible first | exact HB.out | apply below_alloc | apply pw_below_drewN | apply below_drew1) | exact HB.out)⟩
                      · rw [if_neg c148] at H
                        have c148b0 : (t218 == 0) = false := beq_eq_false_iff_ne.mpr c148
                        have c148b1 : (t218 != 0) = true := bne_iff_ne.mpr c148
                        replace H := Option.bind_eq_some_iff.mp H
                        obtain ⟨t253, A1520, H⟩ := H
                        replace H : (some t253) = some r := H
                        have A152 := Aside0.mk A1520
                        clear A1520
                        obtain rfl := Option.some.inj H
                        go_wp2_with (first | ((with_reducible refine gate_callee (f := 13) rfl ?_); refine goesL_ (some 93) rfl rfl Tryd.func13 (by kernel_rfl) rfl #[] rfl (by (try simp only [List.map_toArray, List.map_cons, List.map_nil]); first | done | rfl | (simp only [List.length_drop, List.length_take]; rfl)) ?_; (with_reducible refine (credenzalaw15_awake.calls kj12  t253 _ A152.out).mono ?_); rintro e w153 ⟨rfl, hb⟩; refine ⟨_, rfl, ?_⟩; have n0_ := Aside0.mk (below_step (by repeat (first | (with_reducible first | exact HB.out | apply below_alloc | apply pw_below_drewN | apply below_drew1) | exact HB.out)) hb); clear HB; have HB := n0_; clear n0_; (try clear hb); (try clear hb2); (try clear hk); (try clear hi)))
                        go_ret
                        exact ⟨by first | rfl | (simp [errW_none, errW_some] <;> rfl) | (simp [*, errW_none, errW_some] <;> rfl), by repeat (first | (with_reducible first | exact HB.out | apply below_alloc | apply pw_below_drewN | apply below_drew1) | exact HB.out)⟩
                · rw [if_neg c123] at H
                  have c123b0 : decide (t217 ≤ 0) = false := decide_eq_false c123
                  clear c123
                  by_cases c154 : t217 = 0
                  · rw [if_pos c154] at H
                    have c154b0 : (t217 == 0) = true := beq_iff_eq.mpr c154
                    have c154b1 : (t217 != 0) = false := bne_eq_false_iff_eq.mpr c154
                    clear c154
                    by_cases c155 : t219 = t218
                    · rw [if_pos c155] at H
                      have c155b0 : (t219 == t218) = true := beq_iff_eq.mpr c155
                      have c155b1 : (t219 != t218) = false := bne_eq_false_iff_eq.mpr c155
                      clear c155
                      by_cases c156 : t218 = 0
                      · rw [if_pos c156] at H
                        have c156b0 : (t218 == 0) = true := beq_iff_eq.mpr c156
                        have c156b1 : (t218 != 0) = false := bne_eq_false_iff_eq.mpr c156
                        clear c156
                        by_cases c157 : t219 = t217
                        · rw [if_pos c157] at H
                          have c157b0 : (t219 == t217) = true := beq_iff_eq.mpr c157
                          have c157b1 : (t219 != t217) = false := bne_eq_false_iff_eq.mpr c157
                          clear c157
                          replace H := Option.bind_eq_some_iff.mp H
                          obtain ⟨t254, A1580, H⟩ := H
                          replace H : (some t254) = some r := H
                          have A158 := Aside0.mk A1580
                          clear A1580
                          obtain rfl := Option.some.inj H
                          go_wp2_with (first | ((with_reducible refine gate_callee (f := 13) rfl ?_); refine goesL_ (some 93) rfl rfl Tryd.func13 (by kernel_rfl) rfl #[] rfl (by (try simp only [List.map_toArray, List.map_cons, List.map_nil]); first | done | rfl | (simp only [List.length_drop, List.length_take]; rfl)) ?_; (with_reducible refine (credenzalaw15_awake.calls kj12  t254 _ A158.out).mono ?_); rintro e w159 ⟨rfl, hb⟩; refine ⟨_, rfl, ?_⟩; have n0_ := Aside0.mk (below_step (by repeat (first | (with_reducible first | exact HB.out | apply below_alloc | apply pw_below_drewN | apply below_drew1) | exact HB.out)) hb); clear HB; have HB := n0_; clear n0_; (try clear hb); (try clear hb2); (try clear hk); (try clear hi)))
                          go_ret
                          exact ⟨by first | rfl | (simp [errW_none, errW_some] <;> rfl) | (simp [*, errW_none, errW_some] <;> rfl), by repeat (first | (with_reducible first | exact HB.out | apply below_alloc | apply pw_below_drewN | apply below_drew1) | exact HB.out)⟩
                        · rw [if_neg c157] at H
                          have c157b0 : (t219 == t217) = false := beq_eq_false_iff_ne.mpr c157
                          have c157b1 : (t219 != t217) = true := bne_iff_ne.mpr c157
                          obtain rfl := Option.some.inj H
                          go_wp2
                          go_ret
                          exact ⟨by first | rfl | (simp [errW_none, errW_some] <;> rfl) | (simp [*, errW_none, errW_some] <;> rfl), by repeat (first | (with_reducible first | exact HB.out | apply below_alloc | apply pw_below_drewN | apply below_drew1) | exact HB.out)⟩
                      · rw [if_neg c156] at H
                        have c156b0 : (t218 == 0) = false := beq_eq_false_iff_ne.mpr c156
                        have c156b1 : (t218 != 0) = true := bne_iff_ne.mpr c156
                        replace H := Option.bind_eq_some_iff.mp H
                        obtain ⟨t255, A1600, H⟩ := H
                        replace H : (some t255) = some r := H
                        have A160 := Aside0.mk A1600
                        clear A1600
                        obtain rfl := Option.some.inj H
                        go_wp2_with (first | ((with_reducible refine gate_callee (f := 13) rfl ?_); refine goesL_ (some 93) rfl rfl Tryd.func13 (by kernel_rfl) rfl #[] rfl (by (try simp only [List.map_toArray, List.map_cons, List.map_nil]); first | done | rfl | (simp only [List.length_drop, List.length_take]; rfl)) ?_; (with_reducible refine (credenzalaw15_awake.calls kj12  t255 _ A160.out).mono ?_); rintro e w161 ⟨rfl, hb⟩; refine ⟨_, rfl, ?_⟩; have n0_ := Aside0.mk (below_step (by repeat (first | (with_reducible first | exact HB.out | apply below_alloc | apply pw_below_drewN | apply below_drew1) | exact HB.out)) hb); clear HB; have HB := n0_; clear n0_; (try clear hb); (try clear hb2); (try clear hk); (try clear hi)))
                        go_ret
                        exact ⟨by first | rfl | (simp [errW_none, errW_some] <;> rfl) | (simp [*, errW_none, errW_some] <;> rfl), by repeat (first | (with_reducible first | exact HB.out | apply below_alloc | apply pw_below_drewN | apply below_drew1) | exact HB.out)⟩
                    · rw [if_neg c155] at H
                      have c155b0 : (t219 == t218) = false := beq_eq_false_iff_ne.mpr c155
                      have c155b1 : (t219 != t218) = true := bne_iff_ne.mpr c155
                      obtain rfl := Option.some.inj H
                      go_wp2
                      go_ret
                      exact ⟨by first | rfl | (simp [errW_none, errW_some] <;> rfl) | (simp [*, errW_none, errW_some] <;> rfl), by repeat (first | (with_reducible first | exact HB.out | apply below_alloc | apply pw_below_drewN | apply below_drew1) | exact HB.out)⟩
                  · rw [if_neg c154] at H
                    have c154b0 : (t217 == 0) = false := beq_eq_false_iff_ne.mpr c154
                    have c154b1 : (t217 != 0) = true := bne_iff_ne.mpr c154
                    by_cases c162 : t218 = 0
                    · rw [if_pos c162] at H
                      have c162b0 : (t218 == 0) = true := beq_iff_eq.mpr c162
                      have c162b1 : (t218 != 0) = false := bne_eq_false_iff_eq.mpr c162
                      clear c162
                      by_cases c163 : t219 = t217
                      · rw [if_pos c163] at H
                        have c163b0 : (t219 == t217) = true := beq_iff_eq.mpr c163
                        have c163b1 : (t219 != t217) = false := bne_eq_false_iff_eq.mpr c163
                        clear c163
                        replace H := Option.bind_eq_some_iff.mp H
                        obtain ⟨t256, A1640, H⟩ := H
                        replace H : (some t256) = some r := H
                        have A164 := Aside0.mk A1640
                        clear A1640
                        obtain rfl := Option.some.inj H
                        go_wp2_with (first | ((with_reducible refine gate_callee (f := 13) rfl ?_); refine goesL_ (some 93) rfl rfl Tryd.func13 (by kernel_rfl) rfl #[] rfl (by (try simp only [List.map_toArray, List.map_cons, List.map_nil]); first | done | rfl | (simp only [List.length_drop, List.length_take]; rfl)) ?_; (with_reducible refine (credenzalaw15_awake.calls kj12  t256 _ A164.out).mono ?_); rintro e w165 ⟨rfl, hb⟩; refine ⟨_, rfl, ?_⟩; have n0_ := Aside0.mk (below_step (by repeat (first | (with_reducible first | exact HB.out | apply below_alloc | apply pw_below_drewN | apply below_drew1) | exact HB.out)) hb); clear HB; have HB := n0_; clear n0_; (try clear hb); (try clear hb2); (try clear hk); (try clear hi)))
                        go_ret
                        exact ⟨by first | rfl | (simp [errW_none, errW_some] <;> rfl) | (simp [*, errW_none, errW_some] <;> rfl), by repeat (first | (with_reducible first | exact HB.out | apply below_alloc | apply pw_below_drewN | apply below_drew1) | exact HB.out)⟩
                      · rw [if_neg c163] at H
                        have c163b0 : (t219 == t217) = false := beq_eq_false_iff_ne.mpr c163
                        have c163b1 : (t219 != t217) = true := bne_iff_ne.mpr c163
                        obtain rfl := Option.some.inj H
                        go_wp2
                        go_ret
                        exact ⟨by first | rfl | (simp [errW_none, errW_some] <;> rfl) | (simp [*, errW_none, errW_some] <;> rfl), by repeat (first | (with_reducible first | exact HB.out | apply below_alloc | apply pw_below_drewN | apply below_drew1) | exact HB.out)⟩
                    · rw [if_neg c162] at H
                      have c162b0 : (t218 == 0) = false := beq_eq_false_iff_ne.mpr c162
                      have c162b1 : (t218 != 0) = true := bne_iff_ne.mpr c162
                      replace H := Option.bind_eq_some_iff.mp H
                      obtain ⟨t257, A1660, H⟩ := H
                      replace H : (some t257) = some r := H
                      have A166 := Aside0.mk A1660
                      clear A1660
                      obtain rfl := Option.some.inj H
                      go_wp2_with (first | ((with_reducible refine gate_callee (f := 13) rfl ?_); refine goesL_ (some 93) rfl rfl Tryd.func13 (by kernel_rfl) rfl #[] rfl (by (try simp only [List.map_toArray, List.map_cons, List.map_nil]); first | done | rfl | (simp only [List.length_drop, List.length_take]; rfl)) ?_; (with_reducible refine (credenzalaw15_awake.calls kj12  t257 _ A166.out).mono ?_); rintro e w167 ⟨rfl, hb⟩; refine ⟨_, rfl, ?_⟩; have n0_ := Aside0.mk (below_step (by repeat (first | (with_reducible first | exact HB.out | apply below_alloc | apply pw_below_drewN | apply below_drew1) | exact HB.out)) hb); clear HB; have HB := n0_; clear n0_; (try clear hb); (try clear hb2); (try clear hk); (try clear hi)))
                      go_ret
                      exact ⟨by first | rfl | (simp [errW_none, errW_some] <;> rfl) | (simp [*, errW_none, errW_some] <;> rfl), by repeat (first | (with_reducible first | exact HB.out | apply below_alloc | apply pw_below_drewN | apply below_drew1) | exact HB.out)⟩

/-- THE ONE PURE STATEMENT of credenzalaw15_VersionOrders: yours. -/
def credenzalaw15_VersionOrders.Pure : Prop := ∀ (a0 : ByteArray) (a1 : ByteArray) (a2 : ByteArray), a0.size ≤ 140737488351232 → a1.size ≤ 140737488351232 → a2.size ≤ 140737488351232 → ∃ k, credenzalaw15_VersionOrders.f k a0 a1 a2 = some true
theorem credenzalaw15_VersionOrders.walk (P : credenzalaw15_VersionOrders.Pure) (a0 : ByteArray) (a1 : ByteArray) (a2 : ByteArray) (w : World) (w0 : a0.size ≤ 140737488351232) (w1 : a1.size ≤ 140737488351232) (w2 : a2.size ≤ 140737488351232) :
    Calls Tryd.prog 6 #[.string a0, .string a1, .string a2] w fun e w' => e = .returned (.bool true) ∧ Below w.heap.size w w' := by
  obtain ⟨k, h⟩ := P a0 a1 a2 w0 w1 w2
  refine (credenzalaw15_VersionOrders.calls k a0 a1 a2 true w h).mono ?_
  rintro e w' ⟨rfl, hd⟩
  exact ⟨rfl, hd⟩

end Go.Proofs.YtndpokjakogpnaaDoor.V

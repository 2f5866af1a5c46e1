-- written by hprint.py (wip/tools): the kit's print with hand contracts
import Derived.Test.YtndpokjakogpnaaDoorVx0
namespace Go.Proofs.YtndpokjakogpnaaDoor.V
open Go.RowKit Go.Proofs.YtndpokjakogpnaaDoorW.PrintWords Go.Proofs.YtndpokjakogpnaaDoorW.PrintLast Go.Proofs.YtndpokjakogpnaaDoorW.PrintMore
attribute [local go_sem] max2_int min2_int max_two min_two max_three min_three max_four min_four   -- for this text's walks alone
set_option linter.unusedVariables false
set_option linter.unusedSimpArgs false

/-! ### credenzalaw15_VersionNumbers_1: function 19 -/
def credenzalaw15_VersionNumbers_1.l0 : Nat → List Int → Int → Int → Option (ByteArray)
  | 0, _, _, _ => none
  | k + 1, x3, x9, x10 => if x10 < x9 then (if 0 ≤ x10 then (if x10 < (x3.length : Int) then (credenzalaw15_VersionNumbers_1.l0 k (x3.set (x10 : Int).toNat 48) x9 (wrap64 (x10 + 1))) else (none)) else (none)) else (some (strOfNums x3))
def credenzalaw15_VersionNumbers_1.f (k : Nat) (a0 : Int) : Option (ByteArray) := if 0 ≤ (Go.bits .and .i64 a0 15) then (if (Go.bits .and .i64 a0 15 : Int).toNat ≤ 281474976710656 then ((some (List.replicate (Go.bits .and .i64 a0 15 : Int).toNat 0 : List Int)).bind fun y258 => (credenzalaw15_VersionNumbers_1.l0 k y258 (y258.length : Int) 0)) else (none)) else (none)
theorem credenzalaw15_VersionNumbers_1.mono_l : ∀ k, (∀ y0 y1 y2, LeO (credenzalaw15_VersionNumbers_1.l0 k y0 y1 y2) (credenzalaw15_VersionNumbers_1.l0 (k + 1) y0 y1 y2))
  | 0 => fun _ _ _ r h => by simp [credenzalaw15_VersionNumbers_1.l0] at h
  | k + 1 => by
    have ih0 := credenzalaw15_VersionNumbers_1.mono_l k
    · intro y0 y1 y2
      unfold credenzalaw15_VersionNumbers_1.l0
      repeat' first
      | (with_reducible exact ih0 _ _ _)
      | (with_reducible exact LeO.refl _)
      | (with_reducible exact LeO.none _)
      | (with_reducible refine LeO.ite ?_ ?_)
      | (with_reducible refine LeO.bind ?_ (fun _ => ?_))
      | exact ih0 _ _ _
      | exact LeO.none _
      | refine LeO.ite ?_ ?_
      | refine LeO.bind ?_ (fun _ => ?_)
theorem credenzalaw15_VersionNumbers_1.mono : ∀ a0 k, LeO (credenzalaw15_VersionNumbers_1.f k a0) (credenzalaw15_VersionNumbers_1.f (k + 1) a0) := by
  intro a0 k
  have ih0 := credenzalaw15_VersionNumbers_1.mono_l k
  unfold credenzalaw15_VersionNumbers_1.f
  repeat' first
      | (with_reducible exact ih0 _ _ _)
      | (with_reducible exact LeO.refl _)
      | (with_reducible exact LeO.none _)
      | (with_reducible refine LeO.ite ?_ ?_)
      | (with_reducible refine LeO.bind ?_ (fun _ => ?_))
      | exact ih0 _ _ _
      | exact LeO.none _
      | refine LeO.ite ?_ ?_
      | refine LeO.bind ?_ (fun _ => ?_)
set_option maxHeartbeats 8000000 in
set_option maxRecDepth 100000 in
theorem credenzalaw15_VersionNumbers_1.calls (k : Nat) (a0 : Int) (r : ByteArray) (w : World) (h : credenzalaw15_VersionNumbers_1.f k a0 = some r) :
    Calls Tryd.prog 19 #[.int .i64 a0] w fun e w' => e = .returned (.string r) ∧ Below w.heap.size w w' := by
  have HB := Aside0.mk (Below.refl w.heap.size w)
  have H : (if 0 ≤ (Go.bits .and .i64 a0 15) then (if (Go.bits .and .i64 a0 15 : Int).toNat ≤ 281474976710656 then ((some (List.replicate (Go.bits .and .i64 a0 15 : Int).toNat 0 : List Int)).bind fun y258 => (credenzalaw15_VersionNumbers_1.l0 k y258 (y258.length : Int) 0)) else (none)) else (none)) = some r := h
  clear h
  by_cases c2 : 0 ≤ (Go.bits .and .i64 a0 15)
  · rw [if_pos c2] at H
    have c2b0 := eq_true c2
    have c2b1 : decide (0 ≤ (Go.bits .and .i64 a0 15)) = true := decide_eq_true c2
    clear c2
    by_cases c3 : (Go.bits .and .i64 a0 15 : Int).toNat ≤ 281474976710656
    · rw [if_pos c3] at H
      have c3b0 := eq_true c3
      have c3b1 : decide ((Go.bits .and .i64 a0 15 : Int).toNat ≤ 281474976710656) = true := decide_eq_true c3
      clear c3
      obtain ⟨y258, hy258⟩ : ∃ y_ : List Int, y_ = (List.replicate (Go.bits .and .i64 a0 15 : Int).toNat 0) := ⟨_, rfl⟩
      replace H : (credenzalaw15_VersionNumbers_1.l0 k y258 (y258.length : Int) 0) = some r := by first | (rw [hy258]; with_reducible exact H) | (have H2_ := (Option.bind_some _ _).symm.trans H; rw [hy258]; with_reducible exact H2_) | (have H2_ := (Option.bind_some _ _).symm.trans H; with_reducible exact H2_) | with_reducible exact H | (rw [hy258]; exact H) | exact H
      have Ny258 := Aside0.mk hy258
      clear hy258
      have H' := Aside0.mk H
      clear H
      go_enter Tryd.func19, Tryd.ntmps19
      go_wp2_with (first | ((with_reducible refine gate_dst (N := 7) rfl ?_); refine Kd.R_make (Kd.int .u8) _ 5 rfl (N := 7) rfl 27 _ _ rfl (Go.bits .and .i64 a0 15) rfl rfl Tryd.underlying27 (.int .u8 0) 1 info5 rfl (by decide) (by omega) 0 (ok := fun _ => True) (okp := fun _ => True) rfl (fun _ hk => hk) trivial (of_decide_eq_true (by first | (with_reducible assumption) | assumption)) (Nat.le_trans (Nat.mul_le_mul_right _ (of_decide_eq_true (by first | (with_reducible assumption) | assumption) : (Go.bits .and .i64 a0 15).toNat ≤ 281474976710656)) (by omega)) (Below.refl _ _) (Nat.le_refl _) ?_; intro v259 w4 ho5 hb hg_ hnew_; clear hg_ hnew_; (first | rw [← Ny258.out] at ho5 | (simp only [Int.reduceToNat] at ho5; rw [← Ny258.out] at ho5)); have n0_ := Aside0.mk (Kd.R_lower ho5 (below_size (by repeat (first | (with_reducible first | exact HB.out | apply below_alloc | apply pw_below_drewN | apply below_drew1) | exact HB.out)))); have n1_ := Aside0.mk (below_step (by repeat (first | (with_reducible first | exact HB.out | apply below_alloc | apply pw_below_drewN | apply below_drew1) | exact HB.out)) hb); clear HB; have HO260 := n0_; have HB := n1_; clear n0_ n1_; clear hb ho5; obtain ⟨Ao6, co6, eo6⟩ := Kd.R_slice HO260.out; subst eo6))
      go_loopg [10] k (fun kq v10 w' => ∃ (x3_1 : List Int) (x10_1 : Int), v10 = .int .i64 x10_1 ∧ Aside0 (credenzalaw15_VersionNumbers_1.l0 kq x3_1 (y258.length : Int) x10_1 = some r) ∧ Aside0 (kq ≤ k) ∧ Aside0 (Kd.R (Kd.int .u8) 5 w' w.heap.size (fun _ => True) (.slice Ao6 y258.length co6) x3_1) ∧ Aside0 (Below w.heap.size w w'))
      case atStart => exact ⟨(y258), (0), (by first | rfl | (simp; done) | (simp [*]; done)), H', ⟨Nat.le_refl _⟩, ⟨by (with_reducible repeat (first | apply Kd.R_alloc | apply Kd.R_drewN | apply Kd.R_drew)); exact HO260.out⟩, ⟨by repeat (first | (with_reducible first | exact HB.out | apply below_alloc | apply pw_below_drewN | apply below_drew1) | exact HB.out)⟩⟩
      case round =>
        clear H'
        try clear c1
        try clear c2
        try clear c2b0
        try clear c2b1
        try clear p2
        try clear c3
        try clear c3b0
        try clear c3b1
        obtain ⟨x3_1, x10_1, rfl, HA, HK1, HO_3, HB⟩ := hrel
        have hl3_1 := (Kd.R_reads' HO_3.out).1
        rw [hl3_1] at HO_3
        (try simp only [hl3_1])
        cases gk with
        | zero => exact absurd HA.out (by simp [credenzalaw15_VersionNumbers_1.l0])
        | succ k1 =>
          have H := HA.out
          clear HA
          simp only [credenzalaw15_VersionNumbers_1.l0] at H
          by_cases c7 : x10_1 < (y258.length : Int)
          · rw [if_pos c7] at H
            have c7b0 : decide (x10_1 < (y258.length : Int)) = true := decide_eq_true c7
            (try (have c7b0z := c7b0; simp only [hl3_1] at c7b0z))
            clear c7
            by_cases c8 : 0 ≤ x10_1
            · rw [if_pos c8] at H
              have c8b0 : decide (0 ≤ x10_1) = true := decide_eq_true c8
              clear c8
              by_cases c9 : x10_1 < (x3_1.length : Int)
              · rw [if_pos c9] at H
                have c9b0 : decide (x10_1 < (x3_1.length : Int)) = true := decide_eq_true c9
                (try (have c9b0z := c9b0; simp only [hl3_1] at c9b0z))
                clear c9
                obtain ⟨y261, hy261⟩ : ∃ y_ : List Int, y_ = (x3_1.set (x10_1 : Int).toNat 48) := ⟨_, rfl⟩
                replace H : (credenzalaw15_VersionNumbers_1.l0 k1 y261 (y258.length : Int) (wrap64 (x10_1 + 1))) = some r := by first | (rw [hy261]; with_reducible exact H) | (have H2_ := (Option.bind_some _ _).symm.trans H; rw [hy261]; with_reducible exact H2_) | (have H2_ := (Option.bind_some _ _).symm.trans H; with_reducible exact H2_) | with_reducible exact H | (rw [hy261]; exact H) | exact H
                have Ny261 := Aside0.mk hy261
                clear hy261
                have H' := Aside0.mk H
                clear H
                have p10 : 0 ≤ (x10_1 : Int) := of_decide_eq_true (by first | (with_reducible assumption) | assumption)
                have q10 : (x10_1 : Int) < ((x3_1.length : Int) : Int) := of_decide_eq_true (by first | (with_reducible assumption) | assumption)
                obtain ⟨go10, co10, eo10, gb10, gl10, cl10, HG10⟩ := Kd.R_form HO_3.out (by omega)
                (first | cases eo10 | (injection eo10 with ea_ en_ ec_; (first | subst ea_ | (injection ea_ with ea_; subst ea_)); subst ec_; clear en_))
                have GB10 := Aside0.mk gb10
                have GG10 := Aside0.mk HG10
                clear gb10 gl10 HG10
                obtain ⟨hx10_0, hf10_0⟩ := Kd.R_celln 0 HO_3.out (x10_1 : Int) p10 q10
                replace p10 := eq_true p10
                replace q10 := eq_true q10
                have HP11 := Kd.R_putg HO_3.out (x10_1 : Int) 48
                go_wp2_with (first | ((with_reducible refine gate_store (t := 5) (p := 15) rfl ?_); refine store_event (t := 5) (p := 15) (v := ?vo_w12) (w1 := (wr.setCell ⟨go10, (x10_1 : Int).toNat, none⟩ (.int .u8 48))) ?hg ?ho ?hn ?hr ?_; (case ho => rfl); (case hg => rfl); (case hn => rfl); (case hr => first | (go_simp; done) | (go_simp; rfl)); intro w12 hw; have hg : wr.grownBy w12 (some go10) := (by rw [hw]; exact HP11.2); have hp_ : Kd.R (Kd.int .u8) 5 w12 w.heap.size (fun _ => True) (.slice (some ⟨go10, 0, none⟩) x3_1.length co6) y261 := (by rw [hw, Ny261.out]; exact HP11.1); clear HP11; have n0_ := Aside0.mk (hp_); have n1_ := Aside0.mk ((by rw [hw]; exact below_set (HB.out) GB10.out : Below w.heap.size w w12)); clear HO_3; clear HB; have HO_3 := n0_; have HB := n1_; clear n0_ n1_; clear hg hw hp_))
                (try simp only [← hl3_1])
                go_roundg k1
                case measure => have := HK1.out; omega
                case rel => exact ⟨(y261), (wrap64 (x10_1 + 1)), (by first | rfl | (simp; done) | (simp [*]; done)), H', ⟨by have := HK1.out; omega⟩, ⟨by (try simp only [hl3_1]); (with_reducible repeat (first | apply Kd.R_alloc | apply Kd.R_drewN | apply Kd.R_drew)); exact HO_3.out⟩, ⟨by repeat (first | (with_reducible first | exact HB.out | apply below_alloc | apply pw_below_drewN | apply below_drew1) | exact HB.out)⟩⟩
              · rw [if_neg c9] at H
                exact absurd H (by simp)
            · rw [if_neg c8] at H
              exact absurd H (by simp)
          · rw [if_neg c7] at H
            have c7b0 : decide (x10_1 < (y258.length : Int)) = false := decide_eq_false c7
            (try (have c7b0z := c7b0; simp only [hl3_1] at c7b0z))
            clear c7
            obtain rfl := Option.some.inj H
            have hcv13 := own_string (P := Tryd.prog) Tryd.underlying27 Tryd.underlying5 Tryd.underlying9 (Kd.own_of_R HO_3.out)
            go_wp2
            go_ret
            exact ⟨by first | rfl | (simp [errW_none, errW_some] <;> rfl) | (simp [*, errW_none, errW_some] <;> rfl), by repeat (first | (with_reducible first | exact HB.out | apply below_alloc | apply pw_below_drewN | apply below_drew1) | exact HB.out)⟩
    · rw [if_neg c3] at H
      exact absurd H (by simp)
  · rw [if_neg c2] at H
    exact absurd H (by simp)

/-! ### credenzalaw15_map3: function 20 -/
def credenzalaw15_map3.f (a0 : Int) : Option (Int) := if a0 = 0 then (some 1) else (some a0)
set_option maxHeartbeats 8000000 in
set_option maxRecDepth 100000 in
theorem credenzalaw15_map3.calls (a0 : Int) (r : Int) (w : World) (h : credenzalaw15_map3.f a0 = some r) :
    Calls Tryd.prog 20 #[.int .i64 a0] w fun e w' => e = .returned (.int .i64 r) ∧ Drawn0 w w' := by
  have H : (if a0 = 0 then (some 1) else (some a0)) = some r := h
  clear h
  by_cases c2 : a0 = 0
  · rw [if_pos c2] at H
    have c2b0 : (a0 == 0) = true := beq_iff_eq.mpr c2
    have c2b1 : (a0 != 0) = false := bne_eq_false_iff_eq.mpr c2
    clear c2
    obtain rfl := Option.some.inj H
    go_enter Tryd.func20, Tryd.ntmps20
    go_wp2
    go_ret
    exact ⟨by first | rfl | (simp; done) | (simp [*]; done), by repeat (first | exact Drawn0.refl _ | apply Drawn0.step)⟩
  · rw [if_neg c2] at H
    have c2b0 : (a0 == 0) = false := beq_eq_false_iff_ne.mpr c2
    have c2b1 : (a0 != 0) = true := bne_iff_ne.mpr c2
    obtain rfl := Option.some.inj H
    go_enter Tryd.func20, Tryd.ntmps20
    go_wp2
    go_ret
    exact ⟨by first | rfl | (simp; done) | (simp [*]; done), by repeat (first | exact Drawn0.refl _ | apply Drawn0.step)⟩

end Go.Proofs.YtndpokjakogpnaaDoor.V

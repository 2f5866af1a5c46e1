-- written by hprint.py (wip/tools): the kit's print with hand contracts
import Derived.Test.YtndpokjakogpnaaDoorVx0
import Derived.Test.YtndpokjakogpnaaDoorVx5
import Derived.Test.YtndpokjakogpnaaDoorVx6
namespace Go.Proofs.YtndpokjakogpnaaDoor.V
open Go.RowKit Go.Proofs.YtndpokjakogpnaaDoorW.PrintWords Go.Proofs.YtndpokjakogpnaaDoorW.PrintLast Go.Proofs.YtndpokjakogpnaaDoorW.PrintMore
attribute [local go_sem] max2_int min2_int max_two min_two max_three min_three max_four min_four   -- for this text's walks alone
set_option linter.unusedVariables false
set_option linter.unusedSimpArgs false

/-! ### credenzalaw15_VersionLong_1: function 14 -/
def credenzalaw15_VersionLong_1.l0 : Nat → Int → List Int → Int → Int → Option (ByteArray)
  | 0, _, _, _, _ => none
  | k + 1, x1, x5, x12, x13 => if x13 < x12 then (if 0 ≤ x13 then (if x13 < (x5.length : Int) then (credenzalaw15_VersionLong_1.l0 k x1 (x5.set (x13 : Int).toNat 57) x12 (wrap64 (x13 + 1))) else (none)) else (none)) else (if 0 ≤ (wrap64 ((x5.length : Int) - 1)) then (if (wrap64 ((x5.length : Int) - 1)) < (x5.length : Int) then (some (strOfNums (x5.set ((wrap64 ((x5.length : Int) - 1)) : Int).toNat ((48 + ((Go.bits .and .i64 x1 7) % 256)) % 256)))) else (none)) else (none))
def credenzalaw15_VersionLong_1.f (k : Nat) (a0 : Int) (a1 : Int) : Option (ByteArray) := if 0 ≤ (wrap64 ((Go.bits .and .i64 a0 63) + 20)) then (if (wrap64 ((Go.bits .and .i64 a0 63) + 20) : Int).toNat ≤ 281474976710656 then ((some (List.replicate (wrap64 ((Go.bits .and .i64 a0 63) + 20) : Int).toNat 0 : List Int)).bind fun y161 => (credenzalaw15_VersionLong_1.l0 k a1 y161 (y161.length : Int) 0)) else (none)) else (none)
theorem credenzalaw15_VersionLong_1.mono_l : ∀ k, (∀ y0 y1 y2 y3, LeO (credenzalaw15_VersionLong_1.l0 k y0 y1 y2 y3) (credenzalaw15_VersionLong_1.l0 (k + 1) y0 y1 y2 y3))
  | 0 => fun _ _ _ _ r h => by simp [credenzalaw15_VersionLong_1.l0] at h
  | k + 1 => by
    have ih0 := credenzalaw15_VersionLong_1.mono_l k
    · intro y0 y1 y2 y3
      unfold credenzalaw15_VersionLong_1.l0
      repeat' first
      | (with_reducible exact ih0 _ _ _ _)
      | (with_reducible exact LeO.refl _)
      | (with_reducible exact LeO.none _)
      | (with_reducible refine LeO.ite ?_ ?_)
      | (with_reducible refine LeO.bind ?_ (fun _ => ?_))
      | exact ih0 _ _ _ _
      | exact LeO.none _
      | refine LeO.ite ?_ ?_
      | refine LeO.bind ?_ (fun _ => ?_)
theorem credenzalaw15_VersionLong_1.mono : ∀ a0 a1 k, LeO (credenzalaw15_VersionLong_1.f k a0 a1) (credenzalaw15_VersionLong_1.f (k + 1) a0 a1) := by
  intro a0 a1 k
  have ih0 := credenzalaw15_VersionLong_1.mono_l k
  unfold credenzalaw15_VersionLong_1.f
  repeat' first
      | (with_reducible exact ih0 _ _ _ _)
      | (with_reducible exact LeO.refl _)
      | (with_reducible exact LeO.none _)
      | (with_reducible refine LeO.ite ?_ ?_)
      | (with_reducible refine LeO.bind ?_ (fun _ => ?_))
      | exact ih0 _ _ _ _
      | exact LeO.none _
      | refine LeO.ite ?_ ?_
      | refine LeO.bind ?_ (fun _ => ?_)
set_option maxHeartbeats 8000000 in
set_option maxRecDepth 100000 in
theorem credenzalaw15_VersionLong_1.calls (k : Nat) (a0 : Int) (a1 : Int) (r : ByteArray) (w : World) (h : credenzalaw15_VersionLong_1.f k a0 a1 = some r) :
    Calls Tryd.prog 14 #[.int .i64 a0, .int .i64 a1] w fun e w' => e = .returned (.string r) ∧ Below w.heap.size w w' := by
  have HB := Aside0.mk (Below.refl w.heap.size w)
  have H : (if 0 ≤ (wrap64 ((Go.bits .and .i64 a0 63) + 20)) then (if (wrap64 ((Go.bits .and .i64 a0 63) + 20) : Int).toNat ≤ 281474976710656 then ((some (List.replicate (wrap64 ((Go.bits .and .i64 a0 63) + 20) : Int).toNat 0 : List Int)).bind fun y161 => (credenzalaw15_VersionLong_1.l0 k a1 y161 (y161.length : Int) 0)) else (none)) else (none)) = some r := h
  clear h
  obtain ⟨ji3, hji3⟩ : ∃ j_ : Int, (wrap64 ((Go.bits .and .i64 a0 63) + 20)) = j_ := ⟨_, rfl⟩
  replace H : (if 0 ≤ (ji3) then (if (ji3 : Int).toNat ≤ 281474976710656 then ((some (List.replicate (ji3 : Int).toNat 0 : List Int)).bind fun y161 => (credenzalaw15_VersionLong_1.l0 k a1 y161 (y161.length : Int) 0)) else (none)) else (none)) = some r := by first | (rw [hji3] at H; exact H) | (simp only [hji3] at H ⊢; exact H)
  have hji3w : (IntKind.i64.wrap ((Go.bits .and .i64 a0 63) + 20)) = ji3 := (i64_w _).trans hji3
  by_cases c4 : 0 ≤ (ji3)
  · rw [if_pos c4] at H
    have c4b0 := eq_true c4
    have c4b1 : decide (0 ≤ (ji3)) = true := decide_eq_true c4
    clear c4
    by_cases c5 : (ji3 : Int).toNat ≤ 281474976710656
    · rw [if_pos c5] at H
      have c5b0 := eq_true c5
      have c5b1 : decide ((ji3 : Int).toNat ≤ 281474976710656) = true := decide_eq_true c5
      clear c5
      obtain ⟨y161, hy161⟩ : ∃ y_ : List Int, y_ = (List.replicate (ji3 : Int).toNat 0) := ⟨_, rfl⟩
      replace H : (credenzalaw15_VersionLong_1.l0 k a1 y161 (y161.length : Int) 0) = some r := by first | (rw [hy161]; with_reducible exact H) | (have H2_ := (Option.bind_some _ _).symm.trans H; rw [hy161]; with_reducible exact H2_) | (have H2_ := (Option.bind_some _ _).symm.trans H; with_reducible exact H2_) | with_reducible exact H | (rw [hy161]; exact H) | exact H
      have Ny161 := Aside0.mk hy161
      clear hy161
      have H' := Aside0.mk H
      clear H
      go_enter Tryd.func14, Tryd.ntmps14
      go_wp2_with (first | ((with_reducible refine gate_dst (N := 10) rfl ?_); refine Kd.R_make (Kd.int .u8) _ 5 rfl (N := 10) rfl 27 _ _ rfl ji3 rfl rfl Tryd.underlying27 (.int .u8 0) 1 info5 rfl (by decide) (by omega) 0 (ok := fun _ => True) (okp := fun _ => True) rfl (fun _ hk => hk) trivial (of_decide_eq_true (by first | (with_reducible assumption) | assumption)) (Nat.le_trans (Nat.mul_le_mul_right _ (of_decide_eq_true (by first | (with_reducible assumption) | assumption) : ji3.toNat ≤ 281474976710656)) (by omega)) (Below.refl _ _) (Nat.le_refl _) ?_; intro v162 w6 ho7 hb hg_ hnew_; clear hg_ hnew_; (first | rw [← Ny161.out] at ho7 | (simp only [Int.reduceToNat] at ho7; rw [← Ny161.out] at ho7)); have n0_ := Aside0.mk (Kd.R_lower ho7 (below_size (by repeat (first | (with_reducible first | exact HB.out | apply below_alloc | apply pw_below_drewN | apply below_drew1) | exact HB.out)))); have n1_ := Aside0.mk (below_step (by repeat (first | (with_reducible first | exact HB.out | apply below_alloc | apply pw_below_drewN | apply below_drew1) | exact HB.out)) hb); clear HB; have HO163 := n0_; have HB := n1_; clear n0_ n1_; clear hb ho7; obtain ⟨Ao8, co8, eo8⟩ := Kd.R_slice HO163.out; subst eo8))
      go_loopg [13] k (fun kq v13 w' => ∃ (x5_1 : List Int) (x13_1 : Int), v13 = .int .i64 x13_1 ∧ Aside0 (credenzalaw15_VersionLong_1.l0 kq a1 x5_1 (y161.length : Int) x13_1 = some r) ∧ Aside0 (kq ≤ k) ∧ Aside0 (Kd.R (Kd.int .u8) 5 w' w.heap.size (fun _ => True) (.slice Ao8 y161.length co8) x5_1) ∧ Aside0 (Below w.heap.size w w'))
      case atStart => exact ⟨(y161), (0), (by first | rfl | (simp; done) | (simp [*]; done)), H', ⟨Nat.le_refl _⟩, ⟨by (with_reducible repeat (first | apply Kd.R_alloc | apply Kd.R_drewN | apply Kd.R_drew)); exact HO163.out⟩, ⟨by repeat (first | (with_reducible first | exact HB.out | apply below_alloc | apply pw_below_drewN | apply below_drew1) | exact HB.out)⟩⟩
      case round =>
        clear H'
        try clear c1
        try clear p2
        try clear c4
        try clear c4b0
        try clear c4b1
        try clear c5
        try clear c5b0
        try clear c5b1
        try clear p6
        obtain ⟨x5_1, x13_1, rfl, HA, HK1, HO_5, HB⟩ := hrel
        have hl5_1 := (Kd.R_reads' HO_5.out).1
        rw [hl5_1] at HO_5
        (try simp only [hl5_1])
        cases gk with
        | zero => exact absurd HA.out (by simp [credenzalaw15_VersionLong_1.l0])
        | succ k1 =>
          have H := HA.out
          clear HA
          simp only [credenzalaw15_VersionLong_1.l0] at H
          by_cases c9 : x13_1 < (y161.length : Int)
          · rw [if_pos c9] at H
            have c9b0 : decide (x13_1 < (y161.length : Int)) = true := decide_eq_true c9
            (try (have c9b0z := c9b0; simp only [hl5_1] at c9b0z))
            clear c9
            by_cases c10 : 0 ≤ x13_1
            · rw [if_pos c10] at H
              have c10b0 : decide (0 ≤ x13_1) = true := decide_eq_true c10
              clear c10
              by_cases c11 : x13_1 < (x5_1.length : Int)
              · rw [if_pos c11] at H
                have c11b0 : decide (x13_1 < (x5_1.length : Int)) = true := decide_eq_true c11
                (try (have c11b0z := c11b0; simp only [hl5_1] at c11b0z))
                clear c11
                obtain ⟨y164, hy164⟩ : ∃ y_ : List Int, y_ = (x5_1.set (x13_1 : Int).toNat 57) := ⟨_, rfl⟩
                replace H : (credenzalaw15_VersionLong_1.l0 k1 a1 y164 (y161.length : Int) (wrap64 (x13_1 + 1))) = some r := by first | (rw [hy164]; with_reducible exact H) | (have H2_ := (Option.bind_some _ _).symm.trans H; rw [hy164]; with_reducible exact H2_) | (have H2_ := (Option.bind_some _ _).symm.trans H; with_reducible exact H2_) | with_reducible exact H | (rw [hy164]; exact H) | exact H
                have Ny164 := Aside0.mk hy164
                clear hy164
                have H' := Aside0.mk H
                clear H
                have p12 : 0 ≤ (x13_1 : Int) := of_decide_eq_true (by first | (with_reducible assumption) | assumption)
                have q12 : (x13_1 : Int) < ((x5_1.length : Int) : Int) := of_decide_eq_true (by first | (with_reducible assumption) | assumption)
                obtain ⟨go12, co12, eo12, gb12, gl12, cl12, HG12⟩ := Kd.R_form HO_5.out (by omega)
                (first | cases eo12 | (injection eo12 with ea_ en_ ec_; (first | subst ea_ | (injection ea_ with ea_; subst ea_)); subst ec_; clear en_))
                have GB12 := Aside0.mk gb12
                have GG12 := Aside0.mk HG12
                clear gb12 gl12 HG12
                obtain ⟨hx12_0, hf12_0⟩ := Kd.R_celln 0 HO_5.out (x13_1 : Int) p12 q12
                replace p12 := eq_true p12
                replace q12 := eq_true q12
                have HP13 := Kd.R_putg HO_5.out (x13_1 : Int) 57
                go_wp2_with (first | ((with_reducible refine gate_store (t := 5) (p := 18) rfl ?_); refine store_event (t := 5) (p := 18) (v := ?vo_w14) (w1 := (wr.setCell ⟨go12, (x13_1 : Int).toNat, none⟩ (.int .u8 57))) ?hg ?ho ?hn ?hr ?_; (case ho => rfl); (case hg => rfl); (case hn => rfl); (case hr => first | (go_simp; done) | (go_simp; rfl)); intro w14 hw; have hg : wr.grownBy w14 (some go12) := (by rw [hw]; exact HP13.2); have hp_ : Kd.R (Kd.int .u8) 5 w14 w.heap.size (fun _ => True) (.slice (some ⟨go12, 0, none⟩) x5_1.length co8) y164 := (by rw [hw, Ny164.out]; exact HP13.1); clear HP13; have n0_ := Aside0.mk (hp_); have n1_ := Aside0.mk ((by rw [hw]; exact below_set (HB.out) GB12.out : Below w.heap.size w w14)); clear HO_5; clear HB; have HO_5 := n0_; have HB := n1_; clear n0_ n1_; clear hg hw hp_))
                (try simp only [← hl5_1])
                go_roundg k1
                case measure => have := HK1.out; omega
                case rel => exact ⟨(y164), (wrap64 (x13_1 + 1)), (by first | rfl | (simp; done) | (simp [*]; done)), H', ⟨by have := HK1.out; omega⟩, ⟨by (try simp only [hl5_1]); (with_reducible repeat (first | apply Kd.R_alloc | apply Kd.R_drewN | apply Kd.R_drew)); exact HO_5.out⟩, ⟨by repeat (first | (with_reducible first | exact HB.out | apply below_alloc | apply pw_below_drewN | apply below_drew1) | exact HB.out)⟩⟩
              · rw [if_neg c11] at H
                exact absurd H (by simp)
            · rw [if_neg c10] at H
              exact absurd H (by simp)
          · rw [if_neg c9] at H
            have c9b0 : decide (x13_1 < (y161.length : Int)) = false := decide_eq_false c9
            (try (have c9b0z := c9b0; simp only [hl5_1] at c9b0z))
            clear c9
            obtain ⟨ji15, hji15⟩ : ∃ j_ : Int, (wrap64 ((x5_1.length : Int) - 1)) = j_ := ⟨_, rfl⟩
            replace H : (if 0 ≤ (ji15) then (if (ji15) < (x5_1.length : Int) then (some (strOfNums (x5_1.set ((ji15) : Int).toNat ((48 + ((Go.bits .and .i64 a1 7) % 256)) % 256)))) else (none)) else (none)) = some r := by first | (rw [hji15] at H; exact H) | (simp only [hji15] at H ⊢; exact H)
            have hji15w : (IntKind.i64.wrap ((x5_1.length : Int) - 1)) = ji15 := (i64_w _).trans hji15
            by_cases c16 : 0 ≤ (ji15)
            · rw [if_pos c16] at H
              have c16b0 : decide (0 ≤ (ji15)) = true := decide_eq_true c16
              clear c16
              by_cases c17 : (ji15) < (x5_1.length : Int)
              · rw [if_pos c17] at H
                have c17b0 : decide ((ji15) < (x5_1.length : Int)) = true := decide_eq_true c17
                (try (have c17b0z := c17b0; simp only [hl5_1] at c17b0z))
                clear c17
                obtain ⟨y165, hy165⟩ : ∃ y_ : List Int, y_ = (x5_1.set ((ji15) : Int).toNat ((48 + ((Go.bits .and .i64 a1 7) % 256)) % 256)) := ⟨_, rfl⟩
                replace H : (some (strOfNums y165)) = some r := by first | (rw [hy165]; with_reducible exact H) | (have H2_ := (Option.bind_some _ _).symm.trans H; rw [hy165]; with_reducible exact H2_) | (have H2_ := (Option.bind_some _ _).symm.trans H; with_reducible exact H2_) | with_reducible exact H | (rw [hy165]; exact H) | exact H
                have Ny165 := Aside0.mk hy165
                clear hy165
                obtain rfl := Option.some.inj H
                have p18 : 0 ≤ ((ji15) : Int) := of_decide_eq_true (by first | (with_reducible assumption) | assumption)
                have q18 : ((ji15) : Int) < ((x5_1.length : Int) : Int) := of_decide_eq_true (by first | (with_reducible assumption) | assumption)
                obtain ⟨go18, co18, eo18, gb18, gl18, cl18, HG18⟩ := Kd.R_form HO_5.out (by omega)
                (first | cases eo18 | (injection eo18 with ea_ en_ ec_; (first | subst ea_ | (injection ea_ with ea_; subst ea_)); subst ec_; clear en_))
                have GB18 := Aside0.mk gb18
                have GG18 := Aside0.mk HG18
                clear gb18 gl18 HG18
                obtain ⟨hx18_0, hf18_0⟩ := Kd.R_celln 0 HO_5.out ((ji15) : Int) p18 q18
                replace p18 := eq_true p18
                replace q18 := eq_true q18
                have HP19 := Kd.R_putg HO_5.out ((ji15) : Int) ((48 + ((Go.bits .and .i64 a1 7) % 256)) % 256)
                go_wp2_with (first | ((with_reducible refine gate_store (t := 5) (p := 28) rfl ?_); refine store_event (t := 5) (p := 28) (v := ?vo_w20) (w1 := (wr.setCell ⟨go18, ((ji15) : Int).toNat, none⟩ (.int .u8 ((48 + ((Go.bits .and .i64 a1 7) % 256)) % 256)))) ?hg ?ho ?hn ?hr ?_; (case ho => rfl); (case hg => rfl); (case hn => rfl); (case hr => first | (go_simp; done) | (go_simp; rfl)); intro w20 hw; have hg : wr.grownBy w20 (some go18) := (by rw [hw]; exact HP19.2); have hp_ : Kd.R (Kd.int .u8) 5 w20 w.heap.size (fun _ => True) (.slice (some ⟨go18, 0, none⟩) x5_1.length co8) y165 := (by rw [hw, Ny165.out]; exact HP19.1); clear HP19; have n0_ := Aside0.mk (hp_); have n1_ := Aside0.mk ((by rw [hw]; exact below_set (HB.out) GB18.out : Below w.heap.size w w20)); clear HO_5; clear HB; have HO_5 := n0_; have HB := n1_; clear n0_ n1_; clear hg hw hp_; have hcv21 := own_string (P := Tryd.prog) Tryd.underlying27 Tryd.underlying5 Tryd.underlying9 (Kd.own_of_R HO_5.out)))
                go_ret
                exact ⟨by first | rfl | (simp [errW_none, errW_some] <;> rfl) | (simp only [← hji3, ← hji15]; first | rfl | (simp [errW_none, errW_some] <;> rfl)) | (simp [*, errW_none, errW_some] <;> rfl), by repeat (first | (with_reducible first | exact HB.out | apply below_alloc | apply pw_below_drewN | apply below_drew1) | exact HB.out)⟩
              · rw [if_neg c17] at H
                exact absurd H (by simp)
            · rw [if_neg c16] at H
              exact absurd H (by simp)
    · rw [if_neg c5] at H
      exact absurd H (by simp)
  · rw [if_neg c4] at H
    exact absurd H (by simp)

/-! ### credenzalaw15_VersionLong: function 4 -/
mutual
def credenzalaw15_VersionLong.j1 : Nat → ByteArray → ByteArray → Int → Option (Bool)
  | 0, _, _, _ => none
  | k + 1, x10, x11, x12 => (version_Compare.f k x10 x11).bind fun t168 => (if t168 = x12 then (if 4 + x10.size ≤ 9223372036854775807 then ((version_Compare.f k ((⟨#[48, 48, 48, 48]⟩ : ByteArray) ++ x10) x11).bind fun t169 => (if t169 = x12 then ((version_Newest.f k (([x10, x11] : List ByteArray))).bind fun t173 => (if t173 = (mx (wrap64 (-x12)) 0) then ((credenzalaw15_awake.f k).bind fun t174 => (some t174)) else (some false))) else (some false))) else (none)) else (some false))
def credenzalaw15_VersionLong.j0 : Nat → ByteArray → ByteArray → Int → Bool → Option (Bool)
  | 0, _, _, _, _ => none
  | k + 1, x10, x11, x12, x21 => if x21 = true then (credenzalaw15_VersionLong.j1 k x10 x11 (-1)) else (if x10.toList = x11.toList then (credenzalaw15_VersionLong.j1 k x10 x11 x12) else (credenzalaw15_VersionLong.j1 k x10 x11 1))
end
def credenzalaw15_VersionLong.f (k : Nat) (a0 : Int) (a1 : Int) (a2 : Int) (a3 : Int) : Option (Bool) := (credenzalaw15_VersionLong_1.f k a0 a2).bind fun t166 => ((credenzalaw15_VersionLong_1.f k a1 a3).bind fun t167 => (if (t166.size : Int) < (t167.size : Int) then (credenzalaw15_VersionLong.j0 k t166 t167 0 true) else (if (t166.size : Int) = (t167.size : Int) then (credenzalaw15_VersionLong.j0 k t166 t167 0 (Op.bytesLess t166.toList t167.toList)) else (credenzalaw15_VersionLong.j0 k t166 t167 0 false))))
theorem credenzalaw15_VersionLong.mono_l : ∀ k, (∀ y0 y1 y2, LeO (credenzalaw15_VersionLong.j1 k y0 y1 y2) (credenzalaw15_VersionLong.j1 (k + 1) y0 y1 y2)) ∧ (∀ y0 y1 y2 y3, LeO (credenzalaw15_VersionLong.j0 k y0 y1 y2 y3) (credenzalaw15_VersionLong.j0 (k + 1) y0 y1 y2 y3))
  | 0 => ⟨fun _ _ _ r h => by simp [credenzalaw15_VersionLong.j1] at h, fun _ _ _ _ r h => by simp [credenzalaw15_VersionLong.j0] at h⟩
  | k + 1 => by
    obtain ⟨ih0, ih1⟩ := credenzalaw15_VersionLong.mono_l k
    refine ⟨?_, ?_⟩
    · intro y0 y1 y2
      unfold credenzalaw15_VersionLong.j1
      repeat' first
      | (with_reducible exact ih0 _ _ _)
      | (with_reducible exact ih1 _ _ _ _)
      | (with_reducible exact credenzalaw15_VersionLong_1.mono _ _ _)
      | (with_reducible exact credenzalaw15_awake.mono _)
      | (with_reducible exact version_Compare.mono _ _ _)
      | (with_reducible exact version_Newest.mono _ _)
      | (with_reducible exact LeO.refl _)
      | (with_reducible exact LeO.none _)
      | (with_reducible refine LeO.ite ?_ ?_)
      | (with_reducible refine LeO.bind ?_ (fun _ => ?_))
      | exact ih0 _ _ _
      | exact ih1 _ _ _ _
      | exact credenzalaw15_VersionLong_1.mono _ _ _
      | exact credenzalaw15_awake.mono _
      | exact version_Compare.mono _ _ _
      | exact version_Newest.mono _ _
      | exact LeO.none _
      | refine LeO.ite ?_ ?_
      | refine LeO.bind ?_ (fun _ => ?_)
    · intro y0 y1 y2 y3
      unfold credenzalaw15_VersionLong.j0
      repeat' first
      | (with_reducible exact ih0 _ _ _)
      | (with_reducible exact ih1 _ _ _ _)
      | (with_reducible exact credenzalaw15_VersionLong_1.mono _ _ _)
      | (with_reducible exact credenzalaw15_awake.mono _)
      | (with_reducible exact version_Compare.mono _ _ _)
      | (with_reducible exact version_Newest.mono _ _)
      | (with_reducible exact LeO.refl _)
      | (with_reducible exact LeO.none _)
      | (with_reducible refine LeO.ite ?_ ?_)
      | (with_reducible refine LeO.bind ?_ (fun _ => ?_))
      | exact ih0 _ _ _
      | exact ih1 _ _ _ _
      | exact credenzalaw15_VersionLong_1.mono _ _ _
      | exact credenzalaw15_awake.mono _
      | exact version_Compare.mono _ _ _
      | exact version_Newest.mono _ _
      | exact LeO.none _
      | refine LeO.ite ?_ ?_
      | refine LeO.bind ?_ (fun _ => ?_)
theorem credenzalaw15_VersionLong.mono : ∀ a0 a1 a2 a3 k, LeO (credenzalaw15_VersionLong.f k a0 a1 a2 a3) (credenzalaw15_VersionLong.f (k + 1) a0 a1 a2 a3) := by
  intro a0 a1 a2 a3 k
  obtain ⟨ih0, ih1⟩ := credenzalaw15_VersionLong.mono_l k
  unfold credenzalaw15_VersionLong.f
  repeat' first
      | (with_reducible exact ih0 _ _ _)
      | (with_reducible exact ih1 _ _ _ _)
      | (with_reducible exact credenzalaw15_VersionLong_1.mono _ _ _)
      | (with_reducible exact credenzalaw15_awake.mono _)
      | (with_reducible exact version_Compare.mono _ _ _)
      | (with_reducible exact version_Newest.mono _ _)
      | (with_reducible exact LeO.refl _)
      | (with_reducible exact LeO.none _)
      | (with_reducible refine LeO.ite ?_ ?_)
      | (with_reducible refine LeO.bind ?_ (fun _ => ?_))
      | exact ih0 _ _ _
      | exact ih1 _ _ _ _
      | exact credenzalaw15_VersionLong_1.mono _ _ _
      | exact credenzalaw15_awake.mono _
      | exact version_Compare.mono _ _ _
      | exact version_Newest.mono _ _
      | exact LeO.none _
      | refine LeO.ite ?_ ?_
      | refine LeO.bind ?_ (fun _ => ?_)
set_option maxHeartbeats 8000000 in
set_option maxRecDepth 100000 in
theorem credenzalaw15_VersionLong.calls (k : Nat) (a0 : Int) (a1 : Int) (a2 : Int) (a3 : Int) (r : Bool) (w : World) (h : credenzalaw15_VersionLong.f k a0 a1 a2 a3 = some r) :
    Calls Tryd.prog 4 #[.int .i64 a0, .int .i64 a1, .int .i64 a2, .int .i64 a3] w fun e w' => e = .returned (.bool r) ∧ Below w.heap.size w w' := by
  have HB := Aside0.mk (Below.refl w.heap.size w)
  have H : ((credenzalaw15_VersionLong_1.f k a0 a2).bind fun t166 => ((credenzalaw15_VersionLong_1.f k a1 a3).bind fun t167 => (if (t166.size : Int) < (t167.size : Int) then (credenzalaw15_VersionLong.j0 k t166 t167 0 true) else (if (t166.size : Int) = (t167.size : Int) then (credenzalaw15_VersionLong.j0 k t166 t167 0 (Op.bytesLess t166.toList t167.toList)) else (credenzalaw15_VersionLong.j0 k t166 t167 0 false))))) = some r := h
  clear h
  replace H := Option.bind_eq_some_iff.mp H
  obtain ⟨t166, A50, H⟩ := H
  replace H : ((credenzalaw15_VersionLong_1.f k a1 a3).bind fun t167 => (if (t166.size : Int) < (t167.size : Int) then (credenzalaw15_VersionLong.j0 k t166 t167 0 true) else (if (t166.size : Int) = (t167.size : Int) then (credenzalaw15_VersionLong.j0 k t166 t167 0 (Op.bytesLess t166.toList t167.toList)) else (credenzalaw15_VersionLong.j0 k t166 t167 0 false)))) = some r := H
  have A5 := Aside0.mk A50
  clear A50
  replace H := Option.bind_eq_some_iff.mp H
  obtain ⟨t167, A60, H⟩ := H
  replace H : (if (t166.size : Int) < (t167.size : Int) then (credenzalaw15_VersionLong.j0 k t166 t167 0 true) else (if (t166.size : Int) = (t167.size : Int) then (credenzalaw15_VersionLong.j0 k t166 t167 0 (Op.bytesLess t166.toList t167.toList)) else (credenzalaw15_VersionLong.j0 k t166 t167 0 false))) = some r := H
  have A6 := Aside0.mk A60
  clear A60
  have HC7 := Aside0.mk H
  clear H
  go_enter Tryd.func4, Tryd.ntmps4
  go_upto_block 0 with (first | (go_at_call 14; (with_reducible refine (credenzalaw15_VersionLong_1.calls k a0 a2 t166 _ A5.out).mono ?_); rintro e w8 ⟨rfl, hb⟩; have n0_ := Aside0.mk (below_step (by repeat (first | (with_reducible first | exact HB.out | apply below_alloc | apply pw_below_drewN | apply below_drew1) | exact HB.out)) hb); clear HB; have HB := n0_; clear n0_; (try clear hb); (try clear hb2); (try clear hk); (try clear hi)) | (go_at_call 14; (with_reducible refine (credenzalaw15_VersionLong_1.calls k a1 a3 t167 _ A6.out).mono ?_); rintro e w9 ⟨rfl, hb⟩; have n0_ := Aside0.mk (below_step (by repeat (first | (with_reducible first | exact HB.out | apply below_alloc | apply pw_below_drewN | apply below_drew1) | exact HB.out)) hb); clear HB; have HB := n0_; clear n0_; (try clear hb); (try clear hb2); (try clear hk); (try clear hi)))
  (try simp only [Act.put, List.setIfInBounds_toArray, List.set_cons_zero, List.set_cons_succ])
  go_cut [12] (fun v12 wc => ∃ (kq : Nat) (x12_6 : Int), v12 = .int .i64 x12_6 ∧ Aside0 (credenzalaw15_VersionLong.j1 kq t166 t167 x12_6 = some r) ∧ Aside0 (kq ≤ k) ∧ Aside0 (Below w.heap.size w wc))
  case first =>
    have H := HC7.out
    clear HC7
    have HC10 := Aside0.mk H
    clear H
    go_upto_region 4 with (fail)
    go_cut [21] (fun v21 wc => ∃ (kq : Nat) (x21_9 : Bool), v21 = .bool x21_9 ∧ Aside0 (credenzalaw15_VersionLong.j0 kq t166 t167 0 x21_9 = some r) ∧ Aside0 (kq ≤ k) ∧ Aside0 (Below w.heap.size w wc))
    case first =>
      have H := HC10.out
      clear HC10
      by_cases c11 : (t166.size : Int) < (t167.size : Int)
      · rw [if_pos c11] at H
        have c11b0 : decide ((t166.size : Int) < (t167.size : Int)) = true := decide_eq_true c11
        have c11b1 : decide (t166.size < t167.size) = true := decide_eq_true (Int.ofNat_lt.mp c11)
        clear c11
        (first | rw [c11b0] | (simp only [i64_w, i32_w]; rw [c11b0]) | skip)
        have H' := Aside0.mk H
        clear H
        go_wp2
        go_meet
        case rel => exact ⟨_, (true), (by first | rfl | (simp; done) | (simp [*]; done)), H', ⟨by first | omega | exact Nat.le_refl _⟩, ⟨by repeat (first | (with_reducible first | exact HB.out | apply below_alloc | apply pw_below_drewN | apply below_drew1) | exact HB.out)⟩⟩
      · rw [if_neg c11] at H
        have c11b0 : decide ((t166.size : Int) < (t167.size : Int)) = false := decide_eq_false c11
        have c11b1 : decide (t166.size < t167.size) = false := decide_eq_false (fun h => c11 (Int.ofNat_lt.mpr h))
        clear c11
        (first | rw [c11b0] | (simp only [i64_w, i32_w]; rw [c11b0]) | skip)
        by_cases c12 : (t166.size : Int) = (t167.size : Int)
        · rw [if_pos c12] at H
          have c12b0 : ((t166.size : Int) == (t167.size : Int)) = true := beq_iff_eq.mpr c12
          have c12b1 : ((t166.size : Int) != (t167.size : Int)) = false := bne_eq_false_iff_eq.mpr c12
          have c12b2 : (t166.size == t167.size) = true := by first | simpa using c12 | (simp at c12 ⊢; omega)
          clear c12
          have H' := Aside0.mk H
          clear H
          go_wp2
          go_meet
          case rel => exact ⟨_, ((Op.bytesLess t166.toList t167.toList)), (by first | rfl | (simp; done) | (simp [*]; done)), H', ⟨by first | omega | exact Nat.le_refl _⟩, ⟨by repeat (first | (with_reducible first | exact HB.out | apply below_alloc | apply pw_below_drewN | apply below_drew1) | exact HB.out)⟩⟩
        · rw [if_neg c12] at H
          have c12b0 : ((t166.size : Int) == (t167.size : Int)) = false := beq_eq_false_iff_ne.mpr c12
          have c12b1 : ((t166.size : Int) != (t167.size : Int)) = true := bne_iff_ne.mpr c12
          have c12b2 : (t166.size == t167.size) = false := by first | simpa using c12 | (simp at c12 ⊢; omega)
          have H' := Aside0.mk H
          clear H
          go_wp2
          go_meet
          case rel => exact ⟨_, (false), (by first | rfl | (simp; done) | (simp [*]; done)), H', ⟨by first | omega | exact Nat.le_refl _⟩, ⟨by repeat (first | (with_reducible first | exact HB.out | apply below_alloc | apply pw_below_drewN | apply below_drew1) | exact HB.out)⟩⟩
    case rest =>
      clear HC10
      try clear c1
      try clear p2
      try clear c4
      try clear c11
      try clear c11b0
      try clear c11b1
      try clear c12
      try clear c12b0
      try clear c12b1
      try clear c12b2
      obtain ⟨kq, x21_9, rfl, HA, HJ9, HB⟩ := hcut
      cases kq with
      | zero => exact absurd HA.out (by simp [credenzalaw15_VersionLong.j0])
      | succ kj9 =>
        have H := HA.out
        clear HA
        simp only [credenzalaw15_VersionLong.j0] at H
        by_cases c13 : x21_9 = true
        · subst c13
          have H1 : (credenzalaw15_VersionLong.j1 kj9 t166 t167 (-1)) = some r := by rw [if_pos rfl] at H; exact H
          clear H
          have H := H1
          clear H1
          have H' := Aside0.mk H
          clear H
          go_wp2
          go_meet
          case rel => exact ⟨_, ((-1)), (by first | rfl | (simp; done) | (simp [*]; done)), H', ⟨by have := HJ9.out; first | omega | exact Nat.le_refl _⟩, ⟨by repeat (first | (with_reducible first | exact HB.out | apply below_alloc | apply pw_below_drewN | apply below_drew1) | exact HB.out)⟩⟩
        · replace c13 := Bool.eq_false_iff.mpr c13
          subst c13
          have H1 : (if t166.toList = t167.toList then (credenzalaw15_VersionLong.j1 kj9 t166 t167 0) else (credenzalaw15_VersionLong.j1 kj9 t166 t167 1)) = some r := by rw [if_neg (show ¬ (false = true) by decide)] at H; exact H
          clear H
          have H := H1
          clear H1
          by_cases c14 : t166.toList = t167.toList
          · rw [if_pos c14] at H
            have c14b0 : (t166.toList == t167.toList) = true := beq_iff_eq.mpr c14
            have c14b1 : (t166.toList != t167.toList) = false := bne_eq_false_iff_eq.mpr c14
            clear c14
            have H' := Aside0.mk H
            clear H
            go_wp2
            go_meet
            case rel => exact ⟨_, (0), (by first | rfl | (simp; done) | (simp [*]; done)), H', ⟨by have := HJ9.out; first | omega | exact Nat.le_refl _⟩, ⟨by repeat (first | (with_reducible first | exact HB.out | apply below_alloc | apply pw_below_drewN | apply below_drew1) | exact HB.out)⟩⟩
          · rw [if_neg c14] at H
            have c14b0 : (t166.toList == t167.toList) = false := beq_eq_false_iff_ne.mpr c14
            have c14b1 : (t166.toList != t167.toList) = true := bne_iff_ne.mpr c14
            have H' := Aside0.mk H
            clear H
            go_wp2
            go_meet
            case rel => exact ⟨_, (1), (by first | rfl | (simp; done) | (simp [*]; done)), H', ⟨by have := HJ9.out; first | omega | exact Nat.le_refl _⟩, ⟨by repeat (first | (with_reducible first | exact HB.out | apply below_alloc | apply pw_below_drewN | apply below_drew1) | exact HB.out)⟩⟩
  case rest =>
    clear HC7
    try clear c1
    try clear p2
    try clear c4
    try clear c11
    try clear c11b0
    try clear c11b1
    try clear c12
    try clear c12b0
    try clear c12b1
    try clear c12b2
    try clear c13
    try clear c14
    try clear c14b0
    try clear c14b1
    try clear p2
    obtain ⟨kq, x12_6, rfl, HA, HJ6, HB⟩ := hcut
    cases kq with
    | zero => exact absurd HA.out (by simp [credenzalaw15_VersionLong.j1])
    | succ kj6 =>
      have H := HA.out
      clear HA
      simp only [credenzalaw15_VersionLong.j1] at H
      replace H := Option.bind_eq_some_iff.mp H
      obtain ⟨t168, A150, H⟩ := H
      replace H : (if t168 = x12_6 then (if 4 + t166.size ≤ 9223372036854775807 then ((version_Compare.f kj6 ((⟨#[48, 48, 48, 48]⟩ : ByteArray) ++ t166) t167).bind fun t169 => (if t169 = x12_6 then ((version_Newest.f kj6 (([t166, t167] : List ByteArray))).bind fun t173 => (if t173 = (mx (wrap64 (-x12_6)) 0) then ((credenzalaw15_awake.f kj6).bind fun t174 => (some t174)) else (some false))) else (some false))) else (none)) else (some false)) = some r := H
      have A15 := Aside0.mk A150
      clear A150
      by_cases c16 : t168 = x12_6
      · rw [if_pos c16] at H
        have c16b0 : (t168 == x12_6) = true := beq_iff_eq.mpr c16
        have c16b1 : (t168 != x12_6) = false := bne_eq_false_iff_eq.mpr c16
        clear c16
        by_cases c17 : 4 + t166.size ≤ 9223372036854775807
        · rw [if_pos c17] at H
          have c17b0 := eq_true c17
          have c17b1 : decide (4 + t166.size ≤ 9223372036854775807) = true := decide_eq_true c17
          try have c17b2 : (9223372036854775807 < 4 + t166.size) = False := eq_false (Nat.not_lt.2 c17)
          replace H := Option.bind_eq_some_iff.mp H
          obtain ⟨t169, A180, H⟩ := H
          replace H : (if t169 = x12_6 then ((version_Newest.f kj6 (([t166, t167] : List ByteArray))).bind fun t173 => (if t173 = (mx (wrap64 (-x12_6)) 0) then ((credenzalaw15_awake.f kj6).bind fun t174 => (some t174)) else (some false))) else (some false)) = some r := H
          have A18 := Aside0.mk A180
          clear A180
          by_cases c19 : t169 = x12_6
          · rw [if_pos c19] at H
            have c19b0 : (t169 == x12_6) = true := beq_iff_eq.mpr c19
            have c19b1 : (t169 != x12_6) = false := bne_eq_false_iff_eq.mpr c19
            clear c19
            obtain ⟨y170, hy170⟩ : ∃ y_ : List ByteArray, y_ = (([t166, t167] : List ByteArray)) := ⟨_, rfl⟩
            replace H : ((version_Newest.f kj6 y170).bind fun t173 => (if t173 = (mx (wrap64 (-x12_6)) 0) then ((credenzalaw15_awake.f kj6).bind fun t174 => (some t174)) else (some false))) = some r := by first | (rw [hy170]; with_reducible exact H) | (have H2_ := (Option.bind_some _ _).symm.trans H; rw [hy170]; with_reducible exact H2_) | (have H2_ := (Option.bind_some _ _).symm.trans H; with_reducible exact H2_) | with_reducible exact H | (rw [hy170]; exact H) | exact H
            have Ny170 := Aside0.mk hy170
            clear hy170
            replace H := Option.bind_eq_some_iff.mp H
            obtain ⟨t173, A200, H⟩ := H
            replace H : (if t173 = (mx (wrap64 (-x12_6)) 0) then ((credenzalaw15_awake.f kj6).bind fun t174 => (some t174)) else (some false)) = some r := H
            have A20 := Aside0.mk A200
            clear A200
            obtain ⟨ji21, hji21⟩ : ∃ j_ : Int, (mx (wrap64 (-x12_6)) 0) = j_ := ⟨_, rfl⟩
            replace H : (if t173 = (ji21) then ((credenzalaw15_awake.f kj6).bind fun t174 => (some t174)) else (some false)) = some r := by first | (rw [hji21] at H; exact H) | (simp only [hji21] at H ⊢; exact H)
            (try rw [hji21] at A15)
            (try rw [hji21] at A18)
            (try rw [hji21] at A20)
            have hji21_ : (if (wrap64 (-x12_6)) < 0 then 0 else (wrap64 (-x12_6))) = ji21 := hji21
            by_cases c22 : t173 = (ji21)
            · rw [if_pos c22] at H
              have c22b0 : (t173 == (ji21)) = true := beq_iff_eq.mpr c22
              have c22b1 : (t173 != (ji21)) = false := bne_eq_false_iff_eq.mpr c22
              clear c22
              replace H := Option.bind_eq_some_iff.mp H
              obtain ⟨t174, A230, H⟩ := H
              replace H : (some t174) = some r := H
              have A23 := Aside0.mk A230
              clear A230
              obtain rfl := Option.some.inj H
              go_wp2_with (first | ((with_reducible refine gate_callee (f := 12) rfl ?_); refine goesL_ (some 45) rfl rfl Tryd.func12 (by kernel_rfl) rfl #[.string t166, .string t167] rfl (by (try simp only [List.map_toArray, List.map_cons, List.map_nil]); first | done | rfl | (simp only [List.length_drop, List.length_take]; rfl)) ?_; (with_reducible refine (version_Compare.calls kj6 t166 t167 t168 _ A15.out).mono ?_); rintro e w24 ⟨rfl, hb⟩; refine ⟨_, rfl, ?_⟩; have n0_ := Aside0.mk (below_step (by repeat (first | (with_reducible first | exact HB.out | apply below_alloc | apply pw_below_drewN | apply below_drew1) | exact HB.out)) hb); clear HB; have HB := n0_; clear n0_; (try clear hb); (try clear hb2); (try clear hk); (try clear hi)) | (go_at_call 12; (with_reducible refine (version_Compare.calls kj6 ((⟨#[48, 48, 48, 48]⟩ : ByteArray) ++ t166) t167 t169 _ A18.out).mono ?_); rintro e w25 ⟨rfl, hb⟩; have n0_ := Aside0.mk (below_step (by repeat (first | (with_reducible first | exact HB.out | apply below_alloc | apply pw_below_drewN | apply below_drew1) | exact HB.out)) hb); clear HB; have HB := n0_; clear n0_; (try clear hb); (try clear hb2); (try clear hk); (try clear hi)) | ((with_reducible refine gate_dst (N := 59) rfl ?_); (try (refine gate_guard (by rfl) ?_; dsimp only)); refine Kd.R_lit Kd.string _ 9 ?hg (N := 59) ?hd (xs := ([t166, t167] : List ByteArray)) (inner := [.string t166, .string t167]) (ok := fun _ => True) (okp := fun _ => True) ?hr ?hp (fun _ hk => hk) trivial (Below.refl _ _) (Nat.le_refl _) (by simp) ?_; (case hd => rfl); (case hg => rfl); (case hr => first | (go_simp; done) | (go_simp; rfl)); (case hp => exact (Reps.one (show Kd.M Kd.string _ _ _ t166 [.string t166] from rfl) (Reps.one (show Kd.M Kd.string _ _ _ t167 [.string t167] from rfl) (Reps.none _ _)))); intro v171 w26 ho27 hb hg_ hnew_; clear hg_ hnew_; (first | rw [← Ny170.out] at ho27 | (simp only [Int.reduceToNat] at ho27; rw [← Ny170.out] at ho27)); have n0_ := Aside0.mk (Kd.R_lower ho27 (below_size (by repeat (first | (with_reducible first | exact HB.out | apply below_alloc | apply pw_below_drewN | apply below_drew1) | exact HB.out)))); have n1_ := Aside0.mk (below_step (by repeat (first | (with_reducible first | exact HB.out | apply below_alloc | apply pw_below_drewN | apply below_drew1) | exact HB.out)) hb); clear HB; have HO172 := n0_; have HB := n1_; clear n0_ n1_; clear hb ho27; obtain ⟨Ao28, co28, eo28⟩ := Kd.R_slice HO172.out; subst eo28) | (go_at_call 15; (with_reducible refine (version_Newest.calls kj6 _ _ y170 t173 _ ?side1 ?side2 A20.out).mono ?_); (case side1 => repeat (first | exact (Kd.R_reads' HO172.out).2.2 | (with_reducible refine Kd.C_alloc ?_ _) | (with_reducible refine Kd.C_drewN ?_ _) | (with_reducible refine Kd.C_drew ?_))); (case side2 => exact (Kd.R_reads' HO172.out).2.1); rintro e w29 ⟨rfl, hb⟩; have n0_ := Aside0.mk (Kd.R_below (by (with_reducible repeat (first | apply Kd.R_alloc | apply Kd.R_drewN | apply Kd.R_drew)); exact HO172.out) hb); have n1_ := Aside0.mk (below_step (by repeat (first | (with_reducible first | exact HB.out | apply below_alloc | apply pw_below_drewN | apply below_drew1) | exact HB.out)) hb); clear HO172; clear HB; have HO172 := n0_; have HB := n1_; clear n0_ n1_; (try clear hb); (try clear hb2); (try clear hk); (try clear hi)) | (go_at_call 13; (with_reducible refine (credenzalaw15_awake.calls kj6  t174 _ A23.out).mono ?_); rintro e w30 ⟨rfl, hb⟩; have n0_ := Aside0.mk (Kd.R_below (by (with_reducible repeat (first | apply Kd.R_alloc | apply Kd.R_drewN | apply Kd.R_drew)); exact HO172.out) hb); have n1_ := Aside0.mk (below_step (by repeat (first | (with_reducible first | exact HB.out | apply below_alloc | apply pw_below_drewN | apply below_drew1) | exact HB.out)) hb); clear HO172; clear HB; have HO172 := n0_; have HB := n1_; clear n0_ n1_; (try clear hb); (try clear hb2); (try clear hk); (try clear hi)))
              go_ret
              exact ⟨by first | rfl | (simp [errW_none, errW_some] <;> rfl) | (simp only [← hji21]; first | rfl | (simp [errW_none, errW_some] <;> rfl)) | (simp [*, errW_none, errW_some] <;> rfl), by repeat (first | (with_reducible first | exact HB.out | apply below_alloc | apply pw_below_drewN | apply below_drew1) | exact HB.out)⟩
            · rw [if_neg c22] at H
              have c22b0 : (t173 == (ji21)) = false := beq_eq_false_iff_ne.mpr c22
              have c22b1 : (t173 != (ji21)) = true := bne_iff_ne.mpr c22
              obtain rfl := Option.some.inj H
              go_wp2_with (first | ((with_reducible refine gate_callee (f := 12) rfl ?_); refine goesL_ (some 45) rfl rfl Tryd.func12 (by kernel_rfl) rfl #[.string t166, .string t167] rfl (by (try simp only [List.map_toArray, List.map_cons, List.map_nil]); first | done | rfl | (simp only [List.length_drop, List.length_take]; rfl)) ?_; (with_reducible refine (version_Compare.calls kj6 t166 t167 t168 _ A15.out).mono ?_); rintro e w31 ⟨rfl, hb⟩; refine ⟨_, rfl, ?_⟩; have n0_ := Aside0.mk (below_step (by repeat (first | (with_reducible first | exact HB.out | apply below_alloc | apply pw_below_drewN | apply below_drew1) | exact HB.out)) hb); clear HB; have HB := n0_; clear n0_; (try clear hb); (try clear hb2); (try clear hk); (try clear hi)) | (go_at_call 12; (with_reducible refine (version_Compare.calls kj6 ((⟨#[48, 48, 48, 48]⟩ : ByteArray) ++ t166) t167 t169 _ A18.out).mono ?_); rintro e w32 ⟨rfl, hb⟩; have n0_ := Aside0.mk (below_step (by repeat (first | (with_reducible first | exact HB.out | apply below_alloc | apply pw_below_drewN | apply below_drew1) | exact HB.out)) hb); clear HB; have HB := n0_; clear n0_; (try clear hb); (try clear hb2); (try clear hk); (try clear hi)) | ((with_reducible refine gate_dst (N := 59) rfl ?_); (try (refine gate_guard (by rfl) ?_; dsimp only)); refine Kd.R_lit Kd.string _ 9 ?hg (N := 59) ?hd (xs := ([t166, t167] : List ByteArray)) (inner := [.string t166, .string t167]) (ok := fun _ => True) (okp := fun _ => True) ?hr ?hp (fun _ hk => hk) trivial (Below.refl _ _) (Nat.le_refl _) (by simp) ?_; (case hd => rfl); (case hg => rfl); (case hr => first | (go_simp; done) | (go_simp; rfl)); (case hp => exact (Reps.one (show Kd.M Kd.string _ _ _ t166 [.string t166] from rfl) (Reps.one (show Kd.M Kd.string _ _ _ t167 [.string t167] from rfl) (Reps.none _ _)))); intro v171 w33 ho34 hb hg_ hnew_; clear hg_ hnew_; (first | rw [← Ny170.out] at ho34 | (simp only [Int.reduceToNat] at ho34; rw [← Ny170.out] at ho34)); have n0_ := Aside0.mk (Kd.R_lower ho34 (below_size (by repeat (first | (with_reducible first | exact HB.out | apply below_alloc | apply pw_below_drewN | apply below_drew1) | exact HB.out)))); have n1_ := Aside0.mk (below_step (by repeat (first | (with_reducible first | exact HB.out | apply below_alloc | apply pw_below_drewN | apply below_drew1) | exact HB.out)) hb); clear HB; have HO172 := n0_; have HB := n1_; clear n0_ n1_; clear hb ho34; obtain ⟨Ao35, co35, eo35⟩ := Kd.R_slice HO172.out; subst eo35) | (go_at_call 15; (with_reducible refine (version_Newest.calls kj6 _ _ y170 t173 _ ?side1 ?side2 A20.out).mono ?_); (case side1 => repeat (first | exact (Kd.R_reads' HO172.out).2.2 | (with_reducible refine Kd.C_alloc ?_ _) | (with_reducible refine Kd.C_drewN ?_ _) | (with_reducible refine Kd.C_drew ?_))); (case side2 => exact (Kd.R_reads' HO172.out).2.1); rintro e w36 ⟨rfl, hb⟩; have n0_ := Aside0.mk (Kd.R_below (by (with_reducible repeat (first | apply Kd.R_alloc | apply Kd.R_drewN | apply Kd.R_drew)); exact HO172.out) hb); have n1_ := Aside0.mk (below_step (by repeat (first | (with_reducible first | exact HB.out | apply below_alloc | apply pw_below_drewN | apply below_drew1) | exact HB.out)) hb); clear HO172; clear HB; have HO172 := n0_; have HB := n1_; clear n0_ n1_; (try clear hb); (try clear hb2); (try clear hk); (try clear hi)))
              go_ret
              exact ⟨by first | rfl | (simp [errW_none, errW_some] <;> rfl) | (simp only [← hji21]; first | rfl | (simp [errW_none, errW_some] <;> rfl)) | (simp [*, errW_none, errW_some] <;> rfl), by repeat (first | (with_reducible first | exact HB.out | apply below_alloc | apply pw_below_drewN | apply below_drew1) | exact HB.out)⟩
          · rw [if_neg c19] at H
            have c19b0 : (t169 == x12_6) = false := beq_eq_false_iff_ne.mpr c19
            have c19b1 : (t169 != x12_6) = true := bne_iff_ne.mpr c19
            obtain rfl := Option.some.inj H
            go_wp2_with (first | ((with_reducible refine gate_callee (f := 12) rfl ?_); refine goesL_ (some 45) rfl rfl Tryd.func12 (by kernel_rfl) rfl #[.string t166, .string t167] rfl (by (try simp only [List.map_toArray, List.map_cons, List.map_nil]); first | done | rfl | (simp only [List.length_drop, List.length_take]; rfl)) ?_; (with_reducible refine (version_Compare.calls kj6 t166 t167 t168 _ A15.out).mono ?_); rintro e w37 ⟨rfl, hb⟩; refine ⟨_, rfl, ?_⟩; have n0_ := Aside0.mk (below_step (by repeat (first | (with_reducible first | exact HB.out | apply below_alloc | apply pw_below_drewN | apply below_drew1) | exact HB.out)) hb); clear HB; have HB := n0_; clear n0_; (try clear hb); (try clear hb2); (try clear hk); (try clear hi)) | (go_at_call 12; (with_reducible refine (version_Compare.calls kj6 ((⟨#[48, 48, 48, 48]⟩ : ByteArray) ++ t166) t167 t169 _ A18.out).mono ?_); rintro e w38 ⟨rfl, hb⟩; have n0_ := Aside0.mk (below_step (by repeat (first | (with_reducible first | exact HB.out | apply below_alloc | apply pw_below_drewN | apply below_drew1) | exact HB.out)) hb); clear HB; have HB := n0_; clear n0_; (try clear hb); (try clear hb2); (try clear hk); (try clear hi)))
            go_ret
            exact ⟨by first | rfl | (simp [errW_none, errW_some] <;> rfl) | (simp [*, errW_none, errW_some] <;> rfl), by repeat (first | (with_reducible first | exact HB.out | apply below_alloc | apply pw_below_drewN | apply below_drew1) | exact HB.out)⟩
        · rw [if_neg c17] at H
          exact absurd H (by simp)
      · rw [if_neg c16] at H
        have c16b0 : (t168 == x12_6) = false := beq_eq_false_iff_ne.mpr c16
        have c16b1 : (t168 != x12_6) = true := bne_iff_ne.mpr c16
        obtain rfl := Option.some.inj H
        go_wp2_with (first | ((with_reducible refine gate_callee (f := 12) rfl ?_); refine goesL_ (some 45) rfl rfl Tryd.func12 (by kernel_rfl) rfl #[.string t166, .string t167] rfl (by (try simp only [List.map_toArray, List.map_cons, List.map_nil]); first | done | rfl | (simp only [List.length_drop, List.length_take]; rfl)) ?_; (with_reducible refine (version_Compare.calls kj6 t166 t167 t168 _ A15.out).mono ?_); rintro e w39 ⟨rfl, hb⟩; refine ⟨_, rfl, ?_⟩; have n0_ := Aside0.mk (below_step (by repeat (first | (with_reducible first | exact HB.out | apply below_alloc | apply pw_below_drewN | apply below_drew1) | exact HB.out)) hb); clear HB; have HB := n0_; clear n0_; (try clear hb); (try clear hb2); (try clear hk); (try clear hi)))
        go_ret
        exact ⟨by first | rfl | (simp [errW_none, errW_some] <;> rfl) | (simp [*, errW_none, errW_some] <;> rfl), by repeat (first | (with_reducible first | exact HB.out | apply below_alloc | apply pw_below_drewN | apply below_drew1) | exact HB.out)⟩

/-- THE ONE PURE STATEMENT of credenzalaw15_VersionLong: yours. -/
def credenzalaw15_VersionLong.Pure : Prop := ∀ (a0 : Int) (a1 : Int) (a2 : Int) (a3 : Int), (Lit.int .i64 a0).wf = true → (Lit.int .i64 a1).wf = true → (Lit.int .i64 a2).wf = true → (Lit.int .i64 a3).wf = true → ∃ k, credenzalaw15_VersionLong.f k a0 a1 a2 a3 = some true
theorem credenzalaw15_VersionLong.walk (P : credenzalaw15_VersionLong.Pure) (a0 : Int) (a1 : Int) (a2 : Int) (a3 : Int) (w : World) (w0 : (Lit.int .i64 a0).wf = true) (w1 : (Lit.int .i64 a1).wf = true) (w2 : (Lit.int .i64 a2).wf = true) (w3 : (Lit.int .i64 a3).wf = true) :
    Calls Tryd.prog 4 #[.int .i64 a0, .int .i64 a1, .int .i64 a2, .int .i64 a3] w fun e w' => e = .returned (.bool true) ∧ Below w.heap.size w w' := by
  obtain ⟨k, h⟩ := P a0 a1 a2 a3 w0 w1 w2 w3
  refine (credenzalaw15_VersionLong.calls k a0 a1 a2 a3 true w h).mono ?_
  rintro e w' ⟨rfl, hd⟩
  exact ⟨rfl, hd⟩

end Go.Proofs.YtndpokjakogpnaaDoor.V

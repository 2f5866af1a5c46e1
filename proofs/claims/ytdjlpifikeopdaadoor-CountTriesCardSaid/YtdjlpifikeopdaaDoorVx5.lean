-- written by hprint.py (wip/tools): the kit's print with hand contracts
import Derived.Test.YtdjlpifikeopdaaDoorVx0
import Derived.Test.YtdjlpifikeopdaaDoorVx1
import Derived.Test.YtdjlpifikeopdaaDoorVx3
import Derived.Test.YtdjlpifikeopdaaDoorVx4
namespace Go.Proofs.YtdjlpifikeopdaaDoor.V
open Go.RowKit Go.Proofs.YtdjlpifikeopdaaDoorW.PrintWords Go.Proofs.YtdjlpifikeopdaaDoorW.PrintLast Go.Proofs.YtdjlpifikeopdaaDoorW.PrintMore
attribute [local go_sem] max2_int min2_int max_two min_two max_three min_three max_four min_four   -- for this text's walks alone
set_option linter.unusedVariables false
set_option linter.unusedSimpArgs false

attribute [local go_sem high] eqA24
/-! ### credenzalaw16_CountTries: function 7 -/
mutual
def credenzalaw16_CountTries.l0 : Nat → Int → Int → Bool → Int → Int → Option (Bool)
  | 0, _, _, _, _, _ => none
  | k + 1, x0, x4, x167000, x167001, x167002 => if x4 < x0 then ((count_State.f x167000 x167001 x167002).bind fun t167 => (if t167 = 1 then (credenzalaw16_CountTries.j1 k x0 x4 ((wrap64 (x167001 + x167002)) != x0) x167000 x167001 x167002) else (credenzalaw16_CountTries.j1 k x0 x4 true x167000 x167001 x167002))) else ((count_Spend.f x167000 x167001 x167002).bind fun bt179 => (if bt179.2.2.2 = true then (some false) else ((count_State.f x167000 x167001 x167002).bind fun t184 => (if t184 = 2 then ((count_Bad.f x167000 x167001 x167002).bind fun bt185 => (if (bt185.1 == x167000 && (bt185.2.1 == x167001 && (bt185.2.2 == x167002))) = true then ((credenzalaw16_awake.f k).bind fun t188 => (some t188)) else (some false))) else (some false)))))
def credenzalaw16_CountTries.j1 : Nat → Int → Int → Bool → Bool → Int → Int → Option (Bool)
  | 0, _, _, _, _, _, _ => none
  | k + 1, x0, x4, x32, x167000, x167001, x167002 => if x32 = true then (some false) else ((count_Join.f (⟨#[120]⟩ : ByteArray) x167000 x167001 x167002).bind fun t168 => ((count_Split.f k t168).bind fun bt169 => (if bt169.2.2.2.2 = true then (if bt169.1.toList = ([120] : List UInt8) then (credenzalaw16_CountTries.j2 k x0 x4 (!(bt169.2.1 == x167000) || (!(bt169.2.2.1 == x167001) || (!(bt169.2.2.2.1 == x167002)))) x167000 x167001 x167002) else (credenzalaw16_CountTries.j2 k x0 x4 true x167000 x167001 x167002)) else (credenzalaw16_CountTries.j2 k x0 x4 true x167000 x167001 x167002))))
def credenzalaw16_CountTries.j2 : Nat → Int → Int → Bool → Bool → Int → Int → Option (Bool)
  | 0, _, _, _, _, _, _ => none
  | k + 1, x0, x4, x50, x167000, x167001, x167002 => if x50 = true then (some false) else ((count_Spend.f x167000 x167001 x167002).bind fun bt175 => (if bt175.2.2.2 = true then (if bt175.2.2.1 = (wrap64 (x4 + 1)) then (credenzalaw16_CountTries.l0 k x0 (wrap64 (x4 + 1)) bt175.1 bt175.2.1 bt175.2.2.1) else (some false)) else (some false)))
end
def credenzalaw16_CountTries.f (k : Nat) (a0 : Int) : Option (Bool) := credenzalaw16_CountTries.l0 k (wrap64 ((Int.tmod (Go.bits .and .i64 a0 255) 99) + 1)) 0 true (wrap64 ((Int.tmod (Go.bits .and .i64 a0 255) 99) + 1)) 0
theorem credenzalaw16_CountTries.mono_l : ∀ k, (∀ y0 y1 y2 y3 y4, LeO (credenzalaw16_CountTries.l0 k y0 y1 y2 y3 y4) (credenzalaw16_CountTries.l0 (k + 1) y0 y1 y2 y3 y4)) ∧ (∀ y0 y1 y2 y3 y4 y5, LeO (credenzalaw16_CountTries.j1 k y0 y1 y2 y3 y4 y5) (credenzalaw16_CountTries.j1 (k + 1) y0 y1 y2 y3 y4 y5)) ∧ (∀ y0 y1 y2 y3 y4 y5, LeO (credenzalaw16_CountTries.j2 k y0 y1 y2 y3 y4 y5) (credenzalaw16_CountTries.j2 (k + 1) y0 y1 y2 y3 y4 y5))
  | 0 => ⟨fun _ _ _ _ _ r h => by simp [credenzalaw16_CountTries.l0] at h, fun _ _ _ _ _ _ r h => by simp [credenzalaw16_CountTries.j1] at h, fun _ _ _ _ _ _ r h => by simp [credenzalaw16_CountTries.j2] at h⟩
  | k + 1 => by
    obtain ⟨ih0, ih1, ih2⟩ := credenzalaw16_CountTries.mono_l k
    refine ⟨?_, ?_, ?_⟩
    · intro y0 y1 y2 y3 y4
      unfold credenzalaw16_CountTries.l0
      repeat' first
      | (with_reducible exact ih0 _ _ _ _ _)
      | (with_reducible exact ih1 _ _ _ _ _ _)
      | (with_reducible exact ih2 _ _ _ _ _ _)
      | (with_reducible exact count_Split.mono _ _)
      | (with_reducible exact credenzalaw16_awake.mono _)
      | (with_reducible exact LeO.refl _)
      | (with_reducible exact LeO.none _)
      | (with_reducible refine LeO.ite ?_ ?_)
      | (with_reducible refine LeO.bind ?_ (fun _ => ?_))
      | exact ih0 _ _ _ _ _
      | exact ih1 _ _ _ _ _ _
      | exact ih2 _ _ _ _ _ _
      | exact count_Split.mono _ _
      | exact credenzalaw16_awake.mono _
      | exact LeO.none _
      | refine LeO.ite ?_ ?_
      | refine LeO.bind ?_ (fun _ => ?_)
    · intro y0 y1 y2 y3 y4 y5
      unfold credenzalaw16_CountTries.j1
      repeat' first
      | (with_reducible exact ih0 _ _ _ _ _)
      | (with_reducible exact ih1 _ _ _ _ _ _)
      | (with_reducible exact ih2 _ _ _ _ _ _)
      | (with_reducible exact count_Split.mono _ _)
      | (with_reducible exact credenzalaw16_awake.mono _)
      | (with_reducible exact LeO.refl _)
      | (with_reducible exact LeO.none _)
      | (with_reducible refine LeO.ite ?_ ?_)
      | (with_reducible refine LeO.bind ?_ (fun _ => ?_))
      | exact ih0 _ _ _ _ _
      | exact ih1 _ _ _ _ _ _
      | exact ih2 _ _ _ _ _ _
      | exact count_Split.mono _ _
      | exact credenzalaw16_awake.mono _
      | exact LeO.none _
      | refine LeO.ite ?_ ?_
      | refine LeO.bind ?_ (fun _ => ?_)
    · intro y0 y1 y2 y3 y4 y5
      unfold credenzalaw16_CountTries.j2
      repeat' first
      | (with_reducible exact ih0 _ _ _ _ _)
      | (with_reducible exact ih1 _ _ _ _ _ _)
      | (with_reducible exact ih2 _ _ _ _ _ _)
      | (with_reducible exact count_Split.mono _ _)
      | (with_reducible exact credenzalaw16_awake.mono _)
      | (with_reducible exact LeO.refl _)
      | (with_reducible exact LeO.none _)
      | (with_reducible refine LeO.ite ?_ ?_)
      | (with_reducible refine LeO.bind ?_ (fun _ => ?_))
      | exact ih0 _ _ _ _ _
      | exact ih1 _ _ _ _ _ _
      | exact ih2 _ _ _ _ _ _
      | exact count_Split.mono _ _
      | exact credenzalaw16_awake.mono _
      | exact LeO.none _
      | refine LeO.ite ?_ ?_
      | refine LeO.bind ?_ (fun _ => ?_)
theorem credenzalaw16_CountTries.mono : ∀ a0 k, LeO (credenzalaw16_CountTries.f k a0) (credenzalaw16_CountTries.f (k + 1) a0) := by
  intro a0 k
  obtain ⟨ih0, ih1, ih2⟩ := credenzalaw16_CountTries.mono_l k
  unfold credenzalaw16_CountTries.f
  repeat' first
      | (with_reducible exact ih0 _ _ _ _ _)
      | (with_reducible exact ih1 _ _ _ _ _ _)
      | (with_reducible exact ih2 _ _ _ _ _ _)
      | (with_reducible exact count_Split.mono _ _)
      | (with_reducible exact credenzalaw16_awake.mono _)
      | (with_reducible exact LeO.refl _)
      | (with_reducible exact LeO.none _)
      | (with_reducible refine LeO.ite ?_ ?_)
      | (with_reducible refine LeO.bind ?_ (fun _ => ?_))
      | exact ih0 _ _ _ _ _
      | exact ih1 _ _ _ _ _ _
      | exact ih2 _ _ _ _ _ _
      | exact count_Split.mono _ _
      | exact credenzalaw16_awake.mono _
      | exact LeO.none _
      | refine LeO.ite ?_ ?_
      | refine LeO.bind ?_ (fun _ => ?_)
def credenzalaw16_CountTries.T15 : Bool × List (List Nat × List Nat) := (true, [([], []), ([0], [0]), ([1], [1]), ([2], [2]), ([3, 2, 2], [2, 3]), ([4, 2], [2, 4]), ([2, 5], [2, 5]), ([6, 4], [6]), ([7], [7]), ([8, 7, 7], [7, 8]), ([7], [7]), ([9, 10, 7], [7, 9, 10]), ([7, 11], [7, 11]), ([12, 9], [12]), ([13, 13], [13]), ([13, 14], [13, 14]), ([15, 14, 0, 1, 2, 3, 4, 5, 6, 7, 8, 9, 10, 11, 12, 13, 14, 15], [15])])
def credenzalaw16_CountTries.B15 : List Nat := [0, 1, 3, 7, 15, 31, 63, 127, 255, 511, 255, 2047, 4095, 8191, 16383, 32767, 65535]
theorem credenzalaw16_CountTries.tab15 : rtab .any (opsOf Tryd.f7 15) = credenzalaw16_CountTries.T15 := by kernel_rfl
theorem credenzalaw16_CountTries.bits15 : waitsOk credenzalaw16_CountTries.T15.2 credenzalaw16_CountTries.B15 = true := by kernel_rfl
set_option maxHeartbeats 8000000 in
set_option maxRecDepth 100000 in
theorem credenzalaw16_CountTries.calls (k : Nat) (a0 : Int) (r : Bool) (w : World) (hG : Cb.GW w) (h : credenzalaw16_CountTries.f k a0 = some r) :
    Calls Tryd.prog 7 #[.int .i64 a0] w fun e w' => e = .returned (.bool r) ∧ Below w.heap.size w w' := by
  have hu24 := Tryd.underlying24
  have HG := Aside0.mk hG
  clear hG
  have HB := Aside0.mk (Below.refl w.heap.size w)
  have H : (credenzalaw16_CountTries.l0 k (wrap64 ((Int.tmod (Go.bits .and .i64 a0 255) 99) + 1)) 0 true (wrap64 ((Int.tmod (Go.bits .and .i64 a0 255) 99) + 1)) 0) = some r := h
  clear h
  have H' := Aside0.mk H
  clear H
  go_enter Tryd.func7, Tryd.ntmps7
  go_wp2_with (first | ((with_reducible refine gate_dst (N := 3) rfl ?_); refine box_event ?hg (N := 3) ?hd (cs := #[.bool false, .int .i64 0, .int .i64 0]) (t := 24) ?hr ?_; (case hd => rfl); (case hg => rfl); (case hr => first | (go_simp; done) | (go_simp; rfl)); intro gb166 hg w2 hbox hb; have n0_ := Aside0.mk (below_step (by repeat (first | (with_reducible first | exact HB.out | apply below_alloc | apply pw_below_drewN | apply below_drew1) | exact HB.out)) hb); have n1_ := Aside0.mk (hbox); have n2_ := Aside0.mk ((by rw [hg]; exact (below_size (by repeat (first | (with_reducible first | exact HB.out | apply below_alloc | apply pw_below_drewN | apply below_drew1) | exact HB.out))) : w.heap.size ≤ gb166)); have n3_ := Aside0.mk ((by rw [hg]; exact (below_size (by repeat (first | (with_reducible first | exact HB.out | apply below_alloc | apply pw_below_drewN | apply below_drew1) | exact HB.out))) : w.heap.size ≤ gb166)); clear HB; have HB := n0_; have BK166 := n1_; have GW166 := n2_; have GE166 := n3_; clear n0_ n1_ n2_ n3_; clear hb hbox hg; have hcz3_0 : w2.cell? ⟨gb166, 0, none⟩ = some (.bool false) := (blk_cell BK166.out 0).trans rfl; have hcz3_1 : w2.cell? ⟨gb166, 1, none⟩ = some (.int .i64 0) := (blk_cell BK166.out 1).trans rfl; have hcz3_2 : w2.cell? ⟨gb166, 2, none⟩ = some (.int .i64 0) := (blk_cell BK166.out 2).trans rfl; have hfz3_0 := blk_frozen BK166.out 0; have hfz3_1 := blk_frozen BK166.out 1; have hfz3_2 := blk_frozen BK166.out 2))
  go_loopg [4] k (fun kq v4 w' => ∃ (x4_1 : Int) (x167000_1 : Bool) (x167001_1 : Int) (x167002_1 : Int), v4 = .int .i64 x4_1 ∧ Aside0 (credenzalaw16_CountTries.l0 kq (wrap64 ((Int.tmod (Go.bits .and .i64 a0 255) 99) + 1)) x4_1 x167000_1 x167001_1 x167002_1 = some r) ∧ Aside0 (kq ≤ k) ∧ Aside0 (w'.heap[gb166]? = some (.cells #[.bool x167000_1, .int .i64 x167001_1, .int .i64 x167002_1] 24 (0, 0))) ∧ Aside0 (Below w.heap.size w w'))
  case atStart => exact ⟨(0), (true), (wrap64 ((Int.tmod (Go.bits .and .i64 a0 255) 99) + 1)), (0), (by first | rfl | (simp; done) | (simp [*]; done)), H', ⟨Nat.le_refl _⟩, ⟨by (with_reducible repeat (first | refine blk_drewN ?_ _ | refine blk_drew ?_ | refine blk_alloc ?_ _)); refine blk_put (cs := #[.bool true, .int .i64 (wrap64 ((Int.tmod (Go.bits .and .i64 a0 255) 99) + 1)), .int .i64 0]) ?_ 2 _ rfl; (with_reducible repeat (first | refine blk_drewN ?_ _ | refine blk_drew ?_ | refine blk_alloc ?_ _)); refine blk_put (cs := #[.bool true, .int .i64 0, .int .i64 0]) ?_ 1 _ rfl; (with_reducible repeat (first | refine blk_drewN ?_ _ | refine blk_drew ?_ | refine blk_alloc ?_ _)); refine blk_put (cs := #[.bool false, .int .i64 0, .int .i64 0]) ?_ 0 _ rfl; (with_reducible repeat (first | refine blk_drewN ?_ _ | refine blk_drew ?_ | refine blk_alloc ?_ _)); exact BK166.out⟩, ⟨by repeat (first | (with_reducible first | exact HB.out | apply below_alloc | apply pw_below_drewN | apply below_drew1 | refine below_set ?_ GE166.out) | exact HB.out)⟩⟩
  case round =>
    clear H'
    try clear p2
    try clear hcz3_0
    try clear hcz3_1
    try clear hcz3_2
    try clear hfz3_0
    try clear hfz3_1
    try clear hfz3_2
    obtain ⟨x4_1, x167000_1, x167001_1, x167002_1, rfl, HA, HK1, BK166, HB⟩ := hrel
    cases gk with
    | zero => exact absurd HA.out (by simp [credenzalaw16_CountTries.l0])
    | succ k1 =>
      have H := HA.out
      clear HA
      simp only [credenzalaw16_CountTries.l0] at H
      by_cases c4 : x4_1 < (wrap64 ((Int.tmod (Go.bits .and .i64 a0 255) 99) + 1))
      · rw [if_pos c4] at H
        have c4b0 : decide (x4_1 < (wrap64 ((Int.tmod (Go.bits .and .i64 a0 255) 99) + 1))) = true := decide_eq_true c4
        clear c4
        have HC5 := Aside0.mk H
        clear H
        go_upto_region 6 with (fail)
        go_cut [32] (fun v32 wc => ∃ (kq : Nat) (x32_4 : Bool), v32 = .bool x32_4 ∧ Aside0 (credenzalaw16_CountTries.j1 kq (wrap64 ((Int.tmod (Go.bits .and .i64 a0 255) 99) + 1)) x4_1 x32_4 x167000_1 x167001_1 x167002_1 = some r) ∧ Aside0 (kq ≤ k1) ∧ Aside0 (wc.heap[gb166]? = some (.cells #[.bool x167000_1, .int .i64 x167001_1, .int .i64 x167002_1] 24 (0, 0))) ∧ Aside0 (Below w.heap.size w wc))
        case first =>
          have H := HC5.out
          clear HC5
          replace H := Option.bind_eq_some_iff.mp H
          obtain ⟨t167, A60, H⟩ := H
          replace H : (if t167 = 1 then (credenzalaw16_CountTries.j1 k1 (wrap64 ((Int.tmod (Go.bits .and .i64 a0 255) 99) + 1)) x4_1 ((wrap64 (x167001_1 + x167002_1)) != (wrap64 ((Int.tmod (Go.bits .and .i64 a0 255) 99) + 1))) x167000_1 x167001_1 x167002_1) else (credenzalaw16_CountTries.j1 k1 (wrap64 ((Int.tmod (Go.bits .and .i64 a0 255) 99) + 1)) x4_1 true x167000_1 x167001_1 x167002_1)) = some r := H
          have A6 := Aside0.mk A60
          clear A60
          by_cases c7 : t167 = 1
          · rw [if_pos c7] at H
            have c7b0 : (t167 == 1) = true := beq_iff_eq.mpr c7
            have c7b1 : (t167 != 1) = false := bne_eq_false_iff_eq.mpr c7
            clear c7
            (first | rw [c7b0] | (simp only [i64_w, i32_w]; rw [c7b0]) | skip)
            have H' := Aside0.mk H
            clear H
            have hcz8_0 : wr.cell? ⟨gb166, 0, none⟩ = some (.bool x167000_1) := (blk_cell BK166.out 0).trans rfl
            have hcz8_1 : wr.cell? ⟨gb166, 1, none⟩ = some (.int .i64 x167001_1) := (blk_cell BK166.out 1).trans rfl
            have hcz8_2 : wr.cell? ⟨gb166, 2, none⟩ = some (.int .i64 x167002_1) := (blk_cell BK166.out 2).trans rfl
            have hfz8_0 := blk_frozen BK166.out 0
            have hfz8_1 := blk_frozen BK166.out 1
            have hfz8_2 := blk_frozen BK166.out 2
            go_wp2_with (first | ((with_reducible refine gate_callee (f := 16) rfl ?_); refine goesL_ (some 22) rfl rfl Tryd.func16 (by kernel_rfl) rfl #[.agg #[.bool x167000_1, .int .i64 x167001_1, .int .i64 x167002_1]] rfl (by (try simp only [List.map_toArray, List.map_cons, List.map_nil]); first | done | rfl | (simp only [List.length_drop, List.length_take]; rfl)) ?_; (with_reducible refine (count_State.calls x167000_1 x167001_1 x167002_1 t167 _ A6.out).mono ?_); rintro e w9 ⟨rfl, hb⟩; refine ⟨_, rfl, ?_⟩; have n0_ := Aside0.mk (blk_below (g := gb166) (o := .cells #[.bool x167000_1, .int .i64 x167001_1, .int .i64 x167002_1] 24 (0, 0)) (by (with_reducible repeat (first | refine blk_drewN ?_ _ | refine blk_drew ?_ | refine blk_alloc ?_ _)); exact BK166.out) hb); have n1_ := Aside0.mk (below_step (by repeat (first | (with_reducible first | exact HB.out | apply below_alloc | apply pw_below_drewN | apply below_drew1 | refine below_set ?_ GE166.out) | exact HB.out)) hb); clear BK166; clear HB; have BK166 := n0_; have HB := n1_; clear n0_ n1_; (try clear hb); (try clear hb2); (try clear hk); (try clear hi); have hcz10_0 : w9.cell? ⟨gb166, 0, none⟩ = some (.bool x167000_1) := (blk_cell BK166.out 0).trans rfl; have hcz10_1 : w9.cell? ⟨gb166, 1, none⟩ = some (.int .i64 x167001_1) := (blk_cell BK166.out 1).trans rfl; have hcz10_2 : w9.cell? ⟨gb166, 2, none⟩ = some (.int .i64 x167002_1) := (blk_cell BK166.out 2).trans rfl; have hfz10_0 := blk_frozen BK166.out 0; have hfz10_1 := blk_frozen BK166.out 1; have hfz10_2 := blk_frozen BK166.out 2))
            go_meet
            case rel => exact ⟨_, (((wrap64 (x167001_1 + x167002_1)) != (wrap64 ((Int.tmod (Go.bits .and .i64 a0 255) 99) + 1)))), (by first | rfl | (simp; done) | (simp [*]; done)), H', ⟨by have := HK1.out; first | omega | exact Nat.le_refl _⟩, ⟨by (with_reducible repeat (first | refine blk_drewN ?_ _ | refine blk_drew ?_ | refine blk_alloc ?_ _)); exact BK166.out⟩, ⟨by repeat (first | (with_reducible first | exact HB.out | apply below_alloc | apply pw_below_drewN | apply below_drew1 | refine below_set ?_ GE166.out) | exact HB.out)⟩⟩
          · rw [if_neg c7] at H
            have c7b0 : (t167 == 1) = false := beq_eq_false_iff_ne.mpr c7
            have c7b1 : (t167 != 1) = true := bne_iff_ne.mpr c7
            (first | rw [c7b0] | (simp only [i64_w, i32_w]; rw [c7b0]) | skip)
            have H' := Aside0.mk H
            clear H
            have hcz11_0 : wr.cell? ⟨gb166, 0, none⟩ = some (.bool x167000_1) := (blk_cell BK166.out 0).trans rfl
            have hcz11_1 : wr.cell? ⟨gb166, 1, none⟩ = some (.int .i64 x167001_1) := (blk_cell BK166.out 1).trans rfl
            have hcz11_2 : wr.cell? ⟨gb166, 2, none⟩ = some (.int .i64 x167002_1) := (blk_cell BK166.out 2).trans rfl
            have hfz11_0 := blk_frozen BK166.out 0
            have hfz11_1 := blk_frozen BK166.out 1
            have hfz11_2 := blk_frozen BK166.out 2
            go_wp2_with (first | ((with_reducible refine gate_callee (f := 16) rfl ?_); refine goesL_ (some 22) rfl rfl Tryd.func16 (by kernel_rfl) rfl #[.agg #[.bool x167000_1, .int .i64 x167001_1, .int .i64 x167002_1]] rfl (by (try simp only [List.map_toArray, List.map_cons, List.map_nil]); first | done | rfl | (simp only [List.length_drop, List.length_take]; rfl)) ?_; (with_reducible refine (count_State.calls x167000_1 x167001_1 x167002_1 t167 _ A6.out).mono ?_); rintro e w12 ⟨rfl, hb⟩; refine ⟨_, rfl, ?_⟩; have n0_ := Aside0.mk (blk_below (g := gb166) (o := .cells #[.bool x167000_1, .int .i64 x167001_1, .int .i64 x167002_1] 24 (0, 0)) (by (with_reducible repeat (first | refine blk_drewN ?_ _ | refine blk_drew ?_ | refine blk_alloc ?_ _)); exact BK166.out) hb); have n1_ := Aside0.mk (below_step (by repeat (first | (with_reducible first | exact HB.out | apply below_alloc | apply pw_below_drewN | apply below_drew1 | refine below_set ?_ GE166.out) | exact HB.out)) hb); clear BK166; clear HB; have BK166 := n0_; have HB := n1_; clear n0_ n1_; (try clear hb); (try clear hb2); (try clear hk); (try clear hi)))
            go_meet
            case rel => exact ⟨_, (true), (by first | rfl | (simp; done) | (simp [*]; done)), H', ⟨by have := HK1.out; first | omega | exact Nat.le_refl _⟩, ⟨by (with_reducible repeat (first | refine blk_drewN ?_ _ | refine blk_drew ?_ | refine blk_alloc ?_ _)); exact BK166.out⟩, ⟨by repeat (first | (with_reducible first | exact HB.out | apply below_alloc | apply pw_below_drewN | apply below_drew1 | refine below_set ?_ GE166.out) | exact HB.out)⟩⟩
        case rest =>
          clear HC5
          try clear c1
          try clear p2
          try clear c4
          try clear c4b0
          try clear p6
          try clear c7
          try clear c7b0
          try clear c7b1
          try clear hcz10_0
          try clear hcz10_1
          try clear hcz10_2
          try clear hcz11_0
          try clear hcz11_1
          try clear hcz11_2
          try clear hcz3_0
          try clear hcz3_1
          try clear hcz3_2
          try clear hcz8_0
          try clear hcz8_1
          try clear hcz8_2
          try clear hfz10_0
          try clear hfz10_1
          try clear hfz10_2
          try clear hfz11_0
          try clear hfz11_1
          try clear hfz11_2
          try clear hfz3_0
          try clear hfz3_1
          try clear hfz3_2
          try clear hfz8_0
          try clear hfz8_1
          try clear hfz8_2
          try clear p2
          obtain ⟨kq, x32_4, rfl, HA, HJ4, BK166, HB⟩ := hcut
          cases kq with
          | zero => exact absurd HA.out (by simp [credenzalaw16_CountTries.j1])
          | succ kj4 =>
            have H := HA.out
            clear HA
            simp only [credenzalaw16_CountTries.j1] at H
            by_cases c13 : x32_4 = true
            · subst c13
              have H1 : (some false) = some r := by rw [if_pos rfl] at H; exact H
              clear H
              have H := H1
              clear H1
              obtain rfl := Option.some.inj H
              go_wp2
              go_ret
              exact ⟨by first | rfl | (simp [errW_none, errW_some] <;> rfl) | (simp [*, errW_none, errW_some] <;> rfl), by repeat (first | (with_reducible first | exact HB.out | apply below_alloc | apply pw_below_drewN | apply below_drew1 | refine below_set ?_ GE166.out) | exact HB.out)⟩
            · replace c13 := Bool.eq_false_iff.mpr c13
              subst c13
              have H1 : ((count_Join.f (⟨#[120]⟩ : ByteArray) x167000_1 x167001_1 x167002_1).bind fun t168 => ((count_Split.f kj4 t168).bind fun bt169 => (if bt169.2.2.2.2 = true then (if bt169.1.toList = ([120] : List UInt8) then (credenzalaw16_CountTries.j2 kj4 (wrap64 ((Int.tmod (Go.bits .and .i64 a0 255) 99) + 1)) x4_1 (!(bt169.2.1 == x167000_1) || (!(bt169.2.2.1 == x167001_1) || (!(bt169.2.2.2.1 == x167002_1)))) x167000_1 x167001_1 x167002_1) else (credenzalaw16_CountTries.j2 kj4 (wrap64 ((Int.tmod (Go.bits .and .i64 a0 255) 99) + 1)) x4_1 true x167000_1 x167001_1 x167002_1)) else (credenzalaw16_CountTries.j2 kj4 (wrap64 ((Int.tmod (Go.bits .and .i64 a0 255) 99) + 1)) x4_1 true x167000_1 x167001_1 x167002_1)))) = some r := by rw [if_neg (show ¬ (false = true) by decide)] at H; exact H
              clear H
              have H := H1
              clear H1
              replace H := Option.bind_eq_some_iff.mp H
              obtain ⟨t168, A140, H⟩ := H
              replace H : ((count_Split.f kj4 t168).bind fun bt169 => (if bt169.2.2.2.2 = true then (if bt169.1.toList = ([120] : List UInt8) then (credenzalaw16_CountTries.j2 kj4 (wrap64 ((Int.tmod (Go.bits .and .i64 a0 255) 99) + 1)) x4_1 (!(bt169.2.1 == x167000_1) || (!(bt169.2.2.1 == x167001_1) || (!(bt169.2.2.2.1 == x167002_1)))) x167000_1 x167001_1 x167002_1) else (credenzalaw16_CountTries.j2 kj4 (wrap64 ((Int.tmod (Go.bits .and .i64 a0 255) 99) + 1)) x4_1 true x167000_1 x167001_1 x167002_1)) else (credenzalaw16_CountTries.j2 kj4 (wrap64 ((Int.tmod (Go.bits .and .i64 a0 255) 99) + 1)) x4_1 true x167000_1 x167001_1 x167002_1))) = some r := H
              have A14 := Aside0.mk A140
              clear A140
              replace H := Option.bind_eq_some_iff.mp H
              obtain ⟨⟨t169, t170, t171, t172, t173⟩, A150, H⟩ := H
              replace H : (if t173 = true then (if t169.toList = ([120] : List UInt8) then (credenzalaw16_CountTries.j2 kj4 (wrap64 ((Int.tmod (Go.bits .and .i64 a0 255) 99) + 1)) x4_1 (!(t170 == x167000_1) || (!(t171 == x167001_1) || (!(t172 == x167002_1)))) x167000_1 x167001_1 x167002_1) else (credenzalaw16_CountTries.j2 kj4 (wrap64 ((Int.tmod (Go.bits .and .i64 a0 255) 99) + 1)) x4_1 true x167000_1 x167001_1 x167002_1)) else (credenzalaw16_CountTries.j2 kj4 (wrap64 ((Int.tmod (Go.bits .and .i64 a0 255) 99) + 1)) x4_1 true x167000_1 x167001_1 x167002_1)) = some r := H
              have A15 := Aside0.mk A150
              clear A150
              have HC16 := Aside0.mk H
              clear H
              have hcz17_0 : wc.cell? ⟨gb166, 0, none⟩ = some (.bool x167000_1) := (blk_cell BK166.out 0).trans rfl
              have hcz17_1 : wc.cell? ⟨gb166, 1, none⟩ = some (.int .i64 x167001_1) := (blk_cell BK166.out 1).trans rfl
              have hcz17_2 : wc.cell? ⟨gb166, 2, none⟩ = some (.int .i64 x167002_1) := (blk_cell BK166.out 2).trans rfl
              have hfz17_0 := blk_frozen BK166.out 0
              have hfz17_1 := blk_frozen BK166.out 1
              have hfz17_2 := blk_frozen BK166.out 2
              go_upto_region 9 with (first | ((with_reducible refine gate_callee (f := 12) rfl ?_); refine goesL_ (some 35) rfl rfl Tryd.func12 (by kernel_rfl) rfl #[.string (⟨#[120]⟩ : ByteArray), .agg #[.bool x167000_1, .int .i64 x167001_1, .int .i64 x167002_1]] rfl (by (try simp only [List.map_toArray, List.map_cons, List.map_nil]); first | done | rfl | (simp only [List.length_drop, List.length_take]; rfl)) ?_; (with_reducible refine (count_Join.calls (⟨#[120]⟩ : ByteArray) x167000_1 x167001_1 x167002_1 t168 _ ?side1 A14.out).mono ?_); (case side1 => exact Cb.GW_below HG.out (by repeat (first | (with_reducible first | exact HB.out | apply below_alloc | apply pw_below_drewN | apply below_drew1 | refine below_set ?_ GE166.out) | exact HB.out))); rintro e w18 ⟨rfl, hb⟩; refine ⟨_, rfl, ?_⟩; have n0_ := Aside0.mk (blk_below (g := gb166) (o := .cells #[.bool x167000_1, .int .i64 x167001_1, .int .i64 x167002_1] 24 (0, 0)) (by (with_reducible repeat (first | refine blk_drewN ?_ _ | refine blk_drew ?_ | refine blk_alloc ?_ _)); exact BK166.out) hb); have n1_ := Aside0.mk (below_step (by repeat (first | (with_reducible first | exact HB.out | apply below_alloc | apply pw_below_drewN | apply below_drew1 | refine below_set ?_ GE166.out) | exact HB.out)) hb); clear BK166; clear HB; have BK166 := n0_; have HB := n1_; clear n0_ n1_; (try clear hb); (try clear hb2); (try clear hk); (try clear hi)) | ((with_reducible refine gate_callee (f := 11) rfl ?_); refine goesL_ (some 36) rfl rfl Tryd.func11 (by kernel_rfl) rfl #[.string t168] rfl (by (try simp only [List.map_toArray, List.map_cons, List.map_nil]); first | done | rfl | (simp only [List.length_drop, List.length_take]; rfl)) ?_; (with_reducible refine (count_Split.calls kj4 t168 t169 t170 t171 t172 t173 _ A15.out).mono ?_); rintro e w19 ⟨rfl, hb⟩; refine ⟨_, rfl, ?_⟩; have n0_ := Aside0.mk (blk_below (g := gb166) (o := .cells #[.bool x167000_1, .int .i64 x167001_1, .int .i64 x167002_1] 24 (0, 0)) (by (with_reducible repeat (first | refine blk_drewN ?_ _ | refine blk_drew ?_ | refine blk_alloc ?_ _)); exact BK166.out) hb); have n1_ := Aside0.mk (below_step (by repeat (first | (with_reducible first | exact HB.out | apply below_alloc | apply pw_below_drewN | apply below_drew1 | refine below_set ?_ GE166.out) | exact HB.out)) hb); clear BK166; clear HB; have BK166 := n0_; have HB := n1_; clear n0_ n1_; (try clear hb); (try clear hb2); (try clear hk); (try clear hi)) | ((with_reducible refine gate_dst (N := 6) rfl ?_); refine box_event ?hg (N := 6) ?hd (cs := #[.bool false, .int .i64 0, .int .i64 0]) (t := 24) ?hr ?_; (case hd => rfl); (case hg => rfl); (case hr => first | (go_simp; done) | (go_simp; rfl)); intro gb174 hg w20 hbox hb; have n0_ := Aside0.mk (blk_below (g := gb166) (o := .cells #[.bool x167000_1, .int .i64 x167001_1, .int .i64 x167002_1] 24 (0, 0)) (by (with_reducible repeat (first | refine blk_drewN ?_ _ | refine blk_drew ?_ | refine blk_alloc ?_ _)); exact BK166.out) hb); have n1_ := Aside0.mk (below_step (by repeat (first | (with_reducible first | exact HB.out | apply below_alloc | apply pw_below_drewN | apply below_drew1 | refine below_set ?_ GE166.out) | exact HB.out)) hb); have n2_ := Aside0.mk (hbox); have n3_ := Aside0.mk ((by rw [hg]; exact (below_size (by repeat (first | (with_reducible first | exact HB.out | apply below_alloc | apply pw_below_drewN | apply below_drew1 | refine below_set ?_ GE166.out) | exact HB.out))) : w.heap.size ≤ gb174)); have n4_ := Aside0.mk ((by rw [hg]; exact (below_size (by repeat (first | (with_reducible first | exact HB.out | apply below_alloc | apply pw_below_drewN | apply below_drew1 | refine below_set ?_ GE166.out) | exact HB.out))) : w.heap.size ≤ gb174)); have n5_ := Aside0.mk ((by rw [hg]; exact Nat.ne_of_lt (blk_lt (g := gb166) (o := .cells #[.bool x167000_1, .int .i64 x167001_1, .int .i64 x167002_1] 24 (0, 0)) (by (with_reducible repeat (first | refine blk_drewN ?_ _ | refine blk_drew ?_ | refine blk_alloc ?_ _)); exact BK166.out)) : gb166 ≠ gb174)); have n6_ := Aside0.mk ((by rw [hg]; exact Nat.ne_of_gt (blk_lt (g := gb166) (o := .cells #[.bool x167000_1, .int .i64 x167001_1, .int .i64 x167002_1] 24 (0, 0)) (by (with_reducible repeat (first | refine blk_drewN ?_ _ | refine blk_drew ?_ | refine blk_alloc ?_ _)); exact BK166.out)) : gb174 ≠ gb166)); clear BK166; clear HB; have BK166 := n0_; have HB := n1_; have BK174 := n2_; have GW174 := n3_; have GE174 := n4_; have NB166_174 := n5_; have NB174_166 := n6_; clear n0_ n1_ n2_ n3_ n4_ n5_ n6_; clear hb hbox hg; have hnb21 := NB174_166.out; have hnc21 := NB166_174.out; have hcz22_0 : w20.cell? ⟨gb174, 0, none⟩ = some (.bool false) := (blk_cell BK174.out 0).trans rfl; have hcz22_1 : w20.cell? ⟨gb174, 1, none⟩ = some (.int .i64 0) := (blk_cell BK174.out 1).trans rfl; have hcz22_2 : w20.cell? ⟨gb174, 2, none⟩ = some (.int .i64 0) := (blk_cell BK174.out 2).trans rfl; have hfz22_0 := blk_frozen BK174.out 0; have hfz22_1 := blk_frozen BK174.out 1; have hfz22_2 := blk_frozen BK174.out 2))
              (try simp only [Act.put, List.setIfInBounds_toArray, List.set_cons_zero, List.set_cons_succ])
              go_cut [50] (fun v50 wc => ∃ (kq : Nat) (x50_15 : Bool), v50 = .bool x50_15 ∧ Aside0 (credenzalaw16_CountTries.j2 kq (wrap64 ((Int.tmod (Go.bits .and .i64 a0 255) 99) + 1)) x4_1 x50_15 x167000_1 x167001_1 x167002_1 = some r) ∧ Aside0 (kq ≤ kj4) ∧ Aside0 (wc.heap[gb166]? = some (.cells #[.bool x167000_1, .int .i64 x167001_1, .int .i64 x167002_1] 24 (0, 0))) ∧ Aside0 (wc.heap[gb174]? = some (.cells #[.bool t170, .int .i64 t171, .int .i64 t172] 24 (0, 0))) ∧ Aside0 (Below w.heap.size w wc))
              case first =>
                have H := HC16.out
                clear HC16
                by_cases c23 : t173 = true
                · subst c23
                  have H1 : (if t169.toList = ([120] : List UInt8) then (credenzalaw16_CountTries.j2 kj4 (wrap64 ((Int.tmod (Go.bits .and .i64 a0 255) 99) + 1)) x4_1 (!(t170 == x167000_1) || (!(t171 == x167001_1) || (!(t172 == x167002_1)))) x167000_1 x167001_1 x167002_1) else (credenzalaw16_CountTries.j2 kj4 (wrap64 ((Int.tmod (Go.bits .and .i64 a0 255) 99) + 1)) x4_1 true x167000_1 x167001_1 x167002_1)) = some r := by rw [if_pos rfl] at H; exact H
                  clear H
                  have H := H1
                  clear H1
                  by_cases c24 : t169.toList = ([120] : List UInt8)
                  · rw [if_pos c24] at H
                    have c24b0 : (t169.toList == ([120] : List UInt8)) = true := beq_iff_eq.mpr c24
                    have c24b1 : (t169.toList != ([120] : List UInt8)) = false := bne_eq_false_iff_eq.mpr c24
                    clear c24
                    (first | rw [c24b0] | (simp only [i64_w, i32_w]; rw [c24b0]) | skip)
                    have H' := Aside0.mk H
                    clear H
                    have hnb25 := NB174_166.out
                    have hnc25 := NB166_174.out
                    have hcz26_0 : w20.cell? ⟨gb174, 0, none⟩ = some (.bool false) := (blk_cell BK174.out 0).trans rfl
                    have hcz26_1 : w20.cell? ⟨gb174, 1, none⟩ = some (.int .i64 0) := (blk_cell BK174.out 1).trans rfl
                    have hcz26_2 : w20.cell? ⟨gb174, 2, none⟩ = some (.int .i64 0) := (blk_cell BK174.out 2).trans rfl
                    have hfz26_0 := blk_frozen BK174.out 0
                    have hfz26_1 := blk_frozen BK174.out 1
                    have hfz26_2 := blk_frozen BK174.out 2
                    have hcz27_0 : w20.cell? ⟨gb166, 0, none⟩ = some (.bool x167000_1) := (blk_cell BK166.out 0).trans rfl
                    have hcz27_1 : w20.cell? ⟨gb166, 1, none⟩ = some (.int .i64 x167001_1) := (blk_cell BK166.out 1).trans rfl
                    have hcz27_2 : w20.cell? ⟨gb166, 2, none⟩ = some (.int .i64 x167002_1) := (blk_cell BK166.out 2).trans rfl
                    have hfz27_0 := blk_frozen BK166.out 0
                    have hfz27_1 := blk_frozen BK166.out 1
                    have hfz27_2 := blk_frozen BK166.out 2
                    go_wp2
                    go_meet
                    case rel => exact ⟨_, ((!(t170 == x167000_1) || (!(t171 == x167001_1) || (!(t172 == x167002_1))))), (by first | rfl | (simp; done) | (simp [*]; done)), H', ⟨by have := HK1.out; have := HJ4.out; first | omega | exact Nat.le_refl _⟩, ⟨by (with_reducible repeat (first | refine blk_drewN ?_ _ | refine blk_drew ?_ | refine blk_alloc ?_ _)); refine blk_far ?_ NB166_174.out _; (with_reducible repeat (first | refine blk_drewN ?_ _ | refine blk_drew ?_ | refine blk_alloc ?_ _)); refine blk_far ?_ NB166_174.out _; (with_reducible repeat (first | refine blk_drewN ?_ _ | refine blk_drew ?_ | refine blk_alloc ?_ _)); refine blk_far ?_ NB166_174.out _; (with_reducible repeat (first | refine blk_drewN ?_ _ | refine blk_drew ?_ | refine blk_alloc ?_ _)); exact BK166.out⟩, ⟨by (with_reducible repeat (first | refine blk_drewN ?_ _ | refine blk_drew ?_ | refine blk_alloc ?_ _)); refine blk_put (cs := #[.bool t170, .int .i64 t171, .int .i64 0]) ?_ 2 _ rfl; (with_reducible repeat (first | refine blk_drewN ?_ _ | refine blk_drew ?_ | refine blk_alloc ?_ _)); refine blk_put (cs := #[.bool t170, .int .i64 0, .int .i64 0]) ?_ 1 _ rfl; (with_reducible repeat (first | refine blk_drewN ?_ _ | refine blk_drew ?_ | refine blk_alloc ?_ _)); refine blk_put (cs := #[.bool false, .int .i64 0, .int .i64 0]) ?_ 0 _ rfl; (with_reducible repeat (first | refine blk_drewN ?_ _ | refine blk_drew ?_ | refine blk_alloc ?_ _)); exact BK174.out⟩, ⟨by repeat (first | (with_reducible first | exact HB.out | apply below_alloc | apply pw_below_drewN | apply below_drew1 | refine below_set ?_ GE166.out | refine below_set ?_ GE174.out) | exact HB.out)⟩⟩
                  · rw [if_neg c24] at H
                    have c24b0 : (t169.toList == ([120] : List UInt8)) = false := beq_eq_false_iff_ne.mpr c24
                    have c24b1 : (t169.toList != ([120] : List UInt8)) = true := bne_iff_ne.mpr c24
                    (first | rw [c24b0] | (simp only [i64_w, i32_w]; rw [c24b0]) | skip)
                    have H' := Aside0.mk H
                    clear H
                    go_wp2
                    go_meet
                    case rel => exact ⟨_, (true), (by first | rfl | (simp; done) | (simp [*]; done)), H', ⟨by have := HK1.out; have := HJ4.out; first | omega | exact Nat.le_refl _⟩, ⟨by (with_reducible repeat (first | refine blk_drewN ?_ _ | refine blk_drew ?_ | refine blk_alloc ?_ _)); refine blk_far ?_ NB166_174.out _; (with_reducible repeat (first | refine blk_drewN ?_ _ | refine blk_drew ?_ | refine blk_alloc ?_ _)); refine blk_far ?_ NB166_174.out _; (with_reducible repeat (first | refine blk_drewN ?_ _ | refine blk_drew ?_ | refine blk_alloc ?_ _)); refine blk_far ?_ NB166_174.out _; (with_reducible repeat (first | refine blk_drewN ?_ _ | refine blk_drew ?_ | refine blk_alloc ?_ _)); exact BK166.out⟩, ⟨by (with_reducible repeat (first | refine blk_drewN ?_ _ | refine blk_drew ?_ | refine blk_alloc ?_ _)); refine blk_put (cs := #[.bool t170, .int .i64 t171, .int .i64 0]) ?_ 2 _ rfl; (with_reducible repeat (first | refine blk_drewN ?_ _ | refine blk_drew ?_ | refine blk_alloc ?_ _)); refine blk_put (cs := #[.bool t170, .int .i64 0, .int .i64 0]) ?_ 1 _ rfl; (with_reducible repeat (first | refine blk_drewN ?_ _ | refine blk_drew ?_ | refine blk_alloc ?_ _)); refine blk_put (cs := #[.bool false, .int .i64 0, .int .i64 0]) ?_ 0 _ rfl; (with_reducible repeat (first | refine blk_drewN ?_ _ | refine blk_drew ?_ | refine blk_alloc ?_ _)); exact BK174.out⟩, ⟨by repeat (first | (with_reducible first | exact HB.out | apply below_alloc | apply pw_below_drewN | apply below_drew1 | refine below_set ?_ GE166.out | refine below_set ?_ GE174.out) | exact HB.out)⟩⟩
                · replace c23 := Bool.eq_false_iff.mpr c23
                  subst c23
                  have H1 : (credenzalaw16_CountTries.j2 kj4 (wrap64 ((Int.tmod (Go.bits .and .i64 a0 255) 99) + 1)) x4_1 true x167000_1 x167001_1 x167002_1) = some r := by rw [if_neg (show ¬ (false = true) by decide)] at H; exact H
                  clear H
                  have H := H1
                  clear H1
                  have H' := Aside0.mk H
                  clear H
                  go_wp2
                  go_meet
                  case rel => exact ⟨_, (true), (by first | rfl | (simp; done) | (simp [*]; done)), H', ⟨by have := HK1.out; have := HJ4.out; first | omega | exact Nat.le_refl _⟩, ⟨by (with_reducible repeat (first | refine blk_drewN ?_ _ | refine blk_drew ?_ | refine blk_alloc ?_ _)); refine blk_far ?_ NB166_174.out _; (with_reducible repeat (first | refine blk_drewN ?_ _ | refine blk_drew ?_ | refine blk_alloc ?_ _)); refine blk_far ?_ NB166_174.out _; (with_reducible repeat (first | refine blk_drewN ?_ _ | refine blk_drew ?_ | refine blk_alloc ?_ _)); refine blk_far ?_ NB166_174.out _; (with_reducible repeat (first | refine blk_drewN ?_ _ | refine blk_drew ?_ | refine blk_alloc ?_ _)); exact BK166.out⟩, ⟨by (with_reducible repeat (first | refine blk_drewN ?_ _ | refine blk_drew ?_ | refine blk_alloc ?_ _)); refine blk_put (cs := #[.bool t170, .int .i64 t171, .int .i64 0]) ?_ 2 _ rfl; (with_reducible repeat (first | refine blk_drewN ?_ _ | refine blk_drew ?_ | refine blk_alloc ?_ _)); refine blk_put (cs := #[.bool t170, .int .i64 0, .int .i64 0]) ?_ 1 _ rfl; (with_reducible repeat (first | refine blk_drewN ?_ _ | refine blk_drew ?_ | refine blk_alloc ?_ _)); refine blk_put (cs := #[.bool false, .int .i64 0, .int .i64 0]) ?_ 0 _ rfl; (with_reducible repeat (first | refine blk_drewN ?_ _ | refine blk_drew ?_ | refine blk_alloc ?_ _)); exact BK174.out⟩, ⟨by repeat (first | (with_reducible first | exact HB.out | apply below_alloc | apply pw_below_drewN | apply below_drew1 | refine below_set ?_ GE166.out | refine below_set ?_ GE174.out) | exact HB.out)⟩⟩
              case rest =>
                clear HC16
                try clear c1
                try clear c2
                try clear p2
                try clear c4
                try clear c4b0
                try clear p6
                try clear c7
                try clear c7b0
                try clear c7b1
                try clear c11
                try clear c12
                try clear c13
                try clear c16
                try clear c21
                try clear c23
                try clear c24
                try clear c24b0
                try clear c24b1
                try clear c25
                try clear hcz10_0
                try clear hcz10_1
                try clear hcz10_2
                try clear hcz11_0
                try clear hcz11_1
                try clear hcz11_2
                try clear hcz17_0
                try clear hcz17_1
                try clear hcz17_2
                try clear hcz22_0
                try clear hcz22_1
                try clear hcz22_2
                try clear hcz26_0
                try clear hcz26_1
                try clear hcz26_2
                try clear hcz27_0
                try clear hcz27_1
                try clear hcz27_2
                try clear hcz3_0
                try clear hcz3_1
                try clear hcz3_2
                try clear hcz8_0
                try clear hcz8_1
                try clear hcz8_2
                try clear hfz10_0
                try clear hfz10_1
                try clear hfz10_2
                try clear hfz11_0
                try clear hfz11_1
                try clear hfz11_2
                try clear hfz17_0
                try clear hfz17_1
                try clear hfz17_2
                try clear hfz22_0
                try clear hfz22_1
                try clear hfz22_2
                try clear hfz26_0
                try clear hfz26_1
                try clear hfz26_2
                try clear hfz27_0
                try clear hfz27_1
                try clear hfz27_2
                try clear hfz3_0
                try clear hfz3_1
                try clear hfz3_2
                try clear hfz8_0
                try clear hfz8_1
                try clear hfz8_2
                try clear p2
                try clear p6
                obtain ⟨kq, x50_15, rfl, HA, HJ15, BK166, BK174, HB⟩ := hcut
                cases kq with
                | zero => exact absurd HA.out (by simp [credenzalaw16_CountTries.j2])
                | succ kj15 =>
                  have H := HA.out
                  clear HA
                  simp only [credenzalaw16_CountTries.j2] at H
                  by_cases c28 : x50_15 = true
                  · subst c28
                    have H1 : (some false) = some r := by rw [if_pos rfl] at H; exact H
                    clear H
                    have H := H1
                    clear H1
                    obtain rfl := Option.some.inj H
                    go_wp2
                    go_ret
                    exact ⟨by first | rfl | (simp [errW_none, errW_some] <;> rfl) | (simp [*, errW_none, errW_some] <;> rfl), by repeat (first | (with_reducible first | exact HB.out | apply below_alloc | apply pw_below_drewN | apply below_drew1 | refine below_set ?_ GE166.out | refine below_set ?_ GE174.out) | exact HB.out)⟩
                  · replace c28 := Bool.eq_false_iff.mpr c28
                    subst c28
                    have H1 : ((count_Spend.f x167000_1 x167001_1 x167002_1).bind fun bt175 => (if bt175.2.2.2 = true then (if bt175.2.2.1 = (wrap64 (x4_1 + 1)) then (credenzalaw16_CountTries.l0 kj15 (wrap64 ((Int.tmod (Go.bits .and .i64 a0 255) 99) + 1)) (wrap64 (x4_1 + 1)) bt175.1 bt175.2.1 bt175.2.2.1) else (some false)) else (some false))) = some r := by rw [if_neg (show ¬ (false = true) by decide)] at H; exact H
                    clear H
                    have H := H1
                    clear H1
                    replace H := Option.bind_eq_some_iff.mp H
                    obtain ⟨⟨t175, t176, t177, t178⟩, A290, H⟩ := H
                    replace H : (if t178 = true then (if t177 = (wrap64 (x4_1 + 1)) then (credenzalaw16_CountTries.l0 kj15 (wrap64 ((Int.tmod (Go.bits .and .i64 a0 255) 99) + 1)) (wrap64 (x4_1 + 1)) t175 t176 t177) else (some false)) else (some false)) = some r := H
                    have A29 := Aside0.mk A290
                    clear A290
                    by_cases c30 : t178 = true
                    · subst c30
                      have H1 : (if t177 = (wrap64 (x4_1 + 1)) then (credenzalaw16_CountTries.l0 kj15 (wrap64 ((Int.tmod (Go.bits .and .i64 a0 255) 99) + 1)) (wrap64 (x4_1 + 1)) t175 t176 t177) else (some false)) = some r := by rw [if_pos rfl] at H; exact H
                      clear H
                      have H := H1
                      clear H1
                      by_cases c31 : t177 = (wrap64 (x4_1 + 1))
                      · rw [if_pos c31] at H
                        have c31b0 : (t177 == (wrap64 (x4_1 + 1))) = true := beq_iff_eq.mpr c31
                        have c31b1 : (t177 != (wrap64 (x4_1 + 1))) = false := bne_eq_false_iff_eq.mpr c31
                        clear c31
                        have H' := Aside0.mk H
                        clear H
                        have hnb32 := NB166_174.out
                        have hnc32 := NB174_166.out
                        have hcz33_0 : wc.cell? ⟨gb166, 0, none⟩ = some (.bool x167000_1) := (blk_cell BK166.out 0).trans rfl
                        have hcz33_1 : wc.cell? ⟨gb166, 1, none⟩ = some (.int .i64 x167001_1) := (blk_cell BK166.out 1).trans rfl
                        have hcz33_2 : wc.cell? ⟨gb166, 2, none⟩ = some (.int .i64 x167002_1) := (blk_cell BK166.out 2).trans rfl
                        have hfz33_0 := blk_frozen BK166.out 0
                        have hfz33_1 := blk_frozen BK166.out 1
                        have hfz33_2 := blk_frozen BK166.out 2
                        go_wp2_with (first | ((with_reducible refine gate_callee (f := 17) rfl ?_); refine goesL_ (some 53) rfl rfl Tryd.func17 (by kernel_rfl) rfl #[.agg #[.bool x167000_1, .int .i64 x167001_1, .int .i64 x167002_1]] rfl (by (try simp only [List.map_toArray, List.map_cons, List.map_nil]); first | done | rfl | (simp only [List.length_drop, List.length_take]; rfl)) ?_; (with_reducible refine (count_Spend.calls x167000_1 x167001_1 x167002_1 t175 t176 t177 true _ A29.out).mono ?_); rintro e w34 ⟨rfl, hb⟩; refine ⟨_, rfl, ?_⟩; have n0_ := Aside0.mk (blk_below (g := gb166) (o := .cells #[.bool x167000_1, .int .i64 x167001_1, .int .i64 x167002_1] 24 (0, 0)) (by (with_reducible repeat (first | refine blk_drewN ?_ _ | refine blk_drew ?_ | refine blk_alloc ?_ _)); exact BK166.out) hb); have n1_ := Aside0.mk (blk_below (g := gb174) (o := .cells #[.bool t170, .int .i64 t171, .int .i64 t172] 24 (0, 0)) (by (with_reducible repeat (first | refine blk_drewN ?_ _ | refine blk_drew ?_ | refine blk_alloc ?_ _)); exact BK174.out) hb); have n2_ := Aside0.mk (below_step (by repeat (first | (with_reducible first | exact HB.out | apply below_alloc | apply pw_below_drewN | apply below_drew1 | refine below_set ?_ GE166.out | refine below_set ?_ GE174.out) | exact HB.out)) hb); clear BK166; clear BK174; clear HB; have BK166 := n0_; have BK174 := n1_; have HB := n2_; clear n0_ n1_ n2_; (try clear hb); (try clear hb2); (try clear hk); (try clear hi); have hcz35_0 : w34.cell? ⟨gb166, 0, none⟩ = some (.bool x167000_1) := (blk_cell BK166.out 0).trans rfl; have hcz35_1 : w34.cell? ⟨gb166, 1, none⟩ = some (.int .i64 x167001_1) := (blk_cell BK166.out 1).trans rfl; have hcz35_2 : w34.cell? ⟨gb166, 2, none⟩ = some (.int .i64 x167002_1) := (blk_cell BK166.out 2).trans rfl; have hfz35_0 := blk_frozen BK166.out 0; have hfz35_1 := blk_frozen BK166.out 1; have hfz35_2 := blk_frozen BK166.out 2))
                        go_roundg kj15
                        case measure => have := HK1.out; have := HJ4.out; have := HJ15.out; omega
                        case rel => exact ⟨(wrap64 (x4_1 + 1)), (t175), (t176), (t177), (by first | rfl | (simp; done) | (simp [*]; done)), H', ⟨by have := HK1.out; have := HJ4.out; have := HJ15.out; omega⟩, ⟨by (with_reducible repeat (first | refine blk_drewN ?_ _ | refine blk_drew ?_ | refine blk_alloc ?_ _)); refine blk_put (cs := #[.bool t175, .int .i64 t176, .int .i64 x167002_1]) ?_ 2 _ rfl; (with_reducible repeat (first | refine blk_drewN ?_ _ | refine blk_drew ?_ | refine blk_alloc ?_ _)); refine blk_put (cs := #[.bool t175, .int .i64 x167001_1, .int .i64 x167002_1]) ?_ 1 _ rfl; (with_reducible repeat (first | refine blk_drewN ?_ _ | refine blk_drew ?_ | refine blk_alloc ?_ _)); refine blk_put (cs := #[.bool x167000_1, .int .i64 x167001_1, .int .i64 x167002_1]) ?_ 0 _ rfl; (with_reducible repeat (first | refine blk_drewN ?_ _ | refine blk_drew ?_ | refine blk_alloc ?_ _)); exact BK166.out⟩, ⟨by repeat (first | (with_reducible first | exact HB.out | apply below_alloc | apply pw_below_drewN | apply below_drew1 | refine below_set ?_ GE166.out | refine below_set ?_ GE174.out) | exact HB.out)⟩⟩
                      · rw [if_neg c31] at H
                        have c31b0 : (t177 == (wrap64 (x4_1 + 1))) = false := beq_eq_false_iff_ne.mpr c31
                        have c31b1 : (t177 != (wrap64 (x4_1 + 1))) = true := bne_iff_ne.mpr c31
                        obtain rfl := Option.some.inj H
                        have hnb36 := NB166_174.out
                        have hnc36 := NB174_166.out
                        have hcz37_0 : wc.cell? ⟨gb166, 0, none⟩ = some (.bool x167000_1) := (blk_cell BK166.out 0).trans rfl
                        have hcz37_1 : wc.cell? ⟨gb166, 1, none⟩ = some (.int .i64 x167001_1) := (blk_cell BK166.out 1).trans rfl
                        have hcz37_2 : wc.cell? ⟨gb166, 2, none⟩ = some (.int .i64 x167002_1) := (blk_cell BK166.out 2).trans rfl
                        have hfz37_0 := blk_frozen BK166.out 0
                        have hfz37_1 := blk_frozen BK166.out 1
                        have hfz37_2 := blk_frozen BK166.out 2
                        go_wp2_with (first | ((with_reducible refine gate_callee (f := 17) rfl ?_); refine goesL_ (some 53) rfl rfl Tryd.func17 (by kernel_rfl) rfl #[.agg #[.bool x167000_1, .int .i64 x167001_1, .int .i64 x167002_1]] rfl (by (try simp only [List.map_toArray, List.map_cons, List.map_nil]); first | done | rfl | (simp only [List.length_drop, List.length_take]; rfl)) ?_; (with_reducible refine (count_Spend.calls x167000_1 x167001_1 x167002_1 t175 t176 t177 true _ A29.out).mono ?_); rintro e w38 ⟨rfl, hb⟩; refine ⟨_, rfl, ?_⟩; have n0_ := Aside0.mk (blk_below (g := gb166) (o := .cells #[.bool x167000_1, .int .i64 x167001_1, .int .i64 x167002_1] 24 (0, 0)) (by (with_reducible repeat (first | refine blk_drewN ?_ _ | refine blk_drew ?_ | refine blk_alloc ?_ _)); exact BK166.out) hb); have n1_ := Aside0.mk (blk_below (g := gb174) (o := .cells #[.bool t170, .int .i64 t171, .int .i64 t172] 24 (0, 0)) (by (with_reducible repeat (first | refine blk_drewN ?_ _ | refine blk_drew ?_ | refine blk_alloc ?_ _)); exact BK174.out) hb); have n2_ := Aside0.mk (below_step (by repeat (first | (with_reducible first | exact HB.out | apply below_alloc | apply pw_below_drewN | apply below_drew1 | refine below_set ?_ GE166.out | refine below_set ?_ GE174.out) | exact HB.out)) hb); clear BK166; clear BK174; clear HB; have BK166 := n0_; have BK174 := n1_; have HB := n2_; clear n0_ n1_ n2_; (try clear hb); (try clear hb2); (try clear hk); (try clear hi); have hcz39_0 : w38.cell? ⟨gb166, 0, none⟩ = some (.bool x167000_1) := (blk_cell BK166.out 0).trans rfl; have hcz39_1 : w38.cell? ⟨gb166, 1, none⟩ = some (.int .i64 x167001_1) := (blk_cell BK166.out 1).trans rfl; have hcz39_2 : w38.cell? ⟨gb166, 2, none⟩ = some (.int .i64 x167002_1) := (blk_cell BK166.out 2).trans rfl; have hfz39_0 := blk_frozen BK166.out 0; have hfz39_1 := blk_frozen BK166.out 1; have hfz39_2 := blk_frozen BK166.out 2))
                        go_ret
                        exact ⟨by first | rfl | (simp [errW_none, errW_some] <;> rfl) | (simp [*, errW_none, errW_some] <;> rfl), by repeat (first | (with_reducible first | exact HB.out | apply below_alloc | apply pw_below_drewN | apply below_drew1 | refine below_set ?_ GE166.out | refine below_set ?_ GE174.out) | exact HB.out)⟩
                    · replace c30 := Bool.eq_false_iff.mpr c30
                      subst c30
                      have H1 : (some false) = some r := by rw [if_neg (show ¬ (false = true) by decide)] at H; exact H
                      clear H
                      have H := H1
                      clear H1
                      obtain rfl := Option.some.inj H
                      have hnb40 := NB166_174.out
                      have hnc40 := NB174_166.out
                      have hcz41_0 : wc.cell? ⟨gb166, 0, none⟩ = some (.bool x167000_1) := (blk_cell BK166.out 0).trans rfl
                      have hcz41_1 : wc.cell? ⟨gb166, 1, none⟩ = some (.int .i64 x167001_1) := (blk_cell BK166.out 1).trans rfl
                      have hcz41_2 : wc.cell? ⟨gb166, 2, none⟩ = some (.int .i64 x167002_1) := (blk_cell BK166.out 2).trans rfl
                      have hfz41_0 := blk_frozen BK166.out 0
                      have hfz41_1 := blk_frozen BK166.out 1
                      have hfz41_2 := blk_frozen BK166.out 2
                      go_wp2_with (first | ((with_reducible refine gate_callee (f := 17) rfl ?_); refine goesL_ (some 53) rfl rfl Tryd.func17 (by kernel_rfl) rfl #[.agg #[.bool x167000_1, .int .i64 x167001_1, .int .i64 x167002_1]] rfl (by (try simp only [List.map_toArray, List.map_cons, List.map_nil]); first | done | rfl | (simp only [List.length_drop, List.length_take]; rfl)) ?_; (with_reducible refine (count_Spend.calls x167000_1 x167001_1 x167002_1 t175 t176 t177 false _ A29.out).mono ?_); rintro e w42 ⟨rfl, hb⟩; refine ⟨_, rfl, ?_⟩; have n0_ := Aside0.mk (blk_below (g := gb166) (o := .cells #[.bool x167000_1, .int .i64 x167001_1, .int .i64 x167002_1] 24 (0, 0)) (by (with_reducible repeat (first | refine blk_drewN ?_ _ | refine blk_drew ?_ | refine blk_alloc ?_ _)); exact BK166.out) hb); have n1_ := Aside0.mk (blk_below (g := gb174) (o := .cells #[.bool t170, .int .i64 t171, .int .i64 t172] 24 (0, 0)) (by (with_reducible repeat (first | refine blk_drewN ?_ _ | refine blk_drew ?_ | refine blk_alloc ?_ _)); exact BK174.out) hb); have n2_ := Aside0.mk (below_step (by repeat (first | (with_reducible first | exact HB.out | apply below_alloc | apply pw_below_drewN | apply below_drew1 | refine below_set ?_ GE166.out | refine below_set ?_ GE174.out) | exact HB.out)) hb); clear BK166; clear BK174; clear HB; have BK166 := n0_; have BK174 := n1_; have HB := n2_; clear n0_ n1_ n2_; (try clear hb); (try clear hb2); (try clear hk); (try clear hi); have hcz43_0 : w42.cell? ⟨gb166, 0, none⟩ = some (.bool x167000_1) := (blk_cell BK166.out 0).trans rfl; have hcz43_1 : w42.cell? ⟨gb166, 1, none⟩ = some (.int .i64 x167001_1) := (blk_cell BK166.out 1).trans rfl; have hcz43_2 : w42.cell? ⟨gb166, 2, none⟩ = some (.int .i64 x167002_1) := (blk_cell BK166.out 2).trans rfl; have hfz43_0 := blk_frozen BK166.out 0; have hfz43_1 := blk_frozen BK166.out 1; have hfz43_2 := blk_frozen BK166.out 2))
                      go_ret
                      exact ⟨by first | rfl | (simp [errW_none, errW_some] <;> rfl) | (simp [*, errW_none, errW_some] <;> rfl), by repeat (first | (with_reducible first | exact HB.out | apply below_alloc | apply pw_below_drewN | apply below_drew1 | refine below_set ?_ GE166.out | refine below_set ?_ GE174.out) | exact HB.out)⟩
      · rw [if_neg c4] at H
        have c4b0 : decide (x4_1 < (wrap64 ((Int.tmod (Go.bits .and .i64 a0 255) 99) + 1))) = false := decide_eq_false c4
        clear c4
        replace H := Option.bind_eq_some_iff.mp H
        obtain ⟨⟨t179, t180, t181, t182⟩, A440, H⟩ := H
        replace H : (if t182 = true then (some false) else ((count_State.f x167000_1 x167001_1 x167002_1).bind fun t184 => (if t184 = 2 then ((count_Bad.f x167000_1 x167001_1 x167002_1).bind fun bt185 => (if (bt185.1 == x167000_1 && (bt185.2.1 == x167001_1 && (bt185.2.2 == x167002_1))) = true then ((credenzalaw16_awake.f k1).bind fun t188 => (some t188)) else (some false))) else (some false)))) = some r := H
        have A44 := Aside0.mk A440
        clear A440
        by_cases c45 : t182 = true
        · subst c45
          have H1 : (some false) = some r := by rw [if_pos rfl] at H; exact H
          clear H
          have H := H1
          clear H1
          obtain rfl := Option.some.inj H
          have hcz46_0 : wr.cell? ⟨gb166, 0, none⟩ = some (.bool x167000_1) := (blk_cell BK166.out 0).trans rfl
          have hcz46_1 : wr.cell? ⟨gb166, 1, none⟩ = some (.int .i64 x167001_1) := (blk_cell BK166.out 1).trans rfl
          have hcz46_2 : wr.cell? ⟨gb166, 2, none⟩ = some (.int .i64 x167002_1) := (blk_cell BK166.out 2).trans rfl
          have hfz46_0 := blk_frozen BK166.out 0
          have hfz46_1 := blk_frozen BK166.out 1
          have hfz46_2 := blk_frozen BK166.out 2
          try go_wp2_with (first | ((with_reducible refine gate_callee (f := 17) rfl ?_); refine goesL_ (some 67) rfl rfl Tryd.func17 (by kernel_rfl) rfl #[.agg #[.bool x167000_1, .int .i64 x167001_1, .int .i64 x167002_1]] rfl (by (try simp only [List.map_toArray, List.map_cons, List.map_nil]); first | done | rfl | (simp only [List.length_drop, List.length_take]; rfl)) ?_; (with_reducible refine (count_Spend.calls x167000_1 x167001_1 x167002_1 t179 t180 t181 true _ A44.out).mono ?_); rintro e w47 ⟨rfl, hb⟩; refine ⟨_, rfl, ?_⟩; have n0_ := Aside0.mk (blk_below (g := gb166) (o := .cells #[.bool x167000_1, .int .i64 x167001_1, .int .i64 x167002_1] 24 (0, 0)) (by (with_reducible repeat (first | refine blk_drewN ?_ _ | refine blk_drew ?_ | refine blk_alloc ?_ _)); exact BK166.out) hb); have n1_ := Aside0.mk (below_step (by repeat (first | (with_reducible first | exact HB.out | apply below_alloc | apply pw_below_drewN | apply below_drew1 | refine below_set ?_ GE166.out) | exact HB.out)) hb); clear BK166; clear HB; have BK166 := n0_; have HB := n1_; clear n0_ n1_; (try clear hb); (try clear hb2); (try clear hk); (try clear hi)) | ((with_reducible refine gate_dst (N := 8) rfl ?_); refine box_event ?hg (N := 8) ?hd (cs := #[.bool false, .int .i64 0, .int .i64 0]) (t := 24) ?hr ?_; (case hd => rfl); (case hg => rfl); (case hr => first | (go_simp; done) | (go_simp; rfl)); intro gb183 hg w48 hbox hb; have n0_ := Aside0.mk (blk_below (g := gb166) (o := .cells #[.bool x167000_1, .int .i64 x167001_1, .int .i64 x167002_1] 24 (0, 0)) (by (with_reducible repeat (first | refine blk_drewN ?_ _ | refine blk_drew ?_ | refine blk_alloc ?_ _)); exact BK166.out) hb); have n1_ := Aside0.mk (below_step (by repeat (first | (with_reducible first | exact HB.out | apply below_alloc | apply pw_below_drewN | apply below_drew1 | refine below_set ?_ GE166.out) | exact HB.out)) hb); have n2_ := Aside0.mk (hbox); have n3_ := Aside0.mk ((by rw [hg]; exact (below_size (by repeat (first | (with_reducible first | exact HB.out | apply below_alloc | apply pw_below_drewN | apply below_drew1 | refine below_set ?_ GE166.out) | exact HB.out))) : w.heap.size ≤ gb183)); have n4_ := Aside0.mk ((by rw [hg]; exact (below_size (by repeat (first | (with_reducible first | exact HB.out | apply below_alloc | apply pw_below_drewN | apply below_drew1 | refine below_set ?_ GE166.out) | exact HB.out))) : w.heap.size ≤ gb183)); have n5_ := Aside0.mk ((by rw [hg]; exact Nat.ne_of_lt (blk_lt (g := gb166) (o := .cells #[.bool x167000_1, .int .i64 x167001_1, .int .i64 x167002_1] 24 (0, 0)) (by (with_reducible repeat (first | refine blk_drewN ?_ _ | refine blk_drew ?_ | refine blk_alloc ?_ _)); exact BK166.out)) : gb166 ≠ gb183)); have n6_ := Aside0.mk ((by rw [hg]; exact Nat.ne_of_gt (blk_lt (g := gb166) (o := .cells #[.bool x167000_1, .int .i64 x167001_1, .int .i64 x167002_1] 24 (0, 0)) (by (with_reducible repeat (first | refine blk_drewN ?_ _ | refine blk_drew ?_ | refine blk_alloc ?_ _)); exact BK166.out)) : gb183 ≠ gb166)); clear BK166; clear HB; have BK166 := n0_; have HB := n1_; have BK183 := n2_; have GW183 := n3_; have GE183 := n4_; have NB166_183 := n5_; have NB183_166 := n6_; clear n0_ n1_ n2_ n3_ n4_ n5_ n6_; clear hb hbox hg; have hnb49 := NB183_166.out; have hnc49 := NB166_183.out; have hcz50_0 : w48.cell? ⟨gb183, 0, none⟩ = some (.bool false) := (blk_cell BK183.out 0).trans rfl; have hcz50_1 : w48.cell? ⟨gb183, 1, none⟩ = some (.int .i64 0) := (blk_cell BK183.out 1).trans rfl; have hcz50_2 : w48.cell? ⟨gb183, 2, none⟩ = some (.int .i64 0) := (blk_cell BK183.out 2).trans rfl; have hfz50_0 := blk_frozen BK183.out 0; have hfz50_1 := blk_frozen BK183.out 1; have hfz50_2 := blk_frozen BK183.out 2))
          have n0_ : Aside0 ((((w48.setCell ⟨gb183, 0, none⟩ (.bool t179)).setCell ⟨gb183, 1, none⟩ (.int .i64 t180)).setCell ⟨gb183, 2, none⟩ (.int .i64 t181)).heap[gb166]? = some (.cells #[.bool x167000_1, .int .i64 x167001_1, .int .i64 x167002_1] 24 (0, 0))) := ⟨by (with_reducible repeat (first | refine blk_drewN ?_ _ | refine blk_drew ?_ | refine blk_alloc ?_ _)); refine blk_far ?_ NB166_183.out _; (with_reducible repeat (first | refine blk_drewN ?_ _ | refine blk_drew ?_ | refine blk_alloc ?_ _)); refine blk_far ?_ NB166_183.out _; (with_reducible repeat (first | refine blk_drewN ?_ _ | refine blk_drew ?_ | refine blk_alloc ?_ _)); refine blk_far ?_ NB166_183.out _; (with_reducible repeat (first | refine blk_drewN ?_ _ | refine blk_drew ?_ | refine blk_alloc ?_ _)); exact BK166.out⟩
          have n1_ : Aside0 ((((w48.setCell ⟨gb183, 0, none⟩ (.bool t179)).setCell ⟨gb183, 1, none⟩ (.int .i64 t180)).setCell ⟨gb183, 2, none⟩ (.int .i64 t181)).heap[gb183]? = some (.cells #[.bool t179, .int .i64 t180, .int .i64 t181] 24 (0, 0))) := ⟨by (with_reducible repeat (first | refine blk_drewN ?_ _ | refine blk_drew ?_ | refine blk_alloc ?_ _)); refine blk_put (cs := #[.bool t179, .int .i64 t180, .int .i64 0]) ?_ 2 _ rfl; (with_reducible repeat (first | refine blk_drewN ?_ _ | refine blk_drew ?_ | refine blk_alloc ?_ _)); refine blk_put (cs := #[.bool t179, .int .i64 0, .int .i64 0]) ?_ 1 _ rfl; (with_reducible repeat (first | refine blk_drewN ?_ _ | refine blk_drew ?_ | refine blk_alloc ?_ _)); refine blk_put (cs := #[.bool false, .int .i64 0, .int .i64 0]) ?_ 0 _ rfl; (with_reducible repeat (first | refine blk_drewN ?_ _ | refine blk_drew ?_ | refine blk_alloc ?_ _)); exact BK183.out⟩
          have n2_ : Aside0 (Below w.heap.size w (((w48.setCell ⟨gb183, 0, none⟩ (.bool t179)).setCell ⟨gb183, 1, none⟩ (.int .i64 t180)).setCell ⟨gb183, 2, none⟩ (.int .i64 t181))) := ⟨by repeat (first | (with_reducible first | exact HB.out | apply below_alloc | apply pw_below_drewN | apply below_drew1 | refine below_set ?_ GE166.out | refine below_set ?_ GE183.out) | exact HB.out)⟩
          (try clear BK166)
          (try clear BK183)
          (try clear HB)
          generalize (((w48.setCell ⟨gb183, 0, none⟩ (.bool t179)).setCell ⟨gb183, 1, none⟩ (.int .i64 t180)).setCell ⟨gb183, 2, none⟩ (.int .i64 t181)) = w51 at n0_ n1_ n2_ ⊢
          have BK166 := n0_
          have BK183 := n1_
          have HB := n2_
          clear n0_ n1_ n2_
          have n0_ := Aside0.mk (blk_drew BK166.out)
          have n1_ := Aside0.mk (blk_drew BK183.out)
          have n2_ := Aside0.mk (below_drew1 HB.out)
          clear BK166
          clear BK183
          clear HB
          have BK166 := n0_
          have BK183 := n1_
          have HB := n2_
          clear n0_ n1_ n2_
          refine start_ (n := 17) (S := fun w' => True) (ds := []) #[false, false, false, false, false, false, false, false, false, false, false, false, false, false, false, false, false] (by kernel_rfl) rfl rfl trivial (fun hHeld => ?_); refine with_tabW credenzalaw16_CountTries.tab15 credenzalaw16_CountTries.bits15 (fun HT_ HW_ => ?_)
          generalize w51.drew = w52 at BK166 BK183 HB hHeld ⊢
          refine pure_ (i := 0) (N := some 70) (v := ?_) (a' := ?_) #[true, false, false, false, false, false, false, false, false, false, false, false, false, false, false, false, false] rfl rfl (any_of HT_.out (by kernel_rfl)) (fun _ _ _ h => h) (Or.inl ⟨by rfl, ?_⟩) ?_ ?_
          rotate_left
          · intro w'
            go_simp
            with_reducible rfl
          rotate_left
          · simp only [Act.put, List.setIfInBounds_toArray, List.set_cons_zero, List.set_cons_succ, i64_w, i32_w]
            rfl
          refine pure_ (i := 1) (N := some 71) (v := ?_) (a' := ?_) #[true, true, false, false, false, false, false, false, false, false, false, false, false, false, false, false, false] rfl rfl (any_of HT_.out (by kernel_rfl)) (fun _ _ _ h => h) (Or.inl ⟨by rfl, ?_⟩) ?_ ?_
          rotate_left
          · intro w'
            go_simp
            with_reducible rfl
          rotate_left
          · simp only [Act.put, List.setIfInBounds_toArray, List.set_cons_zero, List.set_cons_succ, i64_w, i32_w]
            rfl
          refine pure_ (i := 2) (N := some 72) (v := ?_) (a' := ?_) #[true, true, true, false, false, false, false, false, false, false, false, false, false, false, false, false, false] rfl rfl (any_of HT_.out (by kernel_rfl)) (fun _ _ _ h => h) (Or.inl ⟨by rfl, ?_⟩) ?_ ?_
          rotate_left
          · intro w'
            go_simp
            with_reducible rfl
          rotate_left
          · simp only [Act.put, List.setIfInBounds_toArray, List.set_cons_zero, List.set_cons_succ, i64_w, i32_w]
            rfl
          refine pure_ (i := 3) (N := some 73) (v := undef) (a' := ?_) #[true, true, true, true, false, false, false, false, false, false, false, false, false, false, false, false, false] rfl rfl (any_of HT_.out (by kernel_rfl)) (fun _ _ _ h => h) (Or.inr ⟨by rfl, rfl⟩) ?_ ?_
          rotate_left
          · simp only [Act.put, List.setIfInBounds_toArray, List.set_cons_zero, List.set_cons_succ, i64_w, i32_w]
            rfl
          refine pure_ (i := 4) (N := some 74) (v := undef) (a' := ?_) #[true, true, true, true, true, false, false, false, false, false, false, false, false, false, false, false, false] rfl rfl (any_of HT_.out (by kernel_rfl)) (fun _ _ _ h => h) (Or.inr ⟨by rfl, rfl⟩) ?_ ?_
          rotate_left
          · simp only [Act.put, List.setIfInBounds_toArray, List.set_cons_zero, List.set_cons_succ, i64_w, i32_w]
            rfl
          refine pure_ (i := 5) (N := some 75) (v := undef) (a' := ?_) #[true, true, true, true, true, true, false, false, false, false, false, false, false, false, false, false, false] rfl rfl (any_of HT_.out (by kernel_rfl)) (fun _ _ _ h => h) (Or.inr ⟨by rfl, rfl⟩) ?_ ?_
          rotate_left
          · simp only [Act.put, List.setIfInBounds_toArray, List.set_cons_zero, List.set_cons_succ, i64_w, i32_w]
            rfl
          refine pure_ (i := 6) (N := some 76) (v := ?_) (a' := ?_) #[true, true, true, true, true, true, true, false, false, false, false, false, false, false, false, false, false] rfl rfl (any_of HT_.out (by kernel_rfl)) (fun _ _ _ h => h) (Or.inl ⟨by rfl, ?_⟩) ?_ ?_
          rotate_left
          · intro w'
            go_simp
            with_reducible rfl
          rotate_left
          · simp only [Act.put, List.setIfInBounds_toArray, List.set_cons_zero, List.set_cons_succ, i64_w, i32_w]
            rfl
          refine pure_ (i := 7) (N := some 77) (v := ?_) (a' := ?_) #[true, true, true, true, true, true, true, true, false, false, false, false, false, false, false, false, false] rfl rfl (any_of HT_.out (by kernel_rfl)) (fun _ _ _ h => h) (Or.inl ⟨by rfl, ?_⟩) ?_ ?_
          rotate_left
          · intro w'
            go_simp
            with_reducible rfl
          rotate_left
          · simp only [Act.put, List.setIfInBounds_toArray, List.set_cons_zero, List.set_cons_succ, i64_w, i32_w]
            rfl
          refine pure_ (i := 8) (N := some 78) (v := undef) (a' := ?_) #[true, true, true, true, true, true, true, true, true, false, false, false, false, false, false, false, false] rfl rfl (any_of HT_.out (by kernel_rfl)) (fun _ _ _ h => h) (Or.inr ⟨by rfl, rfl⟩) ?_ ?_
          rotate_left
          · simp only [Act.put, List.setIfInBounds_toArray, List.set_cons_zero, List.set_cons_succ, i64_w, i32_w]
            rfl
          refine pure_ (i := 9) (N := some 79) (v := undef) (a' := ?_) #[true, true, true, true, true, true, true, true, true, true, false, false, false, false, false, false, false] rfl rfl (any_of HT_.out (by kernel_rfl)) (fun _ _ _ h => h) (Or.inr ⟨by rfl, rfl⟩) ?_ ?_
          rotate_left
          · simp only [Act.put, List.setIfInBounds_toArray, List.set_cons_zero, List.set_cons_succ, i64_w, i32_w]
            rfl
          refine pure_ (i := 10) (N := some 80) (v := undef) (a' := ?_) #[true, true, true, true, true, true, true, true, true, true, true, false, false, false, false, false, false] rfl rfl (any_of HT_.out (by kernel_rfl)) (fun _ _ _ h => h) (Or.inr ⟨by rfl, rfl⟩) ?_ ?_
          rotate_left
          · simp only [Act.put, List.setIfInBounds_toArray, List.set_cons_zero, List.set_cons_succ, i64_w, i32_w]
            rfl
          refine pure_ (i := 11) (N := some 81) (v := undef) (a' := ?_) #[true, true, true, true, true, true, true, true, true, true, true, true, false, false, false, false, false] rfl rfl (any_of HT_.out (by kernel_rfl)) (fun _ _ _ h => h) (Or.inr ⟨by rfl, rfl⟩) ?_ ?_
          rotate_left
          · simp only [Act.put, List.setIfInBounds_toArray, List.set_cons_zero, List.set_cons_succ, i64_w, i32_w]
            rfl
          refine pure_ (i := 12) (N := some 82) (v := ?_) (a' := ?_) #[true, true, true, true, true, true, true, true, true, true, true, true, true, false, false, false, false] rfl rfl (any_of HT_.out (by kernel_rfl)) (fun _ _ _ h => h) (Or.inl ⟨by rfl, ?_⟩) ?_ ?_
          rotate_left
          · intro w'
            go_simp
            with_reducible rfl
          rotate_left
          · simp only [Act.put, List.setIfInBounds_toArray, List.set_cons_zero, List.set_cons_succ, i64_w, i32_w]
            rfl
          refine pure_ (i := 13) (N := some 83) (v := ?_) (a' := ?_) #[true, true, true, true, true, true, true, true, true, true, true, true, true, true, false, false, false] rfl rfl (any_of HT_.out (by kernel_rfl)) (fun _ _ _ h => h) (Or.inl ⟨by rfl, ?_⟩) ?_ ?_
          rotate_left
          · intro w'
            go_simp
            with_reducible rfl
          rotate_left
          · simp only [Act.put, List.setIfInBounds_toArray, List.set_cons_zero, List.set_cons_succ, i64_w, i32_w]
            rfl
          refine pure_ (i := 14) (N := some 84) (v := undef) (a' := ?_) #[true, true, true, true, true, true, true, true, true, true, true, true, true, true, true, false, false] rfl rfl (any_of HT_.out (by kernel_rfl)) (fun _ _ _ h => h) (Or.inr ⟨by rfl, rfl⟩) ?_ ?_
          rotate_left
          · simp only [Act.put, List.setIfInBounds_toArray, List.set_cons_zero, List.set_cons_succ, i64_w, i32_w]
            rfl
          refine pure_ (i := 15) (N := some 85) (v := ?_) (a' := ?_) #[true, true, true, true, true, true, true, true, true, true, true, true, true, true, true, true, false] rfl rfl (any_of HT_.out (by kernel_rfl)) (fun _ _ _ h => h) (Or.inl ⟨by rfl, ?_⟩) ?_ ?_
          rotate_left
          · intro w'
            go_simp
            with_reducible rfl
          rotate_left
          · simp only [Act.put, List.setIfInBounds_toArray, List.set_cons_zero, List.set_cons_succ, i64_w, i32_w]
            rfl
          refine pure_ (i := 16) (N := some 2) (v := ?_) (a' := ?_) #[true, true, true, true, true, true, true, true, true, true, true, true, true, true, true, true, true] rfl rfl (any_of HT_.out (by kernel_rfl)) (fun _ _ _ h => h) (Or.inl ⟨by rfl, ?_⟩) ?_ ?_
          rotate_left
          · intro w'
            go_simp
            with_reducible rfl
          rotate_left
          · simp only [Act.put, List.setIfInBounds_toArray, List.set_cons_zero, List.set_cons_succ, i64_w, i32_w]
            rfl
          refine done_ (done_of HT_.out (by kernel_rfl)) ?_
          try go_wp2
          go_ret
          exact ⟨by first | rfl | (simp [errW_none, errW_some] <;> rfl) | (simp [*, errW_none, errW_some] <;> rfl), by repeat (first | (with_reducible first | exact HB.out | apply below_alloc | apply pw_below_drewN | apply below_drew1 | refine below_set ?_ GE166.out | refine below_set ?_ GE183.out) | exact HB.out)⟩
        · replace c45 := Bool.eq_false_iff.mpr c45
          subst c45
          have H1 : ((count_State.f x167000_1 x167001_1 x167002_1).bind fun t184 => (if t184 = 2 then ((count_Bad.f x167000_1 x167001_1 x167002_1).bind fun bt185 => (if (bt185.1 == x167000_1 && (bt185.2.1 == x167001_1 && (bt185.2.2 == x167002_1))) = true then ((credenzalaw16_awake.f k1).bind fun t188 => (some t188)) else (some false))) else (some false))) = some r := by rw [if_neg (show ¬ (false = true) by decide)] at H; exact H
          clear H
          have H := H1
          clear H1
          replace H := Option.bind_eq_some_iff.mp H
          obtain ⟨t184, A530, H⟩ := H
          replace H : (if t184 = 2 then ((count_Bad.f x167000_1 x167001_1 x167002_1).bind fun bt185 => (if (bt185.1 == x167000_1 && (bt185.2.1 == x167001_1 && (bt185.2.2 == x167002_1))) = true then ((credenzalaw16_awake.f k1).bind fun t188 => (some t188)) else (some false))) else (some false)) = some r := H
          have A53 := Aside0.mk A530
          clear A530
          by_cases c54 : t184 = 2
          · rw [if_pos c54] at H
            have c54b0 : (t184 == 2) = true := beq_iff_eq.mpr c54
            have c54b1 : (t184 != 2) = false := bne_eq_false_iff_eq.mpr c54
            clear c54
            replace H := Option.bind_eq_some_iff.mp H
            obtain ⟨⟨t185, t186, t187⟩, A550, H⟩ := H
            replace H : (if (t185 == x167000_1 && (t186 == x167001_1 && (t187 == x167002_1))) = true then ((credenzalaw16_awake.f k1).bind fun t188 => (some t188)) else (some false)) = some r := H
            have A55 := Aside0.mk A550
            clear A550
            by_cases c56 : (t185 == x167000_1 && (t186 == x167001_1 && (t187 == x167002_1))) = true
            · rw [if_pos c56] at H
              have c56b0 : (t185 == x167000_1 && (t186 == x167001_1 && (t187 == x167002_1))) = true := c56
              (try (have c56b1 : decide (t185 = x167000_1 && (t186 == x167001_1 && (t187 == x167002_1))) = true := by simpa using c56))
              (try (have c56b2 : (t185 == x167000_1 && (t186 == x167001_1 && (t187 == x167002_1))) = true := by simpa using c56))
              clear c56
              replace H := Option.bind_eq_some_iff.mp H
              obtain ⟨t188, A570, H⟩ := H
              replace H : (some t188) = some r := H
              have A57 := Aside0.mk A570
              clear A570
              obtain rfl := Option.some.inj H
              have hcz58_0 : wr.cell? ⟨gb166, 0, none⟩ = some (.bool x167000_1) := (blk_cell BK166.out 0).trans rfl
              have hcz58_1 : wr.cell? ⟨gb166, 1, none⟩ = some (.int .i64 x167001_1) := (blk_cell BK166.out 1).trans rfl
              have hcz58_2 : wr.cell? ⟨gb166, 2, none⟩ = some (.int .i64 x167002_1) := (blk_cell BK166.out 2).trans rfl
              have hfz58_0 := blk_frozen BK166.out 0
              have hfz58_1 := blk_frozen BK166.out 1
              have hfz58_2 := blk_frozen BK166.out 2
              try go_wp2_with (first | ((with_reducible refine gate_callee (f := 17) rfl ?_); refine goesL_ (some 67) rfl rfl Tryd.func17 (by kernel_rfl) rfl #[.agg #[.bool x167000_1, .int .i64 x167001_1, .int .i64 x167002_1]] rfl (by (try simp only [List.map_toArray, List.map_cons, List.map_nil]); first | done | rfl | (simp only [List.length_drop, List.length_take]; rfl)) ?_; (with_reducible refine (count_Spend.calls x167000_1 x167001_1 x167002_1 t179 t180 t181 false _ A44.out).mono ?_); rintro e w59 ⟨rfl, hb⟩; refine ⟨_, rfl, ?_⟩; have n0_ := Aside0.mk (blk_below (g := gb166) (o := .cells #[.bool x167000_1, .int .i64 x167001_1, .int .i64 x167002_1] 24 (0, 0)) (by (with_reducible repeat (first | refine blk_drewN ?_ _ | refine blk_drew ?_ | refine blk_alloc ?_ _)); exact BK166.out) hb); have n1_ := Aside0.mk (below_step (by repeat (first | (with_reducible first | exact HB.out | apply below_alloc | apply pw_below_drewN | apply below_drew1 | refine below_set ?_ GE166.out) | exact HB.out)) hb); clear BK166; clear HB; have BK166 := n0_; have HB := n1_; clear n0_ n1_; (try clear hb); (try clear hb2); (try clear hk); (try clear hi)) | ((with_reducible refine gate_dst (N := 8) rfl ?_); refine box_event ?hg (N := 8) ?hd (cs := #[.bool false, .int .i64 0, .int .i64 0]) (t := 24) ?hr ?_; (case hd => rfl); (case hg => rfl); (case hr => first | (go_simp; done) | (go_simp; rfl)); intro gb183 hg w60 hbox hb; have n0_ := Aside0.mk (blk_below (g := gb166) (o := .cells #[.bool x167000_1, .int .i64 x167001_1, .int .i64 x167002_1] 24 (0, 0)) (by (with_reducible repeat (first | refine blk_drewN ?_ _ | refine blk_drew ?_ | refine blk_alloc ?_ _)); exact BK166.out) hb); have n1_ := Aside0.mk (below_step (by repeat (first | (with_reducible first | exact HB.out | apply below_alloc | apply pw_below_drewN | apply below_drew1 | refine below_set ?_ GE166.out) | exact HB.out)) hb); have n2_ := Aside0.mk (hbox); have n3_ := Aside0.mk ((by rw [hg]; exact (below_size (by repeat (first | (with_reducible first | exact HB.out | apply below_alloc | apply pw_below_drewN | apply below_drew1 | refine below_set ?_ GE166.out) | exact HB.out))) : w.heap.size ≤ gb183)); have n4_ := Aside0.mk ((by rw [hg]; exact (below_size (by repeat (first | (with_reducible first | exact HB.out | apply below_alloc | apply pw_below_drewN | apply below_drew1 | refine below_set ?_ GE166.out) | exact HB.out))) : w.heap.size ≤ gb183)); have n5_ := Aside0.mk ((by rw [hg]; exact Nat.ne_of_lt (blk_lt (g := gb166) (o := .cells #[.bool x167000_1, .int .i64 x167001_1, .int .i64 x167002_1] 24 (0, 0)) (by (with_reducible repeat (first | refine blk_drewN ?_ _ | refine blk_drew ?_ | refine blk_alloc ?_ _)); exact BK166.out)) : gb166 ≠ gb183)); have n6_ := Aside0.mk ((by rw [hg]; exact Nat.ne_of_gt (blk_lt (g := gb166) (o := .cells #[.bool x167000_1, .int .i64 x167001_1, .int .i64 x167002_1] 24 (0, 0)) (by (with_reducible repeat (first | refine blk_drewN ?_ _ | refine blk_drew ?_ | refine blk_alloc ?_ _)); exact BK166.out)) : gb183 ≠ gb166)); clear BK166; clear HB; have BK166 := n0_; have HB := n1_; have BK183 := n2_; have GW183 := n3_; have GE183 := n4_; have NB166_183 := n5_; have NB183_166 := n6_; clear n0_ n1_ n2_ n3_ n4_ n5_ n6_; clear hb hbox hg; have hnb61 := NB183_166.out; have hnc61 := NB166_183.out; have hcz62_0 : w60.cell? ⟨gb183, 0, none⟩ = some (.bool false) := (blk_cell BK183.out 0).trans rfl; have hcz62_1 : w60.cell? ⟨gb183, 1, none⟩ = some (.int .i64 0) := (blk_cell BK183.out 1).trans rfl; have hcz62_2 : w60.cell? ⟨gb183, 2, none⟩ = some (.int .i64 0) := (blk_cell BK183.out 2).trans rfl; have hfz62_0 := blk_frozen BK183.out 0; have hfz62_1 := blk_frozen BK183.out 1; have hfz62_2 := blk_frozen BK183.out 2))
              have n0_ : Aside0 ((((w60.setCell ⟨gb183, 0, none⟩ (.bool t179)).setCell ⟨gb183, 1, none⟩ (.int .i64 t180)).setCell ⟨gb183, 2, none⟩ (.int .i64 t181)).heap[gb166]? = some (.cells #[.bool x167000_1, .int .i64 x167001_1, .int .i64 x167002_1] 24 (0, 0))) := ⟨by (with_reducible repeat (first | refine blk_drewN ?_ _ | refine blk_drew ?_ | refine blk_alloc ?_ _)); refine blk_far ?_ NB166_183.out _; (with_reducible repeat (first | refine blk_drewN ?_ _ | refine blk_drew ?_ | refine blk_alloc ?_ _)); refine blk_far ?_ NB166_183.out _; (with_reducible repeat (first | refine blk_drewN ?_ _ | refine blk_drew ?_ | refine blk_alloc ?_ _)); refine blk_far ?_ NB166_183.out _; (with_reducible repeat (first | refine blk_drewN ?_ _ | refine blk_drew ?_ | refine blk_alloc ?_ _)); exact BK166.out⟩
              have n1_ : Aside0 ((((w60.setCell ⟨gb183, 0, none⟩ (.bool t179)).setCell ⟨gb183, 1, none⟩ (.int .i64 t180)).setCell ⟨gb183, 2, none⟩ (.int .i64 t181)).heap[gb183]? = some (.cells #[.bool t179, .int .i64 t180, .int .i64 t181] 24 (0, 0))) := ⟨by (with_reducible repeat (first | refine blk_drewN ?_ _ | refine blk_drew ?_ | refine blk_alloc ?_ _)); refine blk_put (cs := #[.bool t179, .int .i64 t180, .int .i64 0]) ?_ 2 _ rfl; (with_reducible repeat (first | refine blk_drewN ?_ _ | refine blk_drew ?_ | refine blk_alloc ?_ _)); refine blk_put (cs := #[.bool t179, .int .i64 0, .int .i64 0]) ?_ 1 _ rfl; (with_reducible repeat (first | refine blk_drewN ?_ _ | refine blk_drew ?_ | refine blk_alloc ?_ _)); refine blk_put (cs := #[.bool false, .int .i64 0, .int .i64 0]) ?_ 0 _ rfl; (with_reducible repeat (first | refine blk_drewN ?_ _ | refine blk_drew ?_ | refine blk_alloc ?_ _)); exact BK183.out⟩
              have n2_ : Aside0 (Below w.heap.size w (((w60.setCell ⟨gb183, 0, none⟩ (.bool t179)).setCell ⟨gb183, 1, none⟩ (.int .i64 t180)).setCell ⟨gb183, 2, none⟩ (.int .i64 t181))) := ⟨by repeat (first | (with_reducible first | exact HB.out | apply below_alloc | apply pw_below_drewN | apply below_drew1 | refine below_set ?_ GE166.out | refine below_set ?_ GE183.out) | exact HB.out)⟩
              (try clear BK166)
              (try clear BK183)
              (try clear HB)
              generalize (((w60.setCell ⟨gb183, 0, none⟩ (.bool t179)).setCell ⟨gb183, 1, none⟩ (.int .i64 t180)).setCell ⟨gb183, 2, none⟩ (.int .i64 t181)) = w63 at n0_ n1_ n2_ ⊢
              have BK166 := n0_
              have BK183 := n1_
              have HB := n2_
              clear n0_ n1_ n2_
              have n0_ := Aside0.mk (blk_drew BK166.out)
              have n1_ := Aside0.mk (blk_drew BK183.out)
              have n2_ := Aside0.mk (below_drew1 HB.out)
              clear BK166
              clear BK183
              clear HB
              have BK166 := n0_
              have BK183 := n1_
              have HB := n2_
              clear n0_ n1_ n2_
              refine start_ (n := 17) (S := fun w' => w'.cell? ⟨gb166, 0, none⟩ = some (.bool x167000_1) ∧ w'.cell? ⟨gb166, 1, none⟩ = some (.int .i64 x167001_1) ∧ w'.cell? ⟨gb166, 2, none⟩ = some (.int .i64 x167002_1)) (ds := []) #[false, false, false, false, false, false, false, false, false, false, false, false, false, false, false, false, false] (by kernel_rfl) rfl rfl ⟨(blk_cell BK166.out 0).trans rfl, (blk_cell BK166.out 1).trans rfl, (blk_cell BK166.out 2).trans rfl⟩ (fun hHeld => ?_); refine with_tabW credenzalaw16_CountTries.tab15 credenzalaw16_CountTries.bits15 (fun HT_ HW_ => ?_)
              generalize w63.drew = w64 at BK166 BK183 HB hHeld ⊢
              refine pure_ (i := 0) (N := some 70) (v := ?_) (a' := ?_) #[true, false, false, false, false, false, false, false, false, false, false, false, false, false, false, false, false] rfl rfl (any_of HT_.out (by kernel_rfl)) (fun _ _ _ h => h) (Or.inl ⟨by rfl, ?_⟩) ?_ ?_
              rotate_left
              · intro w'
                go_simp
                with_reducible rfl
              rotate_left
              · simp only [Act.put, List.setIfInBounds_toArray, List.set_cons_zero, List.set_cons_succ, i64_w, i32_w]
                rfl
              refine pure_ (i := 1) (N := some 71) (v := ?_) (a' := ?_) #[true, true, false, false, false, false, false, false, false, false, false, false, false, false, false, false, false] rfl rfl (any_of HT_.out (by kernel_rfl)) (fun _ _ _ h => h) (Or.inl ⟨by rfl, ?_⟩) ?_ ?_
              rotate_left
              · intro w'
                go_simp
                with_reducible rfl
              rotate_left
              · simp only [Act.put, List.setIfInBounds_toArray, List.set_cons_zero, List.set_cons_succ, i64_w, i32_w]
                rfl
              refine pure_ (i := 2) (N := some 72) (v := ?_) (a' := ?_) #[true, true, true, false, false, false, false, false, false, false, false, false, false, false, false, false, false] rfl rfl (any_of HT_.out (by kernel_rfl)) (fun _ _ _ h => h) (Or.inl ⟨by rfl, ?_⟩) ?_ ?_
              rotate_left
              · intro w'
                go_simp
                with_reducible rfl
              rotate_left
              · simp only [Act.put, List.setIfInBounds_toArray, List.set_cons_zero, List.set_cons_succ, i64_w, i32_w]
                rfl
              refine take_ (i := 3) (N := some 73) (v := ?_) (a' := ?_) #[true, true, true, true, false, false, false, false, false, false, false, false, false, false, false, false, false] rfl rfl (take_ofW HT_.out HW_.out (by kernel_rfl)) (fun _ _ _ h => h) (Or.inl ⟨by rfl, ?_⟩) hHeld ?_ ?_
              rotate_left
              · rintro w' ⟨s0, s1, s2⟩
                go_simp
                with_reducible rfl
              rotate_left
              · simp only [Act.put, List.setIfInBounds_toArray, List.set_cons_zero, List.set_cons_succ, i64_w, i32_w]
                rfl
              refine one_ (i := 4) (N := some 74) #[true, true, true, true, true, false, false, false, false, false, false, false, false, false, false, false, false] rfl rfl (one_of HT_.out (by kernel_rfl)) (by decide) (fun K hK => ?_)
              refine goes_ Tryd.func16 (by kernel_rfl) rfl #[.agg #[.bool x167000_1, .int .i64 x167001_1, .int .i64 x167002_1]] (by rfl) rfl rfl (by (try simp only [List.map_toArray, List.map_cons, List.map_nil]); first | done | rfl | (simp only [List.length_drop, List.length_take]; rfl)) ?_
              with_reducible refine (count_State.calls x167000_1 x167001_1 x167002_1 t184 _ A53.out).mono ?_
              rintro e w65 ⟨rfl, hb⟩
              refine ⟨_, rfl, ?_⟩
              have n0_ := Aside0.mk (blk_below (g := gb166) (o := .cells #[.bool x167000_1, .int .i64 x167001_1, .int .i64 x167002_1] 24 (0, 0)) (by (with_reducible repeat (first | refine blk_drewN ?_ _ | refine blk_drew ?_ | refine blk_alloc ?_ _)); exact BK166.out) hb)
              have n1_ := Aside0.mk (blk_below (g := gb183) (o := .cells #[.bool t179, .int .i64 t180, .int .i64 t181] 24 (0, 0)) (by (with_reducible repeat (first | refine blk_drewN ?_ _ | refine blk_drew ?_ | refine blk_alloc ?_ _)); exact BK183.out) hb)
              have n2_ := Aside0.mk (below_step (by repeat (first | (with_reducible first | exact HB.out | apply below_alloc | apply pw_below_drewN | apply below_drew1 | refine below_set ?_ GE166.out | refine below_set ?_ GE183.out) | exact HB.out)) hb)
              clear BK166
              clear BK183
              clear HB
              have BK166 := n0_
              have BK183 := n1_
              have HB := n2_
              clear n0_ n1_ n2_
              (try clear hb)
              (try clear hb2)
              (try clear hk)
              (try clear hi)
              refine hK.out _ _ ⟨(blk_cell BK166.out 0).trans rfl, (blk_cell BK166.out 1).trans rfl, (blk_cell BK166.out 2).trans rfl⟩ (fun hHeld => ?_)
              clear hK K
              refine norm_ (a' := ?_) ?_ ?_
              rotate_left
              · show Act.put _ (some 74) _ = _
                simp only [Act.put, List.setIfInBounds_toArray, List.set_cons_zero, List.set_cons_succ, i64_w, i32_w]
                rfl
              refine pure_ (i := 5) (N := some 75) (v := ?_) (a' := ?_) #[true, true, true, true, true, true, false, false, false, false, false, false, false, false, false, false, false] rfl rfl (any_of HT_.out (by kernel_rfl)) (fun _ _ _ h => h) (Or.inl ⟨by rfl, ?_⟩) ?_ ?_
              rotate_left
              · intro w'
                go_simp
                with_reducible rfl
              rotate_left
              · simp only [Act.put, List.setIfInBounds_toArray, List.set_cons_zero, List.set_cons_succ, i64_w, i32_w]
                rfl
              refine pure_ (i := 6) (N := some 76) (v := ?_) (a' := ?_) #[true, true, true, true, true, true, true, false, false, false, false, false, false, false, false, false, false] rfl rfl (any_of HT_.out (by kernel_rfl)) (fun _ _ _ h => h) (Or.inl ⟨by rfl, ?_⟩) ?_ ?_
              rotate_left
              · intro w'
                go_simp
                with_reducible rfl
              rotate_left
              · simp only [Act.put, List.setIfInBounds_toArray, List.set_cons_zero, List.set_cons_succ, i64_w, i32_w]
                rfl
              refine pure_ (i := 7) (N := some 77) (v := ?_) (a' := ?_) #[true, true, true, true, true, true, true, true, false, false, false, false, false, false, false, false, false] rfl rfl (any_of HT_.out (by kernel_rfl)) (fun _ _ _ h => h) (Or.inl ⟨by rfl, ?_⟩) ?_ ?_
              rotate_left
              · intro w'
                go_simp
                with_reducible rfl
              rotate_left
              · simp only [Act.put, List.setIfInBounds_toArray, List.set_cons_zero, List.set_cons_succ, i64_w, i32_w]
                rfl
              refine take_ (i := 8) (N := some 78) (v := ?_) (a' := ?_) #[true, true, true, true, true, true, true, true, true, false, false, false, false, false, false, false, false] rfl rfl (take_ofW HT_.out HW_.out (by kernel_rfl)) (fun _ _ _ h => h) (Or.inl ⟨by rfl, ?_⟩) hHeld ?_ ?_
              rotate_left
              · rintro w' ⟨s0, s1, s2⟩
                go_simp
                with_reducible rfl
              rotate_left
              · simp only [Act.put, List.setIfInBounds_toArray, List.set_cons_zero, List.set_cons_succ, i64_w, i32_w]
                rfl
              refine take_ (i := 10) (N := some 80) (v := ?_) (a' := ?_) #[true, true, true, true, true, true, true, true, true, false, true, false, false, false, false, false, false] rfl rfl (take_ofW HT_.out HW_.out (by kernel_rfl)) (fun _ _ _ h => h) (Or.inl ⟨by rfl, ?_⟩) hHeld ?_ ?_
              rotate_left
              · rintro w' ⟨s0, s1, s2⟩
                go_simp
                with_reducible rfl
              rotate_left
              · simp only [Act.put, List.setIfInBounds_toArray, List.set_cons_zero, List.set_cons_succ, i64_w, i32_w]
                rfl
              refine one_ (i := 9) (N := some 79) #[true, true, true, true, true, true, true, true, true, true, true, false, false, false, false, false, false] rfl rfl (one_of HT_.out (by kernel_rfl)) (by decide) (fun K hK => ?_)
              refine goes_ Tryd.func18 (by kernel_rfl) rfl #[.agg #[.bool x167000_1, .int .i64 x167001_1, .int .i64 x167002_1]] (by rfl) rfl rfl (by (try simp only [List.map_toArray, List.map_cons, List.map_nil]); first | done | rfl | (simp only [List.length_drop, List.length_take]; rfl)) ?_
              with_reducible refine (count_Bad.calls x167000_1 x167001_1 x167002_1 t185 t186 t187 _ A55.out).mono ?_
              rintro e w66 ⟨rfl, hb⟩
              refine ⟨_, rfl, ?_⟩
              have n0_ := Aside0.mk (blk_below (g := gb166) (o := .cells #[.bool x167000_1, .int .i64 x167001_1, .int .i64 x167002_1] 24 (0, 0)) (by (with_reducible repeat (first | refine blk_drewN ?_ _ | refine blk_drew ?_ | refine blk_alloc ?_ _)); exact BK166.out) hb)
              have n1_ := Aside0.mk (blk_below (g := gb183) (o := .cells #[.bool t179, .int .i64 t180, .int .i64 t181] 24 (0, 0)) (by (with_reducible repeat (first | refine blk_drewN ?_ _ | refine blk_drew ?_ | refine blk_alloc ?_ _)); exact BK183.out) hb)
              have n2_ := Aside0.mk (below_step (by repeat (first | (with_reducible first | exact HB.out | apply below_alloc | apply pw_below_drewN | apply below_drew1 | refine below_set ?_ GE166.out | refine below_set ?_ GE183.out) | exact HB.out)) hb)
              clear BK166
              clear BK183
              clear HB
              have BK166 := n0_
              have BK183 := n1_
              have HB := n2_
              clear n0_ n1_ n2_
              (try clear hb)
              (try clear hb2)
              (try clear hk)
              (try clear hi)
              refine hK.out _ _ ⟨(blk_cell BK166.out 0).trans rfl, (blk_cell BK166.out 1).trans rfl, (blk_cell BK166.out 2).trans rfl⟩ (fun hHeld => ?_)
              clear hK K
              refine norm_ (a' := ?_) ?_ ?_
              rotate_left
              · show Act.put _ (some 79) _ = _
                simp only [Act.put, List.setIfInBounds_toArray, List.set_cons_zero, List.set_cons_succ, i64_w, i32_w]
                rfl
              refine pure_ (i := 11) (N := some 81) (v := ?_) (a' := ?_) #[true, true, true, true, true, true, true, true, true, true, true, true, false, false, false, false, false] rfl rfl (any_of HT_.out (by kernel_rfl)) (fun _ _ _ h => h) (Or.inl ⟨by rfl, ?_⟩) ?_ ?_
              rotate_left
              · intro w'
                go_simp
                with_reducible rfl
              rotate_left
              · simp only [Act.put, List.setIfInBounds_toArray, List.set_cons_zero, List.set_cons_succ, i64_w, i32_w]
                rfl
              refine pure_ (i := 12) (N := some 82) (v := ?_) (a' := ?_) #[true, true, true, true, true, true, true, true, true, true, true, true, true, false, false, false, false] rfl rfl (any_of HT_.out (by kernel_rfl)) (fun _ _ _ h => h) (Or.inl ⟨by rfl, ?_⟩) ?_ ?_
              rotate_left
              · intro w'
                go_simp
                with_reducible rfl
              rotate_left
              · simp only [Act.put, List.setIfInBounds_toArray, List.set_cons_zero, List.set_cons_succ, i64_w, i32_w]
                rfl
              refine pure_ (i := 13) (N := some 83) (v := ?_) (a' := ?_) #[true, true, true, true, true, true, true, true, true, true, true, true, true, true, false, false, false] rfl rfl (any_of HT_.out (by kernel_rfl)) (fun _ _ _ h => h) (Or.inl ⟨by rfl, ?_⟩) ?_ ?_
              rotate_left
              · intro w'
                go_simp
                with_reducible rfl
              rotate_left
              · simp only [Act.put, List.setIfInBounds_toArray, List.set_cons_zero, List.set_cons_succ, i64_w, i32_w]
                rfl
              refine one_ (i := 14) (N := some 84) #[true, true, true, true, true, true, true, true, true, true, true, true, true, true, true, false, false] rfl rfl (one_of HT_.out (by kernel_rfl)) (by decide) (fun K hK => ?_)
              refine goes_ Tryd.func13 (by kernel_rfl) rfl #[] (by rfl) rfl rfl (by (try simp only [List.map_toArray, List.map_cons, List.map_nil]); first | done | rfl | (simp only [List.length_drop, List.length_take]; rfl)) ?_
              with_reducible refine (credenzalaw16_awake.calls k1  t188 _ ?side1 A57.out).mono ?_
              (case side1 => exact Cb.GW_below HG.out (by repeat (first | (with_reducible first | exact HB.out | apply below_alloc | apply pw_below_drewN | apply below_drew1 | refine below_set ?_ GE166.out | refine below_set ?_ GE183.out) | exact HB.out)))
              rintro e w67 ⟨rfl, hb⟩
              refine ⟨_, rfl, ?_⟩
              have n0_ := Aside0.mk (blk_below (g := gb166) (o := .cells #[.bool x167000_1, .int .i64 x167001_1, .int .i64 x167002_1] 24 (0, 0)) (by (with_reducible repeat (first | refine blk_drewN ?_ _ | refine blk_drew ?_ | refine blk_alloc ?_ _)); exact BK166.out) hb)
              have n1_ := Aside0.mk (blk_below (g := gb183) (o := .cells #[.bool t179, .int .i64 t180, .int .i64 t181] 24 (0, 0)) (by (with_reducible repeat (first | refine blk_drewN ?_ _ | refine blk_drew ?_ | refine blk_alloc ?_ _)); exact BK183.out) hb)
              have n2_ := Aside0.mk (below_step (by repeat (first | (with_reducible first | exact HB.out | apply below_alloc | apply pw_below_drewN | apply below_drew1 | refine below_set ?_ GE166.out | refine below_set ?_ GE183.out) | exact HB.out)) hb)
              clear BK166
              clear BK183
              clear HB
              have BK166 := n0_
              have BK183 := n1_
              have HB := n2_
              clear n0_ n1_ n2_
              (try clear hb)
              (try clear hb2)
              (try clear hk)
              (try clear hi)
              refine hK.out _ _ ⟨(blk_cell BK166.out 0).trans rfl, (blk_cell BK166.out 1).trans rfl, (blk_cell BK166.out 2).trans rfl⟩ (fun hHeld => ?_)
              clear hK K
              refine norm_ (a' := ?_) ?_ ?_
              rotate_left
              · show Act.put _ (some 84) _ = _
                simp only [Act.put, List.setIfInBounds_toArray, List.set_cons_zero, List.set_cons_succ, i64_w, i32_w]
                rfl
              refine pure_ (i := 15) (N := some 85) (v := ?_) (a' := ?_) #[true, true, true, true, true, true, true, true, true, true, true, true, true, true, true, true, false] rfl rfl (any_of HT_.out (by kernel_rfl)) (fun _ _ _ h => h) (Or.inl ⟨by rfl, ?_⟩) ?_ ?_
              rotate_left
              · intro w'
                go_simp
                with_reducible rfl
              rotate_left
              · simp only [Act.put, List.setIfInBounds_toArray, List.set_cons_zero, List.set_cons_succ, i64_w, i32_w]
                rfl
              refine pure_ (i := 16) (N := some 2) (v := ?_) (a' := ?_) #[true, true, true, true, true, true, true, true, true, true, true, true, true, true, true, true, true] rfl rfl (any_of HT_.out (by kernel_rfl)) (fun _ _ _ h => h) (Or.inl ⟨by rfl, ?_⟩) ?_ ?_
              rotate_left
              · intro w'
                go_simp
                with_reducible rfl
              rotate_left
              · simp only [Act.put, List.setIfInBounds_toArray, List.set_cons_zero, List.set_cons_succ, i64_w, i32_w]
                rfl
              refine done_ (done_of HT_.out (by kernel_rfl)) ?_
              try go_wp2
              go_ret
              exact ⟨by first | rfl | (simp [errW_none, errW_some] <;> rfl) | (simp [*, errW_none, errW_some] <;> rfl), by repeat (first | (with_reducible first | exact HB.out | apply below_alloc | apply pw_below_drewN | apply below_drew1 | refine below_set ?_ GE166.out | refine below_set ?_ GE183.out) | exact HB.out)⟩
            · rw [if_neg c56] at H
              have c56b0 : (t185 == x167000_1 && (t186 == x167001_1 && (t187 == x167002_1))) = false := by simpa using c56
              (try (have c56b1 : decide (t185 = x167000_1 && (t186 == x167001_1 && (t187 == x167002_1))) = false := by simpa using c56))
              (try (have c56b2 : (t185 == x167000_1 && (t186 == x167001_1 && (t187 == x167002_1))) = false := by simpa using c56))
              (try (have c56b3 : ¬ (t185 = x167000_1 && (t186 == x167001_1 && (t187 == x167002_1))) := by simpa using c56))
              clear c56
              obtain rfl := Option.some.inj H
              have hcz68_0 : wr.cell? ⟨gb166, 0, none⟩ = some (.bool x167000_1) := (blk_cell BK166.out 0).trans rfl
              have hcz68_1 : wr.cell? ⟨gb166, 1, none⟩ = some (.int .i64 x167001_1) := (blk_cell BK166.out 1).trans rfl
              have hcz68_2 : wr.cell? ⟨gb166, 2, none⟩ = some (.int .i64 x167002_1) := (blk_cell BK166.out 2).trans rfl
              have hfz68_0 := blk_frozen BK166.out 0
              have hfz68_1 := blk_frozen BK166.out 1
              have hfz68_2 := blk_frozen BK166.out 2
              try go_wp2_with (first | ((with_reducible refine gate_callee (f := 17) rfl ?_); refine goesL_ (some 67) rfl rfl Tryd.func17 (by kernel_rfl) rfl #[.agg #[.bool x167000_1, .int .i64 x167001_1, .int .i64 x167002_1]] rfl (by (try simp only [List.map_toArray, List.map_cons, List.map_nil]); first | done | rfl | (simp only [List.length_drop, List.length_take]; rfl)) ?_; (with_reducible refine (count_Spend.calls x167000_1 x167001_1 x167002_1 t179 t180 t181 false _ A44.out).mono ?_); rintro e w69 ⟨rfl, hb⟩; refine ⟨_, rfl, ?_⟩; have n0_ := Aside0.mk (blk_below (g := gb166) (o := .cells #[.bool x167000_1, .int .i64 x167001_1, .int .i64 x167002_1] 24 (0, 0)) (by (with_reducible repeat (first | refine blk_drewN ?_ _ | refine blk_drew ?_ | refine blk_alloc ?_ _)); exact BK166.out) hb); have n1_ := Aside0.mk (below_step (by repeat (first | (with_reducible first | exact HB.out | apply below_alloc | apply pw_below_drewN | apply below_drew1 | refine below_set ?_ GE166.out) | exact HB.out)) hb); clear BK166; clear HB; have BK166 := n0_; have HB := n1_; clear n0_ n1_; (try clear hb); (try clear hb2); (try clear hk); (try clear hi)) | ((with_reducible refine gate_dst (N := 8) rfl ?_); refine box_event ?hg (N := 8) ?hd (cs := #[.bool false, .int .i64 0, .int .i64 0]) (t := 24) ?hr ?_; (case hd => rfl); (case hg => rfl); (case hr => first | (go_simp; done) | (go_simp; rfl)); intro gb183 hg w70 hbox hb; have n0_ := Aside0.mk (blk_below (g := gb166) (o := .cells #[.bool x167000_1, .int .i64 x167001_1, .int .i64 x167002_1] 24 (0, 0)) (by (with_reducible repeat (first | refine blk_drewN ?_ _ | refine blk_drew ?_ | refine blk_alloc ?_ _)); exact BK166.out) hb); have n1_ := Aside0.mk (below_step (by repeat (first | (with_reducible first | exact HB.out | apply below_alloc | apply pw_below_drewN | apply below_drew1 | refine below_set ?_ GE166.out) | exact HB.out)) hb); have n2_ := Aside0.mk (hbox); have n3_ := Aside0.mk ((by rw [hg]; exact (below_size (by repeat (first | (with_reducible first | exact HB.out | apply below_alloc | apply pw_below_drewN | apply below_drew1 | refine below_set ?_ GE166.out) | exact HB.out))) : w.heap.size ≤ gb183)); have n4_ := Aside0.mk ((by rw [hg]; exact (below_size (by repeat (first | (with_reducible first | exact HB.out | apply below_alloc | apply pw_below_drewN | apply below_drew1 | refine below_set ?_ GE166.out) | exact HB.out))) : w.heap.size ≤ gb183)); have n5_ := Aside0.mk ((by rw [hg]; exact Nat.ne_of_lt (blk_lt (g := gb166) (o := .cells #[.bool x167000_1, .int .i64 x167001_1, .int .i64 x167002_1] 24 (0, 0)) (by (with_reducible repeat (first | refine blk_drewN ?_ _ | refine blk_drew ?_ | refine blk_alloc ?_ _)); exact BK166.out)) : gb166 ≠ gb183)); have n6_ := Aside0.mk ((by rw [hg]; exact Nat.ne_of_gt (blk_lt (g := gb166) (o := .cells #[.bool x167000_1, .int .i64 x167001_1, .int .i64 x167002_1] 24 (0, 0)) (by (with_reducible repeat (first | refine blk_drewN ?_ _ | refine blk_drew ?_ | refine blk_alloc ?_ _)); exact BK166.out)) : gb183 ≠ gb166)); clear BK166; clear HB; have BK166 := n0_; have HB := n1_; have BK183 := n2_; have GW183 := n3_; have GE183 := n4_; have NB166_183 := n5_; have NB183_166 := n6_; clear n0_ n1_ n2_ n3_ n4_ n5_ n6_; clear hb hbox hg; have hnb71 := NB183_166.out; have hnc71 := NB166_183.out; have hcz72_0 : w70.cell? ⟨gb183, 0, none⟩ = some (.bool false) := (blk_cell BK183.out 0).trans rfl; have hcz72_1 : w70.cell? ⟨gb183, 1, none⟩ = some (.int .i64 0) := (blk_cell BK183.out 1).trans rfl; have hcz72_2 : w70.cell? ⟨gb183, 2, none⟩ = some (.int .i64 0) := (blk_cell BK183.out 2).trans rfl; have hfz72_0 := blk_frozen BK183.out 0; have hfz72_1 := blk_frozen BK183.out 1; have hfz72_2 := blk_frozen BK183.out 2))
              have n0_ : Aside0 ((((w70.setCell ⟨gb183, 0, none⟩ (.bool t179)).setCell ⟨gb183, 1, none⟩ (.int .i64 t180)).setCell ⟨gb183, 2, none⟩ (.int .i64 t181)).heap[gb166]? = some (.cells #[.bool x167000_1, .int .i64 x167001_1, .int .i64 x167002_1] 24 (0, 0))) := ⟨by (with_reducible repeat (first | refine blk_drewN ?_ _ | refine blk_drew ?_ | refine blk_alloc ?_ _)); refine blk_far ?_ NB166_183.out _; (with_reducible repeat (first | refine blk_drewN ?_ _ | refine blk_drew ?_ | refine blk_alloc ?_ _)); refine blk_far ?_ NB166_183.out _; (with_reducible repeat (first | refine blk_drewN ?_ _ | refine blk_drew ?_ | refine blk_alloc ?_ _)); refine blk_far ?_ NB166_183.out _; (with_reducible repeat (first | refine blk_drewN ?_ _ | refine blk_drew ?_ | refine blk_alloc ?_ _)); exact BK166.out⟩
              have n1_ : Aside0 ((((w70.setCell ⟨gb183, 0, none⟩ (.bool t179)).setCell ⟨gb183, 1, none⟩ (.int .i64 t180)).setCell ⟨gb183, 2, none⟩ (.int .i64 t181)).heap[gb183]? = some (.cells #[.bool t179, .int .i64 t180, .int .i64 t181] 24 (0, 0))) := ⟨by (with_reducible repeat (first | refine blk_drewN ?_ _ | refine blk_drew ?_ | refine blk_alloc ?_ _)); refine blk_put (cs := #[.bool t179, .int .i64 t180, .int .i64 0]) ?_ 2 _ rfl; (with_reducible repeat (first | refine blk_drewN ?_ _ | refine blk_drew ?_ | refine blk_alloc ?_ _)); refine blk_put (cs := #[.bool t179, .int .i64 0, .int .i64 0]) ?_ 1 _ rfl; (with_reducible repeat (first | refine blk_drewN ?_ _ | refine blk_drew ?_ | refine blk_alloc ?_ _)); refine blk_put (cs := #[.bool false, .int .i64 0, .int .i64 0]) ?_ 0 _ rfl; (with_reducible repeat (first | refine blk_drewN ?_ _ | refine blk_drew ?_ | refine blk_alloc ?_ _)); exact BK183.out⟩
              have n2_ : Aside0 (Below w.heap.size w (((w70.setCell ⟨gb183, 0, none⟩ (.bool t179)).setCell ⟨gb183, 1, none⟩ (.int .i64 t180)).setCell ⟨gb183, 2, none⟩ (.int .i64 t181))) := ⟨by repeat (first | (with_reducible first | exact HB.out | apply below_alloc | apply pw_below_drewN | apply below_drew1 | refine below_set ?_ GE166.out | refine below_set ?_ GE183.out) | exact HB.out)⟩
              (try clear BK166)
              (try clear BK183)
              (try clear HB)
              generalize (((w70.setCell ⟨gb183, 0, none⟩ (.bool t179)).setCell ⟨gb183, 1, none⟩ (.int .i64 t180)).setCell ⟨gb183, 2, none⟩ (.int .i64 t181)) = w73 at n0_ n1_ n2_ ⊢
              have BK166 := n0_
              have BK183 := n1_
              have HB := n2_
              clear n0_ n1_ n2_
              have n0_ := Aside0.mk (blk_drew BK166.out)
              have n1_ := Aside0.mk (blk_drew BK183.out)
              have n2_ := Aside0.mk (below_drew1 HB.out)
              clear BK166
              clear BK183
              clear HB
              have BK166 := n0_
              have BK183 := n1_
              have HB := n2_
              clear n0_ n1_ n2_
              refine start_ (n := 17) (S := fun w' => w'.cell? ⟨gb166, 0, none⟩ = some (.bool x167000_1) ∧ w'.cell? ⟨gb166, 1, none⟩ = some (.int .i64 x167001_1) ∧ w'.cell? ⟨gb166, 2, none⟩ = some (.int .i64 x167002_1)) (ds := []) #[false, false, false, false, false, false, false, false, false, false, false, false, false, false, false, false, false] (by kernel_rfl) rfl rfl ⟨(blk_cell BK166.out 0).trans rfl, (blk_cell BK166.out 1).trans rfl, (blk_cell BK166.out 2).trans rfl⟩ (fun hHeld => ?_); refine with_tabW credenzalaw16_CountTries.tab15 credenzalaw16_CountTries.bits15 (fun HT_ HW_ => ?_)
              generalize w73.drew = w74 at BK166 BK183 HB hHeld ⊢
              refine pure_ (i := 0) (N := some 70) (v := ?_) (a' := ?_) #[true, false, false, false, false, false, false, false, false, false, false, false, false, false, false, false, false] rfl rfl (any_of HT_.out (by kernel_rfl)) (fun _ _ _ h => h) (Or.inl ⟨by rfl, ?_⟩) ?_ ?_
              rotate_left
              · intro w'
                go_simp
                with_reducible rfl
              rotate_left
              · simp only [Act.put, List.setIfInBounds_toArray, List.set_cons_zero, List.set_cons_succ, i64_w, i32_w]
                rfl
              refine pure_ (i := 1) (N := some 71) (v := ?_) (a' := ?_) #[true, true, false, false, false, false, false, false, false, false, false, false, false, false, false, false, false] rfl rfl (any_of HT_.out (by kernel_rfl)) (fun _ _ _ h => h) (Or.inl ⟨by rfl, ?_⟩) ?_ ?_
              rotate_left
              · intro w'
                go_simp
                with_reducible rfl
              rotate_left
              · simp only [Act.put, List.setIfInBounds_toArray, List.set_cons_zero, List.set_cons_succ, i64_w, i32_w]
                rfl
              refine pure_ (i := 2) (N := some 72) (v := ?_) (a' := ?_) #[true, true, true, false, false, false, false, false, false, false, false, false, false, false, false, false, false] rfl rfl (any_of HT_.out (by kernel_rfl)) (fun _ _ _ h => h) (Or.inl ⟨by rfl, ?_⟩) ?_ ?_
              rotate_left
              · intro w'
                go_simp
                with_reducible rfl
              rotate_left
              · simp only [Act.put, List.setIfInBounds_toArray, List.set_cons_zero, List.set_cons_succ, i64_w, i32_w]
                rfl
              refine take_ (i := 3) (N := some 73) (v := ?_) (a' := ?_) #[true, true, true, true, false, false, false, false, false, false, false, false, false, false, false, false, false] rfl rfl (take_ofW HT_.out HW_.out (by kernel_rfl)) (fun _ _ _ h => h) (Or.inl ⟨by rfl, ?_⟩) hHeld ?_ ?_
              rotate_left
              · rintro w' ⟨s0, s1, s2⟩
                go_simp
                with_reducible rfl
              rotate_left
              · simp only [Act.put, List.setIfInBounds_toArray, List.set_cons_zero, List.set_cons_succ, i64_w, i32_w]
                rfl
              refine one_ (i := 4) (N := some 74) #[true, true, true, true, true, false, false, false, false, false, false, false, false, false, false, false, false] rfl rfl (one_of HT_.out (by kernel_rfl)) (by decide) (fun K hK => ?_)
              refine goes_ Tryd.func16 (by kernel_rfl) rfl #[.agg #[.bool x167000_1, .int .i64 x167001_1, .int .i64 x167002_1]] (by rfl) rfl rfl (by (try simp only [List.map_toArray, List.map_cons, List.map_nil]); first | done | rfl | (simp only [List.length_drop, List.length_take]; rfl)) ?_
              with_reducible refine (count_State.calls x167000_1 x167001_1 x167002_1 t184 _ A53.out).mono ?_
              rintro e w75 ⟨rfl, hb⟩
              refine ⟨_, rfl, ?_⟩
              have n0_ := Aside0.mk (blk_below (g := gb166) (o := .cells #[.bool x167000_1, .int .i64 x167001_1, .int .i64 x167002_1] 24 (0, 0)) (by (with_reducible repeat (first | refine blk_drewN ?_ _ | refine blk_drew ?_ | refine blk_alloc ?_ _)); exact BK166.out) hb)
              have n1_ := Aside0.mk (blk_below (g := gb183) (o := .cells #[.bool t179, .int .i64 t180, .int .i64 t181] 24 (0, 0)) (by (with_reducible repeat (first | refine blk_drewN ?_ _ | refine blk_drew ?_ | refine blk_alloc ?_ _)); exact BK183.out) hb)
              have n2_ := Aside0.mk (below_step (by repeat (first | (with_reducible first | exact HB.out | apply below_alloc | apply pw_below_drewN | apply below_drew1 | refine below_set ?_ GE166.out | refine below_set ?_ GE183.out) | exact HB.out)) hb)
              clear BK166
              clear BK183
              clear HB
              have BK166 := n0_
              have BK183 := n1_
              have HB := n2_
              clear n0_ n1_ n2_
              (try clear hb)
              (try clear hb2)
              (try clear hk)
              (try clear hi)
              refine hK.out _ _ ⟨(blk_cell BK166.out 0).trans rfl, (blk_cell BK166.out 1).trans rfl, (blk_cell BK166.out 2).trans rfl⟩ (fun hHeld => ?_)
              clear hK K
              refine norm_ (a' := ?_) ?_ ?_
              rotate_left
              · show Act.put _ (some 74) _ = _
                simp only [Act.put, List.setIfInBounds_toArray, List.set_cons_zero, List.set_cons_succ, i64_w, i32_w]
                rfl
              refine pure_ (i := 5) (N := some 75) (v := ?_) (a' := ?_) #[true, true, true, true, true, true, false, false, false, false, false, false, false, false, false, false, false] rfl rfl (any_of HT_.out (by kernel_rfl)) (fun _ _ _ h => h) (Or.inl ⟨by rfl, ?_⟩) ?_ ?_
              rotate_left
              · intro w'
                go_simp
                with_reducible rfl
              rotate_left
              · simp only [Act.put, List.setIfInBounds_toArray, List.set_cons_zero, List.set_cons_succ, i64_w, i32_w]
                rfl
              refine pure_ (i := 6) (N := some 76) (v := ?_) (a' := ?_) #[true, true, true, true, true, true, true, false, false, false, false, false, false, false, false, false, false] rfl rfl (any_of HT_.out (by kernel_rfl)) (fun _ _ _ h => h) (Or.inl ⟨by rfl, ?_⟩) ?_ ?_
              rotate_left
              · intro w'
                go_simp
                with_reducible rfl
              rotate_left
              · simp only [Act.put, List.setIfInBounds_toArray, List.set_cons_zero, List.set_cons_succ, i64_w, i32_w]
                rfl
              refine pure_ (i := 7) (N := some 77) (v := ?_) (a' := ?_) #[true, true, true, true, true, true, true, true, false, false, false, false, false, false, false, false, false] rfl rfl (any_of HT_.out (by kernel_rfl)) (fun _ _ _ h => h) (Or.inl ⟨by rfl, ?_⟩) ?_ ?_
              rotate_left
              · intro w'
                go_simp
                with_reducible rfl
              rotate_left
              · simp only [Act.put, List.setIfInBounds_toArray, List.set_cons_zero, List.set_cons_succ, i64_w, i32_w]
                rfl
              refine take_ (i := 8) (N := some 78) (v := ?_) (a' := ?_) #[true, true, true, true, true, true, true, true, true, false, false, false, false, false, false, false, false] rfl rfl (take_ofW HT_.out HW_.out (by kernel_rfl)) (fun _ _ _ h => h) (Or.inl ⟨by rfl, ?_⟩) hHeld ?_ ?_
              rotate_left
              · rintro w' ⟨s0, s1, s2⟩
                go_simp
                with_reducible rfl
              rotate_left
              · simp only [Act.put, List.setIfInBounds_toArray, List.set_cons_zero, List.set_cons_succ, i64_w, i32_w]
                rfl
              refine take_ (i := 10) (N := some 80) (v := ?_) (a' := ?_) #[true, true, true, true, true, true, true, true, true, false, true, false, false, false, false, false, false] rfl rfl (take_ofW HT_.out HW_.out (by kernel_rfl)) (fun _ _ _ h => h) (Or.inl ⟨by rfl, ?_⟩) hHeld ?_ ?_
              rotate_left
              · rintro w' ⟨s0, s1, s2⟩
                go_simp
                with_reducible rfl
              rotate_left
              · simp only [Act.put, List.setIfInBounds_toArray, List.set_cons_zero, List.set_cons_succ, i64_w, i32_w]
                rfl
              refine one_ (i := 9) (N := some 79) #[true, true, true, true, true, true, true, true, true, true, true, false, false, false, false, false, false] rfl rfl (one_of HT_.out (by kernel_rfl)) (by decide) (fun K hK => ?_)
              refine goes_ Tryd.func18 (by kernel_rfl) rfl #[.agg #[.bool x167000_1, .int .i64 x167001_1, .int .i64 x167002_1]] (by rfl) rfl rfl (by (try simp only [List.map_toArray, List.map_cons, List.map_nil]); first | done | rfl | (simp only [List.length_drop, List.length_take]; rfl)) ?_
              with_reducible refine (count_Bad.calls x167000_1 x167001_1 x167002_1 t185 t186 t187 _ A55.out).mono ?_
              rintro e w76 ⟨rfl, hb⟩
              refine ⟨_, rfl, ?_⟩
              have n0_ := Aside0.mk (blk_below (g := gb166) (o := .cells #[.bool x167000_1, .int .i64 x167001_1, .int .i64 x167002_1] 24 (0, 0)) (by (with_reducible repeat (first | refine blk_drewN ?_ _ | refine blk_drew ?_ | refine blk_alloc ?_ _)); exact BK166.out) hb)
              have n1_ := Aside0.mk (blk_below (g := gb183) (o := .cells #[.bool t179, .int .i64 t180, .int .i64 t181] 24 (0, 0)) (by (with_reducible repeat (first | refine blk_drewN ?_ _ | refine blk_drew ?_ | refine blk_alloc ?_ _)); exact BK183.out) hb)
              have n2_ := Aside0.mk (below_step (by repeat (first | (with_reducible first | exact HB.out | apply below_alloc | apply pw_below_drewN | apply below_drew1 | refine below_set ?_ GE166.out | refine below_set ?_ GE183.out) | exact HB.out)) hb)
              clear BK166
              clear BK183
              clear HB
              have BK166 := n0_
              have BK183 := n1_
              have HB := n2_
              clear n0_ n1_ n2_
              (try clear hb)
              (try clear hb2)
              (try clear hk)
              (try clear hi)
              refine hK.out _ _ ⟨(blk_cell BK166.out 0).trans rfl, (blk_cell BK166.out 1).trans rfl, (blk_cell BK166.out 2).trans rfl⟩ (fun hHeld => ?_)
              clear hK K
              refine norm_ (a' := ?_) ?_ ?_
              rotate_left
              · show Act.put _ (some 79) _ = _
                simp only [Act.put, List.setIfInBounds_toArray, List.set_cons_zero, List.set_cons_succ, i64_w, i32_w]
                rfl
              refine pure_ (i := 11) (N := some 81) (v := ?_) (a' := ?_) #[true, true, true, true, true, true, true, true, true, true, true, true, false, false, false, false, false] rfl rfl (any_of HT_.out (by kernel_rfl)) (fun _ _ _ h => h) (Or.inl ⟨by rfl, ?_⟩) ?_ ?_
              rotate_left
              · intro w'
                go_simp
                with_reducible rfl
              rotate_left
              · simp only [Act.put, List.setIfInBounds_toArray, List.set_cons_zero, List.set_cons_succ, i64_w, i32_w]
                rfl
              refine pure_ (i := 12) (N := some 82) (v := ?_) (a' := ?_) #[true, true, true, true, true, true, true, true, true, true, true, true, true, false, false, false, false] rfl rfl (any_of HT_.out (by kernel_rfl)) (fun _ _ _ h => h) (Or.inl ⟨by rfl, ?_⟩) ?_ ?_
              rotate_left
              · intro w'
                go_simp
                with_reducible rfl
              rotate_left
              · simp only [Act.put, List.setIfInBounds_toArray, List.set_cons_zero, List.set_cons_succ, i64_w, i32_w]
                rfl
              refine pure_ (i := 13) (N := some 83) (v := ?_) (a' := ?_) #[true, true, true, true, true, true, true, true, true, true, true, true, true, true, false, false, false] rfl rfl (any_of HT_.out (by kernel_rfl)) (fun _ _ _ h => h) (Or.inl ⟨by rfl, ?_⟩) ?_ ?_
              rotate_left
              · intro w'
                go_simp
                with_reducible rfl
              rotate_left
              · simp only [Act.put, List.setIfInBounds_toArray, List.set_cons_zero, List.set_cons_succ, i64_w, i32_w]
                rfl
              refine pure_ (i := 14) (N := some 84) (v := undef) (a' := ?_) #[true, true, true, true, true, true, true, true, true, true, true, true, true, true, true, false, false] rfl rfl (any_of HT_.out (by kernel_rfl)) (fun _ _ _ h => h) (Or.inr ⟨by rfl, rfl⟩) ?_ ?_
              rotate_left
              · simp only [Act.put, List.setIfInBounds_toArray, List.set_cons_zero, List.set_cons_succ, i64_w, i32_w]
                rfl
              refine pure_ (i := 15) (N := some 85) (v := ?_) (a' := ?_) #[true, true, true, true, true, true, true, true, true, true, true, true, true, true, true, true, false] rfl rfl (any_of HT_.out (by kernel_rfl)) (fun _ _ _ h => h) (Or.inl ⟨by rfl, ?_⟩) ?_ ?_
              rotate_left
              · intro w'
                go_simp
                with_reducible rfl
              rotate_left
              · simp only [Act.put, List.setIfInBounds_toArray, List.set_cons_zero, List.set_cons_succ, i64_w, i32_w]
                rfl
              refine pure_ (i := 16) (N := some 2) (v := ?_) (a' := ?_) #[true, true, true, true, true, true, true, true, true, true, true, true, true, true, true, true, true] rfl rfl (any_of HT_.out (by kernel_rfl)) (fun _ _ _ h => h) (Or.inl ⟨by rfl, ?_⟩) ?_ ?_
              rotate_left
              · intro w'
                go_simp
                with_reducible rfl
              rotate_left
              · simp only [Act.put, List.setIfInBounds_toArray, List.set_cons_zero, List.set_cons_succ, i64_w, i32_w]
                rfl
              refine done_ (done_of HT_.out (by kernel_rfl)) ?_
              try go_wp2
              go_ret
              exact ⟨by first | rfl | (simp [errW_none, errW_some] <;> rfl) | (simp [*, errW_none, errW_some] <;> rfl), by repeat (first | (with_reducible first | exact HB.out | apply below_alloc | apply pw_below_drewN | apply below_drew1 | refine below_set ?_ GE166.out | refine below_set ?_ GE183.out) | exact HB.out)⟩
          · rw [if_neg c54] at H
            have c54b0 : (t184 == 2) = false := beq_eq_false_iff_ne.mpr c54
            have c54b1 : (t184 != 2) = true := bne_iff_ne.mpr c54
            obtain rfl := Option.some.inj H
            have hcz77_0 : wr.cell? ⟨gb166, 0, none⟩ = some (.bool x167000_1) := (blk_cell BK166.out 0).trans rfl
            have hcz77_1 : wr.cell? ⟨gb166, 1, none⟩ = some (.int .i64 x167001_1) := (blk_cell BK166.out 1).trans rfl
            have hcz77_2 : wr.cell? ⟨gb166, 2, none⟩ = some (.int .i64 x167002_1) := (blk_cell BK166.out 2).trans rfl
            have hfz77_0 := blk_frozen BK166.out 0
            have hfz77_1 := blk_frozen BK166.out 1
            have hfz77_2 := blk_frozen BK166.out 2
            try go_wp2_with (first | ((with_reducible refine gate_callee (f := 17) rfl ?_); refine goesL_ (some 67) rfl rfl Tryd.func17 (by kernel_rfl) rfl #[.agg #[.bool x167000_1, .int .i64 x167001_1, .int .i64 x167002_1]] rfl (by (try simp only [List.map_toArray, List.map_cons, List.map_nil]); first | done | rfl | (simp only [List.length_drop, List.length_take]; rfl)) ?_; (with_reducible refine (count_Spend.calls x167000_1 x167001_1 x167002_1 t179 t180 t181 false _ A44.out).mono ?_); rintro e w78 ⟨rfl, hb⟩; refine ⟨_, rfl, ?_⟩; have n0_ := Aside0.mk (blk_below (g := gb166) (o := .cells #[.bool x167000_1, .int .i64 x167001_1, .int .i64 x167002_1] 24 (0, 0)) (by (with_reducible repeat (first | refine blk_drewN ?_ _ | refine blk_drew ?_ | refine blk_alloc ?_ _)); exact BK166.out) hb); have n1_ := Aside0.mk (below_step (by repeat (first | (with_reducible first | exact HB.out | apply below_alloc | apply pw_below_drewN | apply below_drew1 | refine below_set ?_ GE166.out) | exact HB.out)) hb); clear BK166; clear HB; have BK166 := n0_; have HB := n1_; clear n0_ n1_; (try clear hb); (try clear hb2); (try clear hk); (try clear hi)) | ((with_reducible refine gate_dst (N := 8) rfl ?_); refine box_event ?hg (N := 8) ?hd (cs := #[.bool false, .int .i64 0, .int .i64 0]) (t := 24) ?hr ?_; (case hd => rfl); (case hg => rfl); (case hr => first | (go_simp; done) | (go_simp; rfl)); intro gb183 hg w79 hbox hb; have n0_ := Aside0.mk (blk_below (g := gb166) (o := .cells #[.bool x167000_1, .int .i64 x167001_1, .int .i64 x167002_1] 24 (0, 0)) (by (with_reducible repeat (first | refine blk_drewN ?_ _ | refine blk_drew ?_ | refine blk_alloc ?_ _)); exact BK166.out) hb); have n1_ := Aside0.mk (below_step (by repeat (first | (with_reducible first | exact HB.out | apply below_alloc | apply pw_below_drewN | apply below_drew1 | refine below_set ?_ GE166.out) | exact HB.out)) hb); have n2_ := Aside0.mk (hbox); have n3_ := Aside0.mk ((by rw [hg]; exact (below_size (by repeat (first | (with_reducible first | exact HB.out | apply below_alloc | apply pw_below_drewN | apply below_drew1 | refine below_set ?_ GE166.out) | exact HB.out))) : w.heap.size ≤ gb183)); have n4_ := Aside0.mk ((by rw [hg]; exact (below_size (by repeat (first | (with_reducible first | exact HB.out | apply below_alloc | apply pw_below_drewN | apply below_drew1 | refine below_set ?_ GE166.out) | exact HB.out))) : w.heap.size ≤ gb183)); have n5_ := Aside0.mk ((by rw [hg]; exact Nat.ne_of_lt (blk_lt (g := gb166) (o := .cells #[.bool x167000_1, .int .i64 x167001_1, .int .i64 x167002_1] 24 (0, 0)) (by (with_reducible repeat (first | refine blk_drewN ?_ _ | refine blk_drew ?_ | refine blk_alloc ?_ _)); exact BK166.out)) : gb166 ≠ gb183)); have n6_ := Aside0.mk ((by rw [hg]; exact Nat.ne_of_gt (blk_lt (g := gb166) (o := .cells #[.bool x167000_1, .int .i64 x167001_1, .int .i64 x167002_1] 24 (0, 0)) (by (with_reducible repeat (first | refine blk_drewN ?_ _ | refine blk_drew ?_ | refine blk_alloc ?_ _)); exact BK166.out)) : gb183 ≠ gb166)); clear BK166; clear HB; have BK166 := n0_; have HB := n1_; have BK183 := n2_; have GW183 := n3_; have GE183 := n4_; have NB166_183 := n5_; have NB183_166 := n6_; clear n0_ n1_ n2_ n3_ n4_ n5_ n6_; clear hb hbox hg; have hnb80 := NB183_166.out; have hnc80 := NB166_183.out; have hcz81_0 : w79.cell? ⟨gb183, 0, none⟩ = some (.bool false) := (blk_cell BK183.out 0).trans rfl; have hcz81_1 : w79.cell? ⟨gb183, 1, none⟩ = some (.int .i64 0) := (blk_cell BK183.out 1).trans rfl; have hcz81_2 : w79.cell? ⟨gb183, 2, none⟩ = some (.int .i64 0) := (blk_cell BK183.out 2).trans rfl; have hfz81_0 := blk_frozen BK183.out 0; have hfz81_1 := blk_frozen BK183.out 1; have hfz81_2 := blk_frozen BK183.out 2))
            have n0_ : Aside0 ((((w79.setCell ⟨gb183, 0, none⟩ (.bool t179)).setCell ⟨gb183, 1, none⟩ (.int .i64 t180)).setCell ⟨gb183, 2, none⟩ (.int .i64 t181)).heap[gb166]? = some (.cells #[.bool x167000_1, .int .i64 x167001_1, .int .i64 x167002_1] 24 (0, 0))) := ⟨by (with_reducible repeat (first | refine blk_drewN ?_ _ | refine blk_drew ?_ | refine blk_alloc ?_ _)); refine blk_far ?_ NB166_183.out _; (with_reducible repeat (first | refine blk_drewN ?_ _ | refine blk_drew ?_ | refine blk_alloc ?_ _)); refine blk_far ?_ NB166_183.out _; (with_reducible repeat (first | refine blk_drewN ?_ _ | refine blk_drew ?_ | refine blk_alloc ?_ _)); refine blk_far ?_ NB166_183.out _; (with_reducible repeat (first | refine blk_drewN ?_ _ | refine blk_drew ?_ | refine blk_alloc ?_ _)); exact BK166.out⟩
            have n1_ : Aside0 ((((w79.setCell ⟨gb183, 0, none⟩ (.bool t179)).setCell ⟨gb183, 1, none⟩ (.int .i64 t180)).setCell ⟨gb183, 2, none⟩ (.int .i64 t181)).heap[gb183]? = some (.cells #[.bool t179, .int .i64 t180, .int .i64 t181] 24 (0, 0))) := ⟨by (with_reducible repeat (first | refine blk_drewN ?_ _ | refine blk_drew ?_ | refine blk_alloc ?_ _)); refine blk_put (cs := #[.bool t179, .int .i64 t180, .int .i64 0]) ?_ 2 _ rfl; (with_reducible repeat (first | refine blk_drewN ?_ _ | refine blk_drew ?_ | refine blk_alloc ?_ _)); refine blk_put (cs := #[.bool t179, .int .i64 0, .int .i64 0]) ?_ 1 _ rfl; (with_reducible repeat (first | refine blk_drewN ?_ _ | refine blk_drew ?_ | refine blk_alloc ?_ _)); refine blk_put (cs := #[.bool false, .int .i64 0, .int .i64 0]) ?_ 0 _ rfl; (with_reducible repeat (first | refine blk_drewN ?_ _ | refine blk_drew ?_ | refine blk_alloc ?_ _)); exact BK183.out⟩
            have n2_ : Aside0 (Below w.heap.size w (((w79.setCell ⟨gb183, 0, none⟩ (.bool t179)).setCell ⟨gb183, 1, none⟩ (.int .i64 t180)).setCell ⟨gb183, 2, none⟩ (.int .i64 t181))) := ⟨by repeat (first | (with_reducible first | exact HB.out | apply below_alloc | apply pw_below_drewN | apply below_drew1 | refine below_set ?_ GE166.out | refine below_set ?_ GE183.out) | exact HB.out)⟩
            (try clear BK166)
            (try clear BK183)
            (try clear HB)
            generalize (((w79.setCell ⟨gb183, 0, none⟩ (.bool t179)).setCell ⟨gb183, 1, none⟩ (.int .i64 t180)).setCell ⟨gb183, 2, none⟩ (.int .i64 t181)) = w82 at n0_ n1_ n2_ ⊢
            have BK166 := n0_
            have BK183 := n1_
            have HB := n2_
            clear n0_ n1_ n2_
            have n0_ := Aside0.mk (blk_drew BK166.out)
            have n1_ := Aside0.mk (blk_drew BK183.out)
            have n2_ := Aside0.mk (below_drew1 HB.out)
            clear BK166
            clear BK183
            clear HB
            have BK166 := n0_
            have BK183 := n1_
            have HB := n2_
            clear n0_ n1_ n2_
            refine start_ (n := 17) (S := fun w' => w'.cell? ⟨gb166, 0, none⟩ = some (.bool x167000_1) ∧ w'.cell? ⟨gb166, 1, none⟩ = some (.int .i64 x167001_1) ∧ w'.cell? ⟨gb166, 2, none⟩ = some (.int .i64 x167002_1)) (ds := []) #[false, false, false, false, false, false, false, false, false, false, false, false, false, false, false, false, false] (by kernel_rfl) rfl rfl ⟨(blk_cell BK166.out 0).trans rfl, (blk_cell BK166.out 1).trans rfl, (blk_cell BK166.out 2).trans rfl⟩ (fun hHeld => ?_); refine with_tabW credenzalaw16_CountTries.tab15 credenzalaw16_CountTries.bits15 (fun HT_ HW_ => ?_)
            generalize w82.drew = w83 at BK166 BK183 HB hHeld ⊢
            refine pure_ (i := 0) (N := some 70) (v := ?_) (a' := ?_) #[true, false, false, false, false, false, false, false, false, false, false, false, false, false, false, false, false] rfl rfl (any_of HT_.out (by kernel_rfl)) (fun _ _ _ h => h) (Or.inl ⟨by rfl, ?_⟩) ?_ ?_
            rotate_left
            · intro w'
              go_simp
              with_reducible rfl
            rotate_left
            · simp only [Act.put, List.setIfInBounds_toArray, List.set_cons_zero, List.set_cons_succ, i64_w, i32_w]
              rfl
            refine pure_ (i := 1) (N := some 71) (v := ?_) (a' := ?_) #[true, true, false, false, false, false, false, false, false, false, false, false, false, false, false, false, false] rfl rfl (any_of HT_.out (by kernel_rfl)) (fun _ _ _ h => h) (Or.inl ⟨by rfl, ?_⟩) ?_ ?_
            rotate_left
            · intro w'
              go_simp
              with_reducible rfl
            rotate_left
            · simp only [Act.put, List.setIfInBounds_toArray, List.set_cons_zero, List.set_cons_succ, i64_w, i32_w]
              rfl
            refine pure_ (i := 2) (N := some 72) (v := ?_) (a' := ?_) #[true, true, true, false, false, false, false, false, false, false, false, false, false, false, false, false, false] rfl rfl (any_of HT_.out (by kernel_rfl)) (fun _ _ _ h => h) (Or.inl ⟨by rfl, ?_⟩) ?_ ?_
            rotate_left
            · intro w'
              go_simp
              with_reducible rfl
            rotate_left
            · simp only [Act.put, List.setIfInBounds_toArray, List.set_cons_zero, List.set_cons_succ, i64_w, i32_w]
              rfl
            refine take_ (i := 3) (N := some 73) (v := ?_) (a' := ?_) #[true, true, true, true, false, false, false, false, false, false, false, false, false, false, false, false, false] rfl rfl (take_ofW HT_.out HW_.out (by kernel_rfl)) (fun _ _ _ h => h) (Or.inl ⟨by rfl, ?_⟩) hHeld ?_ ?_
            rotate_left
            · rintro w' ⟨s0, s1, s2⟩
              go_simp
              with_reducible rfl
            rotate_left
            · simp only [Act.put, List.setIfInBounds_toArray, List.set_cons_zero, List.set_cons_succ, i64_w, i32_w]
              rfl
            refine one_ (i := 4) (N := some 74) #[true, true, true, true, true, false, false, false, false, false, false, false, false, false, false, false, false] rfl rfl (one_of HT_.out (by kernel_rfl)) (by decide) (fun K hK => ?_)
            refine goes_ Tryd.func16 (by kernel_rfl) rfl #[.agg #[.bool x167000_1, .int .i64 x167001_1, .int .i64 x167002_1]] (by rfl) rfl rfl (by (try simp only [List.map_toArray, List.map_cons, List.map_nil]); first | done | rfl | (simp only [List.length_drop, List.length_take]; rfl)) ?_
            with_reducible refine (count_State.calls x167000_1 x167001_1 x167002_1 t184 _ A53.out).mono ?_
            rintro e w84 ⟨rfl, hb⟩
            refine ⟨_, rfl, ?_⟩
            have n0_ := Aside0.mk (blk_below (g := gb166) (o := .cells #[.bool x167000_1, .int .i64 x167001_1, .int .i64 x167002_1] 24 (0, 0)) (by (with_reducible repeat (first | refine blk_drewN ?_ _ | refine blk_drew ?_ | refine blk_alloc ?_ _)); exact BK166.out) hb)
            have n1_ := Aside0.mk (blk_below (g := gb183) (o := .cells #[.bool t179, .int .i64 t180, .int .i64 t181] 24 (0, 0)) (by (with_reducible repeat (first | refine blk_drewN ?_ _ | refine blk_drew ?_ | refine blk_alloc ?_ _)); exact BK183.out) hb)
            have n2_ := Aside0.mk (below_step (by repeat (first | (with_reducible first | exact HB.out | apply below_alloc | apply pw_below_drewN | apply below_drew1 | refine below_set ?_ GE166.out | refine below_set ?_ GE183.out) | exact HB.out)) hb)
            clear BK166
            clear BK183
            clear HB
            have BK166 := n0_
            have BK183 := n1_
            have HB := n2_
            clear n0_ n1_ n2_
            (try clear hb)
            (try clear hb2)
            (try clear hk)
            (try clear hi)
            refine hK.out _ _ ⟨(blk_cell BK166.out 0).trans rfl, (blk_cell BK166.out 1).trans rfl, (blk_cell BK166.out 2).trans rfl⟩ (fun hHeld => ?_)
            clear hK K
            refine norm_ (a' := ?_) ?_ ?_
            rotate_left
            · show Act.put _ (some 74) _ = _
              simp only [Act.put, List.setIfInBounds_toArray, List.set_cons_zero, List.set_cons_succ, i64_w, i32_w]
              rfl
            refine pure_ (i := 5) (N := some 75) (v := ?_) (a' := ?_) #[true, true, true, true, true, true, false, false, false, false, false, false, false, false, false, false, false] rfl rfl (any_of HT_.out (by kernel_rfl)) (fun _ _ _ h => h) (Or.inl ⟨by rfl, ?_⟩) ?_ ?_
            rotate_left
            · intro w'
              go_simp
              with_reducible rfl
            rotate_left
            · simp only [Act.put, List.setIfInBounds_toArray, List.set_cons_zero, List.set_cons_succ, i64_w, i32_w]
              rfl
            refine pure_ (i := 6) (N := some 76) (v := ?_) (a' := ?_) #[true, true, true, true, true, true, true, false, false, false, false, false, false, false, false, false, false] rfl rfl (any_of HT_.out (by kernel_rfl)) (fun _ _ _ h => h) (Or.inl ⟨by rfl, ?_⟩) ?_ ?_
            rotate_left
            · intro w'
              go_simp
              with_reducible rfl
            rotate_left
            · simp only [Act.put, List.setIfInBounds_toArray, List.set_cons_zero, List.set_cons_succ, i64_w, i32_w]
              rfl
            refine pure_ (i := 7) (N := some 77) (v := ?_) (a' := ?_) #[true, true, true, true, true, true, true, true, false, false, false, false, false, false, false, false, false] rfl rfl (any_of HT_.out (by kernel_rfl)) (fun _ _ _ h => h) (Or.inl ⟨by rfl, ?_⟩) ?_ ?_
            rotate_left
            · intro w'
              go_simp
              with_reducible rfl
            rotate_left
            · simp only [Act.put, List.setIfInBounds_toArray, List.set_cons_zero, List.set_cons_succ, i64_w, i32_w]
              rfl
            refine pure_ (i := 8) (N := some 78) (v := undef) (a' := ?_) #[true, true, true, true, true, true, true, true, true, false, false, false, false, false, false, false, false] rfl rfl (any_of HT_.out (by kernel_rfl)) (fun _ _ _ h => h) (Or.inr ⟨by rfl, rfl⟩) ?_ ?_
            rotate_left
            · simp only [Act.put, List.setIfInBounds_toArray, List.set_cons_zero, List.set_cons_succ, i64_w, i32_w]
              rfl
            refine pure_ (i := 9) (N := some 79) (v := undef) (a' := ?_) #[true, true, true, true, true, true, true, true, true, true, false, false, false, false, false, false, false] rfl rfl (any_of HT_.out (by kernel_rfl)) (fun _ _ _ h => h) (Or.inr ⟨by rfl, rfl⟩) ?_ ?_
            rotate_left
            · simp only [Act.put, List.setIfInBounds_toArray, List.set_cons_zero, List.set_cons_succ, i64_w, i32_w]
              rfl
            refine pure_ (i := 10) (N := some 80) (v := undef) (a' := ?_) #[true, true, true, true, true, true, true, true, true, true, true, false, false, false, false, false, false] rfl rfl (any_of HT_.out (by kernel_rfl)) (fun _ _ _ h => h) (Or.inr ⟨by rfl, rfl⟩) ?_ ?_
            rotate_left
            · simp only [Act.put, List.setIfInBounds_toArray, List.set_cons_zero, List.set_cons_succ, i64_w, i32_w]
              rfl
            refine pure_ (i := 11) (N := some 81) (v := undef) (a' := ?_) #[true, true, true, true, true, true, true, true, true, true, true, true, false, false, false, false, false] rfl rfl (any_of HT_.out (by kernel_rfl)) (fun _ _ _ h => h) (Or.inr ⟨by rfl, rfl⟩) ?_ ?_
            rotate_left
            · simp only [Act.put, List.setIfInBounds_toArray, List.set_cons_zero, List.set_cons_succ, i64_w, i32_w]
              rfl
            refine pure_ (i := 12) (N := some 82) (v := ?_) (a' := ?_) #[true, true, true, true, true, true, true, true, true, true, true, true, true, false, false, false, false] rfl rfl (any_of HT_.out (by kernel_rfl)) (fun _ _ _ h => h) (Or.inl ⟨by rfl, ?_⟩) ?_ ?_
            rotate_left
            · intro w'
              go_simp
              with_reducible rfl
            rotate_left
            · simp only [Act.put, List.setIfInBounds_toArray, List.set_cons_zero, List.set_cons_succ, i64_w, i32_w]
              rfl
            refine pure_ (i := 13) (N := some 83) (v := ?_) (a' := ?_) #[true, true, true, true, true, true, true, true, true, true, true, true, true, true, false, false, false] rfl rfl (any_of HT_.out (by kernel_rfl)) (fun _ _ _ h => h) (Or.inl ⟨by rfl, ?_⟩) ?_ ?_
            rotate_left
            · intro w'
              go_simp
              with_reducible rfl
            rotate_left
            · simp only [Act.put, List.setIfInBounds_toArray, List.set_cons_zero, List.set_cons_succ, i64_w, i32_w]
              rfl
            refine pure_ (i := 14) (N := some 84) (v := undef) (a' := ?_) #[true, true, true, true, true, true, true, true, true, true, true, true, true, true, true, false, false] rfl rfl (any_of HT_.out (by kernel_rfl)) (fun _ _ _ h => h) (Or.inr ⟨by rfl, rfl⟩) ?_ ?_
            rotate_left
            · simp only [Act.put, List.setIfInBounds_toArray, List.set_cons_zero, List.set_cons_succ, i64_w, i32_w]
              rfl
            refine pure_ (i := 15) (N := some 85) (v := ?_) (a' := ?_) #[true, true, true, true, true, true, true, true, true, true, true, true, true, true, true, true, false] rfl rfl (any_of HT_.out (by kernel_rfl)) (fun _ _ _ h => h) (Or.inl ⟨by rfl, ?_⟩) ?_ ?_
            rotate_left
            · intro w'
              go_simp
              with_reducible rfl
            rotate_left
            · simp only [Act.put, List.setIfInBounds_toArray, List.set_cons_zero, List.set_cons_succ, i64_w, i32_w]
              rfl
            refine pure_ (i := 16) (N := some 2) (v := ?_) (a' := ?_) #[true, true, true, true, true, true, true, true, true, true, true, true, true, true, true, true, true] rfl rfl (any_of HT_.out (by kernel_rfl)) (fun _ _ _ h => h) (Or.inl ⟨by rfl, ?_⟩) ?_ ?_
            rotate_left
            · intro w'
              go_simp
              with_reducible rfl
            rotate_left
            · simp only [Act.put, List.setIfInBounds_toArray, List.set_cons_zero, List.set_cons_succ, i64_w, i32_w]
              rfl
            refine done_ (done_of HT_.out (by kernel_rfl)) ?_
            try go_wp2
            go_ret
            exact ⟨by first | rfl | (simp [errW_none, errW_some] <;> rfl) | (simp [*, errW_none, errW_some] <;> rfl), by repeat (first | (with_reducible first | exact HB.out | apply below_alloc | apply pw_below_drewN | apply below_drew1 | refine below_set ?_ GE166.out | refine below_set ?_ GE183.out) | exact HB.out)⟩

/-- THE ONE PURE STATEMENT of credenzalaw16_CountTries: yours. -/
def credenzalaw16_CountTries.Pure : Prop := ∀ (a0 : Int), (Lit.int .i64 a0).wf = true → ∃ k, credenzalaw16_CountTries.f k a0 = some true
theorem credenzalaw16_CountTries.walk (P : credenzalaw16_CountTries.Pure) (a0 : Int) (w : World) (hG : Cb.GW w) (w0 : (Lit.int .i64 a0).wf = true) :
    Calls Tryd.prog 7 #[.int .i64 a0] w fun e w' => e = .returned (.bool true) ∧ Below w.heap.size w w' := by
  obtain ⟨k, h⟩ := P a0 w0
  refine (credenzalaw16_CountTries.calls k a0 true w hG h).mono ?_
  rintro e w' ⟨rfl, hd⟩
  exact ⟨rfl, hd⟩

end Go.Proofs.YtdjlpifikeopdaaDoor.V

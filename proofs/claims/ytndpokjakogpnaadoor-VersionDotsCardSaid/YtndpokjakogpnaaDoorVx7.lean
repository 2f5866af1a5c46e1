-- written by hprint.py (wip/tools): the kit's print with hand contracts
import Derived.Test.YtndpokjakogpnaaDoorVx0
import Derived.Test.YtndpokjakogpnaaDoorVx2
import Derived.Test.YtndpokjakogpnaaDoorVx5
import Derived.Test.YtndpokjakogpnaaDoorVx6
namespace Go.Proofs.YtndpokjakogpnaaDoor.V
open Go.RowKit Go.Proofs.YtndpokjakogpnaaDoorW.PrintWords Go.Proofs.YtndpokjakogpnaaDoorW.PrintLast Go.Proofs.YtndpokjakogpnaaDoorW.PrintMore
attribute [local go_sem] max2_int min2_int max_two min_two max_three min_three max_four min_four   -- for this text's walks alone
set_option linter.unusedVariables false
set_option linter.unusedSimpArgs false

/-! ### credenzalaw15_VersionDots: function 3 -/
mutual
def credenzalaw15_VersionDots.l0 : Nat → List Int → List Int → ByteArray → ByteArray → Int → Int → Int → Option (Bool)
  | 0, _, _, _, _, _, _, _ => none
  | k + 1, x0, x1, x5, x6, x7, x8, x9 => if x9 < x7 then (if x5.size + 1 ≤ 9223372036854775807 then (if 0 ≤ x9 then (if x9 < (x0.length : Int) then ((credenzaref2_Num.f k (Go.bits .and .i64 (rd x0 x9) 4095)).bind fun t150 => (if (x5 ++ (⟨#[46]⟩ : ByteArray)).size + t150.size ≤ 9223372036854775807 then (credenzalaw15_VersionDots.l0 k x0 x1 ((x5 ++ (⟨#[46]⟩ : ByteArray)) ++ t150) x6 x7 x8 (wrap64 (x9 + 1))) else (none))) else (none)) else (none)) else (none)) else (credenzalaw15_VersionDots.l1 k x0 x1 x5 x6 x7 x8 0)
def credenzalaw15_VersionDots.l1 : Nat → List Int → List Int → ByteArray → ByteArray → Int → Int → Int → Option (Bool)
  | 0, _, _, _, _, _, _, _ => none
  | k + 1, x0, x1, x5, x6, x7, x8, x10 => if x10 < x8 then (if x6.size + 1 ≤ 9223372036854775807 then (if 0 ≤ x10 then (if x10 < (x1.length : Int) then ((credenzaref2_Num.f k (Go.bits .and .i64 (rd x1 x10) 4095)).bind fun t152 => (if (x6 ++ (⟨#[46]⟩ : ByteArray)).size + t152.size ≤ 9223372036854775807 then (credenzalaw15_VersionDots.l1 k x0 x1 x5 ((x6 ++ (⟨#[46]⟩ : ByteArray)) ++ t152) x7 x8 (wrap64 (x10 + 1))) else (none))) else (none)) else (none)) else (none)) else (credenzalaw15_VersionDots.l2 k x0 x1 x5 x6 x7 x8 0 0)
def credenzalaw15_VersionDots.l2 : Nat → List Int → List Int → ByteArray → ByteArray → Int → Int → Int → Int → Option (Bool)
  | 0, _, _, _, _, _, _, _, _ => none
  | k + 1, x0, x1, x5, x6, x7, x8, x11, x12 => if x12 < x7 then (if x12 < x8 then (credenzalaw15_VersionDots.j3 k x0 x1 x5 x6 x7 x8 x11 x12 (x11 == 0)) else (credenzalaw15_VersionDots.j3 k x0 x1 x5 x6 x7 x8 x11 x12 false)) else (credenzalaw15_VersionDots.j3 k x0 x1 x5 x6 x7 x8 x11 x12 false)
def credenzalaw15_VersionDots.j3 : Nat → List Int → List Int → ByteArray → ByteArray → Int → Int → Int → Int → Bool → Option (Bool)
  | 0, _, _, _, _, _, _, _, _, _ => none
  | k + 1, x0, x1, x5, x6, x7, x8, x11, x12, x60 => if x60 = true then (if 0 ≤ x12 then (if x12 < (x0.length : Int) then (if x12 < (x1.length : Int) then (if (Go.bits .and .i64 (rd x0 x12) 4095) < (Go.bits .and .i64 (rd x1 x12) 4095) then (if (Go.bits .and .i64 (rd x0 x12) 4095) > (Go.bits .and .i64 (rd x1 x12) 4095) then (credenzalaw15_VersionDots.l2 k x0 x1 x5 x6 x7 x8 1 (wrap64 (x12 + 1))) else (credenzalaw15_VersionDots.l2 k x0 x1 x5 x6 x7 x8 (-1) (wrap64 (x12 + 1)))) else (if (Go.bits .and .i64 (rd x0 x12) 4095) > (Go.bits .and .i64 (rd x1 x12) 4095) then (credenzalaw15_VersionDots.l2 k x0 x1 x5 x6 x7 x8 1 (wrap64 (x12 + 1))) else (credenzalaw15_VersionDots.l2 k x0 x1 x5 x6 x7 x8 x11 (wrap64 (x12 + 1))))) else (none)) else (none)) else (none)) else (if x11 = 0 then (credenzalaw15_VersionDots.j4 k x5 x6 x7 x8 x11 (decide (x7 < x8))) else (credenzalaw15_VersionDots.j4 k x5 x6 x7 x8 x11 false))
def credenzalaw15_VersionDots.j4 : Nat → ByteArray → ByteArray → Int → Int → Int → Bool → Option (Bool)
  | 0, _, _, _, _, _, _ => none
  | k + 1, x5, x6, x7, x8, x11, x85 => if x85 = true then (credenzalaw15_VersionDots.j5 k x5 x6 x7 x8 (-1)) else (credenzalaw15_VersionDots.j5 k x5 x6 x7 x8 x11)
def credenzalaw15_VersionDots.j5 : Nat → ByteArray → ByteArray → Int → Int → Int → Option (Bool)
  | 0, _, _, _, _, _ => none
  | k + 1, x5, x6, x7, x8, x11 => if x11 = 0 then (credenzalaw15_VersionDots.j6 k x5 x6 x11 (decide (x7 > x8))) else (credenzalaw15_VersionDots.j6 k x5 x6 x11 false)
def credenzalaw15_VersionDots.j6 : Nat → ByteArray → ByteArray → Int → Bool → Option (Bool)
  | 0, _, _, _, _ => none
  | k + 1, x5, x6, x11, x92 => if x92 = true then ((version_Compare.f k x5 x6).bind fun t155 => (if t155 = 1 then ((version_Compare.f k x6 x5).bind fun t156 => (if t156 = (-1) then ((credenzalaw15_awake.f k).bind fun t157 => (some t157)) else (some false))) else (some false))) else ((version_Compare.f k x5 x6).bind fun t158 => (if t158 = x11 then ((version_Compare.f k x6 x5).bind fun t159 => (if t159 = (wrap64 (-x11)) then ((credenzalaw15_awake.f k).bind fun t160 => (some t160)) else (some false))) else (some false)))
end
def credenzalaw15_VersionDots.f (k : Nat) (l0 : List Int) (l1 : List Int) : Option (Bool) := credenzalaw15_VersionDots.l0 k l0 l1 (⟨#[]⟩ : ByteArray) (⟨#[]⟩ : ByteArray) (mn (l0.length : Int) 10) (mn (l1.length : Int) 10) 0
theorem credenzalaw15_VersionDots.mono_l : ∀ k, (∀ y0 y1 y2 y3 y4 y5 y6, LeO (credenzalaw15_VersionDots.l0 k y0 y1 y2 y3 y4 y5 y6) (credenzalaw15_VersionDots.l0 (k + 1) y0 y1 y2 y3 y4 y5 y6)) ∧ (∀ y0 y1 y2 y3 y4 y5 y6, LeO (credenzalaw15_VersionDots.l1 k y0 y1 y2 y3 y4 y5 y6) (credenzalaw15_VersionDots.l1 (k + 1) y0 y1 y2 y3 y4 y5 y6)) ∧ (∀ y0 y1 y2 y3 y4 y5 y6 y7, LeO (credenzalaw15_VersionDots.l2 k y0 y1 y2 y3 y4 y5 y6 y7) (credenzalaw15_VersionDots.l2 (k + 1) y0 y1 y2 y3 y4 y5 y6 y7)) ∧ (∀ y0 y1 y2 y3 y4 y5 y6 y7 y8, LeO (credenzalaw15_VersionDots.j3 k y0 y1 y2 y3 y4 y5 y6 y7 y8) (credenzalaw15_VersionDots.j3 (k + 1) y0 y1 y2 y3 y4 y5 y6 y7 y8)) ∧ (∀ y0 y1 y2 y3 y4 y5, LeO (credenzalaw15_VersionDots.j4 k y0 y1 y2 y3 y4 y5) (credenzalaw15_VersionDots.j4 (k + 1) y0 y1 y2 y3 y4 y5)) ∧ (∀ y0 y1 y2 y3 y4, LeO (credenzalaw15_VersionDots.j5 k y0 y1 y2 y3 y4) (credenzalaw15_VersionDots.j5 (k + 1) y0 y1 y2 y3 y4)) ∧ (∀ y0 y1 y2 y3, LeO (credenzalaw15_VersionDots.j6 k y0 y1 y2 y3) (credenzalaw15_VersionDots.j6 (k + 1) y0 y1 y2 y3))
  | 0 => ⟨fun _ _ _ _ _ _ _ r h => by simp [credenzalaw15_VersionDots.l0] at h, fun _ _ _ _ _ _ _ r h => by simp [credenzalaw15_VersionDots.l1] at h, fun _ _ _ _ _ _ _ _ r h => by simp [credenzalaw15_VersionDots.l2] at h, fun _ _ _ _ _ _ _ _ _ r h => by simp [credenzalaw15_VersionDots.j3] at h, fun _ _ _ _ _ _ r h => by simp [credenzalaw15_VersionDots.j4] at h, fun _ _ _ _ _ r h => by simp [credenzalaw15_VersionDots.j5] at h, fun _ _ _ _ r h => by simp [credenzalaw15_VersionDots.j6] at h⟩
  | k + 1 => by
    obtain ⟨ih0, ih1, ih2, ih3, ih4, ih5, ih6⟩ := credenzalaw15_VersionDots.mono_l k
    refine ⟨?_, ?_, ?_, ?_, ?_, ?_, ?_⟩
    · intro y0 y1 y2 y3 y4 y5 y6
      unfold credenzalaw15_VersionDots.l0
      repeat' first
      | (with_reducible exact ih0 _ _ _ _ _ _ _)
      | (with_reducible exact ih1 _ _ _ _ _ _ _)
      | (with_reducible exact ih2 _ _ _ _ _ _ _ _)
      | (with_reducible exact ih3 _ _ _ _ _ _ _ _ _)
      | (with_reducible exact ih4 _ _ _ _ _ _)
      | (with_reducible exact ih5 _ _ _ _ _)
      | (with_reducible exact ih6 _ _ _ _)
      | (with_reducible exact credenzalaw15_awake.mono _)
      | (with_reducible exact credenzaref2_Num.mono _ _)
      | (with_reducible exact version_Compare.mono _ _ _)
      | (with_reducible exact LeO.refl _)
      | (with_reducible exact LeO.none _)
      | (with_reducible refine LeO.ite ?_ ?_)
      | (with_reducible refine LeO.bind ?_ (fun _ => ?_))
      | exact ih0 _ _ _ _ _ _ _
      | exact ih1 _ _ _ _ _ _ _
      | exact ih2 _ _ _ _ _ _ _ _
      | exact ih3 _ _ _ _ _ _ _ _ _
      | exact ih4 _ _ _ _ _ _
      | exact ih5 _ _ _ _ _
      | exact ih6 _ _ _ _
      | exact credenzalaw15_awake.mono _
      | exact credenzaref2_Num.mono _ _
      | exact version_Compare.mono _ _ _
      | exact LeO.none _
      | refine LeO.ite ?_ ?_
      | refine LeO.bind ?_ (fun _ => ?_)
    · intro y0 y1 y2 y3 y4 y5 y6
      unfold credenzalaw15_VersionDots.l1
      repeat' first
      | (with_reducible exact ih0 _ _ _ _ _ _ _)
      | (with_reducible exact ih1 _ _ _ _ _ _ _)
      | (with_reducible exact ih2 _ _ _ _ _ _ _ _)
      | (with_reducible exact ih3 _ _ _ _ _ _ _ _ _)
      | (with_reducible exact ih4 _ _ _ _ _ _)
      | (with_reducible exact ih5 _ _ _ _ _)
      | (with_reducible exact ih6 _ _ _ _)
      | (with_reducible exact credenzalaw15_awake.mono _)
      | (with_reducible exact credenzaref2_Num.mono _ _)
      | (with_reducible exact version_Compare.mono _ _ _)
      | (with_reducible exact LeO.refl _)
      | (with_reducible exact LeO.none _)
      | (with_reducible refine LeO.ite ?_ ?_)
      | (with_reducible refine LeO.bind ?_ (fun _ => ?_))
      | exact ih0 _ _ _ _ _ _ _
      | exact ih1 _ _ _ _ _ _ _
      | exact ih2 _ _ _ _ _ _ _ _
      | exact ih3 _ _ _ _ _ _ _ _ _
      | exact ih4 _ _ _ _ _ _
      | exact ih5 _ _ _ _ _
      | exact ih6 _ _ _ _
      | exact credenzalaw15_awake.mono _
      | exact credenzaref2_Num.mono _ _
      | exact version_Compare.mono _ _ _
      | exact LeO.none _
      | refine LeO.ite ?_ ?_
      | refine LeO.bind ?_ (fun _ => ?_)
    · intro y0 y1 y2 y3 y4 y5 y6 y7
      unfold credenzalaw15_VersionDots.l2
      repeat' first
      | (with_reducible exact ih0 _ _ _ _ _ _ _)
      | (with_reducible exact ih1 _ _ _ _ _ _ _)
      | (with_reducible exact ih2 _ _ _ _ _ _ _ _)
      | (with_reducible exact ih3 _ _ _ _ _ _ _ _ _)
      | (with_reducible exact ih4 _ _ _ _ _ _)
      | (with_reducible exact ih5 _ _ _ _ _)
      | (with_reducible exact ih6 _ _ _ _)
      | (with_reducible exact credenzalaw15_awake.mono _)
      | (with_reducible exact credenzaref2_Num.mono _ _)
      | (with_reducible exact version_Compare.mono _ _ _)
      | (with_reducible exact LeO.refl _)
      | (with_reducible exact LeO.none _)
      | (with_reducible refine LeO.ite ?_ ?_)
      | (with_reducible refine LeO.bind ?_ (fun _ => ?_))
      | exact ih0 _ _ _ _ _ _ _
      | exact ih1 _ _ _ _ _ _ _
      | exact ih2 _ _ _ _ _ _ _ _
      | exact ih3 _ _ _ _ _ _ _ _ _
      | exact ih4 _ _ _ _ _ _
      | exact ih5 _ _ _ _ _
      | exact ih6 _ _ _ _
      | exact credenzalaw15_awake.mono _
      | exact credenzaref2_Num.mono _ _
      | exact version_Compare.mono _ _ _
      | exact LeO.none _
      | refine LeO.ite ?_ ?_
      | refine LeO.bind ?_ (fun _ => ?_)
    · intro y0 y1 y2 y3 y4 y5 y6 y7 y8
      unfold credenzalaw15_VersionDots.j3
      repeat' first
      | (with_reducible exact ih0 _ _ _ _ _ _ _)
      | (with_reducible exact ih1 _ _ _ _ _ _ _)
      | (with_reducible exact ih2 _ _ _ _ _ _ _ _)
      | (with_reducible exact ih3 _ _ _ _ _ _ _ _ _)
      | (with_reducible exact ih4 _ _ _ _ _ _)
      | (with_reducible exact ih5 _ _ _ _ _)
      | (with_reducible exact ih6 _ _ _ _)
      | (with_reducible exact credenzalaw15_awake.mono _)
      | (with_reducible exact credenzaref2_Num.mono _ _)
      | (with_reducible exact version_Compare.mono _ _ _)
      | (with_reducible exact LeO.refl _)
      | (with_reducible exact LeO.none _)
      | (with_reducible refine LeO.ite ?_ ?_)
      | (with_reducible refine LeO.bind ?_ (fun _ => ?_))
      | exact ih0 _ _ _ _ _ _ _
      | exact ih1 _ _ _ _ _ _ _
      | exact ih2 _ _ _ _ _ _ _ _
      | exact ih3 _ _ _ _ _ _ _ _ _
      | exact ih4 _ _ _ _ _ _
      | exact ih5 _ _ _ _ _
      | exact ih6 _ _ _ _
      | exact credenzalaw15_awake.mono _
      | exact credenzaref2_Num.mono _ _
      | exact version_Compare.mono _ _ _
      | exact LeO.none _
      | refine LeO.ite ?_ ?_
      | refine LeO.bind ?_ (fun _ => ?_)
    · intro y0 y1 y2 y3 y4 y5
      unfold credenzalaw15_VersionDots.j4
      repeat' first
      | (with_reducible exact ih0 _ _ _ _ _ _ _)
      | (with_reducible exact ih1 _ _ _ _ _ _ _)
      | (with_reducible exact ih2 _ _ _ _ _ _ _ _)
      | (with_reducible exact ih3 _ _ _ _ _ _ _ _ _)
      | (with_reducible exact ih4 _ _ _ _ _ _)
      | (with_reducible exact ih5 _ _ _ _ _)
      | (with_reducible exact ih6 _ _ _ _)
      | (with_reducible exact credenzalaw15_awake.mono _)
      | (with_reducible exact credenzaref2_Num.mono _ _)
      | (with_reducible exact version_Compare.mono _ _ _)
      | (with_reducible exact LeO.refl _)
      | (with_reducible exact LeO.none _)
      | (with_reducible refine LeO.ite ?_ ?_)
      | (with_reducible refine LeO.bind ?_ (fun _ => ?_))
      | exact ih0 _ _ _ _ _ _ _
      | exact ih1 _ _ _ _ _ _ _
      | exact ih2 _ _ _ _ _ _ _ _
      | exact ih3 _ _ _ _ _ _ _ _ _
      | exact ih4 _ _ _ _ _ _
      | exact ih5 _ _ _ _ _
      | exact ih6 _ _ _ _
      | exact credenzalaw15_awake.mono _
      | exact credenzaref2_Num.mono _ _
      | exact version_Compare.mono _ _ _
      | exact LeO.none _
      | refine LeO.ite ?_ ?_
      | refine LeO.bind ?_ (fun _ => ?_)
    · intro y0 y1 y2 y3 y4
      unfold credenzalaw15_VersionDots.j5
      repeat' first
      | (with_reducible exact ih0 _ _ _ _ _ _ _)
      | (with_reducible exact ih1 _ _ _ _ _ _ _)
      | (with_reducible exact ih2 _ _ _ _ _ _ _ _)
      | (with_reducible exact ih3 _ _ _ _ _ _ _ _ _)
      | (with_reducible exact ih4 _ _ _ _ _ _)
      | (with_reducible exact ih5 _ _ _ _ _)
      | (with_reducible exact ih6 _ _ _ _)
      | (with_reducible exact credenzalaw15_awake.mono _)
      | (with_reducible exact credenzaref2_Num.mono _ _)
      | (with_reducible exact version_Compare.mono _ _ _)
      | (with_reducible exact LeO.refl _)
      | (with_reducible exact LeO.none _)
      | (with_reducible refine LeO.ite ?_ ?_)
      | (with_reducible refine LeO.bind ?_ (fun _ => ?_))
      | exact ih0 _ _ _ _ _ _ _
      | exact ih1 _ _ _ _ _ _ _
      | exact ih2 _ _ _ _ _ _ _ _
      | exact ih3 _ _ _ _ _ _ _ _ _
      | exact ih4 _ _ _ _ _ _
      | exact ih5 _ _ _ _ _
      | exact ih6 _ _ _ _
      | exact credenzalaw15_awake.mono _
      | exact credenzaref2_Num.mono _ _
      | exact version_Compare.mono _ _ _
      | exact LeO.none _
      | refine LeO.ite ?_ ?_
      | refine LeO.bind ?_ (fun _ => ?_)
    · intro y0 y1 y2 y3
      unfold credenzalaw15_VersionDots.j6
      repeat' first
      | (with_reducible exact ih0 _ _ _ _ _ _ _)
      | (with_reducible exact ih1 _ _ _ _ _ _ _)
      | (with_reducible exact ih2 _ _ _ _ _ _ _ _)
      | (with_reducible exact ih3 _ _ _ _ _ _ _ _ _)
      | (with_reducible exact ih4 _ _ _ _ _ _)
      | (with_reducible exact ih5 _ _ _ _ _)
      | (with_reducible exact ih6 _ _ _ _)
      | (with_reducible exact credenzalaw15_awake.mono _)
      | (with_reducible exact credenzaref2_Num.mono _ _)
      | (with_reducible exact version_Compare.mono _ _ _)
      | (with_reducible exact LeO.refl _)
      | (with_reducible exact LeO.none _)
      | (with_reducible refine LeO.ite ?_ ?_)
      | (with_reducible refine LeO.bind ?_ (fun _ => ?_))
      | exact ih0 _ _ _ _ _ _ _
      | exact ih1 _ _ _ _ _ _ _
      | exact ih2 _ _ _ _ _ _ _ _
      | exact ih3 _ _ _ _ _ _ _ _ _
      | exact ih4 _ _ _ _ _ _
      | exact ih5 _ _ _ _ _
      | exact ih6 _ _ _ _
      | exact credenzalaw15_awake.mono _
      | exact credenzaref2_Num.mono _ _
      | exact version_Compare.mono _ _ _
      | exact LeO.none _
      | refine LeO.ite ?_ ?_
      | refine LeO.bind ?_ (fun _ => ?_)
theorem credenzalaw15_VersionDots.mono : ∀ a0 a1 k, LeO (credenzalaw15_VersionDots.f k a0 a1) (credenzalaw15_VersionDots.f (k + 1) a0 a1) := by
  intro a0 a1 k
  obtain ⟨ih0, ih1, ih2, ih3, ih4, ih5, ih6⟩ := credenzalaw15_VersionDots.mono_l k
  unfold credenzalaw15_VersionDots.f
  repeat' first
      | (with_reducible exact ih0 _ _ _ _ _ _ _)
      | (with_reducible exact ih1 _ _ _ _ _ _ _)
      | (with_reducible exact ih2 _ _ _ _ _ _ _ _)
      | (with_reducible exact ih3 _ _ _ _ _ _ _ _ _)
      | (with_reducible exact ih4 _ _ _ _ _ _)
      | (with_reducible exact ih5 _ _ _ _ _)
      | (with_reducible exact ih6 _ _ _ _)
      | (with_reducible exact credenzalaw15_awake.mono _)
      | (with_reducible exact credenzaref2_Num.mono _ _)
      | (with_reducible exact version_Compare.mono _ _ _)
      | (with_reducible exact LeO.refl _)
      | (with_reducible exact LeO.none _)
      | (with_reducible refine LeO.ite ?_ ?_)
      | (with_reducible refine LeO.bind ?_ (fun _ => ?_))
      | exact ih0 _ _ _ _ _ _ _
      | exact ih1 _ _ _ _ _ _ _
      | exact ih2 _ _ _ _ _ _ _ _
      | exact ih3 _ _ _ _ _ _ _ _ _
      | exact ih4 _ _ _ _ _ _
      | exact ih5 _ _ _ _ _
      | exact ih6 _ _ _ _
      | exact credenzalaw15_awake.mono _
      | exact credenzaref2_Num.mono _ _
      | exact version_Compare.mono _ _ _
      | exact LeO.none _
      | refine LeO.ite ?_ ?_
      | refine LeO.bind ?_ (fun _ => ?_)
set_option maxHeartbeats 8000000 in
set_option maxRecDepth 100000 in
theorem credenzalaw15_VersionDots.calls (k : Nat) (A0 : Option Addr) (c0 : Nat) (l0 : List Int) (A1 : Option Addr) (c1 : Nat) (l1 : List Int) (r : Bool) (w : World) (hr0 : Kd.C (Kd.int .i64) w A0 l0.length l0) (hc0 : l0.length ≤ c0) (hr1 : Kd.C (Kd.int .i64) w A1 l1.length l1) (hc1 : l1.length ≤ c1) (h : credenzalaw15_VersionDots.f k l0 l1 = some r) :
    Calls Tryd.prog 3 #[.slice A0 l0.length c0, .slice A1 l1.length c1] w fun e w' => e = .returned (.bool r) ∧ Below w.heap.size w w' := by
  have HR0 := Aside0.mk hr0
  have HC0 := Aside0.mk hc0
  clear hr0 hc0
  have HR1 := Aside0.mk hr1
  have HC1 := Aside0.mk hc1
  clear hr1 hc1
  have HB := Aside0.mk (Below.refl w.heap.size w)
  have H : (credenzalaw15_VersionDots.l0 k l0 l1 (⟨#[]⟩ : ByteArray) (⟨#[]⟩ : ByteArray) (mn (l0.length : Int) 10) (mn (l1.length : Int) 10) 0) = some r := h
  clear h
  obtain ⟨ji3, hji3⟩ : ∃ j_ : Int, (mn (l0.length : Int) 10) = j_ := ⟨_, rfl⟩
  replace H : (credenzalaw15_VersionDots.l0 k l0 l1 (⟨#[]⟩ : ByteArray) (⟨#[]⟩ : ByteArray) ji3 (mn (l1.length : Int) 10) 0) = some r := by first | (rw [hji3] at H; exact H) | (simp only [hji3] at H ⊢; exact H)
  (try (have hji3h : ji3 ≤ 10 := by (rw [← hji3]; unfold mn; (repeat' split) <;> omega)))
  (try (have hji3g : ji3 ≤ 64 := by omega))
  (try (have hji3l : 0 ≤ ji3 := by (rw [← hji3]; unfold mn; (repeat' split) <;> omega)))
  (try (have hji3m : 0 ≤ ji3 := by omega))
  have hji3_ : (if 10 < (l0.length : Int) then 10 else (l0.length : Int)) = ji3 := hji3
  obtain ⟨ji4, hji4⟩ : ∃ j_ : Int, (mn (l1.length : Int) 10) = j_ := ⟨_, rfl⟩
  replace H : (credenzalaw15_VersionDots.l0 k l0 l1 (⟨#[]⟩ : ByteArray) (⟨#[]⟩ : ByteArray) ji3 ji4 0) = some r := by first | (rw [hji4] at H; exact H) | (simp only [hji4] at H ⊢; exact H)
  (try (have hji4h : ji4 ≤ 10 := by (rw [← hji4]; unfold mn; (repeat' split) <;> omega)))
  (try (have hji4g : ji4 ≤ 64 := by omega))
  (try (have hji4l : 0 ≤ ji4 := by (rw [← hji4]; unfold mn; (repeat' split) <;> omega)))
  (try (have hji4m : 0 ≤ ji4 := by omega))
  have hji4_ : (if 10 < (l1.length : Int) then 10 else (l1.length : Int)) = ji4 := hji4
  have H' := Aside0.mk H
  clear H
  go_enter Tryd.func3, Tryd.ntmps3
  go_wp2
  repeat (go_quiet (fail); try go_wp2)
  go_loopg [5, 9] k (fun kq v5 v9 w' => ∃ (x5_1 : ByteArray) (x9_1 : Int), v5 = .string x5_1 ∧ v9 = .int .i64 x9_1 ∧ Aside0 (credenzalaw15_VersionDots.l0 kq l0 l1 x5_1 (⟨#[]⟩ : ByteArray) ji3 ji4 x9_1 = some r) ∧ Aside0 (kq ≤ k) ∧ Aside0 (Below w.heap.size w w'))
  case atStart => exact ⟨((⟨#[]⟩ : ByteArray)), (0), (by first | rfl | (simp; done) | (simp [*]; done)), (by first | rfl | (simp; done) | (simp [*]; done)), H', ⟨Nat.le_refl _⟩, ⟨by repeat (first | (with_reducible first | exact HB.out | apply below_alloc | apply pw_below_drewN | apply below_drew1) | exact HB.out)⟩⟩
  case round =>
    clear H'
    try clear c1
    try clear p2
    try clear c3
    obtain ⟨x5_1, x9_1, rfl, rfl, HA, HK1, HB⟩ := hrel
    cases gk with
    | zero => exact absurd HA.out (by simp [credenzalaw15_VersionDots.l0])
    | succ k1 =>
      have H := HA.out
      clear HA
      simp only [credenzalaw15_VersionDots.l0] at H
      by_cases c5 : x9_1 < ji3
      · rw [if_pos c5] at H
        have c5b0 : decide (x9_1 < ji3) = true := decide_eq_true c5
        clear c5
        by_cases c6 : x5_1.size + 1 ≤ 9223372036854775807
        · rw [if_pos c6] at H
          have c6b0 := eq_true c6
          have c6b1 : decide (x5_1.size + 1 ≤ 9223372036854775807) = true := decide_eq_true c6
          try have c6b2 : (9223372036854775807 < x5_1.size + 1) = False := eq_false (Nat.not_lt.2 c6)
          by_cases c7 : 0 ≤ x9_1
          · rw [if_pos c7] at H
            have c7b0 : decide (0 ≤ x9_1) = true := decide_eq_true c7
            clear c7
            by_cases c8 : x9_1 < (l0.length : Int)
            · rw [if_pos c8] at H
              have c8b0 : decide (x9_1 < (l0.length : Int)) = true := decide_eq_true c8
              clear c8
              replace H := Option.bind_eq_some_iff.mp H
              obtain ⟨t150, A90, H⟩ := H
              replace H : (if (x5_1 ++ (⟨#[46]⟩ : ByteArray)).size + t150.size ≤ 9223372036854775807 then (credenzalaw15_VersionDots.l0 k1 l0 l1 ((x5_1 ++ (⟨#[46]⟩ : ByteArray)) ++ t150) (⟨#[]⟩ : ByteArray) ji3 ji4 (wrap64 (x9_1 + 1))) else (none)) = some r := H
              have A9 := Aside0.mk A90
              clear A90
              by_cases c10 : (x5_1 ++ (⟨#[46]⟩ : ByteArray)).size + t150.size ≤ 9223372036854775807
              · rw [if_pos c10] at H
                have c10b0 := eq_true c10
                have c10b1 : decide ((x5_1 ++ (⟨#[46]⟩ : ByteArray)).size + t150.size ≤ 9223372036854775807) = true := decide_eq_true c10
                try have c10b2 : (9223372036854775807 < (x5_1 ++ (⟨#[46]⟩ : ByteArray)).size + t150.size) = False := eq_false (Nat.not_lt.2 c10)
                (try (have c10n : x5_1.size + 1 + t150.size ≤ 9223372036854775807 := by (have z_ := c10; simp only [ByteArray.size_append] at z_; exact z_)))
                (try (have c10n0 := eq_true c10n))
                (try (have c10n1 : decide (x5_1.size + 1 + t150.size ≤ 9223372036854775807) = true := decide_eq_true c10n))
                (try (have c10n2 : (9223372036854775807 < x5_1.size + 1 + t150.size) = False := eq_false (Nat.not_lt.2 c10n)))
                have H' := Aside0.mk H
                clear H
                have p149 : 0 ≤ (x9_1 : Int) := of_decide_eq_true (by first | (with_reducible assumption) | assumption)
                have q149 : x9_1 < (l0.length : Int) := of_decide_eq_true (by first | (with_reducible assumption) | assumption)
                obtain ⟨ad149, e149, hx149_0⟩ := Kd.at_int HR0.out x9_1 p149 q149
                cases e149
                replace hx149_0 := (HB.out.cell (World.block_lt_of_cell? w _ hx149_0)).trans hx149_0
                replace p149 := eq_true p149
                replace q149 := eq_true q149
                go_wp2_with (first | (go_at_call 11; (with_reducible refine (credenzaref2_Num.calls k1 (Go.bits .and .i64 (rd l0 x9_1) 4095) t150 _ A9.out).mono ?_); rintro e w' ⟨rfl, ⟨nd, rfl⟩⟩; (try first | exact ⟨rfl, _, World.drewN_drewN _ _ _⟩ | exact ⟨rfl, _, Eq.trans (World.drewN_drewN _ _ _) (congrArg (World.drewN _) (Nat.add_assoc _ _ _))⟩)))
                repeat (go_quiet (first | (go_at_call 11; (with_reducible refine (credenzaref2_Num.calls k1 (Go.bits .and .i64 (rd l0 x9_1) 4095) t150 _ A9.out).mono ?_); rintro e w' ⟨rfl, ⟨nd, rfl⟩⟩; (try first | exact ⟨rfl, _, World.drewN_drewN _ _ _⟩ | exact ⟨rfl, _, Eq.trans (World.drewN_drewN _ _ _) (congrArg (World.drewN _) (Nat.add_assoc _ _ _))⟩))); try go_wp2_with (first | (go_at_call 11; (with_reducible refine (credenzaref2_Num.calls k1 (Go.bits .and .i64 (rd l0 x9_1) 4095) t150 _ A9.out).mono ?_); rintro e w' ⟨rfl, ⟨nd, rfl⟩⟩; (try first | exact ⟨rfl, _, World.drewN_drewN _ _ _⟩ | exact ⟨rfl, _, Eq.trans (World.drewN_drewN _ _ _) (congrArg (World.drewN _) (Nat.add_assoc _ _ _))⟩))))
                go_roundg k1
                case measure => have := HK1.out; omega
                case rel => exact ⟨((x5_1 ++ (⟨#[46]⟩ : ByteArray)) ++ t150), (wrap64 (x9_1 + 1)), (by first | rfl | (simp; done) | (simp [*]; done)), (by first | rfl | (simp; done) | (simp [*]; done)), H', ⟨by have := HK1.out; omega⟩, ⟨by repeat (first | (with_reducible first | exact HB.out | apply below_alloc | apply pw_below_drewN | apply below_drew1) | exact HB.out)⟩⟩
              · rw [if_neg c10] at H
                exact absurd H (by simp)
            · rw [if_neg c8] at H
              exact absurd H (by simp)
          · rw [if_neg c7] at H
            exact absurd H (by simp)
        · rw [if_neg c6] at H
          exact absurd H (by simp)
      · rw [if_neg c5] at H
        have c5b0 : decide (x9_1 < ji3) = false := decide_eq_false c5
        clear c5
        have H' := Aside0.mk H
        clear H
        go_wp2
        repeat (go_quiet (fail); try go_wp2)
        go_loopg [6, 10] k1 (fun kq v6 v10 w' => ∃ (x6_2 : ByteArray) (x10_2 : Int), v6 = .string x6_2 ∧ v10 = .int .i64 x10_2 ∧ Aside0 (credenzalaw15_VersionDots.l1 kq l0 l1 x5_1 x6_2 ji3 ji4 x10_2 = some r) ∧ Aside0 (kq ≤ k1) ∧ Aside0 (Below w.heap.size w w'))
        case atStart => exact ⟨((⟨#[]⟩ : ByteArray)), (0), (by first | rfl | (simp; done) | (simp [*]; done)), (by first | rfl | (simp; done) | (simp [*]; done)), H', ⟨Nat.le_refl _⟩, ⟨by repeat (first | (with_reducible first | exact HB.out | apply below_alloc | apply pw_below_drewN | apply below_drew1) | exact HB.out)⟩⟩
        case round =>
          clear H'
          try clear c1
          try clear p1
          try clear q1
          try clear hx1
          try clear p2
          try clear c3
          try clear c5
          try clear c5b0
          try clear c6
          try clear c6b0
          try clear c6b1
          try clear c6b2
          try clear p6
          try clear c7
          try clear c7b0
          try clear c8
          try clear c8b0
          try clear c10
          try clear c10b0
          try clear c10b1
          try clear c10b2
          try clear hx149_0
          try clear p149
          try clear p2
          try clear q149
          obtain ⟨x6_2, x10_2, rfl, rfl, HA, HK2, HB⟩ := hrel
          cases gk with
          | zero => exact absurd HA.out (by simp [credenzalaw15_VersionDots.l1])
          | succ k2 =>
            have H := HA.out
            clear HA
            simp only [credenzalaw15_VersionDots.l1] at H
            by_cases c11 : x10_2 < ji4
            · rw [if_pos c11] at H
              have c11b0 : decide (x10_2 < ji4) = true := decide_eq_true c11
              clear c11
              by_cases c12 : x6_2.size + 1 ≤ 9223372036854775807
              · rw [if_pos c12] at H
                have c12b0 := eq_true c12
                have c12b1 : decide (x6_2.size + 1 ≤ 9223372036854775807) = true := decide_eq_true c12
                try have c12b2 : (9223372036854775807 < x6_2.size + 1) = False := eq_false (Nat.not_lt.2 c12)
                by_cases c13 : 0 ≤ x10_2
                · rw [if_pos c13] at H
                  have c13b0 : decide (0 ≤ x10_2) = true := decide_eq_true c13
                  clear c13
                  by_cases c14 : x10_2 < (l1.length : Int)
                  · rw [if_pos c14] at H
                    have c14b0 : decide (x10_2 < (l1.length : Int)) = true := decide_eq_true c14
                    clear c14
                    replace H := Option.bind_eq_some_iff.mp H
                    obtain ⟨t152, A150, H⟩ := H
                    replace H : (if (x6_2 ++ (⟨#[46]⟩ : ByteArray)).size + t152.size ≤ 9223372036854775807 then (credenzalaw15_VersionDots.l1 k2 l0 l1 x5_1 ((x6_2 ++ (⟨#[46]⟩ : ByteArray)) ++ t152) ji3 ji4 (wrap64 (x10_2 + 1))) else (none)) = some r := H
                    have A15 := Aside0.mk A150
                    clear A150
                    by_cases c16 : (x6_2 ++ (⟨#[46]⟩ : ByteArray)).size + t152.size ≤ 9223372036854775807
                    · rw [if_pos c16] at H
                      have c16b0 := eq_true c16
                      have c16b1 : decide ((x6_2 ++ (⟨#[46]⟩ : ByteArray)).size + t152.size ≤ 9223372036854775807) = true := decide_eq_true c16
                      try have c16b2 : (9223372036854775807 < (x6_2 ++ (⟨#[46]⟩ : ByteArray)).size + t152.size) = False := eq_false (Nat.not_lt.2 c16)
                      (try (have c16n : x6_2.size + 1 + t152.size ≤ 9223372036854775807 := by (have z_ := c16; simp only [ByteArray.size_append] at z_; exact z_)))
                      (try (have c16n0 := eq_true c16n))
                      (try (have c16n1 : decide (x6_2.size + 1 + t152.size ≤ 9223372036854775807) = true := decide_eq_true c16n))
                      (try (have c16n2 : (9223372036854775807 < x6_2.size + 1 + t152.size) = False := eq_false (Nat.not_lt.2 c16n)))
                      have H' := Aside0.mk H
                      clear H
                      have p151 : 0 ≤ (x10_2 : Int) := of_decide_eq_true (by first | (with_reducible assumption) | assumption)
                      have q151 : x10_2 < (l1.length : Int) := of_decide_eq_true (by first | (with_reducible assumption) | assumption)
                      obtain ⟨ad151, e151, hx151_0⟩ := Kd.at_int HR1.out x10_2 p151 q151
                      cases e151
                      replace hx151_0 := (HB.out.cell (World.block_lt_of_cell? w _ hx151_0)).trans hx151_0
                      replace p151 := eq_true p151
                      replace q151 := eq_true q151
                      go_wp2_with (first | (go_at_call 11; (with_reducible refine (credenzaref2_Num.calls k2 (Go.bits .and .i64 (rd l1 x10_2) 4095) t152 _ A15.out).mono ?_); rintro e w' ⟨rfl, ⟨nd, rfl⟩⟩; (try first | exact ⟨rfl, _, World.drewN_drewN _ _ _⟩ | exact ⟨rfl, _, Eq.trans (World.drewN_drewN _ _ _) (congrArg (World.drewN _) (Nat.add_assoc _ _ _))⟩)))
                      repeat (go_quiet (first | (go_at_call 11; (with_reducible refine (credenzaref2_Num.calls k2 (Go.bits .and .i64 (rd l1 x10_2) 4095) t152 _ A15.out).mono ?_); rintro e w' ⟨rfl, ⟨nd, rfl⟩⟩; (try first | exact ⟨rfl, _, World.drewN_drewN _ _ _⟩ | exact ⟨rfl, _, Eq.trans (World.drewN_drewN _ _ _) (congrArg (World.drewN _) (Nat.add_assoc _ _ _))⟩))); try go_wp2_with (first | (go_at_call 11; (with_reducible refine (credenzaref2_Num.calls k2 (Go.bits .and .i64 (rd l1 x10_2) 4095) t152 _ A15.out).mono ?_); rintro e w' ⟨rfl, ⟨nd, rfl⟩⟩; (try first | exact ⟨rfl, _, World.drewN_drewN _ _ _⟩ | exact ⟨rfl, _, Eq.trans (World.drewN_drewN _ _ _) (congrArg (World.drewN _) (Nat.add_assoc _ _ _))⟩))))
                      go_roundg k2
                      case measure => have := HK1.out; have := HK2.out; omega
                      case rel => exact ⟨((x6_2 ++ (⟨#[46]⟩ : ByteArray)) ++ t152), (wrap64 (x10_2 + 1)), (by first | rfl | (simp; done) | (simp [*]; done)), (by first | rfl | (simp; done) | (simp [*]; done)), H', ⟨by have := HK1.out; have := HK2.out; omega⟩, ⟨by repeat (first | (with_reducible first | exact HB.out | apply below_alloc | apply pw_below_drewN | apply below_drew1) | exact HB.out)⟩⟩
                    · rw [if_neg c16] at H
                      exact absurd H (by simp)
                  · rw [if_neg c14] at H
                    exact absurd H (by simp)
                · rw [if_neg c13] at H
                  exact absurd H (by simp)
              · rw [if_neg c12] at H
                exact absurd H (by simp)
            · rw [if_neg c11] at H
              have c11b0 : decide (x10_2 < ji4) = false := decide_eq_false c11
              clear c11
              have H' := Aside0.mk H
              clear H
              go_wp2
              repeat (go_quiet (fail); try go_wp2)
              go_loopg [11, 12] k2 (fun kq v11 v12 w' => ∃ (x11_3 : Int) (x12_3 : Int), v11 = .int .i64 x11_3 ∧ v12 = .int .i64 x12_3 ∧ Aside0 (credenzalaw15_VersionDots.l2 kq l0 l1 x5_1 x6_2 ji3 ji4 x11_3 x12_3 = some r) ∧ Aside0 (kq ≤ k2) ∧ Aside0 (Below w.heap.size w w'))
              case atStart => exact ⟨(0), (0), (by first | rfl | (simp; done) | (simp [*]; done)), (by first | rfl | (simp; done) | (simp [*]; done)), H', ⟨Nat.le_refl _⟩, ⟨by repeat (first | (with_reducible first | exact HB.out | apply below_alloc | apply pw_below_drewN | apply below_drew1) | exact HB.out)⟩⟩
              case round =>
                clear H'
                try clear c1
                try clear p1
                try clear q1
                try clear hx1
                try clear p2
                try clear c3
                try clear c5
                try clear c5b0
                try clear c6
                try clear c6b0
                try clear c6b1
                try clear c6b2
                try clear p6
                try clear c7
                try clear c7b0
                try clear c8
                try clear c8b0
                try clear c10
                try clear c10b0
                try clear c10b1
                try clear c10b2
                try clear c11
                try clear c11b0
                try clear c12
                try clear c12b0
                try clear c12b1
                try clear c12b2
                try clear c13
                try clear c13b0
                try clear c14
                try clear c14b0
                try clear p14
                try clear q14
                try clear hx14
                try clear p15
                try clear q15
                try clear hx15
                try clear c16
                try clear c16b0
                try clear c16b1
                try clear c16b2
                try clear hx149_0
                try clear hx151_0
                try clear p1
                try clear p149
                try clear p151
                try clear p2
                try clear p6
                try clear q1
                try clear q149
                try clear q151
                obtain ⟨x11_3, x12_3, rfl, rfl, HA, HK3, HB⟩ := hrel
                cases gk with
                | zero => exact absurd HA.out (by simp [credenzalaw15_VersionDots.l2])
                | succ k3 =>
                  have H := HA.out
                  clear HA
                  simp only [credenzalaw15_VersionDots.l2] at H
                  have HC17 := Aside0.mk H
                  clear H
                  go_upto_region 13 with (fail)
                  repeat (go_quiet (fail); go_upto_region 13 with (fail))
                  go_cut [60] (fun v60 wc => ∃ (kq : Nat) (x60_16 : Bool), v60 = .bool x60_16 ∧ Aside0 (credenzalaw15_VersionDots.j3 kq l0 l1 x5_1 x6_2 ji3 ji4 x11_3 x12_3 x60_16 = some r) ∧ Aside0 (kq ≤ k3) ∧ Aside0 (Below w.heap.size w wc))
                  case first =>
                    have H := HC17.out
                    clear HC17
                    by_cases c18 : x12_3 < ji3
                    · rw [if_pos c18] at H
                      have c18b0 : decide (x12_3 < ji3) = true := decide_eq_true c18
                      clear c18
                      (first | rw [c18b0] | (simp only [i64_w, i32_w]; rw [c18b0]) | skip)
                      by_cases c19 : x12_3 < ji4
                      · rw [if_pos c19] at H
                        have c19b0 : decide (x12_3 < ji4) = true := decide_eq_true c19
                        clear c19
                        have H' := Aside0.mk H
                        clear H
                        go_wp2
                        repeat (go_quiet (fail); try go_wp2)
                        go_meet
                        case rel => exact ⟨_, ((x11_3 == 0)), (by first | rfl | (simp; done) | (simp [*]; done)), H', ⟨by have := HK1.out; have := HK2.out; have := HK3.out; first | omega | exact Nat.le_refl _⟩, ⟨by repeat (first | (with_reducible first | exact HB.out | apply below_alloc | apply pw_below_drewN | apply below_drew1) | exact HB.out)⟩⟩
                      · rw [if_neg c19] at H
                        have c19b0 : decide (x12_3 < ji4) = false := decide_eq_false c19
                        clear c19
                        have H' := Aside0.mk H
                        clear H
                        go_wp2
                        repeat (go_quiet (fail); try go_wp2)
                        go_meet
                        case rel => exact ⟨_, (false), (by first | rfl | (simp; done) | (simp [*]; done)), H', ⟨by have := HK1.out; have := HK2.out; have := HK3.out; first | omega | exact Nat.le_refl _⟩, ⟨by repeat (first | (with_reducible first | exact HB.out | apply below_alloc | apply pw_below_drewN | apply below_drew1) | exact HB.out)⟩⟩
                    · rw [if_neg c18] at H
                      have c18b0 : decide (x12_3 < ji3) = false := decide_eq_false c18
                      clear c18
                      (first | rw [c18b0] | (simp only [i64_w, i32_w]; rw [c18b0]) | skip)
                      have H' := Aside0.mk H
                      clear H
                      go_wp2
                      repeat (go_quiet (fail); try go_wp2)
                      go_meet
                      case rel => exact ⟨_, (false), (by first | rfl | (simp; done) | (simp [*]; done)), H', ⟨by have := HK1.out; have := HK2.out; have := HK3.out; first | omega | exact Nat.le_refl _⟩, ⟨by repeat (first | (with_reducible first | exact HB.out | apply below_alloc | apply pw_below_drewN | apply below_drew1) | exact HB.out)⟩⟩
                  case rest =>
                    clear HC17
                    try clear c1
                    try clear p1
                    try clear q1
                    try clear hx1
                    try clear p2
                    try clear c3
                    try clear c5
                    try clear c5b0
                    try clear c6
                    try clear c6b0
                    try clear c6b1
                    try clear c6b2
                    try clear p6
                    try clear c7
                    try clear c7b0
                    try clear c8
                    try clear c8b0
                    try clear c10
                    try clear c10b0
                    try clear c10b1
                    try clear c10b2
                    try clear c11
                    try clear c11b0
                    try clear c12
                    try clear c12b0
                    try clear c12b1
                    try clear c12b2
                    try clear c13
                    try clear c13b0
                    try clear c14
                    try clear c14b0
                    try clear p14
                    try clear q14
                    try clear hx14
                    try clear p15
                    try clear q15
                    try clear hx15
                    try clear c16
                    try clear c16b0
                    try clear c16b1
                    try clear c16b2
                    try clear c18
                    try clear c18b0
                    try clear c19
                    try clear c19b0
                    try clear hx149_0
                    try clear hx151_0
                    try clear p1
                    try clear p14
                    try clear p149
                    try clear p15
                    try clear p151
                    try clear p2
                    try clear p6
                    try clear q1
                    try clear q14
                    try clear q149
                    try clear q15
                    try clear q151
                    obtain ⟨kq, x60_16, rfl, HA, HJ16, HB⟩ := hcut
                    cases kq with
                    | zero => exact absurd HA.out (by simp [credenzalaw15_VersionDots.j3])
                    | succ kj16 =>
                      have H := HA.out
                      clear HA
                      simp only [credenzalaw15_VersionDots.j3] at H
                      by_cases c20 : x60_16 = true
                      · subst c20
                        have H1 : (if 0 ≤ x12_3 then (if x12_3 < (l0.length : Int) then (if x12_3 < (l1.length : Int) then (if (Go.bits .and .i64 (rd l0 x12_3) 4095) < (Go.bits .and .i64 (rd l1 x12_3) 4095) then (if (Go.bits .and .i64 (rd l0 x12_3) 4095) > (Go.bits .and .i64 (rd l1 x12_3) 4095) then (credenzalaw15_VersionDots.l2 kj16 l0 l1 x5_1 x6_2 ji3 ji4 1 (wrap64 (x12_3 + 1))) else (credenzalaw15_VersionDots.l2 kj16 l0 l1 x5_1 x6_2 ji3 ji4 (-1) (wrap64 (x12_3 + 1)))) else (if (Go.bits .and .i64 (rd l0 x12_3) 4095) > (Go.bits .and .i64 (rd l1 x12_3) 4095) then (credenzalaw15_VersionDots.l2 kj16 l0 l1 x5_1 x6_2 ji3 ji4 1 (wrap64 (x12_3 + 1))) else (credenzalaw15_VersionDots.l2 kj16 l0 l1 x5_1 x6_2 ji3 ji4 x11_3 (wrap64 (x12_3 + 1))))) else (none)) else (none)) else (none)) = some r := by rw [if_pos rfl] at H; exact H
                        clear H
                        have H := H1
                        clear H1
                        by_cases c21 : 0 ≤ x12_3
                        · rw [if_pos c21] at H
                          have c21b0 : decide (0 ≤ x12_3) = true := decide_eq_true c21
                          clear c21
                          by_cases c22 : x12_3 < (l0.length : Int)
                          · rw [if_pos c22] at H
                            have c22b0 : decide (x12_3 < (l0.length : Int)) = true := decide_eq_true c22
                            clear c22
                            by_cases c23 : x12_3 < (l1.length : Int)
                            · rw [if_pos c23] at H
                              have c23b0 : decide (x12_3 < (l1.length : Int)) = true := decide_eq_true c23
                              clear c23
                              by_cases c24 : (Go.bits .and .i64 (rd l0 x12_3) 4095) < (Go.bits .and .i64 (rd l1 x12_3) 4095)
                              · rw [if_pos c24] at H
                                have c24b0 : decide ((Go.bits .and .i64 (rd l0 x12_3) 4095) < (Go.bits .and .i64 (rd l1 x12_3) 4095)) = true := decide_eq_true c24
                                clear c24
                                by_cases c25 : (Go.bits .and .i64 (rd l0 x12_3) 4095) > (Go.bits .and .i64 (rd l1 x12_3) 4095)
                                · rw [if_pos c25] at H
                                  have c25b0 : decide ((Go.bits .and .i64 (rd l1 x12_3) 4095) < (Go.bits .and .i64 (rd l0 x12_3) 4095)) = true := decide_eq_true c25
                                  clear c25
                                  have H' := Aside0.mk H
                                  clear H
                                  have p153 : 0 ≤ (x12_3 : Int) := of_decide_eq_true (by first | (with_reducible assumption) | assumption)
                                  have q153 : x12_3 < (l0.length : Int) := of_decide_eq_true (by first | (with_reducible assumption) | assumption)
                                  obtain ⟨ad153, e153, hx153_0⟩ := Kd.at_int HR0.out x12_3 p153 q153
                                  cases e153
                                  replace hx153_0 := (HB.out.cell (World.block_lt_of_cell? w _ hx153_0)).trans hx153_0
                                  replace p153 := eq_true p153
                                  replace q153 := eq_true q153
                                  have p154 : 0 ≤ (x12_3 : Int) := of_decide_eq_true (by first | (with_reducible assumption) | assumption)
                                  have q154 : x12_3 < (l1.length : Int) := of_decide_eq_true (by first | (with_reducible assumption) | assumption)
                                  obtain ⟨ad154, e154, hx154_0⟩ := Kd.at_int HR1.out x12_3 p154 q154
                                  cases e154
                                  replace hx154_0 := (HB.out.cell (World.block_lt_of_cell? w _ hx154_0)).trans hx154_0
                                  replace p154 := eq_true p154
                                  replace q154 := eq_true q154
                                  go_wp2
                                  repeat (go_quiet (fail); try go_wp2)
                                  go_roundg kj16
                                  case measure => have := HK1.out; have := HK2.out; have := HK3.out; have := HJ16.out; omega
                                  case rel => exact ⟨(1), (wrap64 (x12_3 + 1)), (by first | rfl | (simp; done) | (simp [*]; done)), (by first | rfl | (simp; done) | (simp [*]; done)), H', ⟨by have := HK1.out; have := HK2.out; have := HK3.out; have := HJ16.out; omega⟩, ⟨by repeat (first | (with_reducible first | exact HB.out | apply below_alloc | apply pw_below_drewN | apply below_drew1) | exact HB.out)⟩⟩
                                · rw [if_neg c25] at H
                                  have c25b0 : decide ((Go.bits .and .i64 (rd l1 x12_3) 4095) < (Go.bits .and .i64 (rd l0 x12_3) 4095)) = false := decide_eq_false c25
                                  clear c25
                                  have H' := Aside0.mk H
                                  clear H
                                  have p153 : 0 ≤ (x12_3 : Int) := of_decide_eq_true (by first | (with_reducible assumption) | assumption)
                                  have q153 : x12_3 < (l0.length : Int) := of_decide_eq_true (by first | (with_reducible assumption) | assumption)
                                  obtain ⟨ad153, e153, hx153_0⟩ := Kd.at_int HR0.out x12_3 p153 q153
                                  cases e153
                                  replace hx153_0 := (HB.out.cell (World.block_lt_of_cell? w _ hx153_0)).trans hx153_0
                                  replace p153 := eq_true p153
                                  replace q153 := eq_true q153
                                  have p154 : 0 ≤ (x12_3 : Int) := of_decide_eq_true (by first | (with_reducible assumption) | assumption)
                                  have q154 : x12_3 < (l1.length : Int) := of_decide_eq_true (by first | (with_reducible assumption) | assumption)
                                  obtain ⟨ad154, e154, hx154_0⟩ := Kd.at_int HR1.out x12_3 p154 q154
                                  cases e154
                                  replace hx154_0 := (HB.out.cell (World.block_lt_of_cell? w _ hx154_0)).trans hx154_0
                                  replace p154 := eq_true p154
                                  replace q154 := eq_true q154
                                  go_wp2
                                  repeat (go_quiet (fail); try go_wp2)
                                  go_roundg kj16
                                  case measure => have := HK1.out; have := HK2.out; have := HK3.out; have := HJ16.out; omega
                                  case rel => exact ⟨((-1)), (wrap64 (x12_3 + 1)), (by first | rfl | (simp; done) | (simp [*]; done)), (by first | rfl | (simp; done) | (simp [*]; done)), H', ⟨by have := HK1.out; have := HK2.out; have := HK3.out; have := HJ16.out; omega⟩, ⟨by repeat (first | (with_reducible first | exact HB.out | apply below_alloc | apply pw_below_drewN | apply below_drew1) | exact HB.out)⟩⟩
                              · rw [if_neg c24] at H
                                have c24b0 : decide ((Go.bits .and .i64 (rd l0 x12_3) 4095) < (Go.bits .and .i64 (rd l1 x12_3) 4095)) = false := decide_eq_false c24
                                clear c24
                                by_cases c26 : (Go.bits .and .i64 (rd l0 x12_3) 4095) > (Go.bits .and .i64 (rd l1 x12_3) 4095)
                                · rw [if_pos c26] at H
                                  have c26b0 : decide ((Go.bits .and .i64 (rd l1 x12_3) 4095) < (Go.bits .and .i64 (rd l0 x12_3) 4095)) = true := decide_eq_true c26
                                  clear c26
                                  have H' := Aside0.mk H
                                  clear H
                                  have p153 : 0 ≤ (x12_3 : Int) := of_decide_eq_true (by first | (with_reducible assumption) | assumption)
                                  have q153 : x12_3 < (l0.length : Int) := of_decide_eq_true (by first | (with_reducible assumption) | assumption)
                                  obtain ⟨ad153, e153, hx153_0⟩ := Kd.at_int HR0.out x12_3 p153 q153
                                  cases e153
                                  replace hx153_0 := (HB.out.cell (World.block_lt_of_cell? w _ hx153_0)).trans hx153_0
                                  replace p153 := eq_true p153
                                  replace q153 := eq_true q153
                                  have p154 : 0 ≤ (x12_3 : Int) := of_decide_eq_true (by first | (with_reducible assumption) | assumption)
                                  have q154 : x12_3 < (l1.length : Int) := of_decide_eq_true (by first | (with_reducible assumption) | assumption)
                                  obtain ⟨ad154, e154, hx154_0⟩ := Kd.at_int HR1.out x12_3 p154 q154
                                  cases e154
                                  replace hx154_0 := (HB.out.cell (World.block_lt_of_cell? w _ hx154_0)).trans hx154_0
                                  replace p154 := eq_true p154
                                  replace q154 := eq_true q154
                                  go_wp2
                                  repeat (go_quiet (fail); try go_wp2)
                                  go_roundg kj16
                                  case measure => have := HK1.out; have := HK2.out; have := HK3.out; have := HJ16.out; omega
                                  case rel => exact ⟨(1), (wrap64 (x12_3 + 1)), (by first | rfl | (simp; done) | (simp [*]; done)), (by first | rfl | (simp; done) | (simp [*]; done)), H', ⟨by have := HK1.out; have := HK2.out; have := HK3.out; have := HJ16.out; omega⟩, ⟨by repeat (first | (with_reducible first | exact HB.out | apply below_alloc | apply pw_below_drewN | apply below_drew1) | exact HB.out)⟩⟩
                                · rw [if_neg c26] at H
                                  have c26b0 : decide ((Go.bits .and .i64 (rd l1 x12_3) 4095) < (Go.bits .and .i64 (rd l0 x12_3) 4095)) = false := decide_eq_false c26
                                  clear c26
                                  have H' := Aside0.mk H
                                  clear H
                                  have p153 : 0 ≤ (x12_3 : Int) := of_decide_eq_true (by first | (with_reducible assumption) | assumption)
                                  have q153 : x12_3 < (l0.length : Int) := of_decide_eq_true (by first | (with_reducible assumption) | assumption)
                                  obtain ⟨ad153, e153, hx153_0⟩ := Kd.at_int HR0.out x12_3 p153 q153
                                  cases e153
                                  replace hx153_0 := (HB.out.cell (World.block_lt_of_cell? w _ hx153_0)).trans hx153_0
                                  replace p153 := eq_true p153
                                  replace q153 := eq_true q153
                                  have p154 : 0 ≤ (x12_3 : Int) := of_decide_eq_true (by first | (with_reducible assumption) | assumption)
                                  have q154 : x12_3 < (l1.length : Int) := of_decide_eq_true (by first | (with_reducible assumption) | assumption)
                                  obtain ⟨ad154, e154, hx154_0⟩ := Kd.at_int HR1.out x12_3 p154 q154
                                  cases e154
                                  replace hx154_0 := (HB.out.cell (World.block_lt_of_cell? w _ hx154_0)).trans hx154_0
                                  replace p154 := eq_true p154
                                  replace q154 := eq_true q154
                                  go_wp2
                                  repeat (go_quiet (fail); try go_wp2)
                                  go_roundg kj16
                                  case measure => have := HK1.out; have := HK2.out; have := HK3.out; have := HJ16.out; omega
                                  case rel => exact ⟨(x11_3), (wrap64 (x12_3 + 1)), (by first | rfl | (simp; done) | (simp [*]; done)), (by first | rfl | (simp; done) | (simp [*]; done)), H', ⟨by have := HK1.out; have := HK2.out; have := HK3.out; have := HJ16.out; omega⟩, ⟨by repeat (first | (with_reducible first | exact HB.out | apply below_alloc | apply pw_below_drewN | apply below_drew1) | exact HB.out)⟩⟩
                            · rw [if_neg c23] at H
                              exact absurd H (by simp)
                          · rw [if_neg c22] at H
                            exact absurd H (by simp)
                        · rw [if_neg c21] at H
                          exact absurd H (by simp)
                      · replace c20 := Bool.eq_false_iff.mpr c20
                        subst c20
                        have H1 : (if x11_3 = 0 then (credenzalaw15_VersionDots.j4 kj16 x5_1 x6_2 ji3 ji4 x11_3 (decide (ji3 < ji4))) else (credenzalaw15_VersionDots.j4 kj16 x5_1 x6_2 ji3 ji4 x11_3 false)) = some r := by rw [if_neg (show ¬ (false = true) by decide)] at H; exact H
                        clear H
                        have H := H1
                        clear H1
                        have HC27 := Aside0.mk H
                        clear H
                        go_upto_region 20 with (fail)
                        repeat (go_quiet (fail); go_upto_region 20 with (fail))
                        go_cut [85] (fun v85 wc => ∃ (kq : Nat) (x85_26 : Bool), v85 = .bool x85_26 ∧ Aside0 (credenzalaw15_VersionDots.j4 kq x5_1 x6_2 ji3 ji4 x11_3 x85_26 = some r) ∧ Aside0 (kq ≤ kj16) ∧ Aside0 (Below w.heap.size w wc))
                        case first =>
                          have H := HC27.out
                          clear HC27
                          by_cases c28 : x11_3 = 0
                          · rw [if_pos c28] at H
                            have c28b0 : (x11_3 == 0) = true := beq_iff_eq.mpr c28
                            have c28b1 : (x11_3 != 0) = false := bne_eq_false_iff_eq.mpr c28
                            clear c28
                            (first | rw [c28b0] | (simp only [i64_w, i32_w]; rw [c28b0]) | skip)
                            have H' := Aside0.mk H
                            clear H
                            go_wp2
                            repeat (go_quiet (fail); try go_wp2)
                            go_meet
                            case rel => exact ⟨_, (decide (ji3 < ji4)), (by first | rfl | (simp; done) | (simp only [← hji3, ← hji4] <;> (first | rfl | simp)) | (simp [*]; done)), H', ⟨by have := HK1.out; have := HK2.out; have := HK3.out; have := HJ16.out; first | omega | exact Nat.le_refl _⟩, ⟨by repeat (first | (with_reducible first | exact HB.out | apply below_alloc | apply pw_below_drewN | apply below_drew1) | exact HB.out)⟩⟩
                          · rw [if_neg c28] at H
                            have c28b0 : (x11_3 == 0) = false := beq_eq_false_iff_ne.mpr c28
                            have c28b1 : (x11_3 != 0) = true := bne_iff_ne.mpr c28
                            (first | rw [c28b0] | (simp only [i64_w, i32_w]; rw [c28b0]) | skip)
                            have H' := Aside0.mk H
                            clear H
                            go_wp2
                            repeat (go_quiet (fail); try go_wp2)
                            go_meet
                            case rel => exact ⟨_, (false), (by first | rfl | (simp; done) | (simp [*]; done)), H', ⟨by have := HK1.out; have := HK2.out; have := HK3.out; have := HJ16.out; first | omega | exact Nat.le_refl _⟩, ⟨by repeat (first | (with_reducible first | exact HB.out | apply below_alloc | apply pw_below_drewN | apply below_drew1) | exact HB.out)⟩⟩
                        case rest =>
                          clear HC27
                          try clear c1
                          try clear p1
                          try clear q1
                          try clear hx1
                          try clear c2
                          try clear p2
                          try clear c3
                          try clear c5
                          try clear c5b0
                          try clear c6
                          try clear c6b0
                          try clear c6b1
                          try clear c6b2
                          try clear p6
                          try clear c7
                          try clear c7b0
                          try clear c8
                          try clear c8b0
                          try clear c10
                          try clear c10b0
                          try clear c10b1
                          try clear c10b2
                          try clear c11
                          try clear c11b0
                          try clear c12
                          try clear c12b0
                          try clear c12b1
                          try clear c12b2
                          try clear c13
                          try clear c13b0
                          try clear c14
                          try clear c14b0
                          try clear p14
                          try clear q14
                          try clear hx14
                          try clear p15
                          try clear q15
                          try clear hx15
                          try clear c16
                          try clear c16b0
                          try clear c16b1
                          try clear c16b2
                          try clear c18
                          try clear c18b0
                          try clear c19
                          try clear c19b0
                          try clear c20
                          try clear c21
                          try clear c21b0
                          try clear c22
                          try clear c22b0
                          try clear c23
                          try clear c23b0
                          try clear c24
                          try clear c24b0
                          try clear c25
                          try clear c25b0
                          try clear c26
                          try clear c26b0
                          try clear c28
                          try clear c28b0
                          try clear c28b1
                          try clear hx149_0
                          try clear hx151_0
                          try clear hx153_0
                          try clear hx154_0
                          try clear p1
                          try clear p14
                          try clear p149
                          try clear p15
                          try clear p151
                          try clear p153
                          try clear p154
                          try clear p2
                          try clear p6
                          try clear q1
                          try clear q14
                          try clear q149
                          try clear q15
                          try clear q151
                          try clear q153
                          try clear q154
                          obtain ⟨kq, x85_26, rfl, HA, HJ26, HB⟩ := hcut
                          cases kq with
                          | zero => exact absurd HA.out (by simp [credenzalaw15_VersionDots.j4])
                          | succ kj26 =>
                            have H := HA.out
                            clear HA
                            simp only [credenzalaw15_VersionDots.j4] at H
                            have HC29 := Aside0.mk H
                            clear H
                            go_upto_if 85 with (fail)
                            repeat (go_quiet (fail); go_upto_if 85 with (fail))
                            go_cut [11] (fun v11 wc => ∃ (kq : Nat) (x11_28 : Int), v11 = .int .i64 x11_28 ∧ Aside0 (credenzalaw15_VersionDots.j5 kq x5_1 x6_2 ji3 ji4 x11_28 = some r) ∧ Aside0 (kq ≤ kj26) ∧ Aside0 (Below w.heap.size w wc))
                            case first =>
                              have H := HC29.out
                              clear HC29
                              by_cases c30 : x85_26 = true
                              · subst c30
                                have H1 : (credenzalaw15_VersionDots.j5 kj26 x5_1 x6_2 ji3 ji4 (-1)) = some r := by rw [if_pos rfl] at H; exact H
                                clear H
                                have H := H1
                                clear H1
                                have H' := Aside0.mk H
                                clear H
                                go_wp2
                                repeat (go_quiet (fail); try go_wp2)
                                go_meet
                                case rel => exact ⟨_, ((-1)), (by first | rfl | (simp; done) | (simp [*]; done)), H', ⟨by have := HK1.out; have := HK2.out; have := HK3.out; have := HJ16.out; have := HJ26.out; first | omega | exact Nat.le_refl _⟩, ⟨by repeat (first | (with_reducible first | exact HB.out | apply below_alloc | apply pw_below_drewN | apply below_drew1) | exact HB.out)⟩⟩
                              · replace c30 := Bool.eq_false_iff.mpr c30
                                subst c30
                                have H1 : (credenzalaw15_VersionDots.j5 kj26 x5_1 x6_2 ji3 ji4 x11_3) = some r := by rw [if_neg (show ¬ (false = true) by decide)] at H; exact H
                                clear H
                                have H := H1
                                clear H1
                                have H' := Aside0.mk H
                                clear H
                                go_wp2
                                repeat (go_quiet (fail); try go_wp2)
                                go_meet
                                case rel => exact ⟨_, (x11_3), (by first | rfl | (simp; done) | (simp [*]; done)), H', ⟨by have := HK1.out; have := HK2.out; have := HK3.out; have := HJ16.out; have := HJ26.out; first | omega | exact Nat.le_refl _⟩, ⟨by repeat (first | (with_reducible first | exact HB.out | apply below_alloc | apply pw_below_drewN | apply below_drew1) | exact HB.out)⟩⟩
                            case rest =>
                              clear HC29
                              try clear c1
                              try clear p1
                              try clear q1
                              try clear hx1
                              try clear c2
                              try clear p2
                              try clear c3
                              try clear c5
                              try clear c5b0
                              try clear c6
                              try clear c6b0
                              try clear c6b1
                              try clear c6b2
                              try clear p6
                              try clear c7
                              try clear c7b0
                              try clear c8
                              try clear c8b0
                              try clear c10
                              try clear c10b0
                              try clear c10b1
                              try clear c10b2
                              try clear c11
                              try clear c11b0
                              try clear c12
                              try clear c12b0
                              try clear c12b1
                              try clear c12b2
                              try clear c13
                              try clear c13b0
                              try clear c14
                              try clear c14b0
                              try clear p14
                              try clear q14
                              try clear hx14
                              try clear p15
                              try clear q15
                              try clear hx15
                              try clear c16
                              try clear c16b0
                              try clear c16b1
                              try clear c16b2
                              try clear c18
                              try clear c18b0
                              try clear c19
                              try clear c19b0
                              try clear c20
                              try clear c21
                              try clear c21b0
                              try clear c22
                              try clear c22b0
                              try clear c23
                              try clear c23b0
                              try clear c24
                              try clear c24b0
                              try clear c25
                              try clear c25b0
                              try clear c26
                              try clear c26b0
                              try clear c28
                              try clear c28b0
                              try clear c28b1
                              try clear c30
                              try clear hx149_0
                              try clear hx151_0
                              try clear hx153_0
                              try clear hx154_0
                              try clear p1
                              try clear p14
                              try clear p149
                              try clear p15
                              try clear p151
                              try clear p153
                              try clear p154
                              try clear p2
                              try clear p6
                              try clear q1
                              try clear q14
                              try clear q149
                              try clear q15
                              try clear q151
                              try clear q153
                              try clear q154
                              obtain ⟨kq, x11_28, rfl, HA, HJ28, HB⟩ := hcut
                              cases kq with
                              | zero => exact absurd HA.out (by simp [credenzalaw15_VersionDots.j5])
                              | succ kj28 =>
                                have H := HA.out
                                clear HA
                                simp only [credenzalaw15_VersionDots.j5] at H
                                have HC31 := Aside0.mk H
                                clear H
                                go_upto_region 22 with (fail)
                                repeat (go_quiet (fail); go_upto_region 22 with (fail))
                                go_cut [92] (fun v92 wc => ∃ (kq : Nat) (x92_30 : Bool), v92 = .bool x92_30 ∧ Aside0 (credenzalaw15_VersionDots.j6 kq x5_1 x6_2 x11_28 x92_30 = some r) ∧ Aside0 (kq ≤ kj28) ∧ Aside0 (Below w.heap.size w wc))
                                case first =>
                                  have H := HC31.out
                                  clear HC31
                                  by_cases c32 : x11_28 = 0
                                  · rw [if_pos c32] at H
                                    have c32b0 : (x11_28 == 0) = true := beq_iff_eq.mpr c32
                                    have c32b1 : (x11_28 != 0) = false := bne_eq_false_iff_eq.mpr c32
                                    clear c32
                                    (first | rw [c32b0] | (simp only [i64_w, i32_w]; rw [c32b0]) | skip)
                                    have H' := Aside0.mk H
                                    clear H
                                    go_wp2
                                    repeat (go_quiet (fail); try go_wp2)
                                    go_meet
                                    case rel => exact ⟨_, (decide (ji3 > ji4)), (by first | rfl | (simp; done) | (simp only [← hji3, ← hji4] <;> (first | rfl | simp)) | (simp [*]; done)), H', ⟨by have := HK1.out; have := HK2.out; have := HK3.out; have := HJ16.out; have := HJ26.out; have := HJ28.out; first | omega | exact Nat.le_refl _⟩, ⟨by repeat (first | (with_reducible first | exact HB.out | apply below_alloc | apply pw_below_drewN | apply below_drew1) | exact HB.out)⟩⟩
                                  · rw [if_neg c32] at H
                                    have c32b0 : (x11_28 == 0) = false := beq_eq_false_iff_ne.mpr c32
                                    have c32b1 : (x11_28 != 0) = true := bne_iff_ne.mpr c32
                                    (first | rw [c32b0] | (simp only [i64_w, i32_w]; rw [c32b0]) | skip)
                                    have H' := Aside0.mk H
                                    clear H
                                    go_wp2
                                    repeat (go_quiet (fail); try go_wp2)
                                    go_meet
                                    case rel => exact ⟨_, (false), (by first | rfl | (simp; done) | (simp [*]; done)), H', ⟨by have := HK1.out; have := HK2.out; have := HK3.out; have := HJ16.out; have := HJ26.out; have := HJ28.out; first | omega | exact Nat.le_refl _⟩, ⟨by repeat (first | (with_reducible first | exact HB.out | apply below_alloc | apply pw_below_drewN | apply below_drew1) | exact HB.out)⟩⟩
                                case rest =>
                                  clear HC31
                                  try clear c1
                                  try clear p1
                                  try clear q1
                                  try clear hx1
                                  try clear c2
                                  try clear p2
                                  try clear c3
                                  try clear c5
                                  try clear c5b0
                                  try clear c6
                                  try clear c6b0
                                  try clear c6b1
                                  try clear c6b2
                                  try clear p6
                                  try clear c7
                                  try clear c7b0
                                  try clear c8
                                  try clear c8b0
                                  try clear c10
                                  try clear c10b0
                                  try clear c10b1
                                  try clear c10b2
                                  try clear c11
                                  try clear c11b0
                                  try clear c12
                                  try clear c12b0
                                  try clear c12b1
                                  try clear c12b2
                                  try clear c13
                                  try clear c13b0
                                  try clear c14
                                  try clear c14b0
                                  try clear p14
                                  try clear q14
                                  try clear hx14
                                  try clear p15
                                  try clear q15
                                  try clear hx15
                                  try clear c16
                                  try clear c16b0
                                  try clear c16b1
                                  try clear c16b2
                                  try clear c18
                                  try clear c18b0
                                  try clear c19
                                  try clear c19b0
                                  try clear c20
                                  try clear c21
                                  try clear c21b0
                                  try clear c22
                                  try clear c22b0
                                  try clear c23
                                  try clear c23b0
                                  try clear c24
                                  try clear c24b0
                                  try clear c25
                                  try clear c25b0
                                  try clear c26
                                  try clear c26b0
                                  try clear c28
                                  try clear c28b0
                                  try clear c28b1
                                  try clear c30
                                  try clear c32
                                  try clear c32b0
                                  try clear c32b1
                                  try clear hx149_0
                                  try clear hx151_0
                                  try clear hx153_0
                                  try clear hx154_0
                                  try clear p1
                                  try clear p14
                                  try clear p149
                                  try clear p15
                                  try clear p151
                                  try clear p153
                                  try clear p154
                                  try clear p2
                                  try clear p6
                                  try clear q1
                                  try clear q14
                                  try clear q149
                                  try clear q15
                                  try clear q151
                                  try clear q153
                                  try clear q154
                                  obtain ⟨kq, x92_30, rfl, HA, HJ30, HB⟩ := hcut
                                  cases kq with
                                  | zero => exact absurd HA.out (by simp [credenzalaw15_VersionDots.j6])
                                  | succ kj30 =>
                                    have H := HA.out
                                    clear HA
                                    simp only [credenzalaw15_VersionDots.j6] at H
                                    by_cases c33 : x92_30 = true
                                    · subst c33
                                      have H1 : ((version_Compare.f kj30 x5_1 x6_2).bind fun t155 => (if t155 = 1 then ((version_Compare.f kj30 x6_2 x5_1).bind fun t156 => (if t156 = (-1) then ((credenzalaw15_awake.f kj30).bind fun t157 => (some t157)) else (some false))) else (some false))) = some r := by rw [if_pos rfl] at H; exact H
                                      clear H
                                      have H := H1
                                      clear H1
                                      replace H := Option.bind_eq_some_iff.mp H
                                      obtain ⟨t155, A340, H⟩ := H
                                      replace H : (if t155 = 1 then ((version_Compare.f kj30 x6_2 x5_1).bind fun t156 => (if t156 = (-1) then ((credenzalaw15_awake.f kj30).bind fun t157 => (some t157)) else (some false))) else (some false)) = some r := H
                                      have A34 := Aside0.mk A340
                                      clear A340
                                      by_cases c35 : t155 = 1
                                      · rw [if_pos c35] at H
                                        have c35b0 : (t155 == 1) = true := beq_iff_eq.mpr c35
                                        have c35b1 : (t155 != 1) = false := bne_eq_false_iff_eq.mpr c35
                                        clear c35
                                        replace H := Option.bind_eq_some_iff.mp H
                                        obtain ⟨t156, A360, H⟩ := H
                                        replace H : (if t156 = (-1) then ((credenzalaw15_awake.f kj30).bind fun t157 => (some t157)) else (some false)) = some r := H
                                        have A36 := Aside0.mk A360
                                        clear A360
                                        by_cases c37 : t156 = (-1)
                                        · rw [if_pos c37] at H
                                          have c37b0 : (t156 == (-1)) = true := beq_iff_eq.mpr c37
                                          have c37b1 : (t156 != (-1)) = false := bne_eq_false_iff_eq.mpr c37
                                          clear c37
                                          replace H := Option.bind_eq_some_iff.mp H
                                          obtain ⟨t157, A380, H⟩ := H
                                          replace H : (some t157) = some r := H
                                          have A38 := Aside0.mk A380
                                          clear A380
                                          obtain rfl := Option.some.inj H
                                          go_wp2_with (first | (go_at_call 12; (with_reducible refine (version_Compare.calls kj30 x5_1 x6_2 t155 _ A34.out).mono ?_); rintro e w39 ⟨rfl, hb⟩; have n0_ := Aside0.mk (below_step (by repeat (first | (with_reducible first | exact HB.out | apply below_alloc | apply pw_below_drewN | apply below_drew1) | exact HB.out)) hb); clear HB; have HB := n0_; clear n0_; (try clear hb); (try clear hb2); (try clear hk); (try clear hi)) | (go_at_call 12; (with_reducible refine (version_Compare.calls kj30 x6_2 x5_1 t156 _ A36.out).mono ?_); rintro e w40 ⟨rfl, hb⟩; have n0_ := Aside0.mk (below_step (by repeat (first | (with_reducible first | exact HB.out | apply below_alloc | apply pw_below_drewN | apply below_drew1) | exact HB.out)) hb); clear HB; have HB := n0_; clear n0_; (try clear hb); (try clear hb2); (try clear hk); (try clear hi)) | (go_at_call 13; (with_reducible refine (credenzalaw15_awake.calls kj30  t157 _ A38.out).mono ?_); rintro e w41 ⟨rfl, hb⟩; have n0_ := Aside0.mk (below_step (by repeat (first | (with_reducible first | exact HB.out | apply below_alloc | apply pw_below_drewN | apply below_drew1) | exact HB.out)) hb); clear HB; have HB := n0_; clear n0_; (try clear hb); (try clear hb2); (try clear hk); (try clear hi)))
                                          repeat (go_quiet (first | (go_at_call 12; (with_reducible refine (version_Compare.calls kj30 x5_1 x6_2 t155 _ A34.out).mono ?_); rintro e w39 ⟨rfl, hb⟩; have n0_ := Aside0.mk (below_step (by repeat (first | (with_reducible first | exact HB.out | apply below_alloc | apply pw_below_drewN | apply below_drew1) | exact HB.out)) hb); clear HB; have HB := n0_; clear n0_; (try clear hb); (try clear hb2); (try clear hk); (try clear hi)) | (go_at_call 12; (with_reducible refine (version_Compare.calls kj30 x6_2 x5_1 t156 _ A36.out).mono ?_); rintro e w40 ⟨rfl, hb⟩; have n0_ := Aside0.mk (below_step (by repeat (first | (with_reducible first | exact HB.out | apply below_alloc | apply pw_below_drewN | apply below_drew1) | exact HB.out)) hb); clear HB; have HB := n0_; clear n0_; (try clear hb); (try clear hb2); (try clear hk); (try clear hi)) | (go_at_call 13; (with_reducible refine (credenzalaw15_awake.calls kj30  t157 _ A38.out).mono ?_); rintro e w41 ⟨rfl, hb⟩; have n0_ := Aside0.mk (below_step (by repeat (first | (with_reducible first | exact HB.out | apply below_alloc | apply pw_below_drewN | apply below_drew1) | exact HB.out)) hb); clear HB; have HB := n0_; clear n0_; (try clear hb); (try clear hb2); (try clear hk); (try clear hi))); try go_wp2_with (first | (go_at_call 12; (with_reducible refine (version_Compare.calls kj30 x5_1 x6_2 t155 _ A34.out).mono ?_); rintro e w39 ⟨rfl, hb⟩; have n0_ := Aside0.mk (below_step (by repeat (first | (with_reducible first | exact HB.out | apply below_alloc | apply pw_below_drewN | apply below_drew1) | exact HB.out)) hb); clear HB; have HB := n0_; clear n0_; (try clear hb); (try clear hb2); (try clear hk); (try clear hi)) | (go_at_call 12; (with_reducible refine (version_Compare.calls kj30 x6_2 x5_1 t156 _ A36.out).mono ?_); rintro e w40 ⟨rfl, hb⟩; have n0_ := Aside0.mk (below_step (by repeat (first | (with_reducible first | exact HB.out | apply below_alloc | apply pw_below_drewN | apply below_drew1) | exact HB.out)) hb); clear HB; have HB := n0_; clear n0_; (try clear hb); (try clear hb2); (try clear hk); (try clear hi)) | (go_at_call 13; (with_reducible refine (credenzalaw15_awake.calls kj30  t157 _ A38.out).mono ?_); rintro e w41 ⟨rfl, hb⟩; have n0_ := Aside0.mk (below_step (by repeat (first | (with_reducible first | exact HB.out | apply below_alloc | apply pw_below_drewN | apply below_drew1) | exact HB.out)) hb); clear HB; have HB := n0_; clear n0_; (try clear hb); (try clear hb2); (try clear hk); (try clear hi))))
                                          go_ret
                                          exact ⟨by first | rfl | (simp [errW_none, errW_some] <;> rfl) | (simp only [← hji3, ← hji4]; first | rfl | (simp [errW_none, errW_some] <;> rfl)) | (simp [*, errW_none, errW_some] <;> rfl), by repeat (first | (with_reducible first | exact HB.out | apply below_alloc | apply pw_below_drewN | apply below_drew1) | exact HB.out)⟩
                                        · rw [if_neg c37] at H
                                          have c37b0 : (t156 == (-1)) = false := beq_eq_false_iff_ne.mpr c37
                                          have c37b1 : (t156 != (-1)) = true := bne_iff_ne.mpr c37
                                          obtain rfl := Option.some.inj H
                                          go_wp2_with (first | (go_at_call 12; (with_reducible refine (version_Compare.calls kj30 x5_1 x6_2 t155 _ A34.out).mono ?_); rintro e w42 ⟨rfl, hb⟩; have n0_ := Aside0.mk (below_step (by repeat (first | (with_reducible first | exact HB.out | apply below_alloc | apply pw_below_drewN | apply below_drew1) | exact HB.out)) hb); clear HB; have HB := n0_; clear n0_; (try clear hb); (try clear hb2); (try clear hk); (try clear hi)) | (go_at_call 12; (with_reducible refine (version_Compare.calls kj30 x6_2 x5_1 t156 _ A36.out).mono ?_); rintro e w43 ⟨rfl, hb⟩; have n0_ := Aside0.mk (below_step (by repeat (first | (with_reducible first | exact HB.out | apply below_alloc | apply pw_below_drewN | apply below_drew1) | exact HB.out)) hb); clear HB; have HB := n0_; clear n0_; (try clear hb); (try clear hb2); (try clear hk); (try clear hi)))
                                          repeat (go_quiet (first | (go_at_call 12; (with_reducible refine (version_Compare.calls kj30 x5_1 x6_2 t155 _ A34.out).mono ?_); rintro e w42 ⟨rfl, hb⟩; have n0_ := Aside0.mk (below_step (by repeat (first | (with_reducible first | exact HB.out | apply below_alloc | apply pw_below_drewN | apply below_drew1) | exact HB.out)) hb); clear HB; have HB := n0_; clear n0_; (try clear hb); (try clear hb2); (try clear hk); (try clear hi)) | (go_at_call 12; (with_reducible refine (version_Compare.calls kj30 x6_2 x5_1 t156 _ A36.out).mono ?_); rintro e w43 ⟨rfl, hb⟩; have n0_ := Aside0.mk (below_step (by repeat (first | (with_reducible first | exact HB.out | apply below_alloc | apply pw_below_drewN | apply below_drew1) | exact HB.out)) hb); clear HB; have HB := n0_; clear n0_; (try clear hb); (try clear hb2); (try clear hk); (try clear hi))); try go_wp2_with (first | (go_at_call 12; (with_reducible refine (version_Compare.calls kj30 x5_1 x6_2 t155 _ A34.out).mono ?_); rintro e w42 ⟨rfl, hb⟩; have n0_ := Aside0.mk (below_step (by repeat (first | (with_reducible first | exact HB.out | apply below_alloc | apply pw_below_drewN | apply below_drew1) | exact HB.out)) hb); clear HB; have HB := n0_; clear n0_; (try clear hb); (try clear hb2); (try clear hk); (try clear hi)) | (go_at_call 12; (with_reducible refine (version_Compare.calls kj30 x6_2 x5_1 t156 _ A36.out).mono ?_); rintro e w43 ⟨rfl, hb⟩; have n0_ := Aside0.mk (below_step (by repeat (first | (with_reducible first | exact HB.out | apply below_alloc | apply pw_below_drewN | apply below_drew1) | exact HB.out)) hb); clear HB; have HB := n0_; clear n0_; (try clear hb); (try clear hb2); (try clear hk); (try clear hi))))
                                          go_ret
                                          exact ⟨by first | rfl | (simp [errW_none, errW_some] <;> rfl) | (simp only [← hji3, ← hji4]; first | rfl | (simp [errW_none, errW_some] <;> rfl)) | (simp [*, errW_none, errW_some] <;> rfl), by repeat (first | (with_reducible first | exact HB.out | apply below_alloc | apply pw_below_drewN | apply below_drew1) | exact HB.out)⟩
                                      · rw [if_neg c35] at H
                                        have c35b0 : (t155 == 1) = false := beq_eq_false_iff_ne.mpr c35
                                        have c35b1 : (t155 != 1) = true := bne_iff_ne.mpr c35
                                        obtain rfl := Option.some.inj H
                                        go_wp2_with (first | (go_at_call 12; (with_reducible refine (version_Compare.calls kj30 x5_1 x6_2 t155 _ A34.out).mono ?_); rintro e w44 ⟨rfl, hb⟩; have n0_ := Aside0.mk (below_step (by repeat (first | (with_reducible first | exact HB.out | apply below_alloc | apply pw_below_drewN | apply below_drew1) | exact HB.out)) hb); clear HB; have HB := n0_; clear n0_; (try clear hb); (try clear hb2); (try clear hk); (try clear hi)))
                                        repeat (go_quiet (first | (go_at_call 12; (with_reducible refine (version_Compare.calls kj30 x5_1 x6_2 t155 _ A34.out).mono ?_); rintro e w44 ⟨rfl, hb⟩; have n0_ := Aside0.mk (below_step (by repeat (first | (with_reducible first | exact HB.out | apply below_alloc | apply pw_below_drewN | apply below_drew1) | exact HB.out)) hb); clear HB; have HB := n0_; clear n0_; (try clear hb); (try clear hb2); (try clear hk); (try clear hi))); try go_wp2_with (first | (go_at_call 12; (with_reducible refine (version_Compare.calls kj30 x5_1 x6_2 t155 _ A34.out).mono ?_); rintro e w44 ⟨rfl, hb⟩; have n0_ := Aside0.mk (below_step (by repeat (first | (with_reducible first | exact HB.out | apply below_alloc | apply pw_below_drewN | apply below_drew1) | exact HB.out)) hb); clear HB; have HB := n0_; clear n0_; (try clear hb); (try clear hb2); (try clear hk); (try clear hi))))
                                        go_ret
                                        exact ⟨by first | rfl | (simp [errW_none, errW_some] <;> rfl) | (simp only [← hji3, ← hji4]; first | rfl | (simp [errW_none, errW_some] <;> rfl)) | (simp [*, errW_none, errW_some] <;> rfl), by repeat (first | (with_reducible first | exact HB.out | apply below_alloc | apply pw_below_drewN | apply below_drew1) | exact HB.out)⟩
                                    · replace c33 := Bool.eq_false_iff.mpr c33
                                      subst c33
                                      have H1 : ((version_Compare.f kj30 x5_1 x6_2).bind fun t158 => (if t158 = x11_28 then ((version_Compare.f kj30 x6_2 x5_1).bind fun t159 => (if t159 = (wrap64 (-x11_28)) then ((credenzalaw15_awake.f kj30).bind fun t160 => (some t160)) else (some false))) else (some false))) = some r := by rw [if_neg (show ¬ (false = true) by decide)] at H; exact H
                                      clear H
                                      have H := H1
                                      clear H1
                                      replace H := Option.bind_eq_some_iff.mp H
                                      obtain ⟨t158, A450, H⟩ := H
                                      replace H : (if t158 = x11_28 then ((version_Compare.f kj30 x6_2 x5_1).bind fun t159 => (if t159 = (wrap64 (-x11_28)) then ((credenzalaw15_awake.f kj30).bind fun t160 => (some t160)) else (some false))) else (some false)) = some r := H
                                      have A45 := Aside0.mk A450
                                      clear A450
                                      by_cases c46 : t158 = x11_28
                                      · rw [if_pos c46] at H
                                        have c46b0 : (t158 == x11_28) = true := beq_iff_eq.mpr c46
                                        have c46b1 : (t158 != x11_28) = false := bne_eq_false_iff_eq.mpr c46
                                        clear c46
                                        replace H := Option.bind_eq_some_iff.mp H
                                        obtain ⟨t159, A470, H⟩ := H
                                        replace H : (if t159 = (wrap64 (-x11_28)) then ((credenzalaw15_awake.f kj30).bind fun t160 => (some t160)) else (some false)) = some r := H
                                        have A47 := Aside0.mk A470
                                        clear A470
                                        by_cases c48 : t159 = (wrap64 (-x11_28))
                                        · rw [if_pos c48] at H
                                          have c48b0 : (t159 == (wrap64 (-x11_28))) = true := beq_iff_eq.mpr c48
                                          have c48b1 : (t159 != (wrap64 (-x11_28))) = false := bne_eq_false_iff_eq.mpr c48
                                          clear c48
                                          replace H := Option.bind_eq_some_iff.mp H
                                          obtain ⟨t160, A490, H⟩ := H
                                          replace H : (some t160) = some r := H
                                          have A49 := Aside0.mk A490
                                          clear A490
                                          obtain rfl := Option.some.inj H
                                          go_wp2_with (first | (go_at_call 12; (with_reducible refine (version_Compare.calls kj30 x5_1 x6_2 t158 _ A45.out).mono ?_); rintro e w50 ⟨rfl, hb⟩; have n0_ := Aside0.mk (below_step (by repeat (first | (with_reducible first | exact HB.out | apply below_alloc | apply pw_below_drewN | apply below_drew1) | exact HB.out)) hb); clear HB; have HB := n0_; clear n0_; (try clear hb); (try clear hb2); (try clear hk); (try clear hi)) | (go_at_call 12; (with_reducible refine (version_Compare.calls kj30 x6_2 x5_1 t159 _ A47.out).mono ?_); rintro e w51 ⟨rfl, hb⟩; have n0_ := Aside0.mk (below_step (by repeat (first | (with_reducible first | exact HB.out | apply below_alloc | apply pw_below_drewN | apply below_drew1) | exact HB.out)) hb); clear HB; have HB := n0_; clear n0_; (try clear hb); (try clear hb2); (try clear hk); (try clear hi)) | (go_at_call 13; (with_reducible refine (credenzalaw15_awake.calls kj30  t160 _ A49.out).mono ?_); rintro e w52 ⟨rfl, hb⟩; have n0_ := Aside0.mk (below_step (by repeat (first | (with_reducible first | exact HB.out | apply below_alloc | apply pw_below_drewN | apply below_drew1) | exact HB.out)) hb); clear HB; have HB := n0_; clear n0_; (try clear hb); (try clear hb2); (try clear hk); (try clear hi)))
                                          repeat (go_quiet (first | (go_at_call 12; (with_reducible refine (version_Compare.calls kj30 x5_1 x6_2 t158 _ A45.out).mono ?_); rintro e w50 ⟨rfl, hb⟩; have n0_ := Aside0.mk (below_step (by repeat (first | (with_reducible first | exact HB.out | apply below_alloc | apply pw_below_drewN | apply below_drew1) | exact HB.out)) hb); clear HB; have HB := n0_; clear n0_; (try clear hb); (try clear hb2); (try clear hk); (try clear hi)) | (go_at_call 12; (with_reducible refine (version_Compare.calls kj30 x6_2 x5_1 t159 _ A47.out).mono ?_); rintro e w51 ⟨rfl, hb⟩; have n0_ := Aside0.mk (below_step (by repeat (first | (with_reducible first | exact HB.out | apply below_alloc | apply pw_below_drewN | apply below_drew1) | exact HB.out)) hb); clear HB; have HB := n0_; clear n0_; (try clear hb); (try clear hb2); (try clear hk); (try clear hi)) | (go_at_call 13; (with_reducible refine (credenzalaw15_awake.calls kj30  t160 _ A49.out).mono ?_); rintro e w52 ⟨rfl, hb⟩; have n0_ := Aside0.mk (below_step (by repeat (first | (with_reducible first | exact HB.out | apply below_alloc | apply pw_below_drewN | apply below_drew1) | exact HB.out)) hb); clear HB; have HB := n0_; clear n0_; (try clear hb); (try clear hb2); (try clear hk); (try clear hi))); try go_wp2_with (first | (go_at_call 12; (with_reducible refine (version_Compare.calls kj30 x5_1 x6_2 t158 _ A45.out).mono ?_); rintro e w50 ⟨rfl, hb⟩; have n0_ := Aside0.mk (below_step (by repeat (first | (with_reducible first | exact HB.out | apply below_alloc | apply pw_below_drewN | apply below_drew1) | exact HB.out)) hb); clear HB; have HB := n0_; clear n0_; (try clear hb); (try clear hb2); (try clear hk); (try clear hi)) | (go_at_call 12; (with_reducible refine (version_Compare.calls kj30 x6_2 x5_1 t159 _ A47.out).mono ?_); rintro e w51 ⟨rfl, hb⟩; have n0_ := Aside0.mk (below_step (by repeat (first | (with_reducible first | exact HB.out | apply below_alloc | apply pw_below_drewN | apply below_drew1) | exact HB.out)) hb); clear HB; have HB := n0_; clear n0_; (try clear hb); (try clear hb2); (try clear hk); (try clear hi)) | (go_at_call 13; (with_reducible refine (credenzalaw15_awake.calls kj30  t160 _ A49.out).mono ?_); rintro e w52 ⟨rfl, hb⟩; have n0_ := Aside0.mk (below_step (by repeat (first | (with_reducible first | exact HB.out | apply below_alloc | apply pw_below_drewN | apply below_drew1) | exact HB.out)) hb); clear HB; have HB := n0_; clear n0_; (try clear hb); (try clear hb2); (try clear hk); (try clear hi))))
                                          go_ret
                                          exact ⟨by first | rfl | (simp [errW_none, errW_some] <;> rfl) | (simp only [← hji3, ← hji4]; first | rfl | (simp [errW_none, errW_some] <;> rfl)) | (simp [*, errW_none, errW_some] <;> rfl), by repeat (first | (with_reducible first | exact HB.out | apply below_alloc | apply pw_below_drewN | apply below_drew1) | exact HB.out)⟩
                                        · rw [if_neg c48] at H
                                          have c48b0 : (t159 == (wrap64 (-x11_28))) = false := beq_eq_false_iff_ne.mpr c48
                                          have c48b1 : (t159 != (wrap64 (-x11_28))) = true := bne_iff_ne.mpr c48
                                          obtain rfl := Option.some.inj H
                                          go_wp2_with (first | (go_at_call 12; (with_reducible refine (version_Compare.calls kj30 x5_1 x6_2 t158 _ A45.out).mono ?_); rintro e w53 ⟨rfl, hb⟩; have n0_ := Aside0.mk (below_step (by repeat (first | (with_reducible first | exact HB.out | apply below_alloc | apply pw_below_drewN | apply below_drew1) | exact HB.out)) hb); clear HB; have HB := n0_; clear n0_; (try clear hb); (try clear hb2); (try clear hk); (try clear hi)) | (go_at_call 12; (with_reducible refine (version_Compare.calls kj30 x6_2 x5_1 t159 _ A47.out).mono ?_); rintro e w54 ⟨rfl, hb⟩; have n0_ := Aside0.mk (below_step (by repeat (first | (with_reducible first | exact HB.out | apply below_alloc | apply pw_below_drewN | apply below_drew1) | exact HB.out)) hb); clear HB; have HB := n0_; clear n0_; (try clear hb); (try clear hb2); (try clear hk); (try clear hi)))
                                          repeat (go_quiet (first | (go_at_call 12; (with_reducible refine (version_Compare.calls kj30 x5_1 x6_2 t158 _ A45.out).mono ?_); rintro e w53 ⟨rfl, hb⟩; have n0_ := Aside0.mk (below_step (by repeat (first | (with_reducible first | exact HB.out | apply below_alloc | apply pw_below_drewN | apply below_drew1) | exact HB.out)) hb); clear HB; have HB := n0_; clear n0_; (try clear hb); (try clear hb2); (try clear hk); (try clear hi)) | (go_at_call 12; (with_reducible refine (version_Compare.calls kj30 x6_2 x5_1 t159 _ A47.out).mono ?_); rintro e w54 ⟨rfl, hb⟩; have n0_ := Aside0.mk (below_step (by repeat (first | (with_reducible first | exact HB.out | apply below_alloc | apply pw_below_drewN | apply below_drew1) | exact HB.out)) hb); clear HB; have HB := n0_; clear n0_; (try clear hb); (try clear hb2); (try clear hk); (try clear hi))); try go_wp2_with (first | (go_at_call 12; (with_reducible refine (version_Compare.calls kj30 x5_1 x6_2 t158 _ A45.out).mono ?_); rintro e w53 ⟨rfl, hb⟩; have n0_ := Aside0.mk (below_step (by repeat (first | (with_reducible first | exact HB.out | apply below_alloc | apply pw_below_drewN | apply below_drew1) | exact HB.out)) hb); clear HB; have HB := n0_; clear n0_; (try clear hb); (try clear hb2); (try clear hk); (try clear hi)) | (go_at_call 12; (with_reducible refine (version_Compare.calls kj30 x6_2 x5_1 t159 _ A47.out).mono ?_); rintro e w54 ⟨rfl, hb⟩; have n0_ := Aside0.mk (below_step (by repeat (first | (with_reducible first | exact HB.out | apply below_alloc | apply pw_below_drewN | apply below_drew1) | exact HB.out)) hb); clear HB; have HB := n0_; clear n0_; (try clear hb); (try clear hb2); (try clear hk); (try clear hi))))
                                          go_ret
                                          exact ⟨by first | rfl | (simp [errW_none, errW_some] <;> rfl) | (simp only [← hji3, ← hji4]; first | rfl | (simp [errW_none, errW_some] <;> rfl)) | (simp [*, errW_none, errW_some] <;> rfl), by repeat (first | (with_reducible first | exact HB.out | apply below_alloc | apply pw_below_drewN | apply below_drew1) | exact HB.out)⟩
                                      · rw [if_neg c46] at H
                                        have c46b0 : (t158 == x11_28) = false := beq_eq_false_iff_ne.mpr c46
                                        have c46b1 : (t158 != x11_28) = true := bne_iff_ne.mpr c46
                                        obtain rfl := Option.some.inj H
                                        go_wp2_with (first | (go_at_call 12; (with_reducible refine (version_Compare.calls kj30 x5_1 x6_2 t158 _ A45.out).mono ?_); rintro e w55 ⟨rfl, hb⟩; have n0_ := Aside0.mk (below_step (by repeat (first | (with_reducible first | exact HB.out | apply below_alloc | apply pw_below_drewN | apply below_drew1) | exact HB.out)) hb); clear HB; have HB := n0_; clear n0_; (try clear hb); (try clear hb2); (try clear hk); (try clear hi)))
                                        repeat (go_quiet (first | (go_at_call 12; (with_reducible refine (version_Compare.calls kj30 x5_1 x6_2 t158 _ A45.out).mono ?_); rintro e w55 ⟨rfl, hb⟩; have n0_ := Aside0.mk (below_step (by repeat (first | (with_reducible first | exact HB.out | apply below_alloc | apply pw_below_drewN | apply below_drew1) | exact HB.out)) hb); clear HB; have HB := n0_; clear n0_; (try clear hb); (try clear hb2); (try clear hk); (try clear hi))); try go_wp2_with (first | (go_at_call 12; (with_reducible refine (version_Compare.calls kj30 x5_1 x6_2 t158 _ A45.out).mono ?_); rintro e w55 ⟨rfl, hb⟩; have n0_ := Aside0.mk (below_step (by repeat (first | (with_reducible first | exact HB.out | apply below_alloc | apply pw_below_drewN | apply below_drew1) | exact HB.out)) hb); clear HB; have HB := n0_; clear n0_; (try clear hb); (try clear hb2); (try clear hk); (try clear hi))))
                                        go_ret
                                        exact ⟨by first | rfl | (simp [errW_none, errW_some] <;> rfl) | (simp only [← hji3, ← hji4]; first | rfl | (simp [errW_none, errW_some] <;> rfl)) | (simp [*, errW_none, errW_some] <;> rfl), by repeat (first | (with_reducible first | exact HB.out | apply below_alloc | apply pw_below_drewN | apply below_drew1) | exact HB.out)⟩

/-- THE ONE PURE STATEMENT of credenzalaw15_VersionDots: yours. -/
def credenzalaw15_VersionDots.Pure : Prop := ∀ (l0 : List Int) (l1 : List Int), l0.length ≤ maxLen → l0.length * 8 ≤ 140737488351232 → (∀ x ∈ l0, (Lit.int .i64 x).wf = true) → l1.length ≤ maxLen → l1.length * 8 ≤ 140737488351232 → (∀ x ∈ l1, (Lit.int .i64 x).wf = true) → ∃ k, credenzalaw15_VersionDots.f k l0 l1 = some true
theorem credenzalaw15_VersionDots.walk (P : credenzalaw15_VersionDots.Pure) (a0 : Option Addr) (len0 cap0 : Nat) (z0 : List Int) (a1 : Option Addr) (len1 cap1 : Nat) (z1 : List Int) (w : World) (w0 : (a0 = none ∧ len0 = 0 ∧ cap0 = 0 ∧ z0 = []) ∨ ∃ x, a0 = some x ∧ len0 ≤ cap0 ∧ cap0 ≤ maxLen ∧ z0.length = cap0 ∧ (∀ i, i < z0.length → w.cell? (x.add i) = some (.int .i64 (z0.getD i 0))) ∧ ∀ n ∈ z0, (Lit.int .i64 n).wf = true) (y0 : len0 * 8 ≤ 140737488351232) (w1 : (a1 = none ∧ len1 = 0 ∧ cap1 = 0 ∧ z1 = []) ∨ ∃ x, a1 = some x ∧ len1 ≤ cap1 ∧ cap1 ≤ maxLen ∧ z1.length = cap1 ∧ (∀ i, i < z1.length → w.cell? (x.add i) = some (.int .i64 (z1.getD i 0))) ∧ ∀ n ∈ z1, (Lit.int .i64 n).wf = true) (y1 : len1 * 8 ≤ 140737488351232) :
    Calls Tryd.prog 3 #[.slice a0 len0 cap0, .slice a1 len1 cap1] w fun e w' => e = .returned (.bool true) ∧ Below w.heap.size w w' := by
  obtain ⟨l0, rfl, hr0, hm0, hw0, hc0⟩ := ReadsInt.ofRowC w0
  obtain ⟨l1, rfl, hr1, hm1, hw1, hc1⟩ := ReadsInt.ofRowC w1
  obtain ⟨k, h⟩ := P l0 l1 hm0 y0 hw0 hm1 y1 hw1
  refine (credenzalaw15_VersionDots.calls k _ _ l0 _ _ l1 true w (Kd.C_of_reads (d := (0 : Int)) (h1 := fun _ => rfl) hr0) hc0 (Kd.C_of_reads (d := (0 : Int)) (h1 := fun _ => rfl) hr1) hc1 h).mono ?_
  rintro e w' ⟨rfl, hd⟩
  exact ⟨rfl, hd⟩

end Go.Proofs.YtndpokjakogpnaaDoor.V

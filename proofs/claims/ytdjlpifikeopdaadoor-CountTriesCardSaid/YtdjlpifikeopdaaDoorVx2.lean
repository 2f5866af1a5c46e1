-- written by hprint.py (wip/tools): the kit's print with hand contracts
import Derived.Test.YtdjlpifikeopdaaDoorVx0
namespace Go.Proofs.YtdjlpifikeopdaaDoor.V
open Go.RowKit Go.Proofs.YtdjlpifikeopdaaDoorW.PrintWords Go.Proofs.YtdjlpifikeopdaaDoorW.PrintLast Go.Proofs.YtdjlpifikeopdaaDoorW.PrintMore
attribute [local go_sem] max2_int min2_int max_two min_two max_three min_three max_four min_four   -- for this text's walks alone
set_option linter.unusedVariables false
set_option linter.unusedSimpArgs false

-- NOT PRINTED: function 37 (stringslite_HasSuffix)

-- NOT PRINTED: function 31 (stringslite_CutSuffix)

/-! ### strings_CutSuffix: function 26 -/
def strings_CutSuffix.f (a0 : ByteArray) (a1 : ByteArray) : Option (ByteArray × Bool) := if a0.size ≤ 9223372036854775807 then some (⟨(Lib.trimSuffix a0.data.toList a1.data.toList).toArray⟩, Lib.hasSuffix a0.data.toList a1.data.toList) else none
theorem strings_CutSuffix.calls (a0 : ByteArray) (a1 : ByteArray) (r1 : ByteArray) (r2 : Bool) (w : World) (h : strings_CutSuffix.f a0 a1 = some (r1, r2)) :
    Calls Tryd.prog 26 #[.string a0, .string a1] w fun e w' => e = .returned (.tuple #[.string r1, .bool r2]) ∧ Drawn0 w w' := by
  unfold strings_CutSuffix.f at h
  by_cases hs : a0.size ≤ 9223372036854775807
  · rw [if_pos hs] at h
    cases h
    refine (Tryd.strings_CutSuffix a0 a1 w hs).mono ?_
    rintro e w' ⟨rfl, rfl⟩
    exact ⟨rfl, Drawn0.refl _⟩
  · rw [if_neg hs] at h
    cases h

-- NOT PRINTED: function 32 (bytealg_LastIndexByteString)

/-! ### strings_LastIndexByte: function 27 -/
def strings_LastIndexByte.f (a0 : ByteArray) (a1 : Int) : Option (Int) := if a0.size < 4611686018427387904 then some (Lib.lastIndexByte a0 a1) else none
theorem strings_LastIndexByte.calls (a0 : ByteArray) (a1 : Int) (r : Int) (w : World) (h : strings_LastIndexByte.f a0 a1 = some r) :
    Calls Tryd.prog 27 #[.string a0, .int .u8 a1] w fun e w' => e = .returned (.int .i64 r) ∧ Drawn0 w w' := by
  unfold strings_LastIndexByte.f at h
  by_cases hs : a0.size < 4611686018427387904
  · rw [if_pos hs] at h
    cases h
    refine (Tryd.strings_LastIndexByte a0 a1 hs w).mono ?_
    rintro e w' ⟨rfl, rfl⟩
    exact ⟨rfl, Drawn0.refl _⟩
  · rw [if_neg hs] at h
    cases h

-- NOT PRINTED: function 62 (bytealg_IndexByteString)

-- NOT PRINTED: function 48 (stringslite_IndexByte)

-- NOT PRINTED: function 49 (bytealg_IndexString)

-- NOT PRINTED: function 50 (bytealg_Cutover)

-- NOT PRINTED: function 63 (bytealg_hashStr_string)

-- NOT PRINTED: function 51 (bytealg_IndexRabinKarp_string)

-- NOT PRINTED: function 41 (stringslite_Index)

-- NOT PRINTED: function 38 (stringslite_Cut)

/-! ### strings_Cut: function 33 -/
def strings_Cut.f (a0 : ByteArray) (a1 : ByteArray) : Option (ByteArray × ByteArray × Bool) := if a1 = (⟨#[45]⟩ : ByteArray) then (if a0.size < 4294967281 then some (⟨(Lib.cut a0.data.toList [45]).1.toArray⟩, ⟨(Lib.cut a0.data.toList [45]).2.1.toArray⟩, (Lib.cut a0.data.toList [45]).2.2) else none) else none
theorem strings_Cut.calls (a0 : ByteArray) (a1 : ByteArray) (r1 : ByteArray) (r2 : ByteArray) (r3 : Bool) (w : World) (h : strings_Cut.f a0 a1 = some (r1, r2, r3)) :
    Calls Tryd.prog 33 #[.string a0, .string a1] w fun e w' => e = .returned (.tuple #[.string r1, .string r2, .bool r3]) ∧ Below w.heap.size w w' := by
  unfold strings_Cut.f at h
  by_cases h1 : a1 = (⟨#[45]⟩ : ByteArray)
  · rw [if_pos h1] at h
    subst h1
    by_cases hs : a0.size < 4294967281
    · rw [if_pos hs] at h
      cases h
      refine (Cb.cut33 a0 w hs).mono ?_
      rintro e w' ⟨rfl, n, rfl⟩
      exact ⟨rfl, pw_below_drewN (Below.refl _ _) n⟩
    · rw [if_neg hs] at h; cases h
  · rw [if_neg h1] at h; cases h

-- NOT PRINTED: function 69 (strconv_lower)

-- NOT PRINTED: function 70 (strconv_underscoreOK)

-- NOT PRINTED: function 64 (strconv_ParseUint)

-- NOT PRINTED: function 52 (strconv_ParseInt)

-- NOT PRINTED: function 42 (strconv_Atoi_42)

-- NOT PRINTED: function 65 (stringslite_Clone)

-- NOT PRINTED: function 53 (strconv_syntaxError)

-- NOT PRINTED: function 54 (strconv_rangeError)

-- NOT PRINTED: function 44 (strconv_small)

-- NOT PRINTED: function 57 (strconv_log10Pow2)

-- NOT PRINTED: function 58 (bits_Len64)

-- NOT PRINTED: function 59 (strconv_bool2_int)

-- NOT PRINTED: function 45 (strconv_numDigits)

-- NOT PRINTED: function 46 (strconv_formatBase10)

-- NOT PRINTED: function 60 (strconv_isPowerOfTwo)

-- NOT PRINTED: function 67 (bits_TrailingZeros32)

-- NOT PRINTED: function 68 (bits_TrailingZeros64)

-- NOT PRINTED: function 61 (bits_TrailingZeros)

-- NOT PRINTED: function 47 (strconv_formatBits)

-- NOT PRINTED: function 40 (strconv_FormatInt)

-- NOT PRINTED: function 35 (strconv_Itoa_35)

/-! ### strconv_Itoa_29: function 29 -/
def strconv_Itoa_29.f (a0 : Int) : Option (ByteArray) := if -9223372036854775808 ≤ a0 then (if a0 ≤ 9223372036854775807 then some ⟨(Lib.itoa a0).toArray⟩ else none) else none
theorem strconv_Itoa_29.calls (a0 : Int) (r : ByteArray) (w : World) (hG : Cb.GW w) (h : strconv_Itoa_29.f a0 = some r) :
    Calls Tryd.prog 29 #[.int .i64 a0] w fun e w' => e = .returned (.string r) ∧ Below w.heap.size w w' := by
  unfold strconv_Itoa_29.f at h
  by_cases h1 : -9223372036854775808 ≤ a0
  · rw [if_pos h1] at h
    by_cases h2 : a0 ≤ 9223372036854775807
    · rw [if_pos h2] at h
      cases h
      refine (Tryd.strconv_Itoa a0 h1 h2 w hG).mono ?_
      rintro e w' ⟨rfl, k, os, rfl⟩
      exact ⟨rfl, Cb.below_grow (pw_below_drewN (Below.refl _ _) k) os⟩
    · rw [if_neg h2] at h; cases h
  · rw [if_neg h1] at h; cases h

-- NOT PRINTED: function 66 (errors_New)

-- NOT PRINTED: function 55 (strconv_baseError)

-- NOT PRINTED: function 56 (strconv_bitSizeError)

-- NOT PRINTED: function 43 (strconv_toError)

/-! ### strconv_Atoi_39: function 39 -/
def strconv_Atoi_39.f (a0 : ByteArray) : Option (Int × Option Int) := if a0.size ≤ 18 then (Lib.atoi a0.data.toList).map fun n => (n, none) else none
theorem strconv_Atoi_39.calls (a0 : ByteArray) (r1 : Int) (r2 : Option Int) (w : World) (h : strconv_Atoi_39.f a0 = some (r1, r2)) :
    Calls Tryd.prog 39 #[.string a0] w fun e w' => e = .returned (.tuple #[.int .i64 r1, errW r2]) ∧ Below w.heap.size w w' := by
  unfold strconv_Atoi_39.f at h
  by_cases hs : a0.size ≤ 18
  · rw [if_pos hs] at h
    cases ha : Lib.atoi a0.data.toList with
    | none => rw [ha] at h; cases h
    | some m =>
      rw [ha] at h
      cases h
      refine (Tryd.strconv_Atoi a0 _ hs ha w).mono ?_
      rintro e w' ⟨rfl, t, rfl⟩
      exact ⟨rfl, Cb.below_bytes _ _ _⟩
  · rw [if_neg hs] at h; cases h

/-! ### count_number: function 34 -/
def count_number.j0 : Nat → ByteArray → Bool → Option (Int × Bool)
  | 0, _, _ => none
  | k + 1, x0, x20 => if x20 = true then (some (0, false)) else (if 0 ≤ (wrap64 ((x0.size : Int) - 1)) then (if (wrap64 ((x0.size : Int) - 1)) < (x0.size : Int) then (if (bt x0 (wrap64 ((x0.size : Int) - 1))) < 48 then (some (0, false)) else (if (bt x0 (wrap64 ((x0.size : Int) - 1))) > 57 then (some (0, false)) else ((strconv_Atoi_39.f x0).bind fun bt104 => (if bt104.2.isNone = true then (some (bt104.1, true)) else (some (bt104.1, false)))))) else (none)) else (none))
def count_number.f (k : Nat) (a0 : ByteArray) : Option (Int × Bool) := if (a0.size : Int) = 2 then (if 0 < (a0.size : Int) then (if (bt a0 0) < 49 then (count_number.j0 k a0 true) else (count_number.j0 k a0 (decide ((bt a0 0) > 57)))) else (none)) else (if (a0.size : Int) = 1 then (if 0 ≤ (wrap64 ((a0.size : Int) - 1)) then (if (wrap64 ((a0.size : Int) - 1)) < (a0.size : Int) then (if (bt a0 (wrap64 ((a0.size : Int) - 1))) < 48 then (some (0, false)) else (if (bt a0 (wrap64 ((a0.size : Int) - 1))) > 57 then (some (0, false)) else ((strconv_Atoi_39.f a0).bind fun bt101 => (if bt101.2.isNone = true then (some (bt101.1, true)) else (some (bt101.1, false)))))) else (none)) else (none)) else (some (0, false)))
theorem count_number.mono_l : ∀ k, (∀ y0 y1, LeO (count_number.j0 k y0 y1) (count_number.j0 (k + 1) y0 y1))
  | 0 => fun _ _ r h => by simp [count_number.j0] at h
  | k + 1 => by
    have ih0 := count_number.mono_l k
    · intro y0 y1
      unfold count_number.j0
      repeat' first
      | (with_reducible exact ih0 _ _)
      | (with_reducible exact LeO.refl _)
      | (with_reducible exact LeO.none _)
      | (with_reducible refine LeO.ite ?_ ?_)
      | (with_reducible refine LeO.bind ?_ (fun _ => ?_))
      | exact ih0 _ _
      | exact LeO.none _
      | refine LeO.ite ?_ ?_
      | refine LeO.bind ?_ (fun _ => ?_)
theorem count_number.mono : ∀ a0 k, LeO (count_number.f k a0) (count_number.f (k + 1) a0) := by
  intro a0 k
  have ih0 := count_number.mono_l k
  unfold count_number.f
  repeat' first
      | (with_reducible exact ih0 _ _)
      | (with_reducible exact LeO.refl _)
      | (with_reducible exact LeO.none _)
      | (with_reducible refine LeO.ite ?_ ?_)
      | (with_reducible refine LeO.bind ?_ (fun _ => ?_))
      | exact ih0 _ _
      | exact LeO.none _
      | refine LeO.ite ?_ ?_
      | refine LeO.bind ?_ (fun _ => ?_)
set_option maxHeartbeats 8000000 in
set_option maxRecDepth 100000 in
theorem count_number.calls (k : Nat) (a0 : ByteArray) (r1 : Int) (r2 : Bool) (w : World) (h : count_number.f k a0 = some (r1, r2)) :
    Calls Tryd.prog 34 #[.string a0] w fun e w' => e = .returned (.tuple #[.int .i64 r1, .bool r2]) ∧ Below w.heap.size w w' := by
  have hu56 := Tryd.underlying56
  have HB := Aside0.mk (Below.refl w.heap.size w)
  have H : (if (a0.size : Int) = 2 then (if 0 < (a0.size : Int) then (if (bt a0 0) < 49 then (count_number.j0 k a0 true) else (count_number.j0 k a0 (decide ((bt a0 0) > 57)))) else (none)) else (if (a0.size : Int) = 1 then (if 0 ≤ (wrap64 ((a0.size : Int) - 1)) then (if (wrap64 ((a0.size : Int) - 1)) < (a0.size : Int) then (if (bt a0 (wrap64 ((a0.size : Int) - 1))) < 48 then (some (0, false)) else (if (bt a0 (wrap64 ((a0.size : Int) - 1))) > 57 then (some (0, false)) else ((strconv_Atoi_39.f a0).bind fun bt101 => (if bt101.2.isNone = true then (some (bt101.1, true)) else (some (bt101.1, false)))))) else (none)) else (none)) else (some (0, false)))) = some (r1, r2) := h
  clear h
  by_cases c2 : (a0.size : Int) = 2
  · rw [if_pos c2] at H
    have c2b0 : ((a0.size : Int) == 2) = true := beq_iff_eq.mpr c2
    have c2b1 : ((a0.size : Int) != 2) = false := bne_eq_false_iff_eq.mpr c2
    clear c2
    have HC3 := Aside0.mk H
    clear H
    go_enter Tryd.func34, Tryd.ntmps34
    go_upto_region 4 with (fail)
    repeat (go_quiet (fail); go_upto_region 4 with (fail))
    go_cut [20] (fun v20 wc => ∃ (kq : Nat) (x20_2 : Bool), v20 = .bool x20_2 ∧ Aside0 (count_number.j0 kq a0 x20_2 = some (r1, r2)) ∧ Aside0 (kq ≤ k) ∧ Aside0 (Below w.heap.size w wc))
    case first =>
      have H := HC3.out
      clear HC3
      by_cases c4 : 0 < (a0.size : Int)
      · rw [if_pos c4] at H
        have c4b0 : decide (0 < (a0.size : Int)) = true := decide_eq_true c4
        have c4b1 : decide (0 < a0.size) = true := decide_eq_true (by omega)
        clear c4
        (first | rw [c4b0] | (simp only [i64_w, i32_w]; rw [c4b0]) | skip)
        by_cases c6 : (bt a0 0) < 49
        · rw [if_pos c6] at H
          have c6b0 : decide ((bt a0 0) < 49) = true := decide_eq_true c6
          clear c6
          have H' := Aside0.mk H
          clear H
          have p5 : 0 ≤ (0 : Int) := (by omega)
          have q5 : 0 < a0.size := (by have : (0 : Int) < (a0.size : Int) := of_decide_eq_true (by first | (with_reducible assumption) | assumption); omega)
          have hx5 : ∀ h : 0 < a0.size, ((a0[0]'h).toNat : Int) = bt a0 0 := bt_at a0 0
          clear p5
          have qi5 : (0 < (a0.size : Int)) = True := eq_true (of_decide_eq_true (by first | (with_reducible assumption) | assumption))
          replace q5 := eq_true q5
          go_wp2
          repeat (go_quiet (fail); try go_wp2)
          go_meet
          case rel => exact ⟨_, (true), (by first | rfl | (simp; done) | (simp [*]; done)), H', ⟨by first | omega | exact Nat.le_refl _⟩, ⟨by repeat (first | (with_reducible first | exact HB.out | apply below_alloc | apply pw_below_drewN | apply below_drew1) | exact HB.out)⟩⟩
        · rw [if_neg c6] at H
          have c6b0 : decide ((bt a0 0) < 49) = false := decide_eq_false c6
          clear c6
          have H' := Aside0.mk H
          clear H
          have p5 : 0 ≤ (0 : Int) := (by omega)
          have q5 : 0 < a0.size := (by have : (0 : Int) < (a0.size : Int) := of_decide_eq_true (by first | (with_reducible assumption) | assumption); omega)
          have hx5 : ∀ h : 0 < a0.size, ((a0[0]'h).toNat : Int) = bt a0 0 := bt_at a0 0
          clear p5
          have qi5 : (0 < (a0.size : Int)) = True := eq_true (of_decide_eq_true (by first | (with_reducible assumption) | assumption))
          replace q5 := eq_true q5
          have p7 : 0 ≤ (0 : Int) := (by omega)
          have q7 : 0 < a0.size := (by have : (0 : Int) < (a0.size : Int) := of_decide_eq_true (by first | (with_reducible assumption) | assumption); omega)
          have hx7 : ∀ h : 0 < a0.size, ((a0[0]'h).toNat : Int) = bt a0 0 := bt_at a0 0
          clear p7
          have qi7 : (0 < (a0.size : Int)) = True := eq_true (of_decide_eq_true (by first | (with_reducible assumption) | assumption))
          replace q7 := eq_true q7
          go_wp2
          repeat (go_quiet (fail); try go_wp2)
          go_meet
          case rel => exact ⟨_, (decide ((bt a0 0) > 57)), (by first | rfl | (simp; done) | (simp [*]; done)), H', ⟨by first | omega | exact Nat.le_refl _⟩, ⟨by repeat (first | (with_reducible first | exact HB.out | apply below_alloc | apply pw_below_drewN | apply below_drew1) | exact HB.out)⟩⟩
      · rw [if_neg c4] at H
        exact absurd H (by simp)
    case rest =>
      clear HC3
      try clear c2
      try clear c2b0
      try clear c2b1
      try clear p2
      try clear c3
      try clear c4
      try clear c4b0
      try clear c4b1
      try clear p5
      try clear q5
      try clear hx5
      try clear qi5
      try clear c6
      try clear c6b0
      try clear p6
      try clear p7
      try clear q7
      try clear hx7
      try clear qi7
      try clear p5
      try clear p7
      try clear q5
      try clear q7
      obtain ⟨kq, x20_2, rfl, HA, HJ2, HB⟩ := hcut
      cases kq with
      | zero => exact absurd HA.out (by simp [count_number.j0])
      | succ kj2 =>
        have H := HA.out
        clear HA
        simp only [count_number.j0] at H
        by_cases c8 : x20_2 = true
        · subst c8
          have H1 : (some (0, false)) = some (r1, r2) := by rw [if_pos rfl] at H; exact H
          clear H
          have H := H1
          clear H1
          simp only [Option.some.injEq, Prod.mk.injEq] at H
          obtain ⟨rfl, rfl⟩ := H
          go_wp2
          repeat (go_quiet (fail); try go_wp2)
          go_ret2
          exact ⟨by first | rfl | (simp [errW_none, errW_some] <;> rfl) | (simp [*, errW_none, errW_some] <;> rfl), by repeat (first | (with_reducible first | exact HB.out | apply below_alloc | apply pw_below_drewN | apply below_drew1) | exact HB.out)⟩
        · replace c8 := Bool.eq_false_iff.mpr c8
          subst c8
          have H1 : (if 0 ≤ (wrap64 ((a0.size : Int) - 1)) then (if (wrap64 ((a0.size : Int) - 1)) < (a0.size : Int) then (if (bt a0 (wrap64 ((a0.size : Int) - 1))) < 48 then (some (0, false)) else (if (bt a0 (wrap64 ((a0.size : Int) - 1))) > 57 then (some (0, false)) else ((strconv_Atoi_39.f a0).bind fun bt104 => (if bt104.2.isNone = true then (some (bt104.1, true)) else (some (bt104.1, false)))))) else (none)) else (none)) = some (r1, r2) := by rw [if_neg (show ¬ (false = true) by decide)] at H; exact H
          clear H
          have H := H1
          clear H1
          obtain ⟨ji9, hji9⟩ : ∃ j_ : Int, (wrap64 ((a0.size : Int) - 1)) = j_ := ⟨_, rfl⟩
          replace H : (if 0 ≤ (ji9) then (if (ji9) < (a0.size : Int) then (if (bt a0 (ji9)) < 48 then (some (0, false)) else (if (bt a0 (ji9)) > 57 then (some (0, false)) else ((strconv_Atoi_39.f a0).bind fun bt104 => (if bt104.2.isNone = true then (some (bt104.1, true)) else (some (bt104.1, false)))))) else (none)) else (none)) = some (r1, r2) := by first | (rw [hji9] at H; exact H) | (simp only [hji9] at H ⊢; exact H)
          have hji9w : (IntKind.i64.wrap ((a0.size : Int) - 1)) = ji9 := (i64_w _).trans hji9
          by_cases c10 : 0 ≤ (ji9)
          · rw [if_pos c10] at H
            have c10b0 : decide (0 ≤ (ji9)) = true := decide_eq_true c10
            clear c10
            by_cases c11 : (ji9) < (a0.size : Int)
            · rw [if_pos c11] at H
              have c11b0 : decide ((ji9) < (a0.size : Int)) = true := decide_eq_true c11
              clear c11
              by_cases c13 : (bt a0 (ji9)) < 48
              · rw [if_pos c13] at H
                have c13b0 : decide ((bt a0 (ji9)) < 48) = true := decide_eq_true c13
                clear c13
                simp only [Option.some.injEq, Prod.mk.injEq] at H
                obtain ⟨rfl, rfl⟩ := H
                have p12 : 0 ≤ ((ji9) : Int) := of_decide_eq_true (by first | (with_reducible assumption) | assumption)
                have q12 : (ji9) < (a0.size : Int) := of_decide_eq_true (by first | (with_reducible assumption) | assumption)
                have hx12 := bt_at a0 (ji9)
                replace p12 := eq_true p12
                replace q12 := eq_true q12
                go_wp2
                repeat (go_quiet (fail); try go_wp2)
                go_ret2
                exact ⟨by first | rfl | (simp [errW_none, errW_some] <;> rfl) | (simp only [← hji9]; first | rfl | (simp [errW_none, errW_some] <;> rfl)) | (simp [*, errW_none, errW_some] <;> rfl), by repeat (first | (with_reducible first | exact HB.out | apply below_alloc | apply pw_below_drewN | apply below_drew1) | exact HB.out)⟩
              · rw [if_neg c13] at H
                have c13b0 : decide ((bt a0 (ji9)) < 48) = false := decide_eq_false c13
                clear c13
                by_cases c14 : (bt a0 (ji9)) > 57
                · rw [if_pos c14] at H
                  have c14b0 : decide (57 < (bt a0 (ji9))) = true := decide_eq_true c14
                  clear c14
                  simp only [Option.some.injEq, Prod.mk.injEq] at H
                  obtain ⟨rfl, rfl⟩ := H
                  have p12 : 0 ≤ ((ji9) : Int) := of_decide_eq_true (by first | (with_reducible assumption) | assumption)
                  have q12 : (ji9) < (a0.size : Int) := of_decide_eq_true (by first | (with_reducible assumption) | assumption)
                  have hx12 := bt_at a0 (ji9)
                  replace p12 := eq_true p12
                  replace q12 := eq_true q12
                  go_wp2
                  repeat (go_quiet (fail); try go_wp2)
                  go_ret2
                  exact ⟨by first | rfl | (simp [errW_none, errW_some] <;> rfl) | (simp only [← hji9]; first | rfl | (simp [errW_none, errW_some] <;> rfl)) | (simp [*, errW_none, errW_some] <;> rfl), by repeat (first | (with_reducible first | exact HB.out | apply below_alloc | apply pw_below_drewN | apply below_drew1) | exact HB.out)⟩
                · rw [if_neg c14] at H
                  have c14b0 : decide (57 < (bt a0 (ji9))) = false := decide_eq_false c14
                  clear c14
                  replace H := Option.bind_eq_some_iff.mp H
                  obtain ⟨⟨t104, t105⟩, A150, H⟩ := H
                  replace H : (if t105.isNone = true then (some (t104, true)) else (some (t104, false))) = some (r1, r2) := H
                  have A15 := Aside0.mk A150
                  clear A150
                  rcases t105 with _ | q106
                  · have H1 : (some (t104, true)) = some (r1, r2) := by rw [if_pos (show (none : Option Int).isNone = true by rfl)] at H; exact H
                    clear H
                    have H := H1
                    clear H1
                    try simp only [errW_none, errW_some]
                    simp only [Option.some.injEq, Prod.mk.injEq] at H
                    obtain ⟨rfl, rfl⟩ := H
                    have p12 : 0 ≤ ((ji9) : Int) := of_decide_eq_true (by first | (with_reducible assumption) | assumption)
                    have q12 : (ji9) < (a0.size : Int) := of_decide_eq_true (by first | (with_reducible assumption) | assumption)
                    have hx12 := bt_at a0 (ji9)
                    replace p12 := eq_true p12
                    replace q12 := eq_true q12
                    go_wp2_with (first | (go_at_call 39; (with_reducible refine (strconv_Atoi_39.calls a0 t104 none _ A15.out).mono ?_); rintro e w16 ⟨rfl, hb⟩; have n0_ := Aside0.mk (below_step (by repeat (first | (with_reducible first | exact HB.out | apply below_alloc | apply pw_below_drewN | apply below_drew1) | exact HB.out)) hb); clear HB; have HB := n0_; clear n0_; (try clear hb); (try clear hb2); (try clear hk); (try clear hi); (try simp only [errW_none, errW_some])))
                    repeat (go_quiet (first | (go_at_call 39; (with_reducible refine (strconv_Atoi_39.calls a0 t104 none _ A15.out).mono ?_); rintro e w16 ⟨rfl, hb⟩; have n0_ := Aside0.mk (below_step (by repeat (first | (with_reducible first | exact HB.out | apply below_alloc | apply pw_below_drewN | apply below_drew1) | exact HB.out)) hb); clear HB; have HB := n0_; clear n0_; (try clear hb); (try clear hb2); (try clear hk); (try clear hi); (try simp only [errW_none, errW_some]))); try go_wp2_with (first | (go_at_call 39; (with_reducible refine (strconv_Atoi_39.calls a0 t104 none _ A15.out).mono ?_); rintro e w16 ⟨rfl, hb⟩; have n0_ := Aside0.mk (below_step (by repeat (first | (with_reducible first | exact HB.out | apply below_alloc | apply pw_below_drewN | apply below_drew1) | exact HB.out)) hb); clear HB; have HB := n0_; clear n0_; (try clear hb); (try clear hb2); (try clear hk); (try clear hi); (try simp only [errW_none, errW_some]))))
                    go_ret2
                    exact ⟨by first | rfl | (simp [errW_none, errW_some] <;> rfl) | (simp only [← hji9]; first | rfl | (simp [errW_none, errW_some] <;> rfl)) | (simp [*, errW_none, errW_some] <;> rfl), by repeat (first | (with_reducible first | exact HB.out | apply below_alloc | apply pw_below_drewN | apply below_drew1) | exact HB.out)⟩
                  · have H1 : (some (t104, false)) = some (r1, r2) := by rw [if_neg (show ¬ (some q106).isNone = true by simp)] at H; exact H
                    clear H
                    have H := H1
                    clear H1
                    try simp only [errW_none, errW_some]
                    simp only [Option.some.injEq, Prod.mk.injEq] at H
                    obtain ⟨rfl, rfl⟩ := H
                    have p12 : 0 ≤ ((ji9) : Int) := of_decide_eq_true (by first | (with_reducible assumption) | assumption)
                    have q12 : (ji9) < (a0.size : Int) := of_decide_eq_true (by first | (with_reducible assumption) | assumption)
                    have hx12 := bt_at a0 (ji9)
                    replace p12 := eq_true p12
                    replace q12 := eq_true q12
                    go_wp2_with (first | (go_at_call 39; (with_reducible refine (strconv_Atoi_39.calls a0 t104 (some q106) _ A15.out).mono ?_); rintro e w17 ⟨rfl, hb⟩; have n0_ := Aside0.mk (below_step (by repeat (first | (with_reducible first | exact HB.out | apply below_alloc | apply pw_below_drewN | apply below_drew1) | exact HB.out)) hb); clear HB; have HB := n0_; clear n0_; (try clear hb); (try clear hb2); (try clear hk); (try clear hi); (try simp only [errW_none, errW_some])))
                    repeat (go_quiet (first | (go_at_call 39; (with_reducible refine (strconv_Atoi_39.calls a0 t104 (some q106) _ A15.out).mono ?_); rintro e w17 ⟨rfl, hb⟩; have n0_ := Aside0.mk (below_step (by repeat (first | (with_reducible first | exact HB.out | apply below_alloc | apply pw_below_drewN | apply below_drew1) | exact HB.out)) hb); clear HB; have HB := n0_; clear n0_; (try clear hb); (try clear hb2); (try clear hk); (try clear hi); (try simp only [errW_none, errW_some]))); try go_wp2_with (first | (go_at_call 39; (with_reducible refine (strconv_Atoi_39.calls a0 t104 (some q106) _ A15.out).mono ?_); rintro e w17 ⟨rfl, hb⟩; have n0_ := Aside0.mk (below_step (by repeat (first | (with_reducible first | exact HB.out | apply below_alloc | apply pw_below_drewN | apply below_drew1) | exact HB.out)) hb); clear HB; have HB := n0_; clear n0_; (try clear hb); (try clear hb2); (try clear hk); (try clear hi); (try simp only [errW_none, errW_some]))))
                    go_ret2
                    exact ⟨by first | rfl | (simp [errW_none, errW_some] <;> rfl) | (simp only [← hji9]; first | rfl | (simp [errW_none, errW_some] <;> rfl)) | (simp [*, errW_none, errW_some] <;> rfl), by repeat (first | (with_reducible first | exact HB.out | apply below_alloc | apply pw_below_drewN | apply below_drew1) | exact HB.out)⟩
            · rw [if_neg c11] at H
              exact absurd H (by simp)
          · rw [if_neg c10] at H
            exact absurd H (by simp)
  · rw [if_neg c2] at H
    have c2b0 : ((a0.size : Int) == 2) = false := beq_eq_false_iff_ne.mpr c2
    have c2b1 : ((a0.size : Int) != 2) = true := bne_iff_ne.mpr c2
    by_cases c18 : (a0.size : Int) = 1
    · rw [if_pos c18] at H
      have c18b0 : ((a0.size : Int) == 1) = true := beq_iff_eq.mpr c18
      have c18b1 : ((a0.size : Int) != 1) = false := bne_eq_false_iff_eq.mpr c18
      clear c18
      obtain ⟨ji19, hji19⟩ : ∃ j_ : Int, (wrap64 ((a0.size : Int) - 1)) = j_ := ⟨_, rfl⟩
      replace H : (if 0 ≤ (ji19) then (if (ji19) < (a0.size : Int) then (if (bt a0 (ji19)) < 48 then (some (0, false)) else (if (bt a0 (ji19)) > 57 then (some (0, false)) else ((strconv_Atoi_39.f a0).bind fun bt101 => (if bt101.2.isNone = true then (some (bt101.1, true)) else (some (bt101.1, false)))))) else (none)) else (none)) = some (r1, r2) := by first | (rw [hji19] at H; exact H) | (simp only [hji19] at H ⊢; exact H)
      have hji19w : (IntKind.i64.wrap ((a0.size : Int) - 1)) = ji19 := (i64_w _).trans hji19
      by_cases c20 : 0 ≤ (ji19)
      · rw [if_pos c20] at H
        have c20b0 : decide (0 ≤ (ji19)) = true := decide_eq_true c20
        clear c20
        by_cases c21 : (ji19) < (a0.size : Int)
        · rw [if_pos c21] at H
          have c21b0 : decide ((ji19) < (a0.size : Int)) = true := decide_eq_true c21
          clear c21
          by_cases c23 : (bt a0 (ji19)) < 48
          · rw [if_pos c23] at H
            have c23b0 : decide ((bt a0 (ji19)) < 48) = true := decide_eq_true c23
            clear c23
            simp only [Option.some.injEq, Prod.mk.injEq] at H
            obtain ⟨rfl, rfl⟩ := H
            have p22 : 0 ≤ ((ji19) : Int) := of_decide_eq_true (by first | (with_reducible assumption) | assumption)
            have q22 : (ji19) < (a0.size : Int) := of_decide_eq_true (by first | (with_reducible assumption) | assumption)
            have hx22 := bt_at a0 (ji19)
            replace p22 := eq_true p22
            replace q22 := eq_true q22
            go_enter Tryd.func34, Tryd.ntmps34
            go_wp2
            repeat (go_quiet (fail); try go_wp2)
            go_ret2
            exact ⟨by first | rfl | (simp [errW_none, errW_some] <;> rfl) | (simp only [← hji19]; first | rfl | (simp [errW_none, errW_some] <;> rfl)) | (simp [*, errW_none, errW_some] <;> rfl), by repeat (first | (with_reducible first | exact HB.out | apply below_alloc | apply pw_below_drewN | apply below_drew1) | exact HB.out)⟩
          · rw [if_neg c23] at H
            have c23b0 : decide ((bt a0 (ji19)) < 48) = false := decide_eq_false c23
            clear c23
            by_cases c24 : (bt a0 (ji19)) > 57
            · rw [if_pos c24] at H
              have c24b0 : decide (57 < (bt a0 (ji19))) = true := decide_eq_true c24
              clear c24
              simp only [Option.some.injEq, Prod.mk.injEq] at H
              obtain ⟨rfl, rfl⟩ := H
              have p22 : 0 ≤ ((ji19) : Int) := of_decide_eq_true (by first | (with_reducible assumption) | assumption)
              have q22 : (ji19) < (a0.size : Int) := of_decide_eq_true (by first | (with_reducible assumption) | assumption)
              have hx22 := bt_at a0 (ji19)
              replace p22 := eq_true p22
              replace q22 := eq_true q22
              go_enter Tryd.func34, Tryd.ntmps34
              go_wp2
              repeat (go_quiet (fail); try go_wp2)
              go_ret2
              exact ⟨by first | rfl | (simp [errW_none, errW_some] <;> rfl) | (simp only [← hji19]; first | rfl | (simp [errW_none, errW_some] <;> rfl)) | (simp [*, errW_none, errW_some] <;> rfl), by repeat (first | (with_reducible first | exact HB.out | apply below_alloc | apply pw_below_drewN | apply below_drew1) | exact HB.out)⟩
            · rw [if_neg c24] at H
              have c24b0 : decide (57 < (bt a0 (ji19))) = false := decide_eq_false c24
              clear c24
              replace H := Option.bind_eq_some_iff.mp H
              obtain ⟨⟨t101, t102⟩, A250, H⟩ := H
              replace H : (if t102.isNone = true then (some (t101, true)) else (some (t101, false))) = some (r1, r2) := H
              have A25 := Aside0.mk A250
              clear A250
              rcases t102 with _ | q103
              · have H1 : (some (t101, true)) = some (r1, r2) := by rw [if_pos (show (none : Option Int).isNone = true by rfl)] at H; exact H
                clear H
                have H := H1
                clear H1
                try simp only [errW_none, errW_some]
                simp only [Option.some.injEq, Prod.mk.injEq] at H
                obtain ⟨rfl, rfl⟩ := H
                have p22 : 0 ≤ ((ji19) : Int) := of_decide_eq_true (by first | (with_reducible assumption) | assumption)
                have q22 : (ji19) < (a0.size : Int) := of_decide_eq_true (by first | (with_reducible assumption) | assumption)
                have hx22 := bt_at a0 (ji19)
                replace p22 := eq_true p22
                replace q22 := eq_true q22
                go_enter Tryd.func34, Tryd.ntmps34
                go_wp2_with (first | (go_at_call 39; (with_reducible refine (strconv_Atoi_39.calls a0 t101 none _ A25.out).mono ?_); rintro e w26 ⟨rfl, hb⟩; have n0_ := Aside0.mk (below_step (by repeat (first | (with_reducible first | exact HB.out | apply below_alloc | apply pw_below_drewN | apply below_drew1) | exact HB.out)) hb); clear HB; have HB := n0_; clear n0_; (try clear hb); (try clear hb2); (try clear hk); (try clear hi); (try simp only [errW_none, errW_some])))
                repeat (go_quiet (first | (go_at_call 39; (with_reducible refine (strconv_Atoi_39.calls a0 t101 none _ A25.out).mono ?_); rintro e w26 ⟨rfl, hb⟩; have n0_ := Aside0.mk (below_step (by repeat (first | (with_reducible first | exact HB.out | apply below_alloc | apply pw_below_drewN | apply below_drew1) | exact HB.out)) hb); clear HB; have HB := n0_; clear n0_; (try clear hb); (try clear hb2); (try clear hk); (try clear hi); (try simp only [errW_none, errW_some]))); try go_wp2_with (first | (go_at_call 39; (with_reducible refine (strconv_Atoi_39.calls a0 t101 none _ A25.out).mono ?_); rintro e w26 ⟨rfl, hb⟩; have n0_ := Aside0.mk (below_step (by repeat (first | (with_reducible first | exact HB.out | apply below_alloc | apply pw_below_drewN | apply below_drew1) | exact HB.out)) hb); clear HB; have HB := n0_; clear n0_; (try clear hb); (try clear hb2); (try clear hk); (try clear hi); (try simp only [errW_none, errW_some]))))
                go_ret2
                exact ⟨by first | rfl | (simp [errW_none, errW_some] <;> rfl) | (simp only [← hji19]; first | rfl | (simp [errW_none, errW_some] <;> rfl)) | (simp [*, errW_none, errW_some] <;> rfl), by repeat (first | (with_reducible first | exact HB.out | apply below_alloc | apply pw_below_drewN | apply below_drew1) | exact HB.out)⟩
              · have H1 : (some (t101, false)) = some (r1, r2) := by rw [if_neg (show ¬ (some q103).isNone = true by simp)] at H; exact H
                clear H
                have H := H1
                clear H1
                try simp only [errW_none, errW_some]
                simp only [Option.some.injEq, Prod.mk.injEq] at H
                obtain ⟨rfl, rfl⟩ := H
                have p22 : 0 ≤ ((ji19) : Int) := of_decide_eq_true (by first | (with_reducible assumption) | assumption)
                have q22 : (ji19) < (a0.size : Int) := of_decide_eq_true (by first | (with_reducible assumption) | assumption)
                have hx22 := bt_at a0 (ji19)
                replace p22 := eq_true p22
                replace q22 := eq_true q22
                go_enter Tryd.func34, Tryd.ntmps34
                go_wp2_with (first | (go_at_call 39; (with_reducible refine (strconv_Atoi_39.calls a0 t101 (some q103) _ A25.out).mono ?_); rintro e w27 ⟨rfl, hb⟩; have n0_ := Aside0.mk (below_step (by repeat (first | (with_reducible first | exact HB.out | apply below_alloc | apply pw_below_drewN | apply below_drew1) | exact HB.out)) hb); clear HB; have HB := n0_; clear n0_; (try clear hb); (try clear hb2); (try clear hk); (try clear hi); (try simp only [errW_none, errW_some])))
                repeat (go_quiet (first | (go_at_call 39; (with_reducible refine (strconv_Atoi_39.calls a0 t101 (some q103) _ A25.out).mono ?_); rintro e w27 ⟨rfl, hb⟩; have n0_ := Aside0.mk (below_step (by repeat (first | (with_reducible first | exact HB.out | apply below_alloc | apply pw_below_drewN | apply below_drew1) | exact HB.out)) hb); clear HB; have HB := n0_; clear n0_; (try clear hb); (try clear hb2); (try clear hk); (try clear hi); (try simp only [errW_none, errW_some]))); try go_wp2_with (first | (go_at_call 39; (with_reducible refine (strconv_Atoi_39.calls a0 t101 (some q103) _ A25.out).mono ?_); rintro e w27 ⟨rfl, hb⟩; have n0_ := Aside0.mk (below_step (by repeat (first | (with_reducible first | exact HB.out | apply below_alloc | apply pw_below_drewN | apply below_drew1) | exact HB.out)) hb); clear HB; have HB := n0_; clear n0_; (try clear hb); (try clear hb2); (try clear hk); (try clear hi); (try simp only [errW_none, errW_some]))))
                go_ret2
                exact ⟨by first | rfl | (simp [errW_none, errW_some] <;> rfl) | (simp only [← hji19]; first | rfl | (simp [errW_none, errW_some] <;> rfl)) | (simp [*, errW_none, errW_some] <;> rfl), by repeat (first | (with_reducible first | exact HB.out | apply below_alloc | apply pw_below_drewN | apply below_drew1) | exact HB.out)⟩
        · rw [if_neg c21] at H
          exact absurd H (by simp)
      · rw [if_neg c20] at H
        exact absurd H (by simp)
    · rw [if_neg c18] at H
      have c18b0 : ((a0.size : Int) == 1) = false := beq_eq_false_iff_ne.mpr c18
      have c18b1 : ((a0.size : Int) != 1) = true := bne_iff_ne.mpr c18
      simp only [Option.some.injEq, Prod.mk.injEq] at H
      obtain ⟨rfl, rfl⟩ := H
      go_enter Tryd.func34, Tryd.ntmps34
      go_wp2
      repeat (go_quiet (fail); try go_wp2)
      go_ret2
      exact ⟨by first | rfl | (simp [errW_none, errW_some] <;> rfl) | (simp [*, errW_none, errW_some] <;> rfl), by repeat (first | (with_reducible first | exact HB.out | apply below_alloc | apply pw_below_drewN | apply below_drew1) | exact HB.out)⟩

end Go.Proofs.YtdjlpifikeopdaaDoor.V

-- written by hprint.py (wip/tools): the kit's print with hand contracts
import Derived.Test.YtinofijncbnolaaDoorVx0
import Derived.Test.YtinofijncbnolaaDoorVx1
namespace Go.Proofs.YtinofijncbnolaaDoor.V
open Go.RowKit Go.Proofs.YtinofijncbnolaaDoorW.PrintWords Go.Proofs.YtinofijncbnolaaDoorW.PrintLast Go.Proofs.YtinofijncbnolaaDoorW.PrintMore
attribute [local go_sem] max2_int min2_int max_two min_two max_three min_three max_four min_four   -- for this text's walks alone
set_option linter.unusedVariables false
set_option linter.unusedSimpArgs false

-- NOT PRINTED: function 44 (bits_TrailingZeros64)

-- NOT PRINTED: function 40 (bits_TrailingZeros)

-- NOT PRINTED: function 30 (strconv_formatBits)

-- NOT PRINTED: function 20 (strconv_FormatUint_20)

/-! ### strconv_FormatUint_18: function 18 -/
def strconv_FormatUint_18.f (a0 : Int) (a1 : Int) : Option (ByteArray) := if a1 = 16 then (if 0 ≤ a0 then (if a0 < 18446744073709551616 then some ⟨(Hex.hexs a0.toNat).toArray⟩ else none) else none) else none
theorem strconv_FormatUint_18.calls (a0 : Int) (a1 : Int) (r : ByteArray) (w : World) (hG : Hex.GW w) (h : strconv_FormatUint_18.f a0 a1 = some r) :
    Calls Tryd.prog 18 #[.int .u64 a0, .int .i64 a1] w fun e w' => e = .returned (.string r) ∧ Below w.heap.size w w' := by
  unfold strconv_FormatUint_18.f at h
  by_cases h1 : a1 = 16
  · rw [if_pos h1] at h
    subst h1
    by_cases h2 : 0 ≤ a0
    · rw [if_pos h2] at h
      by_cases h3 : a0 < 18446744073709551616
      · rw [if_pos h3] at h
        obtain rfl := Option.some.inj h
        obtain ⟨U, rfl⟩ := Int.eq_ofNat_of_zero_le h2
        refine (Hex.format18 U (by omega) w hG).mono ?_
        rintro e w' ⟨j, rfl, hj, hlo, hhi, hb⟩
        refine ⟨?_, hb⟩
        rw [Int.toNat_natCast]
        unfold Hex.hexs
        rw [Hex.hj_eq hj hlo hhi]
      · rw [if_neg h3] at h; cases h
    · rw [if_neg h2] at h; cases h
  · rw [if_neg h1] at h; cases h

-- NOT PRINTED: function 31 (bits_Mul32)

-- NOT PRINTED: function 32 (bits_Mul64)

-- NOT PRINTED: function 21 (bits_Mul)

-- NOT PRINTED: function 33 (stringslite_HasPrefix)

-- NOT PRINTED: function 22 (strings_HasPrefix)

-- NOT PRINTED: function 41 (abi_NoEscape)

-- NOT PRINTED: function 34 (strings_Builder_copyCheck)

-- NOT PRINTED: function 42 (bytealg_MakeNoZero)

-- NOT PRINTED: function 35 (strings_Builder_grow)

-- NOT PRINTED: function 23 (strings_Builder_Grow)

-- NOT PRINTED: function 24 (strings_Builder_WriteString)

-- NOT PRINTED: function 25 (strings_Builder_Len)

-- NOT PRINTED: function 26 (strings_Builder_String)

/-! ### strings_Repeat: function 19 -/
def strings_Repeat.f (a0 : ByteArray) (a1 : Int) : Option (ByteArray) := if a0 = (⟨#[48]⟩ : ByteArray) then (if 0 ≤ a1 then (if a1 ≤ 1000 then some ⟨(List.replicate a1.toNat (48 : UInt8)).toArray⟩ else none) else none) else none
theorem strings_Repeat.zeros : ∀ c : Nat, Lib.repeatL [48] c = List.replicate c (48 : UInt8)
  | 0 => rfl
  | c + 1 => by show 48 :: Lib.repeatL [48] c = _; rw [strings_Repeat.zeros c]; rfl
theorem strings_Repeat.calls (a0 : ByteArray) (a1 : Int) (r : ByteArray) (w : World) (h : strings_Repeat.f a0 a1 = some r) :
    Calls Tryd.prog 19 #[.string a0, .int .i64 a1] w fun e w' => e = .returned (.string r) ∧ Below w.heap.size w w' := by
  unfold strings_Repeat.f at h
  by_cases h1 : a0 = (⟨#[48]⟩ : ByteArray)
  · rw [if_pos h1] at h
    subst h1
    by_cases h2 : 0 ≤ a1
    · rw [if_pos h2] at h
      by_cases h3 : a1 ≤ 1000
      · rw [if_pos h3] at h
        obtain rfl := Option.some.inj h
        obtain ⟨c, rfl⟩ := Int.eq_ofNat_of_zero_le h2
        refine (Tryd.strings_Repeat ⟨#[48]⟩ c w (by omega) (by show 1 * c ≤ _; omega)).mono ?_
        rintro e w' ⟨rfl, hb⟩
        refine ⟨?_, hb⟩
        rw [Int.toNat_natCast, show (⟨#[48]⟩ : ByteArray).data.toList = [48] from rfl, strings_Repeat.zeros c]
      · rw [if_neg h3] at h; cases h
    · rw [if_neg h2] at h; cases h
  · rw [if_neg h1] at h; cases h

/-! ### sum_Hex: function 13 -/
def sum_Hex.f (a0 : Int) : Option (ByteArray) := (strconv_FormatUint_18.f a0 16).bind fun t109 => ((strings_Repeat.f (⟨#[48]⟩ : ByteArray) (wrap64 (16 - (t109.size : Int)))).bind fun t110 => (if t110.size + t109.size ≤ 9223372036854775807 then (some (t110 ++ t109)) else (none)))
set_option maxHeartbeats 8000000 in
set_option maxRecDepth 100000 in
theorem sum_Hex.calls (a0 : Int) (r : ByteArray) (w : World) (hG : Hex.GW w) (h : sum_Hex.f a0 = some r) :
    Calls Tryd.prog 13 #[.int .u64 a0] w fun e w' => e = .returned (.string r) ∧ Below w.heap.size w w' := by
  have HG := Aside0.mk hG
  clear hG
  have HB := Aside0.mk (Below.refl w.heap.size w)
  have H : ((strconv_FormatUint_18.f a0 16).bind fun t109 => ((strings_Repeat.f (⟨#[48]⟩ : ByteArray) (wrap64 (16 - (t109.size : Int)))).bind fun t110 => (if t110.size + t109.size ≤ 9223372036854775807 then (some (t110 ++ t109)) else (none)))) = some r := h
  clear h
  replace H := Option.bind_eq_some_iff.mp H
  obtain ⟨t109, A20, H⟩ := H
  replace H : ((strings_Repeat.f (⟨#[48]⟩ : ByteArray) (wrap64 (16 - (t109.size : Int)))).bind fun t110 => (if t110.size + t109.size ≤ 9223372036854775807 then (some (t110 ++ t109)) else (none))) = some r := H
  have A2 := Aside0.mk A20
  clear A20
  replace H := Option.bind_eq_some_iff.mp H
  obtain ⟨t110, A30, H⟩ := H
  replace H : (if t110.size + t109.size ≤ 9223372036854775807 then (some (t110 ++ t109)) else (none)) = some r := H
  have A3 := Aside0.mk A30
  clear A30
  by_cases c4 : t110.size + t109.size ≤ 9223372036854775807
  · rw [if_pos c4] at H
    have c4b0 := eq_true c4
    have c4b1 : decide (t110.size + t109.size ≤ 9223372036854775807) = true := decide_eq_true c4
    try have c4b2 : (9223372036854775807 < t110.size + t109.size) = False := eq_false (Nat.not_lt.2 c4)
    obtain rfl := Option.some.inj H
    clear c4
    go_enter Tryd.func13, Tryd.ntmps13
    go_wp2_with (first | ((with_reducible refine gate_callee (f := 18) rfl ?_); refine goesL_ (some 5) rfl rfl Tryd.func18 (by kernel_rfl) rfl #[.int .u64 a0, .int .i64 16] rfl (by (try simp only [List.map_toArray, List.map_cons, List.map_nil]); first | done | rfl | (simp only [List.length_drop, List.length_take]; rfl)) ?_; (with_reducible refine (strconv_FormatUint_18.calls a0 16 t109 _ ?side1 A2.out).mono ?_); (case side1 => exact Hex.GW_below HG.out (by repeat (first | (with_reducible first | exact HB.out | apply below_alloc | apply pw_below_drewN | apply below_drew1) | exact HB.out))); rintro e w5 ⟨rfl, hb⟩; refine ⟨_, rfl, ?_⟩; have n0_ := Aside0.mk (below_step (by repeat (first | (with_reducible first | exact HB.out | apply below_alloc | apply pw_below_drewN | apply below_drew1) | exact HB.out)) hb); clear HB; have HB := n0_; clear n0_; (try clear hb); (try clear hb2); (try clear hk); (try clear hi)) | ((with_reducible refine gate_callee (f := 19) rfl ?_); refine goesL_ (some 9) rfl rfl Tryd.func19 (by kernel_rfl) rfl #[.string (⟨#[48]⟩ : ByteArray), .int .i64 (wrap64 (16 - (t109.size : Int)))] rfl (by (try simp only [List.map_toArray, List.map_cons, List.map_nil]); first | done | rfl | (simp only [List.length_drop, List.length_take]; rfl)) ?_; (with_reducible refine (strings_Repeat.calls (⟨#[48]⟩ : ByteArray) (wrap64 (16 - (t109.size : Int))) t110 _ A3.out).mono ?_); rintro e w6 ⟨rfl, hb⟩; refine ⟨_, rfl, ?_⟩; have n0_ := Aside0.mk (below_step (by repeat (first | (with_reducible first | exact HB.out | apply below_alloc | apply pw_below_drewN | apply below_drew1) | exact HB.out)) hb); clear HB; have HB := n0_; clear n0_; (try clear hb); (try clear hb2); (try clear hk); (try clear hi)))
    go_ret
    exact ⟨by first | rfl | (simp [errW_none, errW_some] <;> rfl) | (simp [*, errW_none, errW_some] <;> rfl), by repeat (first | (with_reducible first | exact HB.out | apply below_alloc | apply pw_below_drewN | apply below_drew1) | exact HB.out)⟩
  · rw [if_neg c4] at H
    exact absurd H (by simp)

/-! ### credenzalaw2_awake: function 9 -/
def credenzalaw2_awake.f (k : Nat) : Option (Bool) := some true
theorem credenzalaw2_awake.mono : ∀ k, LeO (credenzalaw2_awake.f k) (credenzalaw2_awake.f (k + 1)) := fun _ => LeO.refl _
theorem credenzalaw2_awake.row (W : World) : Kd.V (Kd.int .u8) 5 (W.alloc (.cells #[.int .u8 97] 5 (1, 2))) (W.alloc (.cells #[.int .u8 97] 5 (1, 2))).heap.size (fun k_ => k_ < (W.alloc (.cells #[.int .u8 97] 5 (1, 2))).heap.size) (.slice (some ⟨W.heap.size, 0, none⟩) ([97] : List Int).length 1) [97] :=
  Kd.V_mk (Nat.le_refl _) (Kd.C_F (Kd.heap_int .u8) (Kd.C_of_reads (d := (0 : Int)) ⟨rfl, by decide, fun _ => ⟨_, rfl, fun i hi => by
    obtain rfl : i = 0 := by have : i < 1 := hi; omega
    exact (cell_of_row _ W.heap.size 0 _ 5 (1, 2) (heap_alloc_new W _)).trans rfl⟩⟩))
set_option maxHeartbeats 1000000 in
set_option maxRecDepth 100000 in
theorem credenzalaw2_awake.calls (k : Nat) (r : Bool) (w : World) (hG : Hex.GW w) (h : credenzalaw2_awake.f k = some r) :
    Calls Tryd.prog 9 #[] w fun e w' => e = .returned (.bool r) ∧ Below w.heap.size w w' := by
  obtain rfl := Option.some.inj h
  have kc := fun (W : World) (C : Array Value) (n c : Nat) => Lib.run_convert_bytes_const (P := Tryd.prog) W 22 5 C n c Tryd.underlying22 Tryd.underlying5
  have e1 : sum_Unhex.f 40 (⟨#[99, 98, 102, 50, 57, 99, 101, 52, 56, 52, 50, 50, 50, 51, 50, 53]⟩ : ByteArray) = some (14695981039346656037, true) := by decide +kernel
  have e2 : sum_Of.f 40 [] = some 14695981039346656037 := by decide +kernel
  have e3 : sum_Hex.f 14695981039346656037 = some (⟨#[99, 98, 102, 50, 57, 99, 101, 52, 56, 52, 50, 50, 50, 51, 50, 53]⟩ : ByteArray) := by decide +kernel
  have e4 : sum_Of.f 40 [97] = some 12638187200555641996 := by decide +kernel
  go_enter Tryd.func9, Tryd.ntmps9
  go_wp2_with (first
    | (go_at_call 12; refine (sum_Unhex.calls 40 _ _ _ _ e1).mono ?_; rintro e w1 ⟨rfl, ⟨nd, rfl⟩⟩)
    | (go_at_call 11; refine (sum_Of.calls 40 (fun _ => False) none 0 [] _ _ (Kd.V_nil _ _ _ _ _) e2).mono ?_; rintro e w2 ⟨rfl, hb2⟩)
    | (go_at_call 13; refine (sum_Hex.calls _ _ _ (Hex.GW_below hG (below_step (pw_below_drewN (Below.refl _ _) _) hb2)) e3).mono ?_; rintro e w3 ⟨rfl, hb3⟩)
    | (go_at_call 11; refine (sum_Of.calls 40 _ (some ⟨w3.heap.size, 0, none⟩) 1 [97] _ _ (credenzalaw2_awake.row w3) e4).mono ?_; rintro e w4 ⟨rfl, hb4⟩))
  go_ret
  exact ⟨rfl, below_step (below_alloc (below_step (below_step (pw_below_drewN (Below.refl _ _) _) hb2) hb3) _) hb4⟩

/-! ### credenzaref2_Hex: function 14 -/
def credenzaref2_Hex.l0 : Nat → Int → ByteArray → Int → Option (ByteArray)
  | 0, _, _, _ => none
  | k + 1, x0, x3, x4 => if x4 ≥ 0 then (if 0 ≤ x4 then (if 0 ≤ (wrap64 (Go.bits .and .u64 (shr .u64 x0 x4) 15)) then (if (wrap64 (Go.bits .and .u64 (shr .u64 x0 x4) 15)) ≤ (wrap64 ((wrap64 (Go.bits .and .u64 (shr .u64 x0 x4) 15)) + 1)) then (if (wrap64 ((wrap64 (Go.bits .and .u64 (shr .u64 x0 x4) 15)) + 1)) ≤ 16 then (if x3.size + ((⟨#[48, 49, 50, 51, 52, 53, 54, 55, 56, 57, 97, 98, 99, 100, 101, 102]⟩ : ByteArray).extract ((wrap64 (Go.bits .and .u64 (shr .u64 x0 x4) 15)) : Int).toNat ((wrap64 ((wrap64 (Go.bits .and .u64 (shr .u64 x0 x4) 15)) + 1)) : Int).toNat).size ≤ 9223372036854775807 then (credenzaref2_Hex.l0 k x0 (x3 ++ ((⟨#[48, 49, 50, 51, 52, 53, 54, 55, 56, 57, 97, 98, 99, 100, 101, 102]⟩ : ByteArray).extract ((wrap64 (Go.bits .and .u64 (shr .u64 x0 x4) 15)) : Int).toNat ((wrap64 ((wrap64 (Go.bits .and .u64 (shr .u64 x0 x4) 15)) + 1)) : Int).toNat)) (wrap64 (x4 - 4))) else (none)) else (none)) else (none)) else (none)) else (none)) else (some x3)
def credenzaref2_Hex.f (k : Nat) (a0 : Int) : Option (ByteArray) := credenzaref2_Hex.l0 k a0 (⟨#[]⟩ : ByteArray) 60
theorem credenzaref2_Hex.mono_l : ∀ k, (∀ y0 y1 y2, LeO (credenzaref2_Hex.l0 k y0 y1 y2) (credenzaref2_Hex.l0 (k + 1) y0 y1 y2))
  | 0 => fun _ _ _ r h => by simp [credenzaref2_Hex.l0] at h
  | k + 1 => by
    have ih0 := credenzaref2_Hex.mono_l k
    · intro y0 y1 y2
      unfold credenzaref2_Hex.l0
      repeat' first
      | (with_reducible exact ih0 _ _ _)
      | (with_reducible exact LeO.refl _)
      | (with_reducible exact LeO.none _)
      | (with_reducible refine LeO.ite ?_ ?_)
      | (with_reducible refine LeO.bind ?_ (fun _ => ?_))
      | exact ih0 _ _ _
      | exact LeO.none _
      | refine LeO.ite ?_ ?_
      | refine LeO.bind ?_ (fun _ => ?_)
theorem credenzaref2_Hex.mono : ∀ a0 k, LeO (credenzaref2_Hex.f k a0) (credenzaref2_Hex.f (k + 1) a0) := by
  intro a0 k
  have ih0 := credenzaref2_Hex.mono_l k
  unfold credenzaref2_Hex.f
  repeat' first
      | (with_reducible exact ih0 _ _ _)
      | (with_reducible exact LeO.refl _)
      | (with_reducible exact LeO.none _)
      | (with_reducible refine LeO.ite ?_ ?_)
      | (with_reducible refine LeO.bind ?_ (fun _ => ?_))
      | exact ih0 _ _ _
      | exact LeO.none _
      | refine LeO.ite ?_ ?_
      | refine LeO.bind ?_ (fun _ => ?_)
set_option maxHeartbeats 8000000 in
set_option maxRecDepth 100000 in
theorem credenzaref2_Hex.calls (k : Nat) (a0 : Int) (r : ByteArray) (w : World) (h : credenzaref2_Hex.f k a0 = some r) :
    Calls Tryd.prog 14 #[.int .u64 a0] w fun e w' => e = .returned (.string r) ∧ Drawn0 w w' := by
  have H : (credenzaref2_Hex.l0 k a0 (⟨#[]⟩ : ByteArray) 60) = some r := h
  clear h
  have H' := Aside0.mk H
  clear H
  go_enter Tryd.func14, Tryd.ntmps14
  go_wp2
  go_loopg [3, 4] k (fun kq v3 v4 w' => ∃ (x3_1 : ByteArray) (x4_1 : Int), v3 = .string x3_1 ∧ v4 = .int .i64 x4_1 ∧ Aside0 (credenzaref2_Hex.l0 kq a0 x3_1 x4_1 = some r) ∧ Aside0 (kq ≤ k) ∧ Drawn0 w w')
  case atStart => exact ⟨((⟨#[]⟩ : ByteArray)), (60), (by first | rfl | (simp; done) | (simp [*]; done)), (by first | rfl | (simp; done) | (simp [*]; done)), H', ⟨Nat.le_refl _⟩, by repeat (first | exact Drawn0.refl _ | apply Drawn0.step)⟩
  case round =>
    clear H'
    try clear c1
    obtain ⟨x3_1, x4_1, rfl, rfl, HA, HK1, ⟨m1, rfl⟩⟩ := hrel
    cases gk with
    | zero => exact absurd HA.out (by simp [credenzaref2_Hex.l0])
    | succ k1 =>
      have H := HA.out
      clear HA
      simp only [credenzaref2_Hex.l0] at H
      by_cases c2 : x4_1 ≥ 0
      · rw [if_pos c2] at H
        have c2b0 : decide (0 ≤ x4_1) = true := decide_eq_true c2
        clear c2
        by_cases c3 : 0 ≤ x4_1
        · rw [if_pos c3] at H
          have c3b0 := eq_true c3
          have c3b1 : decide (0 ≤ x4_1) = true := decide_eq_true c3
          clear c3
          obtain ⟨ji4, hji4⟩ : ∃ j_ : Int, (shr .u64 a0 x4_1) = j_ := ⟨_, rfl⟩
          replace H : (if 0 ≤ (wrap64 (Go.bits .and .u64 (ji4) 15)) then (if (wrap64 (Go.bits .and .u64 (ji4) 15)) ≤ (wrap64 ((wrap64 (Go.bits .and .u64 (ji4) 15)) + 1)) then (if (wrap64 ((wrap64 (Go.bits .and .u64 (ji4) 15)) + 1)) ≤ 16 then (if x3_1.size + ((⟨#[48, 49, 50, 51, 52, 53, 54, 55, 56, 57, 97, 98, 99, 100, 101, 102]⟩ : ByteArray).extract ((wrap64 (Go.bits .and .u64 (ji4) 15)) : Int).toNat ((wrap64 ((wrap64 (Go.bits .and .u64 (ji4) 15)) + 1)) : Int).toNat).size ≤ 9223372036854775807 then (credenzaref2_Hex.l0 k1 a0 (x3_1 ++ ((⟨#[48, 49, 50, 51, 52, 53, 54, 55, 56, 57, 97, 98, 99, 100, 101, 102]⟩ : ByteArray).extract ((wrap64 (Go.bits .and .u64 (ji4) 15)) : Int).toNat ((wrap64 ((wrap64 (Go.bits .and .u64 (ji4) 15)) + 1)) : Int).toNat)) (wrap64 (x4_1 - 4))) else (none)) else (none)) else (none)) else (none)) = some r := by first | (rw [hji4] at H; exact H) | (simp only [hji4] at H ⊢; exact H)
          have hji4_ : (a0 / 2 ^ min x4_1.toNat 64) = ji4 := hji4
          have hji4z : x4_1 ≤ 64 → (a0 / 2 ^ x4_1.toNat) = ji4 := shr_small hji4
          obtain ⟨ji5, hji5⟩ : ∃ j_ : Int, (wrap64 (Go.bits .and .u64 (ji4) 15)) = j_ := ⟨_, rfl⟩
          replace H : (if 0 ≤ (ji5) then (if (ji5) ≤ (wrap64 ((ji5) + 1)) then (if (wrap64 ((ji5) + 1)) ≤ 16 then (if x3_1.size + ((⟨#[48, 49, 50, 51, 52, 53, 54, 55, 56, 57, 97, 98, 99, 100, 101, 102]⟩ : ByteArray).extract ((ji5) : Int).toNat ((wrap64 ((ji5) + 1)) : Int).toNat).size ≤ 9223372036854775807 then (credenzaref2_Hex.l0 k1 a0 (x3_1 ++ ((⟨#[48, 49, 50, 51, 52, 53, 54, 55, 56, 57, 97, 98, 99, 100, 101, 102]⟩ : ByteArray).extract ((ji5) : Int).toNat ((wrap64 ((ji5) + 1)) : Int).toNat)) (wrap64 (x4_1 - 4))) else (none)) else (none)) else (none)) else (none)) = some r := by first | (rw [hji5] at H; exact H) | (simp only [hji5] at H ⊢; exact H)
          have hji5w : (IntKind.i64.wrap (Go.bits .and .u64 (ji4) 15)) = ji5 := (i64_w _).trans hji5
          by_cases c6 : 0 ≤ (ji5)
          · rw [if_pos c6] at H
            have c6b0 := eq_true c6
            have c6b1 : decide (0 ≤ (ji5)) = true := decide_eq_true c6
            clear c6
            by_cases c7 : (ji5) ≤ (wrap64 ((ji5) + 1))
            · rw [if_pos c7] at H
              have c7b0 := eq_true c7
              have c7b1 : decide ((ji5) ≤ (wrap64 ((ji5) + 1))) = true := decide_eq_true c7
              by_cases c8 : (wrap64 ((ji5) + 1)) ≤ 16
              · rw [if_pos c8] at H
                have c8b0 := eq_true c8
                have c8b1 : decide ((wrap64 ((ji5) + 1)) ≤ 16) = true := decide_eq_true c8
                by_cases c9 : x3_1.size + ((⟨#[48, 49, 50, 51, 52, 53, 54, 55, 56, 57, 97, 98, 99, 100, 101, 102]⟩ : ByteArray).extract ((ji5) : Int).toNat ((wrap64 ((ji5) + 1)) : Int).toNat).size ≤ 9223372036854775807
                · rw [if_pos c9] at H
                  have c9b0 := eq_true c9
                  have c9b1 : decide (x3_1.size + ((⟨#[48, 49, 50, 51, 52, 53, 54, 55, 56, 57, 97, 98, 99, 100, 101, 102]⟩ : ByteArray).extract ((ji5) : Int).toNat ((wrap64 ((ji5) + 1)) : Int).toNat).size ≤ 9223372036854775807) = true := decide_eq_true c9
                  try have c9b2 : (9223372036854775807 < x3_1.size + ((⟨#[48, 49, 50, 51, 52, 53, 54, 55, 56, 57, 97, 98, 99, 100, 101, 102]⟩ : ByteArray).extract ((ji5) : Int).toNat ((wrap64 ((ji5) + 1)) : Int).toNat).size) = False := eq_false (Nat.not_lt.2 c9)
                  have H' := Aside0.mk H
                  clear H
                  go_wp2
                  go_roundg k1
                  case measure => have := HK1.out; omega
                  case rel => exact ⟨(x3_1 ++ ((⟨#[48, 49, 50, 51, 52, 53, 54, 55, 56, 57, 97, 98, 99, 100, 101, 102]⟩ : ByteArray).extract ((ji5) : Int).toNat ((wrap64 ((ji5) + 1)) : Int).toNat)), (wrap64 (x4_1 - 4)), (by first | rfl | (simp; done) | (simp only [← hji5] <;> (first | rfl | simp)) | (simp [*]; done)), (by first | rfl | (simp; done) | (simp [*]; done)), H', ⟨by have := HK1.out; omega⟩, by repeat (first | exact Drawn0.refl _ | apply Drawn0.step)⟩
                · rw [if_neg c9] at H
                  exact absurd H (by simp)
              · rw [if_neg c8] at H
                exact absurd H (by simp)
            · rw [if_neg c7] at H
              exact absurd H (by simp)
          · rw [if_neg c6] at H
            exact absurd H (by simp)
        · rw [if_neg c3] at H
          exact absurd H (by simp)
      · rw [if_neg c2] at H
        have c2b0 : decide (0 ≤ x4_1) = false := decide_eq_false c2
        clear c2
        obtain rfl := Option.some.inj H
        go_wp2
        go_ret
        exact ⟨by first | rfl | (simp; done) | (simp [*]; done), by repeat (first | exact Drawn0.refl _ | apply Drawn0.step)⟩

/-! ### credenzaref2_Unhex: function 16 -/
mutual
def credenzaref2_Unhex.l0 : Nat → ByteArray → Int → Int → Option (Int × Bool)
  | 0, _, _, _ => none
  | k + 1, x0, x4, x5 => if x5 < 16 then (if 0 ≤ x5 then (if x5 < (x0.size : Int) then (if (bt x0 x5) ≥ 48 then (credenzaref2_Unhex.j1 k x0 x4 x5 (bt x0 x5) (decide ((bt x0 x5) ≤ 57))) else (credenzaref2_Unhex.j1 k x0 x4 x5 (bt x0 x5) false)) else (none)) else (none)) else (some (x4, true))
def credenzaref2_Unhex.j1 : Nat → ByteArray → Int → Int → Int → Bool → Option (Int × Bool)
  | 0, _, _, _, _, _ => none
  | k + 1, x0, x4, x5, x6, x17 => if x17 = true then (credenzaref2_Unhex.l0 k x0 (Go.bits .or .u64 (IntKind.u64.wrap (x4 * 16)) ((x6 - 48) % 256)) (wrap64 (x5 + 1))) else (if x6 ≥ 97 then (if x6 ≤ 102 then (credenzaref2_Unhex.l0 k x0 (Go.bits .or .u64 (IntKind.u64.wrap (x4 * 16)) ((((x6 - 97) % 256) + 10) % 256)) (wrap64 (x5 + 1))) else (some (0, false))) else (some (0, false)))
end
def credenzaref2_Unhex.f (k : Nat) (a0 : ByteArray) : Option (Int × Bool) := if (a0.size : Int) = 16 then (credenzaref2_Unhex.l0 k a0 0 0) else (some (0, false))
theorem credenzaref2_Unhex.mono_l : ∀ k, (∀ y0 y1 y2, LeO (credenzaref2_Unhex.l0 k y0 y1 y2) (credenzaref2_Unhex.l0 (k + 1) y0 y1 y2)) ∧ (∀ y0 y1 y2 y3 y4, LeO (credenzaref2_Unhex.j1 k y0 y1 y2 y3 y4) (credenzaref2_Unhex.j1 (k + 1) y0 y1 y2 y3 y4))
  | 0 => ⟨fun _ _ _ r h => by simp [credenzaref2_Unhex.l0] at h, fun _ _ _ _ _ r h => by simp [credenzaref2_Unhex.j1] at h⟩
  | k + 1 => by
    obtain ⟨ih0, ih1⟩ := credenzaref2_Unhex.mono_l k
    refine ⟨?_, ?_⟩
    · intro y0 y1 y2
      unfold credenzaref2_Unhex.l0
      repeat' first
      | (with_reducible exact ih0 _ _ _)
      | (with_reducible exact ih1 _ _ _ _ _)
      | (with_reducible exact LeO.refl _)
      | (with_reducible exact LeO.none _)
      | (with_reducible refine LeO.ite ?_ ?_)
      | (with_reducible refine LeO.bind ?_ (fun _ => ?_))
      | exact ih0 _ _ _
      | exact ih1 _ _ _ _ _
      | exact LeO.none _
      | refine LeO.ite ?_ ?_
      | refine LeO.bind ?_ (fun _ => ?_)
    · intro y0 y1 y2 y3 y4
      unfold credenzaref2_Unhex.j1
      repeat' first
      | (with_reducible exact ih0 _ _ _)
      | (with_reducible exact ih1 _ _ _ _ _)
      | (with_reducible exact LeO.refl _)
      | (with_reducible exact LeO.none _)
      | (with_reducible refine LeO.ite ?_ ?_)
      | (with_reducible refine LeO.bind ?_ (fun _ => ?_))
      | exact ih0 _ _ _
      | exact ih1 _ _ _ _ _
      | exact LeO.none _
      | refine LeO.ite ?_ ?_
      | refine LeO.bind ?_ (fun _ => ?_)
theorem credenzaref2_Unhex.mono : ∀ a0 k, LeO (credenzaref2_Unhex.f k a0) (credenzaref2_Unhex.f (k + 1) a0) := by
  intro a0 k
  obtain ⟨ih0, ih1⟩ := credenzaref2_Unhex.mono_l k
  unfold credenzaref2_Unhex.f
  repeat' first
      | (with_reducible exact ih0 _ _ _)
      | (with_reducible exact ih1 _ _ _ _ _)
      | (with_reducible exact LeO.refl _)
      | (with_reducible exact LeO.none _)
      | (with_reducible refine LeO.ite ?_ ?_)
      | (with_reducible refine LeO.bind ?_ (fun _ => ?_))
      | exact ih0 _ _ _
      | exact ih1 _ _ _ _ _
      | exact LeO.none _
      | refine LeO.ite ?_ ?_
      | refine LeO.bind ?_ (fun _ => ?_)
set_option maxHeartbeats 8000000 in
set_option maxRecDepth 100000 in
theorem credenzaref2_Unhex.calls (k : Nat) (a0 : ByteArray) (r1 : Int) (r2 : Bool) (w : World) (h : credenzaref2_Unhex.f k a0 = some (r1, r2)) :
    Calls Tryd.prog 16 #[.string a0] w fun e w' => e = .returned (.tuple #[.int .u64 r1, .bool r2]) ∧ Drawn0 w w' := by
  have H : (if (a0.size : Int) = 16 then (credenzaref2_Unhex.l0 k a0 0 0) else (some (0, false))) = some (r1, r2) := h
  clear h
  by_cases c2 : (a0.size : Int) = 16
  · rw [if_pos c2] at H
    have c2b0 : ((a0.size : Int) == 16) = true := beq_iff_eq.mpr c2
    have c2b1 : ((a0.size : Int) != 16) = false := bne_eq_false_iff_eq.mpr c2
    clear c2
    have H' := Aside0.mk H
    clear H
    go_enter Tryd.func16, Tryd.ntmps16
    go_wp2
    go_loopg [4, 5] k (fun kq v4 v5 w' => ∃ (x4_1 : Int) (x5_1 : Int), v4 = .int .u64 x4_1 ∧ v5 = .int .i64 x5_1 ∧ Aside0 (credenzaref2_Unhex.l0 kq a0 x4_1 x5_1 = some (r1, r2)) ∧ Aside0 (kq ≤ k) ∧ Drawn0 w w')
    case atStart => exact ⟨(0), (0), (by first | rfl | (simp; done) | (simp [*]; done)), (by first | rfl | (simp; done) | (simp [*]; done)), H', ⟨Nat.le_refl _⟩, by repeat (first | exact Drawn0.refl _ | apply Drawn0.step)⟩
    case round =>
      clear H'
      try clear c1
      try clear c2
      try clear c2b0
      try clear c2b1
      try clear p2
      obtain ⟨x4_1, x5_1, rfl, rfl, HA, HK1, ⟨m1, rfl⟩⟩ := hrel
      cases gk with
      | zero => exact absurd HA.out (by simp [credenzaref2_Unhex.l0])
      | succ k1 =>
        have H := HA.out
        clear HA
        simp only [credenzaref2_Unhex.l0] at H
        by_cases c3 : x5_1 < 16
        · rw [if_pos c3] at H
          have c3b0 : decide (x5_1 < 16) = true := decide_eq_true c3
          clear c3
          by_cases c4 : 0 ≤ x5_1
          · rw [if_pos c4] at H
            have c4b0 : decide (0 ≤ x5_1) = true := decide_eq_true c4
            clear c4
            by_cases c5 : x5_1 < (a0.size : Int)
            · rw [if_pos c5] at H
              have c5b0 : decide (x5_1 < (a0.size : Int)) = true := decide_eq_true c5
              clear c5
              have HC7 := Aside0.mk H
              clear H
              have p6 : 0 ≤ (x5_1 : Int) := of_decide_eq_true (by first | (with_reducible assumption) | assumption)
              have q6 : x5_1 < (a0.size : Int) := of_decide_eq_true (by first | (with_reducible assumption) | assumption)
              have hx6 := bt_at a0 x5_1
              replace p6 := eq_true p6
              replace q6 := eq_true q6
              go_upto_region 9 with (fail)
              go_cut [17] (fun v17 wc => ∃ (kq : Nat) (x17_6 : Bool), v17 = .bool x17_6 ∧ Aside0 (credenzaref2_Unhex.j1 kq a0 x4_1 x5_1 (bt a0 x5_1) x17_6 = some (r1, r2)) ∧ Aside0 (kq ≤ k1) ∧ Drawn0 w wc)
              case first =>
                have H := HC7.out
                clear HC7
                by_cases c8 : (bt a0 x5_1) ≥ 48
                · rw [if_pos c8] at H
                  have c8b0 : decide (48 ≤ (bt a0 x5_1)) = true := decide_eq_true c8
                  clear c8
                  (first | rw [c8b0] | (simp only [i64_w, i32_w]; rw [c8b0]) | skip)
                  have H' := Aside0.mk H
                  clear H
                  go_wp2
                  go_meet
                  case rel => exact ⟨_, (decide ((bt a0 x5_1) ≤ 57)), (by first | rfl | (simp; done) | (simp [*]; done)), H', ⟨by have := HK1.out; first | omega | exact Nat.le_refl _⟩, by repeat (first | exact Drawn0.refl _ | apply Drawn0.step)⟩
                · rw [if_neg c8] at H
                  have c8b0 : decide (48 ≤ (bt a0 x5_1)) = false := decide_eq_false c8
                  clear c8
                  (first | rw [c8b0] | (simp only [i64_w, i32_w]; rw [c8b0]) | skip)
                  have H' := Aside0.mk H
                  clear H
                  go_wp2
                  go_meet
                  case rel => exact ⟨_, (false), (by first | rfl | (simp; done) | (simp [*]; done)), H', ⟨by have := HK1.out; first | omega | exact Nat.le_refl _⟩, by repeat (first | exact Drawn0.refl _ | apply Drawn0.step)⟩
              case rest =>
                clear HC7
                try clear c1
                try clear c2
                try clear c2b0
                try clear c2b1
                try clear p2
                try clear c3
                try clear c3b0
                try clear c4
                try clear c4b0
                try clear c5
                try clear c5b0
                try clear p6
                try clear q6
                try clear hx6
                try clear c8
                try clear c8b0
                try clear p2
                try clear p6
                try clear q6
                obtain ⟨kq, x17_6, rfl, HA, HJ6, ⟨mc6, rfl⟩⟩ := hcut
                cases kq with
                | zero => exact absurd HA.out (by simp [credenzaref2_Unhex.j1])
                | succ kj6 =>
                  have H := HA.out
                  clear HA
                  simp only [credenzaref2_Unhex.j1] at H
                  by_cases c9 : x17_6 = true
                  · subst c9
                    have H1 : (credenzaref2_Unhex.l0 kj6 a0 (Go.bits .or .u64 (IntKind.u64.wrap (x4_1 * 16)) (((bt a0 x5_1) - 48) % 256)) (wrap64 (x5_1 + 1))) = some (r1, r2) := by rw [if_pos rfl] at H; exact H
                    clear H
                    have H := H1
                    clear H1
                    have H' := Aside0.mk H
                    clear H
                    go_wp2
                    go_roundg kj6
                    case measure => have := HK1.out; have := HJ6.out; omega
                    case rel => exact ⟨(Go.bits .or .u64 (IntKind.u64.wrap (x4_1 * 16)) (((bt a0 x5_1) - 48) % 256)), (wrap64 (x5_1 + 1)), (by first | rfl | (simp; done) | (simp [*]; done)), (by first | rfl | (simp; done) | (simp [*]; done)), H', ⟨by have := HK1.out; have := HJ6.out; omega⟩, by repeat (first | exact Drawn0.refl _ | apply Drawn0.step)⟩
                  · replace c9 := Bool.eq_false_iff.mpr c9
                    subst c9
                    have H1 : (if (bt a0 x5_1) ≥ 97 then (if (bt a0 x5_1) ≤ 102 then (credenzaref2_Unhex.l0 kj6 a0 (Go.bits .or .u64 (IntKind.u64.wrap (x4_1 * 16)) (((((bt a0 x5_1) - 97) % 256) + 10) % 256)) (wrap64 (x5_1 + 1))) else (some (0, false))) else (some (0, false))) = some (r1, r2) := by rw [if_neg (show ¬ (false = true) by decide)] at H; exact H
                    clear H
                    have H := H1
                    clear H1
                    by_cases c10 : (bt a0 x5_1) ≥ 97
                    · rw [if_pos c10] at H
                      have c10b0 : decide (97 ≤ (bt a0 x5_1)) = true := decide_eq_true c10
                      clear c10
                      by_cases c11 : (bt a0 x5_1) ≤ 102
                      · rw [if_pos c11] at H
                        have c11b0 : decide ((bt a0 x5_1) ≤ 102) = true := decide_eq_true c11
                        clear c11
                        have H' := Aside0.mk H
                        clear H
                        go_wp2
                        go_roundg kj6
                        case measure => have := HK1.out; have := HJ6.out; omega
                        case rel => exact ⟨(Go.bits .or .u64 (IntKind.u64.wrap (x4_1 * 16)) (((((bt a0 x5_1) - 97) % 256) + 10) % 256)), (wrap64 (x5_1 + 1)), (by first | rfl | (simp; done) | (simp [*]; done)), (by first | rfl | (simp; done) | (simp [*]; done)), H', ⟨by have := HK1.out; have := HJ6.out; omega⟩, by repeat (first | exact Drawn0.refl _ | apply Drawn0.step)⟩
                      · rw [if_neg c11] at H
                        have c11b0 : decide ((bt a0 x5_1) ≤ 102) = false := decide_eq_false c11
                        clear c11
                        simp only [Option.some.injEq, Prod.mk.injEq] at H
                        obtain ⟨rfl, rfl⟩ := H
                        go_wp2
                        go_ret2
                        exact ⟨by first | rfl | (simp; done) | (simp [*]; done), by repeat (first | exact Drawn0.refl _ | apply Drawn0.step)⟩
                    · rw [if_neg c10] at H
                      have c10b0 : decide (97 ≤ (bt a0 x5_1)) = false := decide_eq_false c10
                      clear c10
                      simp only [Option.some.injEq, Prod.mk.injEq] at H
                      obtain ⟨rfl, rfl⟩ := H
                      go_wp2
                      go_ret2
                      exact ⟨by first | rfl | (simp; done) | (simp [*]; done), by repeat (first | exact Drawn0.refl _ | apply Drawn0.step)⟩
            · rw [if_neg c5] at H
              exact absurd H (by simp)
          · rw [if_neg c4] at H
            exact absurd H (by simp)
        · rw [if_neg c3] at H
          have c3b0 : decide (x5_1 < 16) = false := decide_eq_false c3
          clear c3
          simp only [Option.some.injEq, Prod.mk.injEq] at H
          obtain ⟨rfl, rfl⟩ := H
          go_wp2
          go_ret2
          exact ⟨by first | rfl | (simp; done) | (simp [*]; done), by repeat (first | exact Drawn0.refl _ | apply Drawn0.step)⟩
  · rw [if_neg c2] at H
    have c2b0 : ((a0.size : Int) == 16) = false := beq_eq_false_iff_ne.mpr c2
    have c2b1 : ((a0.size : Int) != 16) = true := bne_iff_ne.mpr c2
    simp only [Option.some.injEq, Prod.mk.injEq] at H
    obtain ⟨rfl, rfl⟩ := H
    go_enter Tryd.func16, Tryd.ntmps16
    go_wp2
    go_ret2
    exact ⟨by first | rfl | (simp; done) | (simp [*]; done), by repeat (first | exact Drawn0.refl _ | apply Drawn0.step)⟩

end Go.Proofs.YtinofijncbnolaaDoor.V

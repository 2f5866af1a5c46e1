/- What the printed functions of digests answer. -/
import Derived.Test.YtinofijncbnolaaDoorSMath
import Derived.Test.YtinofijncbnolaaDoorVx2
import Derived.Test.YtinofijncbnolaaDoorVx7
set_option linter.unusedVariables false
set_option linter.unusedSimpArgs false
namespace Go.Proofs.YtinofijncbnolaaDoor.Sev
open Go.RowKit (wrap64)
open Go Go.Proofs.YtinofijncbnolaaDoorW.PrintWords Go.Proofs.YtinofijncbnolaaDoorW.PrintLast Go.Proofs.YtinofijncbnolaaDoorW.PrintMore Go.Proofs.YtinofijncbnolaaDoor.V Go.Proofs.YtinofijncbnolaaDoor.St Go.Proofs.YtinofijncbnolaaDoor.Sm Go.Proofs.YtinofijncbnolaaDoor.Hex
abbrev F0 : Int := 14695981039346656037

theorem l1_ev (L : List (List Int)) (n a : Int) (x : List Int) (hx : x.length ≤ 100000000000000) (r : Int) (m : Nat) : ∀ (i : Nat) (h : Int), x.length - i = m → i ≤ x.length →
    Ev (fun k => sum_Parts.l0 k (fnv h (x.drop i)) L n (wrap64 (a + 1))) r → Ev (fun k => sum_Parts.l1 k h L n a x (x.length : Int) (i : Int)) r := by
  induction m with
  | zero =>
    intro i h hm hi H
    obtain rfl : i = x.length := by omega
    rw [List.drop_length] at H
    exact Ev.step (fun k => by simp only [sum_Parts.l1]; rw [if_neg (by omega)] <;> rfl) H
  | succ m ih =>
    intro i h hm hi H
    have hi' : i < x.length := by omega
    rw [drop_at hi', fnv_cons] at H
    exact Ev.step (fun k => by simp only [sum_Parts.l1]; rw [if_pos (by omega), if_pos (by omega), if_pos (by omega), wrap_nat (by omega), rd_at x i hi'] <;> rfl) (ih (i + 1) _ (by omega) (by omega) H)
theorem rd1_at (L : List (List Int)) (i : Nat) (h : i < L.length) : rd_L1 L (i : Int) = L[i] := by
  unfold rd_L1
  rw [Int.toNat_natCast, List.getD_eq_getElem?_getD, List.getElem?_eq_getElem h]
  rfl
theorem l0_ev (L : List (List Int)) (hL : L.length ≤ 100000000000000) (hx : ∀ x ∈ L, x.length ≤ 100000000000000) (m : Nat) : ∀ (i : Nat) (h : Int), L.length - i = m → i ≤ L.length →
    Ev (fun k => sum_Parts.l0 k h L (L.length : Int) (i : Int)) (fnv h (L.drop i).flatten) := by
  induction m with
  | zero =>
    intro i h hm hi
    obtain rfl : i = L.length := by omega
    rw [List.drop_length]
    exact Ev.step (fun k => by simp only [sum_Parts.l0]; rw [if_neg (by omega)] <;> rfl) (Ev.now _)
  | succ m ih =>
    intro i h hm hi
    have hi' : i < L.length := by omega
    rw [drop_at hi', List.flatten_cons, fnv_app]
    refine Ev.step (fun k => by simp only [sum_Parts.l0]; rw [if_pos (by omega), if_pos (by omega), if_pos (by omega), rd1_at L i hi'] <;> rfl) ?_
    refine l1_ev L _ _ (L[i]) (hx _ (List.getElem_mem hi')) _ _ 0 h rfl (by omega) ?_
    rw [List.drop_zero, wrap_nat (by omega)]
    exact ih (i + 1) _ (by omega) (by omega)
theorem parts_ev (L : List (List Int)) (hL : L.length ≤ 100000000000000) (hx : ∀ x ∈ L, x.length ≤ 100000000000000) : Ev (fun k => sum_Parts.f k L) (fnv F0 L.flatten) :=
  l0_ev L hL hx _ 0 F0 rfl (by omega)
theorem of_ev (l : List Int) (h : l.length ≤ 100000000000000) : Ev (fun k => sum_Of.f k l) (fnv F0 l) := by
  have e : [l].flatten = l := by simp
  have := parts_ev [l] (by simp) (by simpa using h)
  rw [e] at this
  exact Ev.bind this (Ev.now _)
/-- The reference's digest of a text. -/
theorem rof_l0 (s : List UInt8) (hs : s.length ≤ 100000000000000) (m : Nat) : ∀ (i : Nat) (h : Int), s.length - i = m → i ≤ s.length →
    Ev (fun k => credenzaref2_Of.l0 k (st s) h (i : Int)) (fnv h ((s.drop i).map fun c => (c.toNat : Int))) := by
  induction m with
  | zero =>
    intro i h hm hi
    obtain rfl : i = s.length := by omega
    rw [List.drop_length]
    exact Ev.step (fun k => by simp only [credenzaref2_Of.l0]; rw [st_size, if_neg (by omega)] <;> rfl) (Ev.now _)
  | succ m ih =>
    intro i h hm hi
    have hi' : i < s.length := by omega
    rw [drop_at hi', List.map_cons, fnv_cons]
    exact Ev.step (fun k => by simp only [credenzaref2_Of.l0]; rw [st_size, if_pos (by omega), if_pos (by omega), wrap_nat (by omega), bt_st s i hi'] <;> rfl) (ih (i + 1) _ (by omega) (by omega))
theorem rof_ev (s : List UInt8) (hs : s.length ≤ 100000000000000) : Ev (fun k => credenzaref2_Of.f k (st s)) (fnv F0 (s.map fun c => (c.toNat : Int))) :=
  rof_l0 s hs _ 0 F0 rfl (by omega)
theorem hex_f (U : Nat) (hU : U < 18446744073709551616) : sum_Hex.f (U : Int) = some (st (lowd 16 U)) := by
  have hl := hexs_len hU
  unfold sum_Hex.f
  have e1 : strconv_FormatUint_18.f (U : Int) 16 = some (st (hexs U)) := by
    unfold strconv_FormatUint_18.f
    rw [if_pos rfl, if_pos (by omega), if_pos (by omega), Int.toNat_natCast]
  have e2 : wrap64 (16 - ((hexs U).length : Int)) = ((16 - (hexs U).length : Nat) : Int) := by unfold wrap64; omega
  have e3 : strings_Repeat.f (⟨#[48]⟩ : ByteArray) ((16 - (hexs U).length : Nat) : Int) = some (st (List.replicate (16 - (hexs U).length) 48)) := by
    unfold strings_Repeat.f
    rw [if_pos rfl, if_pos (by omega), if_pos (by omega), Int.toNat_natCast]
  rw [e1, Option.bind_some, st_size, e2, e3, Option.bind_some, if_pos (by rw [st_size, List.length_replicate]; omega), st_app, hexs_pad hU]
theorem digit_ev (c : UInt8) : Ev (fun k => sum_digit.f k (c.toNat : Int)) (match dv c with | some d => ((d : Int), true) | none => (0, false)) := by
  refine ⟨1, fun k hk => ?_⟩
  obtain ⟨m, rfl⟩ : ∃ m, k = m + 1 := ⟨k - 1, by omega⟩
  have hc := c.toNat_lt
  simp only [sum_digit.f, sum_digit.j0]
  unfold dv
  generalize c.toNat = n at hc ⊢
  simp only [decide_eq_true_eq]
  by_cases h1 : 48 ≤ n ∧ n ≤ 57
  · rw [if_pos h1, if_neg (by omega), if_neg (by simp), if_pos (by omega), if_pos (by omega)]
    simp only [Option.some.injEq, Prod.mk.injEq, and_true]
    omega
  · rw [if_neg h1]
    by_cases h2 : 97 ≤ n ∧ n ≤ 102
    · rw [if_pos h2, if_pos (by omega), if_pos (by omega)]
      simp only [Option.some.injEq, Prod.mk.injEq, and_true]
      omega
    · rw [if_neg h2]
      repeat' split
      all_goals first | rfl | (exfalso; omega) | (exfalso; simp_all; done) | (exfalso; simp_all; omega)
theorem pow_le15 {n i : Nat} (h : n < 16 ^ i) (hi : i < 16) : n < 1152921504606846976 := by
  have : 16 ^ i ≤ 16 ^ 15 := Nat.pow_le_pow_right (by omega) (by omega)
  omega
theorem unhex_l0 (l : List UInt8) (hl : l.length = 16) (m : Nat) : ∀ i n : Nat, 16 - i = m → i ≤ 16 → n < 16 ^ i →
    Ev (fun k => sum_Unhex.l0 k (st l) (n : Int) (i : Int)) (((unh n (l.drop i)).1 : Int), (unh n (l.drop i)).2) := by
  induction m with
  | zero =>
    intro i n hm hi hn
    obtain rfl : i = 16 := by omega
    rw [List.drop_of_length_le (by omega)]
    exact Ev.step (fun k => by simp only [sum_Unhex.l0]; rw [if_neg (by omega)] <;> rfl) (Ev.now _)
  | succ m ih =>
    intro i n hm hi hn
    have hi' : i < l.length := by omega
    have hn' := pow_le15 hn (by omega)
    rw [drop_at hi']
    refine Ev.step (fun k => by simp only [sum_Unhex.l0]; rw [if_pos (by omega), if_pos (by omega), if_pos (by rw [st_size]; omega), bt_st l i hi'] <;> rfl) ?_
    refine Ev.bind (digit_ev l[i]) ?_
    cases hd : dv l[i] with
    | none =>
      rw [unh_none hd]
      exact Ev.congr (fun k => by rw [if_neg (by simp)]; rfl) (Ev.now _)
    | some d =>
      rw [unh_some hd]
      have hd16 := (hexd_dv hd).2
      have H2 : Ev (fun k => sum_Unhex.l0 k (st l) (bits .or .u64 (IntKind.u64.wrap ((n : Int) * 16)) (d : Int)) (wrap64 ((i : Int) + 1))) (((unh (n * 16 + d) (l.drop (i + 1))).1 : Int), (unh (n * 16 + d) (l.drop (i + 1))).2) :=
        Ev.congr (fun k => by rw [or16 n d hn' hd16, wrap_nat (by omega)]) (ih (i + 1) (n * 16 + d) (by omega) (by omega) (by rw [Nat.pow_succ]; omega))
      exact Ev.congr (fun k => if_pos rfl) H2
def unhV (l : List UInt8) : Int × Bool := if l.length = 16 then (((unh 0 l).1 : Int), (unh 0 l).2) else (0, false)
theorem unhex_ev (l : List UInt8) : Ev (fun k => sum_Unhex.f k (st l)) (unhV l) := by
  unfold sum_Unhex.f unhV
  by_cases h : l.length = 16
  · rw [if_pos h]
    exact Ev.congr (fun k => by rw [st_size, if_pos (by omega)]; rfl) (unhex_l0 l h _ 0 0 rfl (by omega) (by simp))
  · rw [if_neg h]
    exact Ev.congr (fun k => by rw [st_size, if_neg (by omega)] <;> rfl) (Ev.now _)
theorem runhex_l0 (l : List UInt8) (hl : l.length = 16) (m : Nat) : ∀ i n : Nat, 16 - i = m → i ≤ 16 → n < 16 ^ i →
    Ev (fun k => credenzaref2_Unhex.l0 k (st l) (n : Int) (i : Int)) (((unh n (l.drop i)).1 : Int), (unh n (l.drop i)).2) := by
  induction m with
  | zero =>
    intro i n hm hi hn
    obtain rfl : i = 16 := by omega
    rw [List.drop_of_length_le (by omega)]
    exact Ev.step (fun k => by simp only [credenzaref2_Unhex.l0]; rw [if_neg (by omega)] <;> rfl) (Ev.now _)
  | succ m ih =>
    intro i n hm hi hn
    have hi' : i < l.length := by omega
    have hn' := pow_le15 hn (by omega)
    have hc := (l[i]).toNat_lt
    rw [drop_at hi']
    have hnext : ∀ d : Nat, d < 16 → Ev (fun k => credenzaref2_Unhex.l0 k (st l) (bits .or .u64 (IntKind.u64.wrap ((n : Int) * 16)) (d : Int)) (wrap64 ((i : Int) + 1))) (((unh (n * 16 + d) (l.drop (i + 1))).1 : Int), (unh (n * 16 + d) (l.drop (i + 1))).2) := fun d hd =>
      Ev.congr (fun k => by rw [or16 n d hn' hd, wrap_nat (by omega)] <;> rfl) (ih (i + 1) (n * 16 + d) (by omega) (by omega) (by rw [Nat.pow_succ]; omega))
    have hstart : Ev (fun k => if ((l[i]).toNat : Int) ≥ 48 then (credenzaref2_Unhex.j1 k (st l) (n : Int) (i : Int) ((l[i]).toNat : Int) (decide (((l[i]).toNat : Int) ≤ 57))) else (credenzaref2_Unhex.j1 k (st l) (n : Int) (i : Int) ((l[i]).toNat : Int) false)) (((unh n (l[i] :: l.drop (i + 1))).1 : Int), (unh n (l[i] :: l.drop (i + 1))).2) := by
      by_cases h1 : 48 ≤ (l[i]).toNat ∧ (l[i]).toNat ≤ 57
      · have hd : dv l[i] = some ((l[i]).toNat - 48) := by unfold dv; rw [if_pos h1]
        rw [unh_some hd]
        have e : (((l[i]).toNat : Int) - 48) % 256 = (((l[i]).toNat - 48 : Nat) : Int) := by omega
        refine Ev.congr (fun k => by rw [if_pos (by omega), decide_eq_true (by omega)] <;> rfl) ?_
        exact Ev.step (fun k => by simp only [credenzaref2_Unhex.j1]; rw [if_pos trivial, e] <;> rfl) (hnext _ (by omega))
      · by_cases h2 : 97 ≤ (l[i]).toNat ∧ (l[i]).toNat ≤ 102
        · have hd : dv l[i] = some ((l[i]).toNat - 87) := by unfold dv; rw [if_neg h1, if_pos h2]
          rw [unh_some hd]
          have e : ((((l[i]).toNat : Int) - 97) % 256 + 10) % 256 = (((l[i]).toNat - 87 : Nat) : Int) := by omega
          refine Ev.congr (fun k => by rw [if_pos (by omega), decide_eq_false (by omega)] <;> rfl) ?_
          exact Ev.step (fun k => by simp only [credenzaref2_Unhex.j1]; rw [if_neg (by simp), if_pos (by omega), if_pos (by omega), e] <;> rfl) (hnext _ (by omega))
        · have hd : dv l[i] = none := by unfold dv; rw [if_neg h1, if_neg h2]
          rw [unh_none hd]
          refine ⟨1, fun k hk => ?_⟩
          obtain ⟨m, rfl⟩ : ∃ m, k = m + 1 := ⟨k - 1, by omega⟩
          simp only [credenzaref2_Unhex.j1]
          generalize (l[i]).toNat = c at *
          simp only [decide_eq_true_eq]
          repeat' split
          all_goals first | rfl | (exfalso; omega) | (exfalso; simp_all; done) | (exfalso; simp_all; omega)
    exact Ev.step (fun k => by simp only [credenzaref2_Unhex.l0]; rw [if_pos (by omega), if_pos (by omega), if_pos (by rw [st_size]; omega), bt_st l i hi'] <;> rfl) hstart
theorem runhex_ev (l : List UInt8) : Ev (fun k => credenzaref2_Unhex.f k (st l)) (unhV l) := by
  unfold credenzaref2_Unhex.f unhV
  by_cases h : l.length = 16
  · rw [if_pos h]
    exact Ev.congr (fun k => by rw [st_size, if_pos (by omega)]; rfl) (runhex_l0 l h _ 0 0 rfl (by omega) (by simp))
  · rw [if_neg h]
    exact Ev.congr (fun k => by rw [st_size, if_neg (by omega)] <;> rfl) (Ev.now _)
theorem hex_at (d : Nat) (h : d < 16) : (⟨#[48, 49, 50, 51, 52, 53, 54, 55, 56, 57, 97, 98, 99, 100, 101, 102]⟩ : ByteArray).extract d (d + 1) = st [hexd d] := by
  have e := Lib.extract_data (⟨#[48, 49, 50, 51, 52, 53, 54, 55, 56, 57, 97, 98, 99, 100, 101, 102]⟩ : ByteArray) d (d + 1)
  have h2 : ∀ d < 16, (([48, 49, 50, 51, 52, 53, 54, 55, 56, 57, 97, 98, 99, 100, 101, 102] : List UInt8).drop d).take (d + 1 - d) = [hexd d] := by decide
  exact of_data (e.trans (h2 d h))
theorem nib (U j : Nat) (hU : U < 18446744073709551616) (hj : j ≤ 15) : wrap64 (bits .and .u64 (shr .u64 (U : Int) (((j + 1 : Nat) : Int) * 4 - 4)) 15) = ((U / 16 ^ j % 16 : Nat) : Int) := by
  have e1 : (((j + 1 : Nat) : Int) * 4 - 4).toNat = 4 * j := by omega
  have e2 : shr .u64 (U : Int) (((j + 1 : Nat) : Int) * 4 - 4) = ((U / 16 ^ j : Nat) : Int) := by
    unfold shr
    rw [e1, Nat.min_eq_left (by show 4 * j ≤ 64; omega), Int.pow_mul, Int.natCast_ediv, Int.natCast_pow]
    rfl
  rw [e2, and15 _ (Nat.lt_of_le_of_lt (Nat.div_le_self _ _) hU), nw (by omega)]
theorem rhex_l0 (U : Nat) (hU : U < 18446744073709551616) : ∀ (j : Nat) (acc : List UInt8), j ≤ 16 → acc.length + j ≤ 100 →
    Ev (fun k => credenzaref2_Hex.l0 k (U : Int) (st acc) ((j : Int) * 4 - 4)) (st (acc ++ lowd j U)) := by
  intro j
  induction j with
  | zero =>
    intro acc _ _
    refine Ev.step (fun k => by simp only [credenzaref2_Hex.l0]; rw [if_neg (by omega)] <;> rfl) ?_
    rw [show lowd 0 U = [] from rfl, List.append_nil]
    exact Ev.now _
  | succ j ih =>
    intro acc hj ha
    have hD := nib U j hU (by omega)
    have hlt : U / 16 ^ j % 16 < 16 := Nat.mod_lt _ (by omega)
    have e4 : wrap64 (((j + 1 : Nat) : Int) * 4 - 4 - 4) = (j : Int) * 4 - 4 := by unfold wrap64; omega
    have hL : lowd (j + 1) U = [hexd (U / 16 ^ j % 16)] ++ lowd j U := rfl
    rw [hL, ← List.append_assoc]
    generalize U / 16 ^ j % 16 = d at hD hlt ⊢
    refine Ev.step (fun k => by
      simp only [credenzaref2_Hex.l0]
      rw [hD, nw1 (by omega), if_pos (by omega), if_pos (by omega), if_pos (by omega), if_pos (by omega), if_pos (by omega), Int.toNat_natCast, Int.toNat_natCast, hex_at d hlt, if_pos (by rw [st_size, st_size]; simp; omega), st_app, e4] <;> rfl) ?_
    exact ih _ (by omega) (by simp; omega)
theorem rhex_ev (U : Nat) (hU : U < 18446744073709551616) : Ev (fun k => credenzaref2_Hex.f k (U : Int)) (st (lowd 16 U)) :=
  rhex_l0 U hU 16 [] (by omega) (by simp)
theorem awake_ev : Ev (fun k => credenzalaw2_awake.f k) true := ⟨0, fun _ _ => rfl⟩
end Go.Proofs.YtinofijncbnolaaDoor.Sev

/- SumDigits, the plain part: of sixteen signs each may be a digit or a letter from a to f. -/
import Derived.Test.YtinofijncbnolaaDoorSEv
import Derived.Test.YtinofijncbnolaaDoorVx6
import Derived.DataShut
set_option linter.unusedVariables false
set_option linter.unusedSimpArgs false
namespace Go.Proofs.YtinofijncbnolaaDoor.Pure
open Go.RowKit (wrap64)
open Go Go.Proofs.YtinofijncbnolaaDoorW.PrintWords Go.Proofs.YtinofijncbnolaaDoorW.PrintLast Go.Proofs.YtinofijncbnolaaDoorW.PrintMore Go.Proofs.YtinofijncbnolaaDoor.V Go.Proofs.YtinofijncbnolaaDoor.St Go.Proofs.YtinofijncbnolaaDoor.Sm Go.Proofs.YtinofijncbnolaaDoor.Hex Go.Proofs.YtinofijncbnolaaDoor.Sev
theorem dig_j3 (l : List UInt8) (x : Int) (ok : Bool) (h : (x, ok) = unhV l) : Ev (fun k => credenzalaw2_SumDigits.j3 k (l.map fun c => (c.toNat : Int)) x ok false) true := by
  have hr : Ev (fun k => (credenzaref2_Hex.f k 0).bind fun t => (if (t.size : Int) = 16 then ((credenzalaw2_awake.f k).bind fun t180 => (some t180)) else (some false))) true := by
    refine Ev.bind (rhex_ev 0 (by omega)) ?_
    exact Ev.congr (fun k => by rw [if_pos (by rw [st_size, lowd_len]; rfl)] <;> rfl) (Ev.bind awake_ev (Ev.now _))
  cases ok with
  | true =>
    unfold unhV at h
    by_cases hl : l.length = 16
    · rw [if_pos hl] at h
      obtain ⟨hx, hk⟩ := Prod.mk.inj h
      subst hx
      obtain ⟨h1, h2⟩ := unh_ok l 0 (unh 0 l).1 (by rw [hk])
      rw [hl] at h1 h2
      have hlt : (unh 0 l).1 < 18446744073709551616 := by
        have := (Nat.div_eq_zero_iff.1 h1)
        omega
      refine Ev.step (fun k => by
        simp only [credenzalaw2_SumDigits.j3]
        rw [if_neg (by simp), if_pos trivial, hex_f _ hlt, Option.bind_some, h2, strOf, if_pos rfl] <;> rfl) hr
    · rw [if_neg hl] at h
      cases h
  | false =>
    have hx : x = 0 := by
      unfold unhV at h
      by_cases hl : l.length = 16
      · rw [if_pos hl] at h
        obtain ⟨hx, hk⟩ := Prod.mk.inj h
        rw [hx, unh_fail l 0 hk.symm]
        rfl
      · rw [if_neg hl] at h
        exact (Prod.mk.inj h).1
    subst hx
    exact Ev.step (fun k => by simp only [credenzalaw2_SumDigits.j3]; rw [if_neg (by simp), if_neg (by simp), if_pos trivial] <;> rfl) hr
theorem dig_j2 (l : List UInt8) (good : Bool) (h : l.length = 16 → (unh 0 l).2 = good) : Ev (fun k => credenzalaw2_SumDigits.j2 k (l.length : Int) (l.map fun c => (c.toNat : Int)) good) true := by
  refine Ev.step (fun k => by simp only [credenzalaw2_SumDigits.j2]; rw [strOf] <;> rfl) ?_
  refine Ev.bind (unhex_ev l) ?_
  by_cases hl : l.length = 16
  · have e : ((unhV l).2 != good) = false := by unfold unhV; rw [if_pos hl, h hl]; simp
    exact Ev.congr (fun k => by rw [if_pos (by omega), e] <;> rfl) (dig_j3 l _ _ rfl)
  · have e : ((unhV l).2 != false) = false := by unfold unhV; rw [if_neg hl]; rfl
    exact Ev.congr (fun k => by rw [if_neg (by omega), e] <;> rfl) (dig_j3 l _ _ rfl)
theorem dig_j1 (n : Nat) (hn : n ≤ 20) (c : UInt8) (at_ : Int) (good : Bool) (hg : good = true ↔ dv c ≠ none) :
    Ev (fun k => credenzalaw2_SumDigits.j1 k (c.toNat : Int) at_ (n : Int) ((List.replicate n 55 : List UInt8).map fun c => (c.toNat : Int)) good) true := by
  by_cases h0 : n = 0
  · subst h0
    refine Ev.step (fun k => by simp only [credenzalaw2_SumDigits.j1]; rw [if_neg (by omega)] <;> rfl) ?_
    exact dig_j2 [] good (fun h => by cases h)
  · obtain ⟨m, hm, hm2⟩ := mask_small 8 (by omega) at_
    have hm' : bits .and .i64 at_ 255 = (m : Int) := hm
    have ht : Int.tmod (m : Int) (n : Int) = ((m % n : Nat) : Int) := rfl
    have hp : m % n < n := Nat.mod_lt _ (by omega)
    have e : ((List.replicate n 55 : List UInt8).map fun c => (c.toNat : Int)).set (m % n) (c.toNat : Int) = ((List.replicate n 55 : List UInt8).set (m % n) c).map fun c => (c.toNat : Int) := by
      rw [List.map_set]
    have hlen : ((List.replicate n 55 : List UInt8).set (m % n) c).length = n := by simp
    refine Ev.step (fun k => by
      simp only [credenzalaw2_SumDigits.j1]
      rw [if_pos (by omega), if_neg (by omega), hm', ht, if_pos (by omega), if_pos (by rw [List.length_map, List.length_replicate]; omega), Int.toNat_natCast, e] <;> rfl) ?_
    have key := dig_j2 ((List.replicate n 55 : List UInt8).set (m % n) c) good (fun _ => by
      cases good with
      | true =>
        refine unh_all _ _ fun b hb => ?_
        rcases List.mem_or_eq_of_mem_set hb with hb | rfl
        · rw [List.eq_of_mem_replicate hb]
          decide
        · exact hg.1 rfl
      | false =>
        refine unh_bad _ _ c (List.mem_iff_getElem.2 ⟨m % n, by simp; omega, by simp⟩) ?_
        cases hd : dv c with
        | none => rfl
        | some d => exact absurd (hg.2 (by rw [hd]; simp)) (by simp))
    rw [hlen] at key
    exact key
theorem dig_l0 (n : Nat) (hn : n ≤ 20) (c : UInt8) (at_ : Int) (m : Nat) : ∀ i : Nat, i + m = n → ∀ xs : List Int, xs.length = n → xs.take i = List.replicate i 55 →
    Ev (fun k => credenzalaw2_SumDigits.l0 k (c.toNat : Int) at_ (n : Int) xs (n : Int) (i : Int)) true := by
  induction m with
  | zero =>
    intro i hi xs hl ht
    obtain rfl : i = n := by omega
    rw [List.take_of_length_le (by omega)] at ht
    subst ht
    have e : List.replicate i (55 : Int) = (List.replicate i (55 : UInt8)).map fun c => (c.toNat : Int) := by rw [List.map_replicate]; rfl
    rw [e]
    have hc := c.toNat_lt
    by_cases h1 : 48 ≤ c.toNat ∧ c.toNat ≤ 57
    · exact Ev.step (fun k => by simp only [credenzalaw2_SumDigits.l0]; rw [if_neg (by omega), if_pos (by omega), if_pos (by omega)] <;> rfl) (dig_j1 i hn c at_ true ⟨fun _ => by unfold dv; rw [if_pos h1]; simp, fun _ => rfl⟩)
    · have hst : Ev (fun k => if (c.toNat : Int) ≥ 97 then (credenzalaw2_SumDigits.j1 k (c.toNat : Int) at_ (i : Int) ((List.replicate i 55 : List UInt8).map fun c => (c.toNat : Int)) (decide ((c.toNat : Int) ≤ 102))) else (credenzalaw2_SumDigits.j1 k (c.toNat : Int) at_ (i : Int) ((List.replicate i 55 : List UInt8).map fun c => (c.toNat : Int)) false)) true := by
        by_cases h2 : 97 ≤ c.toNat
        · refine Ev.congr (fun k => by rw [if_pos (by omega)] <;> rfl) (dig_j1 i hn c at_ _ ?_)
          unfold dv
          rw [if_neg h1, decide_eq_true_eq]
          by_cases h3 : c.toNat ≤ 102
          · rw [if_pos ⟨h2, h3⟩]; simp; omega
          · rw [if_neg (by omega)]; simp; omega
        · refine Ev.congr (fun k => by rw [if_neg (by omega)] <;> rfl) (dig_j1 i hn c at_ false ?_)
          unfold dv
          rw [if_neg h1, if_neg (by omega)]
          simp
      by_cases h48 : 48 ≤ c.toNat
      · exact Ev.step (fun k => by simp only [credenzalaw2_SumDigits.l0]; rw [if_neg (by omega), if_pos (by omega), if_neg (by omega)] <;> rfl) hst
      · exact Ev.step (fun k => by simp only [credenzalaw2_SumDigits.l0]; rw [if_neg (by omega), if_neg (by omega)] <;> rfl) hst
  | succ m ih =>
    intro i hi xs hl ht
    refine Ev.step (fun k => by simp only [credenzalaw2_SumDigits.l0]; rw [if_pos (by omega), if_pos (by omega), if_pos (by omega), wrap_nat (by omega), Int.toNat_natCast] <;> rfl) ?_
    exact ih (i + 1) (by omega) _ (by rw [List.length_set]; exact hl) (set_fill 55 xs i (by omega) ht)
theorem SumDigits : credenzalaw2_SumDigits.Pure := by
  intro a0 a1 a2 h0 _ _
  have hw := (Lit.wf_int_iff .u8 a0).1 h0
  have hw' : 0 ≤ a0 ∧ a0 ≤ 255 := hw
  obtain ⟨c, rfl⟩ : ∃ c : UInt8, a0 = (c.toNat : Int) := ⟨UInt8.ofNat a0.toNat, by rw [UInt8.toNat_ofNat']; omega⟩
  obtain ⟨m, hm, hm2⟩ := mask_small 8 (by omega) a2
  have hm' : bits .and .i64 a2 255 = (m : Int) := hm
  have ht : Int.tmod (m : Int) 21 = ((m % 21 : Nat) : Int) := rfl
  apply Ev.rounds
  unfold credenzalaw2_SumDigits.f
  refine Ev.congr (fun k => by rw [hm', ht, if_pos (by omega), Int.toNat_natCast, if_pos (by omega), Option.bind_some, List.length_replicate] <;> rfl) ?_
  exact dig_l0 (m % 21) (by omega) c a1 (m % 21) 0 (by omega) _ List.length_replicate (by simp)
end Go.Proofs.YtinofijncbnolaaDoor.Pure

/- VersionTokens, the plain part: tokens put together again are the tokens. -/
import Derived.Test.YtndpokjakogpnaaDoorVaux
import Derived.Test.YtndpokjakogpnaaDoorVx18
set_option linter.unusedVariables false
set_option linter.unusedSimpArgs false
namespace Go.Proofs.YtndpokjakogpnaaDoor.Pure
open Go.RowKit (wrap64)
open Go Go.Proofs.YtndpokjakogpnaaDoorW.PrintWords Go.Proofs.YtndpokjakogpnaaDoorW.PrintLast Go.Proofs.YtndpokjakogpnaaDoor.V Go.Proofs.YtndpokjakogpnaaDoor.Vm Go.Proofs.YtndpokjakogpnaaDoor.Dg Go.Proofs.YtndpokjakogpnaaDoor.Vev Go.Proofs.YtndpokjakogpnaaDoor.RNum Go.Proofs.YtndpokjakogpnaaDoor.Vaux

theorem toks_each (l : List UInt8) : ∀ t ∈ toks l, t.2.length ≤ l.length := by
  induction hn : l.length using Nat.strongRecOn generalizing l with
  | _ n ih =>
    cases l with
    | nil => rw [toks_nil]; simp
    | cons a l =>
      have hd := (List.dropWhile_sublist (l := l) (fun y => cls y == cls a)).length_le
      have hw := (List.takeWhile_sublist (l := l) (fun y => cls y == cls a)).length_le
      simp only [List.length_cons] at hn
      have hrun : ∀ k : Int, (tok k (a :: l.takeWhile (fun y => cls y == cls a))).2.length ≤ n := fun k => by
        unfold tok
        simp only
        split
        · have := (List.dropWhile_sublist (l := a :: l.takeWhile (fun y => cls y == cls a)) (· == 48)).length_le
          unfold trim0
          simp only [List.length_cons] at this ⊢
          omega
        · simp only [List.length_cons]
          omega
      have hone : (tok 0 [a]).2.length ≤ n := by simp [tok]; omega
      rcases cls_rng a with hx | hx | hx | hx
      · rw [toks_pos _ (by omega)]
        intro t ht
        rcases List.mem_cons.1 ht with rfl | ht
        · exact hrun _
        · have := ih _ (by omega) (l.dropWhile (fun y => cls y == cls a)) rfl t ht
          omega
      · rw [toks_pos _ (by omega)]
        intro t ht
        rcases List.mem_cons.1 ht with rfl | ht
        · exact hrun _
        · have := ih _ (by omega) (l.dropWhile (fun y => cls y == cls a)) rfl t ht
          omega
      · rw [toks_zero _ hx]
        intro t ht
        rcases List.mem_cons.1 ht with rfl | ht
        · exact hone
        · have := ih _ (by omega) l rfl t ht
          omega
      · rw [toks_neg _ hx]
        intro t ht
        have := ih _ (by omega) l rfl t ht
        omega
theorem join_snoc (l : List T) (i : Nat) (h : i < l.length) : join (l.take (i + 1)) = join (l.take i) ++ (out l[i] ++ [46]) := by
  unfold join
  rw [List.take_succ_eq_append_getElem h, List.flatMap_append]
  simp
theorem tokens_l1 (a : ByteArray) (x : List UInt8) (l : List T) (hl : l.length ≤ 100000) (hx : x.length ≤ 1000000000) (ha : a.size ≤ 1000000000) (hc : cmpT (toks x) (toks (bs a)) = 0) (m : Nat) : ∀ i : Nat, i + m = l.length →
    Ev (fun k => credenzalaw15_VersionTokens.l1 k a (l.map mkS) (st x) (l.map mkS) (i : Int)) true := by
  induction m with
  | zero =>
    intro i hi
    refine Ev.step (fun k => by simp only [credenzalaw15_VersionTokens.l1]; rw [List.length_map, if_neg (by omega)]) ?_
    refine Ev.bind (compare_ev (st x) a (by rw [st_size]; omega) (by omega)) ?_
    have e : cmpV (st x) a = 0 := hc
    exact Ev.congr (fun k => by rw [if_pos e]) (Ev.bind awake_ev (Ev.now _))
  | succ m ih =>
    intro i hi
    refine Ev.step (fun k => by simp only [credenzalaw15_VersionTokens.l1]; rw [List.length_map, if_pos (by omega), if_pos (by omega), if_pos (by omega), if_neg (by simp), wrap_nat (by omega)]) (ih (i + 1) (by omega))
theorem tokens_l0' (a : ByteArray) (l : List T) (hl : l.length ≤ 200) (he : ∀ t ∈ l, t.2.length ≤ 200) (hv : ∀ t ∈ l, Val t) (ha : a.size ≤ 1000000000) (hla : toks (bs a) = l) (m : Nat) : ∀ i : Nat, i + m = l.length → ∀ x : List UInt8, x = join (l.take i) → x.length ≤ 300 * i →
    Ev (fun k => credenzalaw15_VersionTokens.l0 k a (l.map mkS) (st x) (i : Int)) true := by
  induction m with
  | zero =>
    intro i hi x hx hxl
    have hi' : i = l.length := by omega
    subst hi'
    rw [List.take_of_length_le (Nat.le_refl _)] at hx
    have ht : toks x = l := by rw [hx]; exact toks_join l hv
    refine Ev.step (fun k => by simp only [credenzalaw15_VersionTokens.l0]; rw [List.length_map, if_neg (by omega)]) ?_
    refine Ev.bind (tokens_ev (st x) (by rw [st_size]; omega)) ?_
    have e : toks (bs (st x)) = l := ht
    rw [e]
    refine Ev.congr (fun k => by rw [List.length_map, if_pos rfl]) ?_
    exact tokens_l1 a x l (by omega) (by omega) ha (by rw [ht, hla]; exact cmpT_ord.refl _) l.length 0 (by omega)
  | succ m ih =>
    intro i hi x hx hxl
    have hi' : i < l.length := by omega
    have hlen := he l[i] (List.getElem_mem hi')
    have hval := hv l[i] (List.getElem_mem hi')
    have hs := join_snoc l i hi'
    have hol : (out l[i]).length ≤ 201 := by unfold out; split <;> first | omega | simp
    have hnext := ih (i + 1) (by omega) (x ++ (out l[i] ++ [46])) (by rw [hs, hx]) (by simp; omega)
    have e46 : (⟨#[46]⟩ : ByteArray) = st [46] := rfl
    have e48 : (⟨#[48]⟩ : ByteArray) = st [48] := rfl
    have hrd : rd_T35 (l.map mkS) (i : Int) = mkS l[i] := rd_map l i hi'
    have f0 : (rd_T35 (l.map mkS) (i : Int)).f0 = l[i].1 := by rw [hrd]; rfl
    have f1 : (rd_T35 (l.map mkS) (i : Int)).f1 = st l[i].2 := by rw [hrd]; rfl
    have hstep : Ev (fun k => if x.length + l[i].2.length ≤ 9223372036854775807 then (if (x ++ l[i].2).length + 1 ≤ 9223372036854775807 then (credenzalaw15_VersionTokens.l0 k a (l.map mkS) (st (x ++ l[i].2 ++ [46])) (wrap64 ((i : Int) + 1))) else none) else none) true ∨ out l[i] ≠ l[i].2 := by
      by_cases ho : out l[i] = l[i].2
      · left
        rw [ho] at hnext
        refine Ev.congr (fun k => by rw [if_pos (by omega), if_pos (by simp; omega), wrap_nat (by omega), List.append_assoc]) hnext
      · exact .inr ho
    rcases hval with ⟨h1, h2, h3⟩ | ⟨h1, h2, h3⟩ | ⟨h1, h2⟩
    · by_cases hz : l[i].2 = []
      · have ho : out l[i] = [48] := by simp [out, h1, hz]
        rw [ho] at hnext
        refine Ev.step (fun k => by simp only [credenzalaw15_VersionTokens.l0]; rw [List.length_map, if_pos (by omega), if_pos (by omega), f0, f1, if_pos h1, if_pos (by rw [st_list]; exact hz), e46, e48, st_app, st_app, st_size, st_size, if_pos (by omega), if_pos (by simp; omega), wrap_nat (by omega), List.append_assoc]) hnext
      · have ho : out l[i] = l[i].2 := by simp [out, hz]
        rcases hstep with hstep | hstep
        · exact Ev.step (fun k => by simp only [credenzalaw15_VersionTokens.l0]; rw [List.length_map, if_pos (by omega), if_pos (by omega), f0, f1, if_pos h1, if_neg (by rw [st_list]; exact hz), e46, st_app, st_app, st_size, st_size, st_size]) hstep
        · exact absurd ho hstep
    · have ho : out l[i] = l[i].2 := by simp [out, h2]
      rcases hstep with hstep | hstep
      · exact Ev.step (fun k => by simp only [credenzalaw15_VersionTokens.l0]; rw [List.length_map, if_pos (by omega), if_pos (by omega), f0, f1, if_neg (by omega), if_pos h1, if_neg (by rw [st_list]; exact h2), e46, st_app, st_app, st_size, st_size, st_size]) hstep
      · exact absurd ho hstep
    · have ho : out l[i] = l[i].2 := by simp [out, h2]
      rcases hstep with hstep | hstep
      · exact Ev.step (fun k => by simp only [credenzalaw15_VersionTokens.l0]; rw [List.length_map, if_pos (by omega), if_pos (by omega), f0, f1, if_neg (by omega), if_neg (by omega), if_pos h1, if_pos (by rw [st_list]; exact h2), e46, st_app, st_app, st_size, st_size, st_size]) hstep
      · exact absurd ho hstep
theorem VersionTokens : credenzalaw15_VersionTokens.Pure := by
  intro a ha
  apply Ev.rounds
  unfold credenzalaw15_VersionTokens.f
  by_cases h1 : (a.size : Int) > 200
  · exact Ev.congr (fun k => by rw [if_pos h1]) (Ev.bind awake_ev (Ev.now _))
  · refine Ev.congr (fun k => by rw [if_neg h1]) ?_
    refine Ev.bind (tokens_ev a (by omega)) ?_
    have la := toks_len (bs a)
    have le := toks_each (bs a)
    rw [bs_len] at la le
    exact tokens_l0' a (toks (bs a)) (by omega) (fun t ht => by have := le t ht; omega) (toks_val (bs a)) (by omega) rfl _ 0 (Nat.zero_add _) [] rfl (by simp)
end Go.Proofs.YtndpokjakogpnaaDoor.Pure

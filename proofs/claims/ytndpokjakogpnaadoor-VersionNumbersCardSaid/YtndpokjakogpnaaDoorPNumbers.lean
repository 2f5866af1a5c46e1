/- VersionNumbers, the plain part: numbers stand as they are, whatever noughts are ahead. -/
import Derived.Test.YtndpokjakogpnaaDoorVaux
import Derived.Test.YtndpokjakogpnaaDoorVx16
set_option linter.unusedVariables false
set_option linter.unusedSimpArgs false
namespace Go.Proofs.YtndpokjakogpnaaDoor.Pure
open Go.RowKit (wrap64)
open Go Go.Proofs.YtndpokjakogpnaaDoorW.PrintWords Go.Proofs.YtndpokjakogpnaaDoorW.PrintLast Go.Proofs.YtndpokjakogpnaaDoor.V Go.Proofs.YtndpokjakogpnaaDoor.Vm Go.Proofs.YtndpokjakogpnaaDoor.Dg Go.Proofs.YtndpokjakogpnaaDoor.Vev Go.Proofs.YtndpokjakogpnaaDoor.RNum Go.Proofs.YtndpokjakogpnaaDoor.Vaux

theorem zeros_loop (n : Nat) (hn : n ≤ 100) (m : Nat) : ∀ i : Nat, i + m = n → ∀ xs : List Int, xs.length = n → xs.take i = List.replicate i 48 →
    Ev (fun k => credenzalaw15_VersionNumbers_1.l0 k xs (n : Int) (i : Int)) (st (List.replicate n 48)) := by
  induction m with
  | zero =>
    intro i hi xs hl ht
    have hi' : i = n := by omega
    subst hi'
    rw [List.take_of_length_le (by omega)] at ht
    subst ht
    refine Ev.step (fun k => by simp only [credenzalaw15_VersionNumbers_1.l0]; rw [if_neg (by omega)]) ?_
    have e : List.replicate i (48 : Int) = (List.replicate i (48 : UInt8)).map fun c => (c.toNat : Int) := by rw [List.map_replicate]; rfl
    rw [e, strOf]
    exact Ev.now _
  | succ m ih =>
    intro i hi xs hl ht
    refine Ev.step (fun k => by simp only [credenzalaw15_VersionNumbers_1.l0]; rw [if_pos (by omega), if_pos (by omega), if_pos (by omega), wrap_nat (by omega), Int.toNat_natCast]) ?_
    exact ih (i + 1) (by omega) _ (by rw [List.length_set]; exact hl) (set_fill 48 xs i (by omega) ht)
theorem zeros_ev (p : Int) : ∃ z : Nat, z ≤ 15 ∧ Ev (fun k => credenzalaw15_VersionNumbers_1.f k p) (st (List.replicate z 48)) := by
  obtain ⟨n, h1, h2⟩ := mask_small 4 (by omega) p
  have h1' : bits .and .i64 p 15 = (n : Int) := h1
  refine ⟨n, by omega, ?_⟩
  refine Ev.congr (fun k => by unfold credenzalaw15_VersionNumbers_1.f; rw [h1', if_pos (by omega), Int.toNat_natCast, if_pos (by omega), Option.bind_some, List.length_replicate]) ?_
  exact zeros_loop n (by omega) n 0 (by omega) _ List.length_replicate (by simp)
theorem numbers_j1 (x y : List UInt8) (w : Int) (hx : x.length ≤ 1000) (hy : y.length ≤ 1000) (h1 : cmpT (toks x) (toks y) = w) (h2 : cmpT (toks (x ++ [46, 49])) (toks y) = if w = 0 then 1 else w) :
    Ev (fun k => credenzalaw15_VersionNumbers.j1 k (st x) (st y) w) true := by
  refine Ev.step (fun k => by simp only [credenzalaw15_VersionNumbers.j1]; rfl) ?_
  refine Ev.bind (compare_st x y (by omega) (by omega)) ?_
  have e : (⟨#[46, 49]⟩ : ByteArray) = st [46, 49] := rfl
  refine Ev.congr (fun k => by rw [if_pos h1, if_pos (by rw [st_size]; omega), e, st_app]) ?_
  refine Ev.bind (compare_st _ y (by simp; omega) (by omega)) ?_
  have hm : credenzalaw15_map3.f w = some (if w = 0 then 1 else w) := by unfold credenzalaw15_map3.f; split <;> rfl
  refine Ev.congr (fun k => by rw [hm, Option.bind_some, if_pos h2]) (Ev.bind awake_ev (Ev.now _))
theorem VersionNumbers : credenzalaw15_VersionNumbers.Pure := by
  intro a b p q head _ _ _ _ hh
  apply Ev.rounds
  unfold credenzalaw15_VersionNumbers.f
  by_cases hl : (head.size : Int) > 100
  · exact Ev.congr (fun k => by rw [if_pos hl]) (Ev.bind awake_ev (Ev.now _))
  · obtain ⟨h, rfl⟩ := of_st head
    rw [st_size] at hl
    obtain ⟨m, hm, hm2⟩ := mask_small 24 (by omega) a
    obtain ⟨n, hn, hn2⟩ := mask_small 24 (by omega) b
    have hm' : bits .and .i64 a 16777215 = (m : Int) := hm
    have hn' : bits .and .i64 b 16777215 = (n : Int) := hn
    obtain ⟨z, hz, ez⟩ := zeros_ev p
    obtain ⟨z', hz', ez'⟩ := zeros_ev q
    have lm := num_len m 8 (by omega)
    have ln := num_len n 8 (by omega)
    have e46 : (⟨#[46]⟩ : ByteArray) = st [46] := rfl
    have en : ∀ n, (⟨(num n).toArray⟩ : ByteArray) = st (num n) := fun _ => rfl
    refine Ev.congr (fun k => by rw [st_size, if_neg hl, if_pos (by omega), e46, st_app, hm', hn']) ?_
    refine Ev.bind ez ?_
    refine Ev.congr (fun k => by rw [st_size, st_size, if_pos (by simp; omega)]) ?_
    refine Ev.bind (num_ev m (by omega)) ?_
    refine Ev.congr (fun k => by rw [en, st_app, st_size, st_size, if_pos (by simp; omega)]) ?_
    refine Ev.bind ez' ?_
    refine Ev.congr (fun k => by rw [st_size, if_pos (by simp; omega)]) ?_
    refine Ev.bind (num_ev n (by omega)) ?_
    refine Ev.congr (fun k => by rw [en, st_app, st_size, st_size, if_pos (by simp; omega), st_app, st_app]) ?_
    have tx : ∀ (z n : Nat) (r : List UInt8), toks (h ++ [46] ++ List.replicate z 48 ++ num n) = toks h ++ [(3, dig n)] := by
      intro z n r
      rw [List.append_assoc, List.append_assoc, List.singleton_append, toks_sep _ _ _ cls_dot, toks_num]
    have tx1 : toks (h ++ [46] ++ List.replicate z 48 ++ num m ++ [46, 49]) = toks h ++ [(3, dig m), (3, [49])] := by
      have e1 : h ++ [46] ++ List.replicate z 48 ++ num m ++ [46, 49] = (h ++ [46] ++ List.replicate z 48 ++ num m) ++ 46 :: [49] := rfl
      rw [e1, toks_sep _ _ _ cls_dot, tx z m [], t1, List.append_assoc]
      rfl
    have hc : cmpT (toks (h ++ [46] ++ List.replicate z 48 ++ num m)) (toks (h ++ [46] ++ List.replicate z' 48 ++ num n)) = cmpI m n := by
      rw [tx z m [], tx z' n [], cmpT_pre, cmpT_num, cmpD_dig]
    have hc1 : cmpT (toks (h ++ [46] ++ List.replicate z 48 ++ num m ++ [46, 49])) (toks (h ++ [46] ++ List.replicate z' 48 ++ num n)) = if cmpI (m : Int) n = 0 then 1 else cmpI m n := by
      rw [tx1, tx z' n [], cmpT_pre, cmpT_cons, piece_num, cmpD_dig, cmpT_num_nil]
    have hx : (h ++ [46] ++ List.replicate z 48 ++ num m).length ≤ 1000 := by simp; omega
    have hy : (h ++ [46] ++ List.replicate z' 48 ++ num n).length ≤ 1000 := by simp; omega
    generalize h ++ [46] ++ List.replicate z 48 ++ num m = x at *
    generalize h ++ [46] ++ List.replicate z' 48 ++ num n = y at *
    have hj := numbers_j1 x y _ hx hy hc hc1
    by_cases hlt : (m : Int) < n
    · have e : cmpI (m : Int) n = -1 := by unfold cmpI; rw [if_pos hlt]
      rw [e] at hj
      refine Ev.congr (fun k => by rw [if_pos hlt]) ?_
      exact Ev.step (fun k => by simp only [credenzalaw15_VersionNumbers.j0]; rw [if_neg (by omega)]) hj
    · refine Ev.congr (fun k => by rw [if_neg hlt]) ?_
      by_cases hgt : (m : Int) > n
      · have e : cmpI (m : Int) n = 1 := by unfold cmpI; rw [if_neg hlt, if_pos hgt]
        rw [e] at hj
        exact Ev.step (fun k => by simp only [credenzalaw15_VersionNumbers.j0]; rw [if_pos hgt]) hj
      · have e : cmpI (m : Int) n = 0 := by unfold cmpI; rw [if_neg hlt, if_neg hgt]
        rw [e] at hj
        exact Ev.step (fun k => by simp only [credenzalaw15_VersionNumbers.j0]; rw [if_neg hgt]) hj
end Go.Proofs.YtndpokjakogpnaaDoor.Pure

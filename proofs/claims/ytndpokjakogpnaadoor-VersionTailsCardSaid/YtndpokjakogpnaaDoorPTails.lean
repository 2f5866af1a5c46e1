/- VersionTails, the plain part: what stands behind a version makes it newer or elder. -/
import Derived.Test.YtndpokjakogpnaaDoorVaux
import Derived.Test.YtndpokjakogpnaaDoorVx17
set_option linter.unusedVariables false
set_option linter.unusedSimpArgs false
namespace Go.Proofs.YtndpokjakogpnaaDoor.Pure
open Go.RowKit (wrap64)
open Go Go.Proofs.YtndpokjakogpnaaDoorW.PrintWords Go.Proofs.YtndpokjakogpnaaDoorW.PrintLast Go.Proofs.YtndpokjakogpnaaDoor.V Go.Proofs.YtndpokjakogpnaaDoor.Vm Go.Proofs.YtndpokjakogpnaaDoor.Dg Go.Proofs.YtndpokjakogpnaaDoor.Vev Go.Proofs.YtndpokjakogpnaaDoor.RNum Go.Proofs.YtndpokjakogpnaaDoor.Vaux

theorem letter_some (n : Nat) : credenzaref2_Letter.f (n : Int) = some (decide (97 ≤ n ∧ n ≤ 122 ∨ 65 ≤ n ∧ n ≤ 90 ∨ 48 ≤ n ∧ n ≤ 57)) := by
  unfold credenzaref2_Letter.f
  by_cases h : (97 ≤ n ∧ n ≤ 122 ∨ 65 ≤ n ∧ n ≤ 90 ∨ 48 ≤ n ∧ n ≤ 57)
  · rw [decide_eq_true h]
    repeat' split
    all_goals first | rfl | (rw [decide_eq_true (by omega)]) | (exfalso; omega)
  · rw [decide_eq_false h]
    repeat' split
    all_goals first | rfl | (rw [decide_eq_false (by omega)]) | (exfalso; omega)
variable {a s : List UInt8}
/-- What the law asks behind its loop. -/
theorem tails_end (l2 : List Int) (x1 : Int) (ha : a.length ≤ 200) (hs : s.length ≤ 50) (hsig : ∀ c ∈ s, cls c = -1) :
    Ev (fun k => credenzalaw15_VersionTails.l0 k (st (a ++ [46])) x1 l2 (st s) (l2.length : Int)) true := by
  obtain ⟨n, hn, hn2⟩ := mask_small 16 (by omega) x1
  have hn' : bits .and .i64 x1 65535 = (n : Int) := hn
  have ln := num_len n 4 (by omega)
  have en : (⟨(num n).toArray⟩ : ByteArray) = st (num n) := rfl
  have erc : (⟨#[114, 99]⟩ : ByteArray) = st [114, 99] := rfl
  have et : (⟨#[126]⟩ : ByteArray) = st [126] := rfl
  have ett : (⟨#[126, 126]⟩ : ByteArray) = st [126, 126] := rfl
  have pre : ∀ r : List UInt8, toks (a ++ [46] ++ r) = toks a ++ toks r := fun r => by
    rw [List.append_assoc, List.singleton_append, toks_sep _ _ _ cls_dot]
  have pres : ∀ r : List UInt8, toks (a ++ [46] ++ s ++ r) = toks a ++ toks r := fun r => by
    rw [List.append_assoc, pre, toks_signs s r hsig]
  have p0 : toks (a ++ [46]) = toks a := by have := pre []; rwa [List.append_nil, toks_nil, List.append_nil] at this
  have ps : toks (a ++ [46] ++ s) = toks a := by have := pres []; rwa [List.append_nil, toks_nil, List.append_nil] at this
  have trc : toks [114, 99] = [(2, [114, 99])] := by have := toks_run (k := 2) (by omega) [114, 99] (by simp) (by decide); simpa [tok] using this
  have tt : toks [126] = [(0, [126])] := by rw [toks_zero _ (by decide), toks_nil]; rfl
  have ttt : toks [126, 126] = [(0, [126]), (0, [126])] := by rw [toks_zero _ (by decide), tt]; rfl
  have ttn : toks ([126] ++ num n) = [(0, [126]), (3, dig n)] := by rw [List.singleton_append, toks_zero _ (by decide), toks_num0]; rfl
  have nilr : ∀ x : List T, cmpT (toks a ++ x) (toks a) = cmpT x [] := fun x => by
    have := cmpT_pre (toks a) x []
    rwa [List.append_nil] at this
  have c1 : cmpT (toks (a ++ [46] ++ s ++ num n)) (toks (a ++ [46])) = 1 := by rw [pres, p0, toks_num0, nilr, cmpT_num_nil]
  have c2 : cmpT (toks (a ++ [46] ++ s ++ [114, 99])) (toks (a ++ [46])) = 1 := by rw [pres, p0, trc, nilr, cmpT_word_nil]
  have c3 : cmpT (toks (a ++ [46] ++ s ++ [126] ++ num n)) (toks (a ++ [46])) = -1 := by rw [List.append_assoc (a ++ [46] ++ s), pres, p0, ttn, nilr, cmpT_tilde_nil]
  have c4 : cmpT (toks (a ++ [46] ++ s)) (toks (a ++ [46])) = 0 := by rw [ps, p0]; exact cmpT_ord.refl _
  have c5 : cmpT (toks (a ++ [46] ++ s ++ num n)) (toks (a ++ [46] ++ [114, 99])) = 1 := by
    rw [pres, pre, toks_num0, trc, cmpT_pre, cmpT_cons]
    have : piece (3, dig n) (2, [114, 99]) = 1 := by rw [piece_eq]; rfl
    rw [this]; rfl
  have c6 : cmpT (toks (a ++ [46] ++ [126])) (toks (a ++ [46] ++ s ++ [126, 126])) = 1 := by
    rw [pre, pres, tt, ttt, cmpT_pre, cmpT_cons, if_pos (piece_ord.refl _), cmpT_nil_cons]
    have : piece E (0, [126]) = 1 := by rw [piece_eq]; rfl
    rw [this]; rfl
  have L : (a ++ [46]).length = a.length + 1 := by simp
  have L1 : (a ++ [46] ++ s).length = a.length + 1 + s.length := by simp; omega
  refine Ev.step (fun k => by simp only [credenzalaw15_VersionTails.l0]; rw [if_neg (by omega), hn']) ?_
  refine Ev.bind (num_ev n (by omega)) ?_
  refine Ev.congr (fun k => by rw [en, st_size, st_size, if_pos (by omega), st_app, st_size, st_size, if_pos (by omega), st_app]) ?_
  refine Ev.bind (compare_st _ _ (by simp; omega) (by omega)) ?_
  refine Ev.congr (fun k => by rw [if_pos c1, if_pos (by omega), erc, st_app]) ?_
  refine Ev.bind (compare_st _ _ (by simp; omega) (by omega)) ?_
  refine Ev.congr (fun k => by rw [if_pos c2, if_pos (by omega), et, st_app, st_size, if_pos (by simp; omega), st_app]) ?_
  refine Ev.bind (compare_st _ _ (by simp; omega) (by omega)) ?_
  refine Ev.congr (fun k => by rw [if_pos c3]) ?_
  refine Ev.bind (compare_st _ _ (by omega) (by omega)) ?_
  rw [c4]
  refine Ev.step (fun k => by simp only [credenzalaw15_VersionTails.j2]; rw [if_neg (by simp), st_size, st_size, if_pos (by omega), st_app, st_size, st_size, if_pos (by omega), if_pos (by omega), st_app, erc, st_app]) ?_
  refine Ev.bind (compare_st _ _ (by simp; omega) (by simp; omega)) ?_
  refine Ev.congr (fun k => by rw [if_pos c5, if_pos (by omega), if_pos (by omega), et, st_app, ett, st_app]) ?_
  refine Ev.bind (compare_st _ _ (by simp; omega) (by simp; omega)) ?_
  exact Ev.congr (fun k => by rw [if_pos c6]) (Ev.bind awake_ev (Ev.now _))
theorem tails_loop (l2 : List Int) (x1 : Int) (ha : a.length ≤ 200) (hl : l2.length ≤ 50) (hw : ∀ x ∈ l2, 0 ≤ x ∧ x ≤ 255) (m : Nat) : ∀ i : Nat, i + m = l2.length → ∀ s : List UInt8, s.length ≤ i → (∀ c ∈ s, cls c = -1) →
    Ev (fun k => credenzalaw15_VersionTails.l0 k (st (a ++ [46])) x1 l2 (st s) (i : Int)) true := by
  induction m with
  | zero =>
    intro i hi s hs hsig
    have hi' : i = l2.length := by omega
    subst hi'
    exact tails_end l2 x1 ha (by omega) hsig
  | succ m ih =>
    intro i hi s hs hsig
    have hi' : i < l2.length := by omega
    have hr : rd l2 (i : Int) = l2[i] := by unfold rd; rw [Int.toNat_natCast, List.getD_eq_getElem?_getD, List.getElem?_eq_getElem hi']; rfl
    have hb := hw l2[i] (List.getElem_mem hi')
    obtain ⟨c, hc, hc2⟩ : ∃ c : Nat, l2[i] = (c : Int) ∧ c ≤ 255 := ⟨l2[i].toNat, by omega, by omega⟩
    refine Ev.step (fun k => by simp only [credenzalaw15_VersionTails.l0]; rw [if_pos (by omega), if_pos (by omega), hr, hc, letter_some, Option.bind_some]) ?_
    by_cases hL : (97 ≤ c ∧ c ≤ 122 ∨ 65 ≤ c ∧ c ≤ 90 ∨ 48 ≤ c ∧ c ≤ 57)
    · exact Ev.congr (fun k => by rw [if_pos (decide_eq_true hL), wrap_nat (by omega)]) (ih (i + 1) (by omega) s (by omega) hsig)
    · by_cases ht : (c : Int) = 126
      · exact Ev.congr (fun k => by rw [if_neg (by simpa using hL), if_pos ht, wrap_nat (by omega)]) (ih (i + 1) (by omega) s (by omega) hsig)
      · have hcl : cls (UInt8.ofNat c) = -1 := by
          have hn : (UInt8.ofNat c).toNat = c := by rw [UInt8.toNat_ofNat']; omega
          unfold cls
          rw [hn, if_neg (by omega), if_neg (by omega), if_neg (by omega)]
        have e : strOfNums [(c : Int)] = st [UInt8.ofNat c] := by unfold strOfNums; simp
        refine Ev.congr (fun k => by rw [if_neg (by simpa using hL), if_neg ht, Option.bind_some, e, st_app, st_size, st_size, if_pos (by simp; omega), wrap_nat (by omega)]) ?_
        refine ih (i + 1) (by omega) _ (by simp; omega) ?_
        intro x hx
        rcases List.mem_append.1 hx with hx | hx
        · exact hsig x hx
        · rw [List.mem_singleton] at hx
          rw [hx]
          exact hcl
theorem VersionTails : credenzalaw15_VersionTails.Pure := by
  intro a x1 l2 _ _ _ _ hw
  apply Ev.rounds
  have hno : Ev (fun k => credenzalaw15_VersionTails.j0 k a x1 l2 true) true :=
    Ev.step (fun k => by simp only [credenzalaw15_VersionTails.j0]; rw [if_pos trivial]) (Ev.bind awake_ev (Ev.now _))
  unfold credenzalaw15_VersionTails.f
  by_cases h1 : (a.size : Int) > 200
  · exact Ev.congr (fun k => by rw [if_pos h1]) hno
  · by_cases h2 : (l2.length : Int) > 50
    · exact Ev.congr (fun k => by rw [if_neg h1, decide_eq_true h2]) hno
    · refine Ev.congr (fun k => by rw [if_neg h1, decide_eq_false h2]) ?_
      obtain ⟨l, rfl⟩ := of_st a
      rw [st_size] at h1
      have e46 : (⟨#[46]⟩ : ByteArray) = st [46] := rfl
      refine Ev.step (fun k => by simp only [credenzalaw15_VersionTails.j0]; rw [if_neg (by simp), st_size, if_pos (by omega), e46, st_app]) ?_
      refine tails_loop l2 x1 (by omega) (by omega) (fun x hx => ?_) l2.length 0 (by omega) [] (by simp) (by simp)
      have := hw x hx
      simpa [Lit.wf, IntKind.min, IntKind.max, IntKind.signed, IntKind.bits] using this
end Go.Proofs.YtndpokjakogpnaaDoor.Pure

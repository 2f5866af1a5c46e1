/- VersionLong, the plain part: numbers of any length stand as their lengths and digits do. -/
import Derived.Test.YtndpokjakogpnaaDoorVaux
import Derived.Test.YtndpokjakogpnaaDoorVx8
set_option linter.unusedVariables false
set_option linter.unusedSimpArgs false
namespace Go.Proofs.YtndpokjakogpnaaDoor.Pure
open Go.RowKit (wrap64)
open Go Go.Proofs.YtndpokjakogpnaaDoorW.PrintWords Go.Proofs.YtndpokjakogpnaaDoorW.PrintLast Go.Proofs.YtndpokjakogpnaaDoor.V Go.Proofs.YtndpokjakogpnaaDoor.Vm Go.Proofs.YtndpokjakogpnaaDoor.Dg Go.Proofs.YtndpokjakogpnaaDoor.Vev Go.Proofs.YtndpokjakogpnaaDoor.RNum Go.Proofs.YtndpokjakogpnaaDoor.Vaux

/-- m nines, and a digit behind them. -/
def nines (m d : Nat) : List UInt8 := List.replicate m 57 ++ [UInt8.ofNat (48 + d)]
theorem nines_len (m d : Nat) : (nines m d).length = m + 1 := by simp [nines]
theorem toks_nines (z m d : Nat) (hm : 0 < m) (hd : d < 8) : toks (List.replicate z 48 ++ nines m d) = [(3, nines m d)] := by
  have htn : (UInt8.ofNat (48 + d)).toNat = 48 + d := by rw [UInt8.toNat_ofNat']; omega
  rw [toks_run (k := 3) (by omega)]
  · unfold tok trim0
    rw [if_pos rfl, dropWhile_rep]
    obtain ⟨n, rfl⟩ : ∃ n, m = n + 1 := ⟨m - 1, by omega⟩
    unfold nines
    rw [List.replicate_succ, List.cons_append, List.dropWhile_cons, if_neg (by decide)]
  · simp [nines]
  · intro c hc
    rcases List.mem_append.1 hc with hc | hc
    · rw [(List.mem_replicate.1 hc).2]; decide
    · rcases List.mem_append.1 hc with hc | hc
      · rw [(List.mem_replicate.1 hc).2]; decide
      · rw [List.mem_singleton] at hc
        subst hc
        exact cls_digit (by omega)
theorem long_loop (x1 : Int) (d : Nat) (hd : bits .and .i64 x1 7 = (d : Int)) (hd8 : d < 8) (n : Nat) (hn : n ≤ 100) (m : Nat) : ∀ i : Nat, i + m = n + 1 → ∀ xs : List Int, xs.length = n + 1 → xs.take i = List.replicate i 57 →
    Ev (fun k => credenzalaw15_VersionLong_1.l0 k x1 xs ((n + 1 : Nat) : Int) (i : Int)) (st (nines n d)) := by
  induction m with
  | zero =>
    intro i hi xs hl ht
    have hi' : i = n + 1 := by omega
    subst hi'
    rw [List.take_of_length_le (by omega)] at ht
    subst ht
    have hw : wrap64 (((List.replicate (n + 1) (57 : Int)).length : Int) - 1) = (n : Int) := by rw [List.length_replicate]; unfold wrap64; omega
    refine Ev.step (fun k => by simp only [credenzalaw15_VersionLong_1.l0]; rw [if_neg (by omega), hw, if_pos (by omega), if_pos (by rw [List.length_replicate]; omega), hd, Int.toNat_natCast]) ?_
    have hv : ((48 + ((d : Int) % 256)) % 256) = ((48 + d : Nat) : Int) := by omega
    rw [hv]
    have e : (List.replicate (n + 1) (57 : Int)).set n ((48 + d : Nat) : Int) = (nines n d).map fun c => (c.toNat : Int) := by
      unfold nines
      have htn : (UInt8.ofNat (48 + d)).toNat = 48 + d := by rw [UInt8.toNat_ofNat']; omega
      rw [List.map_append, List.map_replicate, List.map_singleton, htn, List.replicate_succ']
      have : (List.replicate n (57 : Int)).length = n := List.length_replicate
      rw [List.set_append_right _ _ (by omega), this, Nat.sub_self]
      rfl
    rw [e, strOf]
    exact Ev.now _
  | succ m ih =>
    intro i hi xs hl ht
    refine Ev.step (fun k => by simp only [credenzalaw15_VersionLong_1.l0]; rw [if_pos (by omega), if_pos (by omega), if_pos (by omega), wrap_nat (by omega), Int.toNat_natCast]) ?_
    exact ih (i + 1) (by omega) _ (by rw [List.length_set]; exact hl) (set_fill 57 xs i (by omega) ht)
theorem row_ev (a x : Int) : ∃ m d : Nat, 19 ≤ m ∧ m ≤ 82 ∧ d < 8 ∧ Ev (fun k => credenzalaw15_VersionLong_1.f k a x) (st (nines m d)) := by
  obtain ⟨n, h1, h2⟩ := mask_small 6 (by omega) a
  obtain ⟨d, h3, h4⟩ := mask_small 3 (by omega) x
  have h1' : bits .and .i64 a 63 = (n : Int) := h1
  have h3' : bits .and .i64 x 7 = (d : Int) := h3
  have hw : wrap64 ((n : Int) + 20) = ((n + 19 + 1 : Nat) : Int) := by unfold wrap64; omega
  refine ⟨n + 19, d, by omega, by omega, by omega, ?_⟩
  refine Ev.congr (fun k => by unfold credenzalaw15_VersionLong_1.f; rw [h1', hw, if_pos (by omega), Int.toNat_natCast, if_pos (by omega), Option.bind_some, List.length_replicate]) ?_
  exact long_loop x d h3' (by omega) (n + 19) (by omega) (n + 19 + 1) 0 (by omega) _ List.length_replicate (by simp)
theorem cmpD_ord : Ord cmpD := by
  have h : cmpD = fun a b => cmpT [(3, a)] [(3, b)] := by funext a b; exact (cmpT_num a b).symm
  rw [h]
  exact cmpT_ord.on (fun a : List UInt8 => [((3 : Int), a)])
theorem long_j1 (p q : List UInt8) (hp : p.length ≤ 1000) (hq : q.length ≤ 1000) (tp : toks p = [(3, p)]) (tp0 : toks ([48, 48, 48, 48] ++ p) = [(3, p)]) (tq : toks q = [(3, q)]) :
    Ev (fun k => credenzalaw15_VersionLong.j1 k (st p) (st q) (cmpD p q)) true := by
  have r := cmpD_ord.rng p q
  have c1 : cmpT (toks p) (toks q) = cmpD p q := by rw [tp, tq, cmpT_num]
  have c2 : cmpT (toks ([48, 48, 48, 48] ++ p)) (toks q) = cmpD p q := by rw [tp0, tq, cmpT_num]
  have c3 : cmpV (st q) (st p) = -cmpD p q := by
    have : cmpV (st q) (st p) = cmpT (toks q) (toks p) := rfl
    rw [this, tp, tq, cmpT_num, cmpD_ord.anti p q]
  refine Ev.step (fun k => by simp only [credenzalaw15_VersionLong.j1]; rfl) ?_
  refine Ev.bind (compare_st p q (by omega) (by omega)) ?_
  have e4 : (⟨#[48, 48, 48, 48]⟩ : ByteArray) = st [48, 48, 48, 48] := rfl
  refine Ev.congr (fun k => by rw [if_pos c1, if_pos (by rw [st_size]; omega), e4, st_app]) ?_
  refine Ev.bind (compare_st _ q (by simp; omega) (by omega)) ?_
  refine Ev.congr (fun k => by rw [if_pos c2]) ?_
  refine Ev.bind (newest_two (st p) (st q) (by rw [st_size]; omega) (by rw [st_size]; omega)) ?_
  have hn : (if cmpV (st q) (st p) > 0 then (1 : Int) else 0) = mx (wrap64 (-cmpD p q)) 0 := by
    rw [c3]
    unfold mx wrap64
    rcases r with r | r | r <;> rw [r] <;> rfl
  exact Ev.congr (fun k => by rw [if_pos hn]) (Ev.bind awake_ev (Ev.now _))
theorem less_cmp' (a b : List UInt8) : (Op.bytesLess a b = true ↔ cmpB a b = -1) := by
  induction a generalizing b with
  | nil => cases b <;> simp [Op.bytesLess, Lib.compareBytes]
  | cons x a ih =>
    cases b with
    | nil => simp [Op.bytesLess, Lib.compareBytes]
    | cons y b =>
      simp only [Op.bytesLess, Lib.compareBytes, Bool.or_eq_true, Bool.and_eq_true, decide_eq_true_eq, beq_iff_eq]
      rw [ih b]
      by_cases h : x < y
      · simp [h]
      · by_cases h2 : y < x
        · have hne : ¬ x = y := fun e => by subst e; exact h h2
          simp [h, h2, hne]
        · have he : x = y := UInt8.le_antisymm (UInt8.not_lt.1 h2) (UInt8.not_lt.1 h)
          simp [h, h2, he]
theorem cmpB_eq (a b : List UInt8) : cmpB a b = 0 ↔ a = b := by
  induction a generalizing b with
  | nil => cases b <;> simp [Lib.compareBytes]
  | cons x a ih =>
    cases b with
    | nil => simp [Lib.compareBytes]
    | cons y b =>
      rw [cmpB_cons, cmpc_eq]
      by_cases h : x = y
      · subst h
        rw [if_pos (cmpI_self _), ih b]
        simp
      · have hne : ¬ cmpI (x.toNat : Int) (y.toNat : Int) = 0 := by
          rw [cmpI_zero]
          intro e
          exact h (UInt8.toNat_inj.1 (by omega))
        rw [if_neg hne]
        simp [hne, h]
theorem VersionLong : credenzalaw15_VersionLong.Pure := by
  intro a b x y _ _ _ _
  apply Ev.rounds
  obtain ⟨m, d, hm1, hm2, hd, hp⟩ := row_ev a x
  obtain ⟨n, e, hn1, hn2, he, hq⟩ := row_ev b y
  unfold credenzalaw15_VersionLong.f
  refine Ev.bind hp (Ev.bind hq ?_)
  have lp := nines_len m d
  have lq := nines_len n e
  have tp : toks (nines m d) = [(3, nines m d)] := toks_nines 0 m d (by omega) hd
  have tp0 : toks ([48, 48, 48, 48] ++ nines m d) = [(3, nines m d)] := toks_nines 4 m d (by omega) hd
  have tq : toks (nines n e) = [(3, nines n e)] := toks_nines 0 n e (by omega) he
  generalize nines m d = p at *
  generalize nines n e = q at *
  have hj1 := long_j1 p q (by omega) (by omega) tp tp0 tq
  have sp := st_size p
  have sq := st_size q
  have hfalse : ∀ w : Int, w = cmpD p q ∧ p = q ∨ cmpD p q = 1 ∧ p ≠ q → Ev (fun k => credenzalaw15_VersionLong.j0 k (st p) (st q) w false) true := by
    intro w hw
    rcases hw with ⟨rfl, hpq⟩ | ⟨h1, hpq⟩
    · exact Ev.step (fun k => by simp only [credenzalaw15_VersionLong.j0]; rw [if_neg (by simp), if_pos (by rw [st_list, st_list]; exact hpq)]) hj1
    · rw [h1] at hj1
      exact Ev.step (fun k => by simp only [credenzalaw15_VersionLong.j0]; rw [if_neg (by simp), if_neg (by rw [st_list, st_list]; exact hpq)]) hj1
  have htrue : cmpD p q = -1 → Ev (fun k => credenzalaw15_VersionLong.j0 k (st p) (st q) 0 true) true := by
    intro h1
    rw [h1] at hj1
    exact Ev.step (fun k => by simp only [credenzalaw15_VersionLong.j0]; rw [if_pos trivial]) hj1
  by_cases hlt : ((st p).size : Int) < ((st q).size : Int)
  · refine Ev.congr (fun k => by rw [if_pos hlt]) (htrue ?_)
    unfold cmpD
    rw [if_neg (by omega)]
    unfold cmpI
    rw [if_pos (by omega)]
  · by_cases heq : ((st p).size : Int) = ((st q).size : Int)
    · have hl : p.length = q.length := by omega
      have hD : cmpD p q = cmpB p q := by unfold cmpD; rw [if_pos hl]
      refine Ev.congr (fun k => by rw [if_neg hlt, if_pos heq, st_list, st_list]) ?_
      cases hb : Op.bytesLess p q with
      | true => exact htrue (by rw [hD]; exact (less_cmp' p q).1 hb)
      | false =>
        by_cases hpq : p = q
        · have h0 : cmpD p q = 0 := by rw [hD]; exact (cmpB_eq p q).2 hpq
          exact hfalse 0 (.inl ⟨h0.symm, hpq⟩)
        · refine hfalse 0 (.inr ⟨?_, hpq⟩)
          have h1 : ¬ cmpB p q = -1 := fun e => by rw [(less_cmp' p q).2 e] at hb; cases hb
          have h2 : ¬ cmpB p q = 0 := fun e => hpq ((cmpB_eq p q).1 e)
          have := cmpB_ord.rng p q
          rw [hD]
          omega
    · refine Ev.congr (fun k => by rw [if_neg hlt, if_neg heq]) (hfalse 0 (.inr ⟨?_, fun e => heq (by rw [e])⟩))
      unfold cmpD
      rw [if_neg (by omega)]
      unfold cmpI
      rw [if_neg (by omega), if_pos (by omega)]
end Go.Proofs.YtndpokjakogpnaaDoor.Pure

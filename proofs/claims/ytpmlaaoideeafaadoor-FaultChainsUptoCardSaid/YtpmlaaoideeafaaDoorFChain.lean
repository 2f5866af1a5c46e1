/- The laws' chain: Faults around a number, made out of two rows of texts. -/
import Derived.Test.YtpmlaaoideeafaaDoorEAwake
import Derived.Test.YtpmlaaoideeafaaDoorELaid
set_option linter.unusedVariables false
set_option linter.unusedSimpArgs false
set_option maxRecDepth 10000
set_option maxHeartbeats 4000000
namespace Go.Proofs.YtpmlaaoideeafaaDoor.FChain
open Go Go.RowKit Go.Proofs.YtpmlaaoideeafaaDoor Go.Proofs.YtpmlaaoideeafaaDoor.Abs Go.Proofs.YtpmlaaoideeafaaDoor.Ic Go.Proofs.YtpmlaaoideeafaaDoor.EAs Go.Proofs.YtpmlaaoideeafaaDoor.EErr
def kOf (os ns : List (List UInt8)) : Nat := min (min os.length ns.length) 30
/-- What chain makes. -/
def Made (os ns : List (List UInt8)) (n : Int) (H H' : AH) (e : AV) : Prop :=
  H.keepsAll H' ∧ H.next ≤ H'.next ∧ ((kOf os ns = 0 ∨ n = 0) ∧ e = .nilIface ∨ kOf os ns ≠ 0 ∧ n ≠ 0 ∧ ∃ f fs, (f :: fs).map Fl.op = os.take (kOf os ns) ∧ (f :: fs).map Fl.name = ns.take (kOf os ns) ∧ e = .iface 43 (.ptr f.b 0) ∧ Chain H' e (f :: fs) (some n))
def CI (os ns : List (List UInt8)) (n : Int) (vo vn : AV) (H : AH) (k : Nat) (tm : Tms) (H' : AH) : Prop :=
  H.keepsAll H' ∧ H.next ≤ H'.next ∧ H'.ok ∧ ∃ (j : Nat) (e : AV), k = j ∧ j < kOf os ns ∧ tm 0 = vo ∧ tm 1 = vn ∧ tm 9 = .int .i64 ((j : Int) - 1) ∧ tm 8 = e ∧
    (n = 0 ∧ e = .nilIface ∨ n ≠ 0 ∧ ∃ f fs, (f :: fs).map Fl.op = (os.take (kOf os ns)).drop j ∧ (f :: fs).map Fl.name = (ns.take (kOf os ns)).drop j ∧ e = .iface 43 (.ptr f.b 0) ∧ Chain H' e (f :: fs) (some n))
theorem drop_pred {α : Type} (l : List α) (j : Nat) (hj : j < l.length) : l.drop j = l[j] :: l.drop (j + 1) := List.drop_eq_getElem_cons hj
theorem EChain {os ns : List (List UInt8)} {n : Int} {vo vn : AV} {H : AH} (ho : SL H vo (os.map .str)) (hn : SL H vn (ns.map .str)) :
    ACall Tryd.prog 16 [vo, vn, .int .i64 n] H (fun v H' => Made os ns n H H' v) := by
  refine acall_ok (bodyP_of fits16) fun hok => acall_of fits16 (by simp) ?_
  by_cases hk0 : kOf os ns = 0
  · have hr : Made os ns n H H .nilIface := ⟨AH.keepsAll_refl _, Nat.le_refl _, .inl ⟨.inl hk0, rfl⟩⟩
    have hol : (os.map AV.str).length = os.length := by simp
    have hnl : (ns.map AV.str).length = ns.length := by simp
    have m1 : min (0 : Int) (min (ns.length : Int) 30) = 0 := by omega
    have m2 : min (os.length : Int) (min (0 : Int) 30) = 0 := by omega
    have m3 : min (os.length : Int) (min (ns.length : Int) 30) = 0 := by unfold kOf at hk0; omega
    have m4 : min (os.length : Int) 0 = 0 := by omega
    have m5 : min (0 : Int) 30 = 0 := by omega
    rcases ho with ⟨h0, rfl | rfl⟩ | ⟨b, o, rfl, _, _⟩
    all_goals rcases hn with ⟨h0, rfl | rfl⟩ | ⟨b2, o2, rfl, _, _⟩
    all_goals
      simp (disch := first | omega | (simp; done) | assumption) [wr64, wrU8, wrU64, Nat.add_assoc, -getElem?_pos, List.getElem?_cons_zero, List.getElem?_cons_succ, ic16, rs16, hol, hnl, m1, m2, m3, m4, m5]
      try exact hr
  · have hmin : min (os.length : Int) (min (ns.length : Int) 30) = ((kOf os ns : Nat) : Int) := by unfold kOf; omega
    obtain ⟨k', hk'⟩ : ∃ k', kOf os ns = k' + 1 := ⟨kOf os ns - 1, by omega⟩
    have hko : kOf os ns ≤ os.length := by unfold kOf; omega
    have hkn : kOf os ns ≤ ns.length := by unfold kOf; omega
    have hk30 : kOf os ns ≤ 30 := by unfold kOf; omega
    rcases ho with ⟨h0, _⟩ | ⟨b, o, rfl, _, hlo⟩
    · exfalso
      have h1 : os = [] := by simpa using h0
      have h2 : os.length = 0 := by rw [h1]; rfl
      omega
    rcases hn with ⟨h0, _⟩ | ⟨b2, o2, rfl, _, hln⟩
    · exfalso
      have h1 : ns = [] := by simpa using h0
      have h2 : ns.length = 0 := by rw [h1]; rfl
      omega
    have hlo' : ∀ i (hi : i < os.length), loadC H b (o + i) none = some (.str os[i]) := fun i hi => by rw [hlo i (by simpa using hi)]; simp [hi]
    have hln' : ∀ i (hi : i < ns.length), loadC H b2 (o2 + i) none = some (.str ns[i]) := fun i hi => by rw [hln i (by simpa using hi)]; simp [hi]
    have e1 : ((kOf os ns : Nat) : Int) - 1 = (k' : Int) := by omega
    have e2 : ((kOf os ns : Nat) : Int) - 2 = (k' : Int) - 1 := by omega
    have l1 := hlo' k' (by omega)
    have l2 := hln' k' (by omega)
    simp only [loadC] at l1 l2
    have hol : (os.map AV.str).length = os.length := by simp
    have hnl : (ns.map AV.str).length = ns.length := by simp
    have hlt1 : (k' : Int) < (os.length : Int) := by omega
    have hlt2 : (k' : Int) < (ns.length : Int) := by omega
    have h30 : ((kOf os ns : Nat) : Int) ≤ 30 := by omega
    simp (disch := first | omega | (simp; done) | assumption) [wr64, wrU8, wrU64, Nat.add_assoc, -getElem?_pos, List.getElem?_cons_zero, List.getElem?_cons_succ, ic16, rs16, hol, hnl, hmin, hk0, e1, e2, hlt1, hlt2]
    refine Try.intro l1 ?_
    simp (disch := first | omega | (simp; done) | assumption) [wr64, wrU8, wrU64, Nat.add_assoc, -getElem?_pos, List.getElem?_cons_zero, List.getElem?_cons_succ, hk0, e1, e2, hlt1, hlt2]
    refine Try.intro l2 ?_
    simp (disch := first | omega | (simp; done) | assumption) [wr64, wrU8, wrU64, Nat.add_assoc, -getElem?_pos, List.getElem?_cons_zero, List.getElem?_cons_succ, hk0, e1, e2]
    have ht1 : (os.take (kOf os ns)).drop k' = [os[k']] := by
      rw [List.drop_eq_getElem_cons (by simp; omega), List.getElem_take, List.drop_eq_nil_of_le (by simp; omega)]
    have ht2 : (ns.take (kOf os ns)).drop k' = [ns[k']] := by
      rw [List.drop_eq_getElem_cons (by simp; omega), List.getElem_take, List.drop_eq_nil_of_le (by simp; omega)]
    by_cases hn0 : n = 0
    · subst hn0
      refine CallW.val (ENew0 _ _ _) ?_
      simp (disch := first | omega | (simp; done) | assumption) [wr64, wrU8, wrU64, Nat.add_assoc, -getElem?_pos, List.getElem?_cons_zero, List.getElem?_cons_succ, hk0, e1, e2]
      refine iwp_loop (CI os ns 0 (.slice b o os.length 1) (.slice b2 o2 ns.length 1) H) k' ⟨AH.keepsAll_refl _, Nat.le_refl _, hok, k', .nilIface, rfl, by omega, by simp, by simp, by simp, by simp, .inl ⟨rfl, rfl⟩⟩ ?_
      rintro j tm H1 ⟨hk, hnx, hok1, _, e, rfl, hj, t0, t1, t9, t8, hc⟩
      rcases hc with ⟨_, rfl⟩ | ⟨hx, _⟩
      · cases j with
        | zero =>
          have t9' : tm 9 = .int .i64 (-1) := by rw [t9]; rfl
          simp (disch := first | omega | (simp; done) | assumption) [wr64, wrU8, wrU64, Nat.add_assoc, -getElem?_pos, List.getElem?_cons_zero, List.getElem?_cons_succ, t0, t1, t8, t9']
          exact ⟨hk, hnx, .inl ⟨.inr rfl, rfl⟩⟩
        | succ j =>
          have t9' : tm 9 = .int .i64 (j : Int) := by rw [t9]; congr 1; omega
          have m1 := loadC_keeps hk (hlo' j (by omega))
          have m2 := loadC_keeps hk (hln' j (by omega))
          simp only [loadC] at m1 m2
          have q1 : (j : Int) < (os.length : Int) := by omega
          have q2 : (j : Int) < (ns.length : Int) := by omega
          simp (disch := first | omega | (simp; done) | assumption) [wr64, wrU8, wrU64, Nat.add_assoc, -getElem?_pos, List.getElem?_cons_zero, List.getElem?_cons_succ, t0, t1, t8, t9', q1, q2]
          refine Try.intro m1 ?_
          simp (disch := first | omega | (simp; done) | assumption) [wr64, wrU8, wrU64, Nat.add_assoc, -getElem?_pos, List.getElem?_cons_zero, List.getElem?_cons_succ, t0, t1, t8, t9', q1, q2]
          refine Try.intro m2 ?_
          simp (disch := first | omega | (simp; done) | assumption) [wr64, wrU8, wrU64, Nat.add_assoc, -getElem?_pos, List.getElem?_cons_zero, List.getElem?_cons_succ, t0, t1, t8, t9']
          refine CallW.val (EWrap_nil _ _ _) ?_
          simp (disch := first | omega | (simp; done) | assumption) [wr64, wrU8, wrU64, Nat.add_assoc, -getElem?_pos, List.getElem?_cons_zero, List.getElem?_cons_succ, t0, t1, t8, t9']
          exact ⟨j, by omega, hk, hnx, hok1, j, .nilIface, rfl, by omega, by simp [t0], by simp [t1], by simp, by simp, .inl ⟨rfl, rfl⟩⟩
      · exact absurd rfl hx
    · refine CallW.ofk (ENewC _ _ hn0 _) ?_
      rintro v0 H0 ⟨hk00, hn00, f0, ho0, hm0, rfl, hc0⟩ hok0
      simp only [newO_none] at hk00 hn00
      simp (disch := first | omega | (simp; done) | assumption) [wr64, wrU8, wrU64, Nat.add_assoc, -getElem?_pos, List.getElem?_cons_zero, List.getElem?_cons_succ, hk0, e1, e2]
      refine iwp_loop (CI os ns n (.slice b o os.length 1) (.slice b2 o2 ns.length 1) H) k' ⟨hk00, hn00, hok0, k', _, rfl, by omega, by simp, by simp, by simp, by simp, .inr ⟨hn0, f0, [], by rw [ht1]; simp [ho0], by rw [ht2]; simp [hm0], rfl, hc0⟩⟩ ?_
      rintro j tm H1 ⟨hk, hnx, hok1, _, e, rfl, hj, t0, t1, t9, t8, hc⟩
      rcases hc with ⟨hx, _⟩ | ⟨_, f, fs, hfo, hfm, rfl, hch⟩
      · exact absurd hx hn0
      · cases j with
        | zero =>
          have t9' : tm 9 = .int .i64 (-1) := by rw [t9]; rfl
          simp (disch := first | omega | (simp; done) | assumption) [wr64, wrU8, wrU64, Nat.add_assoc, -getElem?_pos, List.getElem?_cons_zero, List.getElem?_cons_succ, t0, t1, t8, t9']
          exact ⟨hk, hnx, .inr ⟨hk0, hn0, f, fs, by simpa using hfo, by simpa using hfm, rfl, hch⟩⟩
        | succ j =>
          have t9' : tm 9 = .int .i64 (j : Int) := by rw [t9]; congr 1; omega
          have m1 := loadC_keeps hk (hlo' j (by omega))
          have m2 := loadC_keeps hk (hln' j (by omega))
          simp only [loadC] at m1 m2
          have q1 : (j : Int) < (os.length : Int) := by omega
          have q2 : (j : Int) < (ns.length : Int) := by omega
          have d1 : (os.take (kOf os ns)).drop j = os[j] :: (os.take (kOf os ns)).drop (j + 1) := by
            rw [List.drop_eq_getElem_cons (by simp; omega), List.getElem_take]
          have d2 : (ns.take (kOf os ns)).drop j = ns[j] :: (ns.take (kOf os ns)).drop (j + 1) := by
            rw [List.drop_eq_getElem_cons (by simp; omega), List.getElem_take]
          simp (disch := first | omega | (simp; done) | assumption) [wr64, wrU8, wrU64, Nat.add_assoc, -getElem?_pos, List.getElem?_cons_zero, List.getElem?_cons_succ, t0, t1, t8, t9', q1, q2]
          refine Try.intro m1 ?_
          simp (disch := first | omega | (simp; done) | assumption) [wr64, wrU8, wrU64, Nat.add_assoc, -getElem?_pos, List.getElem?_cons_zero, List.getElem?_cons_succ, t0, t1, t8, t9', q1, q2]
          refine Try.intro m2 ?_
          simp (disch := first | omega | (simp; done) | assumption) [wr64, wrU8, wrU64, Nat.add_assoc, -getElem?_pos, List.getElem?_cons_zero, List.getElem?_cons_succ, t0, t1, t8, t9']
          refine CallW.ofk (EWrapC _ _ hch (by simp)) ?_
          rintro v2 H2 ⟨hk2, hn2, f2, ho2, hm2, rfl, hc2⟩ hok2
          simp only [newO_none] at hk2 hn2
          simp (disch := first | omega | (simp; done) | assumption) [wr64, wrU8, wrU64, Nat.add_assoc, -getElem?_pos, List.getElem?_cons_zero, List.getElem?_cons_succ, t0, t1, t8, t9']
          exact ⟨j, by omega, fun x o hx => hk2 x o (hk x o hx), by omega, hok2, j, _, rfl, by omega, by simp [t0], by simp [t1], by simp, by simp, .inr ⟨hn0, f2, f :: fs, by rw [d1, List.map_cons, hfo, ho2], by rw [d2, List.map_cons, hfm, hm2], rfl, hc2⟩⟩
theorem sl_cases {H : AH} {v : AV} {xs : List AV} {n : Nat} (h : SL H v xs) (hn : xs.length = n) : n = 0 ∧ v = .snil ∨ n = 0 ∧ v = .sempty ∨ ∃ b o, v = .slice b o n 1 ∧ ∀ i, i < n → loadC H b (o + i) none = xs[i]? := by
  subst hn
  rcases h with ⟨rfl, rfl | rfl⟩ | ⟨b, o, rfl, _, hl⟩
  · exact .inl ⟨rfl, rfl⟩
  · exact .inr (.inl ⟨rfl, rfl⟩)
  · exact .inr (.inr ⟨b, o, rfl, hl⟩)
theorem EText_nil {H : AH} : ACall Tryd.prog 18 [.nilIface] H (fun v H' => v = .str [] ∧ H' = H) := by
  refine acall_enter fits18 (by simp) (by simp) fun hok => ?_
  simp (disch := first | omega | (simp; done) | assumption) [wr64, wrU8, wrU64, Nat.add_assoc, -getElem?_pos, List.getElem?_cons_zero, List.getElem?_cons_succ, ic18, rs18]
  exact AH.keepsAll_refl _
/-! ### Lengths -/
def total (l : List (List UInt8)) : Nat := (l.map List.length).sum
theorem total_take (l : List (List UInt8)) (k : Nat) : total (l.take k) ≤ total l := by
  induction l generalizing k with
  | nil => simp [total]
  | cons a l ih =>
    cases k with
    | zero => simp [total]
    | succ k => have := ih k; simp [total] at this ⊢; omega
theorem txt_len (l : List Fl) : (txt l).length ≤ total (l.map Fl.op) + total (l.map Fl.name) + 3 * l.length := by
  induction l with
  | nil => simp [txt, total]
  | cons f l ih =>
    simp only [txt, headOf, List.length_append, List.map_cons, total, List.sum_cons, List.length_cons, List.length_nil] at ih ⊢
    split <;> (first | rw [List.length_nil] | rw [List.length_cons]) <;> omega
end Go.Proofs.YtpmlaaoideeafaaDoor.FChain

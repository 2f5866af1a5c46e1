/- The document's Lines and Parse. No condition. -/
import Derived.Test.YtkehijlgbfjmkaaGreatDoorKPars
set_option linter.unusedVariables false
set_option linter.unusedSimpArgs false
set_option maxRecDepth 10000
set_option maxHeartbeats 4000000
namespace Go.Proofs.YtkehijlgbfjmkaaGreatDoor.KW
open Go Go.RowKit Go.Proofs.YtkehijlgbfjmkaaGreatDoor Go.Proofs.YtkehijlgbfjmkaaGreatDoor.Abs Go.Proofs.YtkehijlgbfjmkaaGreatDoor.Ic Go.Proofs.YtkehijlgbfjmkaaGreatDoor.St Go.Proofs.YtkehijlgbfjmkaaGreatDoor.EAs Go.Proofs.YtkehijlgbfjmkaaGreatDoor.EErr
theorem pcs_snoc (c : UInt8) : ∀ (l : List UInt8) (a : List (List UInt8)) (w : List UInt8), pcs l = a ++ [w] → pcs (l ++ [c]) = if c = 10 then a ++ [w, []] else a ++ [w ++ [c]]
  | [], a, w, h => by
    have h1 : a = [] ∧ w = [] := by
      simp [pcs] at h
      cases a with
      | nil => simpa using h
      | cons x a => simp at h
    obtain ⟨rfl, rfl⟩ := h1
    rw [List.nil_append, pcs_cons]
    simp [pcs]
  | d :: l, a, w, h => by
    obtain ⟨a', w', h'⟩ : ∃ a' w', pcs l = a' ++ [w'] := ⟨(pcs l).dropLast, (pcs l).getLast (pcs_ne l), (List.dropLast_concat_getLast (pcs_ne l)).symm⟩
    have ih := pcs_snoc c l a' w' h'
    rw [List.cons_append, pcs_cons, ih]
    rw [pcs_cons, h'] at h
    by_cases hd : d = 10
    · rw [if_pos hd] at h ⊢
      have : a = [] :: a' ∧ w = w' := by
        rw [← List.cons_append] at h
        have := List.append_inj' h rfl
        exact ⟨this.1.symm, by simpa using this.2.symm⟩
      obtain ⟨rfl, rfl⟩ := this
      by_cases hc : c = 10 <;> simp [hc]
    · rw [if_neg hd] at h ⊢
      cases a' with
      | nil =>
        simp only [List.nil_append] at h ⊢
        have : a = [] ∧ w = d :: w' := by
          cases a with
          | nil => simpa using h.symm
          | cons x a => simp at h
        obtain ⟨rfl, rfl⟩ := this
        by_cases hc : c = 10 <;> simp [hc]
      | cons p ps =>
        simp only [List.cons_append] at h ⊢
        have : a = (d :: p) :: ps ∧ w = w' := by
          rw [← List.cons_append] at h
          have := List.append_inj' h rfl
          exact ⟨this.1.symm, by simpa using this.2.symm⟩
        obtain ⟨rfl, rfl⟩ := this
        by_cases hc : c = 10 <;> simp [hc]
/-- The document's lines: a text's pieces, but for an empty last one. -/
def lnsOf (a : List (List UInt8)) (w : List UInt8) : List (List UInt8) := if w = [] then a else a ++ [w]
theorem parseL_lns (a : List (List UInt8)) (w : List UInt8) : ∀ (e : En) (n : Nat), parseL e n (lnsOf a w) = parseL e n (a ++ [w]) := by
  unfold lnsOf
  split
  · rename_i h
    subst h
    induction a with
    | nil =>
      intro e n
      simp only [List.nil_append, parseL]
      rw [if_pos skip_nil]
    | cons l a ih =>
      intro e n
      simp only [List.cons_append, parseL]
      split
      · exact ih _ _
      · split
        · exact ih _ _
        · rfl
  · intro e n; rfl
abbrev tS : Nat := 9
def rowsT (a : List (List UInt8)) : List (List AV) := a.map fun l => [AV.str l]
theorem allT1 (a : List (List UInt8)) : All 1 (rowsT a) := fun l hl => by obtain ⟨p, _, rfl⟩ := List.mem_map.1 hl; rfl
def LiI (s : List UInt8) (H : AH) (kk : Nat) (tm : Tms) (H' : AH) : Prop := H.keepsAll H' ∧ H.next ≤ H'.next ∧ ∃ (i : Nat) (a : List (List UInt8)) (w : List UInt8), kk = s.length - i ∧ i ≤ s.length ∧ pcs (s.take i) = a ++ [w] ∧ w.length ≤ i ∧ a.length ≤ i ∧
  OutF H.next H' tS 1 (tm 3) (rowsT a) ∧ tm 0 = .str s ∧ tm 4 = .str w ∧ tm 5 = .int .i64 (i : Int)
theorem Lines (s : List UInt8) (hs : s.length ≤ 1000000) (H : AH) : ACall Tryz.prog 43 [.str s] H (fun r H' => H.keepsAll H' ∧ H.next ≤ H'.next ∧ ∃ a w, pcs s = a ++ [w] ∧ OutF H.next H' tS 1 r (rowsT (lnsOf a w))) := by
  refine acall_ok (bodyP_of fits43) fun hok => acall_of fits43 (by simp) ?_
  simp (disch := first | omega | (simp; done) | assumption) [wr64, wrU8, wrU64, Nat.add_assoc, -getElem?_pos, List.getElem?_cons_zero, List.getElem?_cons_succ, ic43, rs43]
  refine iwp_loop (LiI s H) s.length ⟨AH.keepsAll_refl _, Nat.le_refl _, 0, [], [], rfl, by omega, by simp [pcs], by simp, by simp, .inl ⟨rfl, by simp⟩, by simp, by simp, by simp⟩ ?_
  rintro kk tm H1 ⟨hk1, hn1, i, a, w, rfl, hi, hp, hwl, hal, ho, t0, t4, t5⟩
  generalize t3 : tm 3 = v at *
  have hbel : ∀ y o, H.at_ y = some o → y < H.next := fun y o h => hok y o h
  by_cases hlt : i < s.length
  · have hlt' : (i : Int) < (s.length : Int) := by omega
    have hx : s[i]? = some s[i] := List.getElem?_eq_getElem hlt
    have hsn := pcs_snoc s[i] (s.take i) a w hp
    rw [List.take_append_getElem hlt] at hsn
    have htk : (s.take (i + 1)).drop i = [s[i]] := by
      rw [← List.take_append_getElem hlt, List.drop_append_of_le_length (by simp; omega), List.drop_of_length_le (by simp; omega), List.nil_append]
    by_cases hc : s[i] = 10
    · rw [hc] at hx
      rw [if_pos hc, show a ++ [w, []] = (a ++ [w]) ++ [[]] by simp] at hsn
      obtain ⟨v', H', a1, o1, n1, k1⟩ := appendOutF (bytes := 16) (x := [.str w]) ho (allT1 _) (by omega) hn1 rfl rfl (by simp [rowsT]; omega) (by simp [rowsT]; omega)
      rw [show rowsT a ++ [[AV.str w]] = rowsT (a ++ [w]) by simp [rowsT]] at o1
      simp (disch := first | omega | (simp; done) | assumption) [wr64, wrU8, wrU64, Nat.add_assoc, -getElem?_pos, List.getElem?_cons_zero, List.getElem?_cons_succ, t0, t3, t4, t5, hlt, hlt', hx]
      refine Try.intro a1 ?_
      simp (disch := first | omega | (simp; done) | assumption) [wr64, wrU8, wrU64, Nat.add_assoc, -getElem?_pos, List.getElem?_cons_zero, List.getElem?_cons_succ, t0, t3, t4, t5]
      exact ⟨s.length - (i + 1), by omega, fun y o h => k1 y o (hbel y o h) (hk1 y o h), by omega, i + 1, a ++ [w], [], rfl, by omega, hsn, by simp, by simp; omega, by simpa using o1, by simp [t0], by simp, by simp⟩
    · rw [if_neg hc] at hsn
      have hcn : ¬ ((s[i].toNat : Int) = 10) := fun hh => hc (UInt8.toNat_inj.1 (by simp; omega))
      have hcn' : ¬ (s[i].toNat = 10) := fun hh => hcn (by omega)
      have b1 : (i : Int) ≤ (s.length : Int) := by omega
      have b2 : (i : Int) + 1 ≤ (s.length : Int) := by omega
      have b3 : (0 : Int) ≤ (i : Int) + 1 := by omega
      have b4 : ((i : Int) + 1).toNat = i + 1 := by omega
      have b5 : (i : Int) ≤ (i : Int) + 1 := by omega
      have hw9 : w.length + 1 ≤ 9223372036854775807 := by omega
      generalize s[i] = c at *
      simp (disch := first | omega | (simp; done) | assumption) [wr64, wrU8, wrU64, Nat.add_assoc, -getElem?_pos, List.getElem?_cons_zero, List.getElem?_cons_succ, t0, t3, t4, t5, hlt, hlt', hx, hcn, hcn', Abs.bounds, b1, b2, b3, b4, b5, htk, hw9]
      exact ⟨s.length - (i + 1), by omega, hk1, hn1, i + 1, a, w ++ [c], rfl, by omega, hsn, by simp; omega, by omega, by simpa [t3] using ho, by simp [t0], by simp, by simp⟩
  · have hlt' : ¬ (i : Int) < (s.length : Int) := by omega
    rw [List.take_of_length_le (by omega)] at hp
    by_cases hw : w = []
    · subst hw
      simp (disch := first | omega | (simp; done) | assumption) [wr64, wrU8, wrU64, Nat.add_assoc, -getElem?_pos, List.getElem?_cons_zero, List.getElem?_cons_succ, t0, t3, t4, t5, hlt, hlt']
      exact ⟨hk1, hn1, a, [], hp, by simpa [lnsOf] using ho⟩
    · obtain ⟨v', H', a1, o1, n1, k1⟩ := appendOutF (bytes := 16) (x := [.str w]) ho (allT1 _) (by omega) hn1 rfl rfl (by simp [rowsT]; omega) (by simp [rowsT]; omega)
      rw [show rowsT a ++ [[AV.str w]] = rowsT (a ++ [w]) by simp [rowsT]] at o1
      simp (disch := first | omega | (simp; done) | assumption) [wr64, wrU8, wrU64, Nat.add_assoc, -getElem?_pos, List.getElem?_cons_zero, List.getElem?_cons_succ, t0, t3, t4, t5, hlt, hlt', hw]
      refine Try.intro a1 ?_
      simp (disch := first | omega | (simp; done) | assumption) [wr64, wrU8, wrU64, Nat.add_assoc, -getElem?_pos, List.getElem?_cons_zero, List.getElem?_cons_succ, t0, t3, t4, t5]
      exact ⟨fun y o h => k1 y o (hbel y o h) (hk1 y o h), by omega, a, w, hp, by unfold lnsOf; rw [if_neg hw]; exact o1⟩
def RParseP (s : List UInt8) (H : AH) (v : AV) (H' : AH) : Prop := H.keepsAll H' ∧ H.next ≤ H'.next ∧ ∃ vx, v = .tuple [.agg (entC (parseS s).2.2 vx), .int .i64 ((parseS s).2.1 : Int), .int .i64 (parseS s).1] ∧ OutF H.next H' tB 2 vx (rowsB (parseS s).2.2.ex)
def RpI (L : List (List UInt8)) (vl : AV) (B : Nat) (H : AH) (kk : Nat) (tm : Tms) (H' : AH) : Prop := H.keepsAll H' ∧ B ≤ H'.next ∧ ∃ (k : Nat) (e : En), kk = L.length - k ∧ k ≤ L.length ∧ IsE B H' (H.next + 1) e ∧ e.ex.length ≤ 8 ∧ parseL e k (L.drop k) = parseL e0 0 L ∧
  H'.at_ H.next = some (.cells false tEn (entC e0 .snil)) ∧ OutF (H.next + 2) H' tS 1 vl (rowsT L) ∧ (∀ q n, vl = .slice q 0 n 1 → q < B) ∧ tm 2 = .ptr H.next 0 ∧ tm 3 = .int .i64 0 ∧ tm 4 = .int .i64 0 ∧ tm 5 = .ptr (H.next + 1) 0 ∧ tm 6 = vl ∧ tm 7 = .int .i64 (k : Int)
theorem rowT_get {B : Nat} {H : AH} {v : AV} {L : List (List UInt8)} (h : OutF B H tS 1 v (rowsT L)) {k : Nat} (hk : k < L.length) : ∃ q, v = .slice q 0 L.length 1 ∧ loadC H q k none = some (.str L[k]) := by
  rcases h with ⟨h1, _⟩ | ⟨q, h1, h2, h3, _, h5⟩
  · have : L = [] := by simpa [rowsT] using h1
    subst this; simp at hk
  · refine ⟨q, by simpa [rowsT] using h1, ?_⟩
    have := load_flat1 (k := k) (i := 0) h3 (allT1 L) (by simpa [rowsT] using hk) (by omega)
    rw [Nat.mul_one, Nat.add_zero] at this
    rw [this]
    simp [rowsT]
theorem RParse (s : List UInt8) (hs : s.length ≤ 9223372036854775000) (H : AH) : ACall Tryz.prog 20 [.str s] H (RParseP s H) := by
  refine acall_ok (bodyP_of fits20) fun hok => acall_of fits20 (by simp) ?_
  by_cases hl : 2000 < s.length
  · have hl' : (2000 : Int) < (s.length : Int) := by omega
    have hps : parseS s = (2, 0, e0) := by unfold parseS; rw [if_pos hl]
    simp (disch := first | omega | (simp; done) | assumption) [wr64, wrU8, wrU64, Nat.add_assoc, -getElem?_pos, List.getElem?_cons_zero, List.getElem?_cons_succ, ic20, rs20, hl, hl']
    refine ⟨fun x q hx => ?_, by simp, .snil, by rw [hps]; rfl, by rw [hps]; exact .inl ⟨rfl, rfl⟩⟩
    have := hok _ _ hx
    rw [AH.set_ne _ _ (by omega), AH.new_ne _ _ (by omega)]
    exact hx
  have hl' : ¬ (2000 : Int) < (s.length : Int) := by omega
  have hLn := Lines s (by omega)
  simp (disch := first | omega | (simp; done) | assumption) [wr64, wrU8, wrU64, Nat.add_assoc, -getElem?_pos, List.getElem?_cons_zero, List.getElem?_cons_succ, ic20, rs20, hl, hl']
  refine CallW.okof (hLn _) ?_
  rintro vl H2 ⟨hk2, hn2, a, w, hp, ho⟩ hok2
  have b0 := hk2 H.next (.cells false tEn [.str [], .str [], .str [], .snil, .str []]) (by simp)
  have b1 := hk2 (H.next + 1) (.cells false tEn [.str [], .str [], .str [], .snil, .str []]) (by simp)
  have hkH : H.keepsAll H2 := fun x q hx => by
    have := hok _ _ hx
    refine hk2 x q ?_
    simp only [newO_none]
    rw [AH.set_ne _ _ (by omega), AH.new_ne _ _ (by simp; omega), AH.new_ne _ _ (by omega)]
    exact hx
  simp at hn2 ho
  have hpl := parseL_lns a w e0 0
  rw [← hp] at hpl
  have hpm : ∀ l ∈ lnsOf a w, l.length ≤ s.length := fun l hl2 => by
    refine pcs_mem s l ?_
    rw [hp]
    unfold lnsOf at hl2
    split at hl2
    · exact List.mem_append_left _ hl2
    · exact hl2
  have hll : (lnsOf a w).length ≤ 2001 := by
    have h1 := pcs_len s
    rw [hp] at h1
    simp at h1
    unfold lnsOf
    split <;> simp <;> omega
  clear hLn hp hk2
  generalize lnsOf a w = L at *
  have hqB : ∀ q n, vl = .slice q 0 n 1 → q < H2.next := fun q n e => by
    rcases ho with ⟨_, h⟩ | ⟨q', h, _, _, _, h5⟩
    · rw [h] at e; cases e
    · rw [h] at e; injection e with e; omega
  simp (disch := first | omega | (simp; done) | assumption) [wr64, wrU8, wrU64, Nat.add_assoc, -getElem?_pos, List.getElem?_cons_zero, List.getElem?_cons_succ, ]
  refine iwp_loop (RpI L vl H2.next H) L.length ⟨hkH, Nat.le_refl _, 0, e0, rfl, by omega, ⟨.snil, b1, .inl ⟨rfl, rfl⟩⟩, by simp [e0], by simp, b0, ho, hqB, by simp, by simp, by simp, by simp, by simp, by simp⟩ ?_
  rintro kk tm H3 ⟨hk3, hn3, k, e, rfl, hk, hIe, h8, hpar, c0, hol, hqB, t2, t3, t4, t5, t6, t7⟩
  have hlen := hol.lenS
  rw [show (rowsT L).length = L.length by simp [rowsT]] at hlen
  simp only [entC, e0] at c0
  by_cases hlt : k < L.length
  · have hlt' : (k : Int) < (L.length : Int) := by omega
    obtain ⟨q, hq, ld⟩ := rowT_get hol hlt
    have hpl2 := hpm L[k] (List.getElem_mem hlt)
    rw [List.drop_eq_getElem_cons hlt, parseL] at hpar
    have hL := Take hIe (by omega) hn3 h8 L[k] (by omega)
    have hqb := hqB q _ hq
    subst hq
    generalize hp : L[k] = p at *
    by_cases hsk : skipL p = true
    · rw [if_pos hsk] at hpar
      cases p with
      | nil =>
        simp (disch := first | omega | (simp; done) | assumption) [wr64, wrU8, wrU64, Nat.add_assoc, -getElem?_pos, List.getElem?_cons_zero, List.getElem?_cons_succ, -loadC, t2, t3, t4, t5, t6, t7, hlt, hlt', ld]
        exact ⟨L.length - (k + 1), by omega, hk3, hn3, k + 1, e, rfl, by omega, hIe, h8, hpar, c0, hol, hqB, by simp [t2], by simp [t3], by simp [t4], by simp [t5], by simp [t6], by simp⟩
      | cons c l =>
        rw [skip_cons, decide_eq_true_iff] at hsk
        subst hsk
        simp (disch := first | omega | (simp; done) | assumption) [wr64, wrU8, wrU64, Nat.add_assoc, -getElem?_pos, List.getElem?_cons_zero, List.getElem?_cons_succ, -loadC, t2, t3, t4, t5, t6, t7, hlt, hlt', ld]
        exact ⟨L.length - (k + 1), by omega, hk3, hn3, k + 1, e, rfl, by omega, hIe, h8, hpar, c0, hol, hqB, by simp [t2], by simp [t3], by simp [t4], by simp [t5], by simp [t6], by simp⟩
    · rw [if_neg hsk] at hpar
      cases p with
      | nil => exact absurd skip_nil hsk
      | cons c l =>
        rw [skip_cons, decide_eq_true_iff] at hsk
        have hcn : ¬ ((c.toNat : Int) = 35) := fun hh => hsk (UInt8.toNat_inj.1 (by simp; omega))
        have hcn' : ¬ (c.toNat = 35) := fun hh => hcn (by omega)
        simp (disch := first | omega | (simp; done) | assumption) [wr64, wrU8, wrU64, Nat.add_assoc, -getElem?_pos, List.getElem?_cons_zero, List.getElem?_cons_succ, -loadC, t2, t3, t4, t5, t6, t7, hlt, hlt', ld, hcn, hcn']
        refine CallW.okof hL ?_
        rintro v H4 ⟨hkx, hnx, hv⟩ hok4
        try simp only [newO_none] at hkx hnx hv
        have c4 := hkx _ _ (by omega) (by omega) c0
        have hk4 : H.keepsAll H4 := fun x q hx => by
          have := hok _ _ hx
          exact hkx _ _ (by omega) (by omega) (hk3 _ _ hx)
        have hol4 : OutF (H.next + 2) H4 tS 1 (.slice q 0 L.length 1) (rowsT L) := by
          rcases hol with ⟨h1, h2⟩ | ⟨q', h0, h1, h2, h3, h4⟩
          · exact .inl ⟨h1, h2⟩
          · have : q = q' := by injection h0
            subst this
            exact .inr ⟨q, h0, h1, hkx _ _ hqb (by omega) h2, h3, by omega⟩
        cases hle : lineE e (c :: l) with
        | some e' =>
          rw [hle] at hv hpar
          obtain ⟨rfl, hI⟩ := hv
          simp (disch := first | omega | (simp; done) | assumption) [wr64, wrU8, wrU64, Nat.add_assoc, -getElem?_pos, List.getElem?_cons_zero, List.getElem?_cons_succ, t2, t3, t4, t5, t6, t7]
          exact ⟨L.length - (k + 1), by omega, hk4, by omega, k + 1, e', rfl, by omega, hI, lineE_len hle h8, hpar, c4, hol4, hqB, by simp [t2], by simp [t3], by simp [t4], by simp [t5], by simp [t6], by simp⟩
        | none =>
          rw [hle] at hv hpar
          subst hv
          have hps : parseS s = (30, k + 1, e0) := by unfold parseS; rw [if_neg hl, ← hpl, ← hpar]
          simp (disch := first | omega | (simp; done) | assumption) [wr64, wrU8, wrU64, Nat.add_assoc, -getElem?_pos, List.getElem?_cons_zero, List.getElem?_cons_succ, t2, t3, t4, t5, t6, t7, c4, rs20]
          refine ⟨fun x q hx => ?_, by show H.next ≤ H4.next; omega, .snil, by rw [hps]; simp [entC, e0], by rw [hps]; exact .inl ⟨rfl, rfl⟩⟩
          have := hok _ _ hx
          rw [AH.set_ne _ _ (by omega)]
          exact hk4 _ _ hx
  · have hlt' : ¬ (k : Int) < (L.length : Int) := by omega
    rw [List.drop_of_length_le (by omega), parseL] at hpar
    obtain ⟨vx, hc, hox⟩ := hIe
    simp only [entC] at hc
    have hbad : (e.ver = [] ∨ e.kn = []) → parseS s = (30, 0, e0) := fun h => by unfold parseS; rw [if_neg hl, ← hpl, ← hpar]; exact if_pos h
    have hgood : ¬ (e.ver = [] ∨ e.kn = []) → parseS s = (0, 0, e) := fun h => by unfold parseS; rw [if_neg hl, ← hpl, ← hpar]; exact if_neg h
    have kset : ∀ o, H.keepsAll (H3.set H.next o) := fun o x q hx => by
      have := hok _ _ hx
      rw [AH.set_ne _ _ (by omega)]
      exact hk3 _ _ hx
    by_cases hv : e.ver = []
    · rw [hv] at hc
      have hps := hbad (.inl hv)
      simp (disch := first | omega | (simp; done) | assumption) [wr64, wrU8, wrU64, Nat.add_assoc, -getElem?_pos, List.getElem?_cons_zero, List.getElem?_cons_succ, t2, t3, t4, t5, t6, t7, hlen, hlt, hlt', hc, c0, rs20]
      exact ⟨kset _, by show H.next ≤ H3.next; omega, .snil, by rw [hps]; simp [entC, e0], by rw [hps]; exact .inl ⟨rfl, rfl⟩⟩
    by_cases hkn : e.kn = []
    · rw [hkn] at hc
      have hps := hbad (.inr hkn)
      simp (disch := first | omega | (simp; done) | assumption) [wr64, wrU8, wrU64, Nat.add_assoc, -getElem?_pos, List.getElem?_cons_zero, List.getElem?_cons_succ, t2, t3, t4, t5, t6, t7, hlen, hlt, hlt', hc, c0, hv, rs20]
      exact ⟨kset _, by show H.next ≤ H3.next; omega, .snil, by rw [hps]; simp [entC, e0], by rw [hps]; exact .inl ⟨rfl, rfl⟩⟩
    have hps := hgood (fun h => h.elim hv hkn)
    obtain ⟨hvx1, hvx2⟩ : vx.cells = [vx] ∧ vx.one = true := by
      rcases hox with ⟨_, rfl⟩ | ⟨q, rfl, _⟩ <;> exact ⟨rfl, rfl⟩
    simp (disch := first | omega | (simp; done) | assumption) [wr64, wrU8, wrU64, Nat.add_assoc, -getElem?_pos, List.getElem?_cons_zero, List.getElem?_cons_succ, t2, t3, t4, t5, t6, t7, hlen, hlt, hlt', hc, c0, hv, hkn, hvx1, hvx2, rs20]
    exact ⟨kset _, by show H.next ≤ H3.next; omega, vx, by rw [hps]; simp [entC], by rw [hps]; exact outF_base (outF_set hox (by omega) _) (by omega)⟩
end Go.Proofs.YtkehijlgbfjmkaaGreatDoor.KW

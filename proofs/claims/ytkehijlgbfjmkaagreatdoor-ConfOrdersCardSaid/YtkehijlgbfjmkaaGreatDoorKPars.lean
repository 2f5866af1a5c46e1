/- conf.Parse. No condition. -/
import Derived.Test.YtkehijlgbfjmkaaGreatDoorKS
import Derived.Test.YtkehijlgbfjmkaaGreatDoorDItoa
set_option linter.unusedVariables false
set_option linter.unusedSimpArgs false
set_option maxRecDepth 10000
set_option maxHeartbeats 4000000
namespace Go.Proofs.YtkehijlgbfjmkaaGreatDoor.KW
open Go Go.RowKit Go.Proofs.YtkehijlgbfjmkaaGreatDoor Go.Proofs.YtkehijlgbfjmkaaGreatDoor.Abs Go.Proofs.YtkehijlgbfjmkaaGreatDoor.Ic Go.Proofs.YtkehijlgbfjmkaaGreatDoor.St Go.Proofs.YtkehijlgbfjmkaaGreatDoor.EAs Go.Proofs.YtkehijlgbfjmkaaGreatDoor.EErr
def skipL (l : List UInt8) : Bool := decide (l = []) || decide (l.head? = some 35)
/-- The first line that is wrong, and what the lines ahead of it say. -/
def parseL : En → Nat → List (List UInt8) → Option Nat × En
  | e, n, [] => (none, e)
  | e, n, l :: ls => if skipL l = true then parseL e (n + 1) ls else match lineE e l with
    | some e' => parseL e' (n + 1) ls
    | none => (some (n + 1), e)
/-- A text's entry: the error's number, its line, the entry. -/
def parseS (s : List UInt8) : Int × Nat × En := if 2000 < s.length then (2, 0, e0) else match parseL e0 0 (pcs s) with
  | (some k, _) => (30, k, e0)
  | (none, e) => if e.ver = [] ∨ e.kn = [] then (30, 0, e0) else (0, 0, e)
def confB : List UInt8 := [99, 111, 110, 102]
def ErrQ (H : AH) (err : AV) (code : Int) (at_ : Nat) : Prop := if code = 0 then err = .nilIface else ∃ g : Fl, g.op = confB ∧ g.name = (if code = 30 then Lib.itoa (at_ : Int) else []) ∧ err = .iface EErr.tF (.ptr g.b 0) ∧ Chain H err [g] (some code)
def ParseP (s : List UInt8) (H : AH) (v : AV) (H' : AH) : Prop := H.keepsAll H' ∧ H.next ≤ H'.next ∧ ∃ vx err, v = .tuple [.agg (entC (parseS s).2.2 vx), err] ∧ OutF H.next H' tB 2 vx (rowsB (parseS s).2.2.ex) ∧ ErrQ H' err (parseS s).1 (parseS s).2.1
theorem lineE_len {e e' : En} {s : List UInt8} (h : lineE e s = some e') (h8 : e.ex.length ≤ 8) : e'.ex.length ≤ 8 := by
  unfold lineE at h
  simp only [] at h
  split at h
  · split at h
    · cases h; exact h8
    · cases h
  split at h
  · split at h
    · cases h; exact h8
    · cases h
  split at h
  · split at h
    · cases h; exact h8
    · cases h
  split at h
  · split at h
    · rename_i hh
      cases h
      simp
      omega
    · cases h
  · cases h
theorem pcs_len : ∀ s : List UInt8, (pcs s).length ≤ s.length + 1
  | [] => by simp [pcs]
  | c :: l => by
    have := pcs_len l
    rw [pcs_cons]
    split
    · simp; omega
    · split
      · rename_i h; rw [h] at this; simp at this ⊢; omega
      · simp
theorem pcs_mem : ∀ (s : List UInt8) (p : List UInt8), p ∈ pcs s → p.length ≤ s.length
  | [], p, h => by simp [pcs] at h; subst h; simp
  | c :: l, p, h => by
    have ih := pcs_mem l
    rw [pcs_cons] at h
    split at h
    · rcases List.mem_cons.1 h with rfl | h
      · simp
      · have := ih p h; simp; omega
    · split at h
      · rename_i q qs hq
        rcases List.mem_cons.1 h with rfl | h
        · have := ih q (by rw [hq]; simp); simp; omega
        · have := ih p (by rw [hq]; simp [h]); simp; omega
      · simp at h; subst h; simp
/-- Between two lines: k are done, e is what they say (but for the loop's record). -/
structure PsJ (s : List UInt8) (H : AH) (k : Nat) (r : List UInt8) (e : En) (H' : AH) : Prop where
  r4 : H'.at_ (H.next + 4) = some (.cells false 9 [.str r])
  r5 : H'.at_ (H.next + 5) = some (.cells false 9 [.str [10]])
  r6 : H'.at_ (H.next + 6) = some (.cells false 3 [.int .i64 0])
  r3 : H'.at_ (H.next + 3) = some (.cells false 3 [.int .i64 (k : Int)])
  r0 : H'.at_ H.next = some (.cells false tEn (entC e0 .snil))
  r1 : H'.at_ (H.next + 1) = some (.cells false 30 [.nilIface])
  keeps : H.keepsAll H'
  next : H.next + 8 ≤ H'.next
  isE : IsE (H.next + 8) H' (H.next + 2) e
  len8 : e.ex.length ≤ 8
  par : parseL e k ((pcs s).drop k) = parseL e0 0 (pcs s)
theorem PsJ.set7 {s : List UInt8} {H : AH} (hok : H.ok) {k : Nat} {r : List UInt8} {e : En} {H' : AH} (h : PsJ s H k r e H') (o : Option AObj) : PsJ s H k r e (H'.set (H.next + 7) o) := by
  obtain ⟨vx, h1, h2⟩ := h.isE
  refine ⟨?_, ?_, ?_, ?_, ?_, ?_, fun x q hx => ?_, h.next, ⟨vx, ?_, outF_set h2 (by omega) _⟩, h.len8, h.par⟩
  · rw [AH.set_ne _ _ (by omega)]; exact h.r4
  · rw [AH.set_ne _ _ (by omega)]; exact h.r5
  · rw [AH.set_ne _ _ (by omega)]; exact h.r6
  · rw [AH.set_ne _ _ (by omega)]; exact h.r3
  · rw [AH.set_ne _ _ (by omega)]; exact h.r0
  · rw [AH.set_ne _ _ (by omega)]; exact h.r1
  · have := hok _ _ hx
    rw [AH.set_ne _ _ (by omega)]; exact h.keeps x q hx
  · rw [AH.set_ne _ _ (by omega)]; exact h1
theorem PsJ.set4 {s : List UInt8} {H : AH} (hok : H.ok) {k : Nat} {r r' : List UInt8} {e : En} {H' : AH} (h : PsJ s H k r e H') : PsJ s H k r' e (H'.set (H.next + 4) (some (.cells false 9 [.str r']))) := by
  obtain ⟨vx, h1, h2⟩ := h.isE
  refine ⟨AH.set_same _ _ _, ?_, ?_, ?_, ?_, ?_, fun x q hx => ?_, h.next, ⟨vx, ?_, outF_set h2 (by omega) _⟩, h.len8, h.par⟩
  · rw [AH.set_ne _ _ (by omega)]; exact h.r5
  · rw [AH.set_ne _ _ (by omega)]; exact h.r6
  · rw [AH.set_ne _ _ (by omega)]; exact h.r3
  · rw [AH.set_ne _ _ (by omega)]; exact h.r0
  · rw [AH.set_ne _ _ (by omega)]; exact h.r1
  · have := hok _ _ hx
    rw [AH.set_ne _ _ (by omega)]; exact h.keeps x q hx
  · rw [AH.set_ne _ _ (by omega)]; exact h1
/-- One line more: its number is laid down. -/
theorem PsJ.set3 {s : List UInt8} {H : AH} (hok : H.ok) {k : Nat} {r : List UInt8} {e : En} {H' : AH} (h : PsJ s H k r e H') (hp : parseL e (k + 1) ((pcs s).drop (k + 1)) = parseL e0 0 (pcs s)) : PsJ s H (k + 1) r e (H'.set (H.next + 3) (some (.cells false 3 [.int .i64 ((k : Int) + 1)]))) := by
  obtain ⟨vx, h1, h2⟩ := h.isE
  refine ⟨?_, ?_, ?_, by rw [AH.set_same]; simp, ?_, ?_, fun x q hx => ?_, h.next, ⟨vx, ?_, outF_set h2 (by omega) _⟩, h.len8, hp⟩
  · rw [AH.set_ne _ _ (by omega)]; exact h.r4
  · rw [AH.set_ne _ _ (by omega)]; exact h.r5
  · rw [AH.set_ne _ _ (by omega)]; exact h.r6
  · rw [AH.set_ne _ _ (by omega)]; exact h.r0
  · rw [AH.set_ne _ _ (by omega)]; exact h.r1
  · have := hok _ _ hx
    rw [AH.set_ne _ _ (by omega)]; exact h.keeps x q hx
  · rw [AH.set_ne _ _ (by omega)]; exact h1
theorem PsJ.kbx {s : List UInt8} {H : AH} (hok : H.ok) {k : Nat} {r : List UInt8} {e : En} {H' H2 : AH} (h4 : H'.at_ (H.next + 4) = some (.cells false 9 [.str r])) (h5 : H'.at_ (H.next + 5) = some (.cells false 9 [.str [10]])) (h6 : H'.at_ (H.next + 6) = some (.cells false 3 [.int .i64 0])) (h3 : H'.at_ (H.next + 3) = some (.cells false 3 [.int .i64 (k : Int)]))
    (h0 : H'.at_ H.next = some (.cells false tEn (entC e0 .snil))) (h1 : H'.at_ (H.next + 1) = some (.cells false 30 [.nilIface])) (hk : H.keepsAll H') (hn : H.next + 8 ≤ H'.next)
    (hx : KBx (H.next + 2) (H.next + 8) H' H2) (hxn : H'.next ≤ H2.next) (he : IsE (H.next + 8) H2 (H.next + 2) e) (h8 : e.ex.length ≤ 8) (hp : parseL e k ((pcs s).drop k) = parseL e0 0 (pcs s)) : PsJ s H k r e H2 :=
  ⟨hx _ _ (by omega) (by omega) h4, hx _ _ (by omega) (by omega) h5, hx _ _ (by omega) (by omega) h6, hx _ _ (by omega) (by omega) h3, hx _ _ (by omega) (by omega) h0, hx _ _ (by omega) (by omega) h1,
    fun x q hq => by have := hok _ _ hq; exact hx _ _ (by omega) (by omega) (hk x q hq), by omega, he, h8, hp⟩
def PsI (s : List UInt8) (o : Option IEx → AObj) (H : AH) (k : Nat) (r : List UInt8) (H' : AH) : Prop := H'.at_ (H.next + 7) = some (o none) ∧ ∃ e, PsJ s H k r e H'
theorem ENewD (op name : List UInt8) {n : Int} (hn : n ≠ 0) (H : AH) :
    ACall Tryz.prog 29 [.str op, .str name, .int .i64 n] H (fun v H' => H.keepsAll H' ∧ H'.next = H.next + 1 ∧ ∃ f : Fl, f.b = H.next ∧ f.op = op ∧ f.name = name ∧ v = .iface EErr.tF (.ptr f.b 0) ∧ Chain H' v [f] (some n)) :=
  acall_ok (ENew op name n H).1 fun hok => (ENew op name n H).mono fun v H' h => by
    rw [if_neg hn] at h
    obtain ⟨rfl, rfl⟩ := h
    exact ⟨keeps_new hok (AH.keepsAll_refl _) (Nat.le_refl _), by simp, ⟨H.next, op, name⟩, rfl, rfl, rfl, rfl, Chain.wrap hok (.num n)⟩
theorem load_set_ne {H : AH} {b c o : Nat} {n : Option Nat} {q : Option AObj} (h : b ≠ c) : loadC (H.set c q) b o n = loadC H b o n := by
  cases n <;> (unfold loadC; rw [AH.set_ne _ _ h])
theorem chain1_set {H : AH} {e : AV} {f : Fl} {n : Int} (h : Chain H e [f] (some n)) {c : Nat} (hc : f.b ≠ c) (q : Option AObj) : Chain (H.set c q) e [f] (some n) := by
  cases h with
  | fault h0 h1 h2 h3 =>
    cases h3 with
    | num => exact .fault (by rw [load_set_ne hc]; exact h0) (by rw [load_set_ne hc]; exact h1) (by rw [load_set_ne hc]; exact h2) (.num _)
theorem ClipB {B : Nat} {H : AH} {v : AV} {L : List (List AV)} (h : OutF B H tB 2 v L) : ACall Tryz.prog 35 [v] H (fun r H' => r = v ∧ H' = H) := by
  have hl := h.lenS
  refine acall_of fits35 (by simp) ?_
  simp (disch := first | omega | (simp; done) | assumption) [wr64, wrU8, wrU64, Nat.add_assoc, -getElem?_pos, List.getElem?_cons_zero, List.getElem?_cons_succ, ic35, rs35, hl]
  rcases h with ⟨rfl, rfl⟩ | ⟨q, rfl, hne, _⟩
  · simp (disch := first | omega | (simp; done) | assumption) [wr64, wrU8, wrU64, Nat.add_assoc, -getElem?_pos, List.getElem?_cons_zero, List.getElem?_cons_succ, slcA, Abs.bounds]
  · have h0 : ¬ L.length = 0 := fun e => hne (List.eq_nil_of_length_eq_zero e)
    have h0' : L ≠ [] := hne
    simp (disch := first | omega | (simp; done) | assumption) [wr64, wrU8, wrU64, Nat.add_assoc, -getElem?_pos, List.getElem?_cons_zero, List.getElem?_cons_succ, slcA, Abs.bounds, h0, h0']
theorem outF_base {B B' : Nat} {H : AH} {t : TypeId} {sz : Nat} {v : AV} {L : List (List AV)} (h : OutF B H t sz v L) (hb : B' ≤ B) : OutF B' H t sz v L := by
  rcases h with h | ⟨q, h0, h1, h2, h3, h4⟩
  · exact .inl h
  · exact .inr ⟨q, h0, h1, h2, by omega, h4⟩
theorem outF_keeps {B : Nat} {H H1 : AH} {t : TypeId} {sz : Nat} {v : AV} {L : List (List AV)} (h : OutF B H t sz v L) (hk : H.keepsAll H1) (hn : H.next ≤ H1.next) : OutF B H1 t sz v L := h.keeps hk hn
theorem iwp_any {P : Program} {C : ICode} {Q : IPost} {tm : Tms} {H : AH} (R : Tms → Prop) (h0 : R tm) (h : ∀ tm, R tm → IWP P C Q tm H) : IWP P C Q tm H := h tm h0
theorem skip_nil : skipL [] = true := rfl
theorem skip_cons (c : UInt8) (l : List UInt8) : skipL (c :: l) = decide (c = 35) := by simp [skipL]
theorem Parse (s : List UInt8) (hs : s.length ≤ 9223372036854775000) (H : AH) (hT : H.at_ 4 = some powTab) : ACall Tryz.prog 16 [.str s] H (ParseP s H) := by
  refine acall_ok (bodyP_of fits16) fun hok => acall_of fits16 (by simp) ?_
  by_cases hl : 2000 < s.length
  · have hl' : (2000 : Int) < (s.length : Int) := by omega
    have hps : parseS s = (2, 0, e0) := by unfold parseS; rw [if_pos hl]
    have hN := ENewD confB [] (n := 2) (by omega)
    simp only [confB] at hN
    simp (disch := first | omega | (simp; done) | assumption) [wr64, wrU8, wrU64, Nat.add_assoc, -getElem?_pos, List.getElem?_cons_zero, List.getElem?_cons_succ, ic16, rs16, hl, hl']
    refine CallW.ofk (hN _) ?_
    rintro v H2 ⟨hk, hn, g, gb, g1, g2, rfl, hch⟩ hok2
    have b0 := hk H.next (.cells false tEn [.str [], .str [], .str [], .snil, .str []]) (by simp)
    have b1 := hk (H.next + 1) (.cells false 30 [.nilIface]) (by simp)
    try simp only [newO_some, newO_none] at hk hn
    simp at hn
    have hkH : H.keepsAll H2 := fun x q hx => by
      have := hok _ _ hx
      exact hk x q (by rw [AH.new_ne _ _ (by simp; omega), AH.new_ne _ _ (by omega)]; exact hx)
    have hgb : g.b = H.next + 2 := by rw [gb]; simp
    have c1 := chain1_set (chain1_set hch (c := H.next) (by omega) (some (.cells false tEn [.str [], .str [], .str [], .snil, .str []]))) (c := H.next + 1) (by omega) (some (.cells false 30 [.iface EErr.tF (.ptr g.b 0)]))
    simp (disch := first | omega | (simp; done) | assumption) [wr64, wrU8, wrU64, Nat.add_assoc, -getElem?_pos, List.getElem?_cons_zero, List.getElem?_cons_succ, b0, b1]
    refine ⟨fun x q hx => ?_, by show H.next ≤ H2.next; omega, ?_⟩
    · have := hok _ _ hx
      rw [AH.set_ne _ _ (by omega), AH.set_ne _ _ (by omega)]
      exact hkH _ _ hx
    · rw [hps]
      refine ⟨.snil, _, rfl, .inl ⟨rfl, rfl⟩, ?_⟩
      unfold ErrQ
      rw [if_neg (by omega)]
      exact ⟨g, g1, by rw [if_neg (by omega), g2], rfl, c1⟩
  have hl' : ¬ (2000 : Int) < (s.length : Int) := by omega
  have hSp := SplitSeq s 10
  have hpl := pcs_len s
  have hpm := pcs_mem s
  simp (disch := first | omega | (simp; done) | assumption) [wr64, wrU8, wrU64, Nat.add_assoc, -getElem?_pos, List.getElem?_cons_zero, List.getElem?_cons_succ, ic16, rs16, hl, hl']
  refine CallW.of (hSp _) ?_
  rintro v H2 ⟨rfl, hH2⟩
  have n2 : H2.next = H.next + 7 := by rw [hH2]; simp
  have a0 : H2.at_ H.next = some (.cells false tEn (entC e0 .snil)) := by rw [hH2]; simp [entC, e0]; repeat' (first | omega | (rw [if_neg (by omega)]) | rfl)
  have a1 : H2.at_ (H.next + 1) = some (.cells false 30 [.nilIface]) := by rw [hH2]; simp
  have a2 : H2.at_ (H.next + 2) = some (.cells false tEn (entC e0 .snil)) := by rw [hH2]; simp [entC, e0]
  have a3 : H2.at_ (H.next + 3) = some (.cells false 3 [.int .i64 0]) := by rw [hH2]; simp
  have a4 : H2.at_ (H.next + 4) = some (.cells false 9 [.str s]) := by rw [hH2]; simp
  have a5 : H2.at_ (H.next + 5) = some (.cells false 9 [.str [10]]) := by rw [hH2]; simp
  have a6 : H2.at_ (H.next + 6) = some (.cells false 3 [.int .i64 0]) := by rw [hH2]; simp
  have ak : H.keepsAll H2 := fun x q hx => by
    have := hok _ _ hx
    rw [hH2]
    simp only [newO_none]
    rw [AH.new_ne _ _ (by simp; omega), AH.new_ne _ _ (by simp; omega), AH.new_ne _ _ (by simp; omega), AH.set_ne _ _ (by omega), AH.new_ne _ _ (by simp; omega), AH.new_ne _ _ (by simp; omega), AH.new_ne _ _ (by simp; omega), AH.new_ne _ _ (by omega)]
    exact hx
  clear hH2
  simp (disch := first | omega | (simp; done) | assumption) [wr64, wrU8, wrU64, Nat.add_assoc, -getElem?_pos, List.getElem?_cons_zero, List.getElem?_cons_succ, ]
  refine iwp_any (fun tm => tm 2 = .ptr H.next 0 ∧ tm 3 = .ptr (H.next + 1) 0 ∧ tm 4 = .ptr (H.next + 2) 0 ∧ tm 5 = .ptr (H.next + 3) 0 ∧ tm 13 = .func (.func 71) [] [.ptr (H.next + 5) 0, .ptr (H.next + 4) 0, .ptr (H.next + 6) 0]) ⟨by simp, by simp, by simp, by simp, by simp⟩ ?_
  rintro tm ⟨t2, t3, t4, t5, t13⟩
  refine iwp_rangeF (f := 71) (first := []) (captured := [.ptr (H.next + 5) 0, .ptr (H.next + 4) 0, .ptr (H.next + 6) 0]) (by rw [ev_tmp]; exact t13) ?_
  intro o ho hY
  rw [n2] at hY ⊢
  refine SplitIter (s := s) (PsI s o H) (fun H' => H'.at_ (H.next + 7) = some (o (some .ret)) ∧ fnPost rs16 (ParseP s H) .ret tm (H'.set (H.next + 7) none)) _ (by omega) ?_ ?_ ?_ ?_ ?_ ?_
  · rintro k r H' ⟨_, e, h⟩
    exact ⟨h.r4, h.r5, h.r6⟩
  · rintro k r r' H' ⟨h7, e, h⟩
    exact ⟨by rw [AH.set_ne _ _ (by omega)]; exact h7, e, h.set4 hok⟩
  · rintro k r H' p ⟨h7, e, hJ⟩ hpk
    refine hY H' [.str p] _ h7 rfl ?_
    have hklt := (List.getElem?_eq_some_iff.1 hpk).1
    have hdrop : (pcs s).drop k = p :: (pcs s).drop (k + 1) := by
      rw [List.drop_eq_getElem_cons hklt]
      congr 1
      exact (List.getElem?_eq_some_iff.1 hpk).2
    have hplen := hpm p (List.mem_of_getElem? hpk)
    have hJr := hJ.set7 hok none
    have hpar := hJ.par
    rw [hdrop, parseL] at hpar
    generalize H'.set (H.next + 7) none = Hr at *
    have r3 := hJr.r3
    have hkb : (k : Int) < 9223372036854775806 := by omega
    have fin : ∀ e' Hx, PsJ s H (k + 1) r e' Hx → PsI s o H (k + 1) r (Hx.set (H.next + 7) (some (o none))) := fun e' Hx h => ⟨AH.set_same _ _ _, e', h.set7 hok _⟩
    by_cases hsk : skipL p = true
    · rw [if_pos hsk] at hpar
      have hJ2 := fin _ _ (hJr.set3 hok hpar)
      cases p with
      | nil =>
        simp (disch := first | omega | (simp; done) | assumption) [wr64, wrU8, wrU64, Nat.add_assoc, -getElem?_pos, List.getElem?_cons_zero, List.getElem?_cons_succ, updl, t2, t3, t4, t5, r3, IPost.round, IPost.none]
        exact hJ2
      | cons c l =>
        rw [skip_cons, decide_eq_true_iff] at hsk
        subst hsk
        simp (disch := first | omega | (simp; done) | assumption) [wr64, wrU8, wrU64, Nat.add_assoc, -getElem?_pos, List.getElem?_cons_zero, List.getElem?_cons_succ, updl, t2, t3, t4, t5, r3, IPost.round, IPost.none]
        exact hJ2
    · rw [if_neg hsk] at hpar
      cases p with
      | nil => exact absurd skip_nil hsk
      | cons c l =>
        rw [skip_cons, decide_eq_true_iff] at hsk
        have hcn : ¬ ((c.toNat : Int) = 35) := fun hh => hsk (UInt8.toNat_inj.1 (by simp; omega))
        have hcn' : ¬ (c.toNat = 35) := fun hh => hcn (by omega)
        have hI3 : IsE (H.next + 8) (Hr.set (H.next + 3) (some (.cells false 3 [.int .i64 ((k : Int) + 1)]))) (H.next + 2) e := by
          obtain ⟨vx, h1, h2⟩ := hJr.isE
          exact ⟨vx, by rw [AH.set_ne _ _ (by omega)]; exact h1, outF_set h2 (by omega) _⟩
        have hL := Line hI3 (by omega) (by exact hJr.next) hJr.len8 (c :: l) (by omega)
        have hkx0 : ∀ y o, y < H.next + 8 → y ≠ H.next + 3 → Hr.at_ y = some o → (Hr.set (H.next + 3) (some (.cells false 3 [.int .i64 ((k : Int) + 1)]))).at_ y = some o := fun y o _ h2 h3 => by rw [AH.set_ne _ _ h2]; exact h3
        have hs3 : (Hr.set (H.next + 3) (some (.cells false 3 [.int .i64 ((k : Int) + 1)]))).at_ (H.next + 3) = some (.cells false 3 [.int .i64 ((k + 1 : Nat) : Int)]) := by rw [AH.set_same]; simp
        have hkeep : H.keepsAll (Hr.set (H.next + 3) (some (.cells false 3 [.int .i64 ((k : Int) + 1)]))) := fun x q hx => by
          have := hok _ _ hx
          rw [AH.set_ne _ _ (by omega)]; exact hJr.keeps x q hx
        simp (disch := first | omega | (simp; done) | assumption) [wr64, wrU8, wrU64, Nat.add_assoc, -getElem?_pos, List.getElem?_cons_zero, List.getElem?_cons_succ, updl, t2, t3, t4, t5, r3, hcn, hcn', IPost.round, IPost.none]
        refine CallW.ofk hL ?_
        rintro v H3 ⟨hkx, hnx, hv⟩ hok3
        have hnH : Hr.next ≤ H3.next := hnx
        cases hle : lineE e (c :: l) with
        | some e' =>
          rw [hle] at hv hpar
          obtain ⟨rfl, hI⟩ := hv
          have hJ2 := fin e' H3 (PsJ.kbx hok (hkx0 _ _ (by omega) (by omega) hJr.r4) (hkx0 _ _ (by omega) (by omega) hJr.r5) (hkx0 _ _ (by omega) (by omega) hJr.r6) hs3 (hkx0 _ _ (by omega) (by omega) hJr.r0) (hkx0 _ _ (by omega) (by omega) hJr.r1) hkeep hJr.next hkx hnx hI (lineE_len hle hJr.len8) hpar)
          simp (disch := first | omega | (simp; done) | assumption) [wr64, wrU8, wrU64, Nat.add_assoc, -getElem?_pos, List.getElem?_cons_zero, List.getElem?_cons_succ, updl, t2, t3, t4, t5, IPost.round, IPost.none]
          exact hJ2
        | none =>
          rw [hle] at hv hpar
          subst hv
          have hps : parseS s = (30, k + 1, e0) := by unfold parseS; rw [if_neg hl, ← hpar]
          have q3 := hkx _ _ (by omega) (by omega) hs3
          have q0 := hkx _ _ (by omega) (by omega) (hkx0 _ _ (by omega) (by omega) hJr.r0)
          have q1 := hkx _ _ (by omega) (by omega) (hkx0 _ _ (by omega) (by omega) hJr.r1)
          have hk3 : H.keepsAll H3 := fun x q hx => by
            have := hok _ _ hx
            exact hkx _ _ (by omega) (by omega) (hkeep x q hx)
          have hIt := itoaAny ((k : Int) + 1) H3 (.inr ⟨hk3 _ _ hT, by omega, by omega⟩)
          have hN := ENewD confB (Lib.itoa ((k : Int) + 1)) (n := 30) (by omega)
          simp only [confB] at hN
          simp only [entC, e0] at q0
          simp (disch := first | omega | (simp; done) | assumption) [wr64, wrU8, wrU64, Nat.add_assoc, -getElem?_pos, List.getElem?_cons_zero, List.getElem?_cons_succ, updl, t2, t3, t4, t5, q3, IPost.round, IPost.none]
          refine CallW.val hIt ?_
          simp (disch := first | omega | (simp; done) | assumption) [wr64, wrU8, wrU64, Nat.add_assoc, -getElem?_pos, List.getElem?_cons_zero, List.getElem?_cons_succ, updl, t2, t3, t4, t5, q3, IPost.round, IPost.none]
          refine CallW.ofk (hN _) ?_
          rintro v H4 ⟨hk4, hn4, g, gb, g1, g2, rfl, hch⟩ hok4
          try simp only [newO_none] at hk4 hn4 gb
          have hJn := hJr.next
          have w0 := hk4 _ _ q0
          have w1 := hk4 _ _ q1
          simp (disch := first | omega | (simp; done) | assumption) [wr64, wrU8, wrU64, Nat.add_assoc, -getElem?_pos, List.getElem?_cons_zero, List.getElem?_cons_succ, updl, t2, t3, t4, t5, w0, w1, IPost.round, IPost.none]
          simp (disch := first | omega | (simp; done) | assumption) [wr64, wrU8, wrU64, Nat.add_assoc, -getElem?_pos, List.getElem?_cons_zero, List.getElem?_cons_succ, t2, t3, rs16]
          have c1 := chain1_set (chain1_set (chain1_set (chain1_set hch (c := H.next) (by omega) (some (.cells false tEn [.str [], .str [], .str [], .snil, .str []]))) (c := H.next + 1) (by omega) (some (.cells false 30 [.iface EErr.tF (.ptr g.b 0)]))) (c := H.next + 7) (by omega) (some (o (some .ret)))) (c := H.next + 7) (by omega) none
          refine ⟨fun x q hx => ?_, by show H.next ≤ H4.next; omega, ?_⟩
          · have := hok _ _ hx
            rw [AH.set_ne _ _ (by omega), AH.set_ne _ _ (by omega), AH.set_ne _ _ (by omega), AH.set_ne _ _ (by omega)]
            exact hk4 _ _ (hk3 _ _ hx)
          · rw [hps]
            refine ⟨.snil, _, rfl, .inl ⟨rfl, rfl⟩, ?_⟩
            unfold ErrQ
            rw [if_neg (by omega)]
            exact ⟨g, g1, by rw [if_pos rfl, g2]; simp, rfl, c1⟩
  · rintro r H' ⟨h7, e, hJ⟩
    refine ⟨none, h7, ?_⟩
    have hJs := hJ.set7 hok none
    have hpar := hJ.par
    rw [List.drop_of_length_le (Nat.le_refl _), parseL] at hpar
    generalize H'.set (H.next + 7) none = Hs at *
    have q0 := hJs.r0
    have q1 := hJs.r1
    have hks := hJs.keeps
    have hns := hJs.next
    obtain ⟨vx, hc, ho⟩ := hJs.isE
    simp only [entC] at hc q0
    have hbad : (e.ver = [] ∨ e.kn = []) → parseS s = (30, 0, e0) := fun h => by unfold parseS; rw [if_neg hl, ← hpar]; exact if_pos h
    have hgood : ¬ (e.ver = [] ∨ e.kn = []) → parseS s = (0, 0, e) := fun h => by unfold parseS; rw [if_neg hl, ← hpar]; exact if_neg h
    have hN := ENewD confB [48] (n := 30) (by omega)
    simp only [confB] at hN
    have hCl := ClipB ho
    have bad : ∀ (H4 : AH) (g : Fl), Hs.keepsAll H4 → H4.next = Hs.next + 1 → g.b = Hs.next → g.op = [99, 111, 110, 102] → g.name = [48] → Chain H4 (.iface EErr.tF (.ptr g.b 0)) [g] (some 30) → parseS s = (30, 0, e0) →
        ParseP s H (.tuple [.agg [.str [], .str [], .str [], .snil, .str []], .iface EErr.tF (.ptr g.b 0)]) ((H4.set H.next (some (.cells false tEn [.str [], .str [], .str [], .snil, .str []]))).set (H.next + 1) (some (.cells false 30 [.iface EErr.tF (.ptr g.b 0)]))) := fun H4 g k1 k2 k3 k4 k5 k6 k7 => by
      have c1 := chain1_set (chain1_set k6 (c := H.next) (by omega) (some (.cells false tEn [.str [], .str [], .str [], .snil, .str []]))) (c := H.next + 1) (by omega) (some (.cells false 30 [.iface EErr.tF (.ptr g.b 0)]))
      refine ⟨fun x q hx => ?_, by show H.next ≤ H4.next; omega, ?_⟩
      · have := hok _ _ hx
        rw [AH.set_ne _ _ (by omega), AH.set_ne _ _ (by omega)]
        exact k1 _ _ (hks _ _ hx)
      · rw [k7]
        refine ⟨.snil, _, rfl, .inl ⟨rfl, rfl⟩, ?_⟩
        unfold ErrQ
        rw [if_neg (by omega)]
        exact ⟨g, k4, by rw [if_pos rfl, k5]; decide +kernel, rfl, c1⟩
    by_cases hv : e.ver = []
    · rw [hv] at hc
      simp (disch := first | omega | (simp; done) | assumption) [wr64, wrU8, wrU64, Nat.add_assoc, -getElem?_pos, List.getElem?_cons_zero, List.getElem?_cons_succ, t2, t3, t4, t5, hc]
      refine CallW.ofk (hN _) ?_
      rintro v H4 ⟨hk4, hn4, g, gb, g1, g2, rfl, hch⟩ hok4
      try simp only [newO_none] at hk4 hn4 gb
      have w0 := hk4 _ _ q0
      have w1 := hk4 _ _ q1
      simp only [e0] at w0
      simp (disch := first | omega | (simp; done) | assumption) [wr64, wrU8, wrU64, Nat.add_assoc, -getElem?_pos, List.getElem?_cons_zero, List.getElem?_cons_succ, t2, t3, t4, t5, w0, w1, rs16]
      exact bad H4 g hk4 hn4 gb g1 g2 hch (hbad (.inl hv))
    by_cases hkn : e.kn = []
    · rw [hkn] at hc
      simp (disch := first | omega | (simp; done) | assumption) [wr64, wrU8, wrU64, Nat.add_assoc, -getElem?_pos, List.getElem?_cons_zero, List.getElem?_cons_succ, t2, t3, t4, t5, hc, hv]
      refine CallW.ofk (hN _) ?_
      rintro v H4 ⟨hk4, hn4, g, gb, g1, g2, rfl, hch⟩ hok4
      try simp only [newO_none] at hk4 hn4 gb
      have w0 := hk4 _ _ q0
      have w1 := hk4 _ _ q1
      simp only [e0] at w0
      simp (disch := first | omega | (simp; done) | assumption) [wr64, wrU8, wrU64, Nat.add_assoc, -getElem?_pos, List.getElem?_cons_zero, List.getElem?_cons_succ, t2, t3, t4, t5, w0, w1, rs16]
      exact bad H4 g hk4 hn4 gb g1 g2 hch (hbad (.inr hkn))
    have hps := hgood (fun h => h.elim hv hkn)
    simp only [e0] at q0
    obtain ⟨hvx1, hvx2⟩ : vx.cells = [vx] ∧ vx.one = true := by
      rcases ho with ⟨_, rfl⟩ | ⟨q, rfl, _⟩ <;> exact ⟨rfl, rfl⟩
    simp (disch := first | omega | (simp; done) | assumption) [wr64, wrU8, wrU64, Nat.add_assoc, -getElem?_pos, List.getElem?_cons_zero, List.getElem?_cons_succ, t2, t3, t4, t5, hc, hv, hkn]
    refine CallW.val hCl ?_
    simp (disch := first | omega | (simp; done) | assumption) [wr64, wrU8, wrU64, Nat.add_assoc, -getElem?_pos, List.getElem?_cons_zero, List.getElem?_cons_succ, t2, t3, t4, t5, hc, hv, hkn, hvx1, hvx2, q0, q1, rs16]
    refine ⟨fun x q hx => ?_, by show H.next ≤ Hs.next; omega, ?_⟩
    · have := hok _ _ hx
      rw [AH.set_ne _ _ (by omega), AH.set_ne _ _ (by omega), AH.set_ne _ _ (by omega)]
      exact hks _ _ hx
    · rw [hps]
      refine ⟨vx, _, rfl, ?_, ?_⟩
      · exact outF_base (outF_set (outF_set (outF_set ho (by omega) _) (by omega) _) (by omega) _) (by omega)
      · unfold ErrQ
        rw [if_pos rfl]
  · rintro H' ⟨h1, h2⟩
    exact ⟨some .ret, h1, h2⟩
  · refine ⟨by rw [← n2, AH.new_same], e0, ?_⟩
    refine ⟨?_, ?_, ?_, ?_, ?_, ?_, fun x q hx => ?_, by rw [AH.new_next, n2]; omega, ⟨.snil, ?_, .inl ⟨rfl, rfl⟩⟩, by simp [e0], by simp⟩
    · rw [AH.new_ne _ _ (by omega)]; exact a4
    · rw [AH.new_ne _ _ (by omega)]; exact a5
    · rw [AH.new_ne _ _ (by omega)]; exact a6
    · rw [AH.new_ne _ _ (by omega)]; exact a3
    · rw [AH.new_ne _ _ (by omega)]; exact a0
    · rw [AH.new_ne _ _ (by omega)]; exact a1
    · have := hok _ _ hx
      rw [AH.new_ne _ _ (by omega)]; exact ak _ _ hx
    · rw [AH.new_ne _ _ (by omega)]; exact a2
end Go.Proofs.YtkehijlgbfjmkaaGreatDoor.KW

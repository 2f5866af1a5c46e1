/- What entries' texts are, in plain Lean: what is printed is read again; what is read may be. No condition. -/
import Derived.Test.YtkehijlgbfjmkaaGreatDoorKPrint
set_option linter.unusedVariables false
set_option linter.unusedSimpArgs false
set_option maxRecDepth 10000
set_option maxHeartbeats 4000000
namespace Go.Proofs.YtkehijlgbfjmkaaGreatDoor.KW
open Go Go.RowKit Go.Proofs.YtkehijlgbfjmkaaGreatDoor Go.Proofs.YtkehijlgbfjmkaaGreatDoor.Abs Go.Proofs.YtkehijlgbfjmkaaGreatDoor.Ic Go.Proofs.YtkehijlgbfjmkaaGreatDoor.St Go.Proofs.YtkehijlgbfjmkaaGreatDoor.EAs Go.Proofs.YtkehijlgbfjmkaaGreatDoor.EErr
theorem cut_of {w r : List UInt8} (h : (32 : UInt8) ∉ w) : cutA 32 (w ++ 32 :: r) = w ∧ cutB 32 (w ++ 32 :: r) = r := by
  unfold cutA cutB
  induction w with
  | nil => simp
  | cons c w ih =>
    have hc : c ≠ 32 := fun e => h (by simp [e])
    have := ih (fun e => h (by simp [e]))
    simp [hc, this]
theorem pcs_line {l r : List UInt8} (h : (10 : UInt8) ∉ l) : pcs (l ++ 10 :: r) = l :: pcs r := by
  induction l with
  | nil => simp [pcs]
  | cons c l ih =>
    have hc : c ≠ 10 := fun e => h (by simp [e])
    rw [List.cons_append, pcs, if_neg hc, ih (fun e => h (by simp [e]))]
theorem pcs_lines : ∀ (ls : List (List UInt8)), (∀ l ∈ ls, (10 : UInt8) ∉ l) → pcs (ls.flatMap (· ++ [10])) = ls ++ [[]]
  | [], _ => rfl
  | l :: ls, h => by
    rw [List.flatMap_cons, List.append_assoc, List.singleton_append, pcs_line (h l (by simp)), pcs_lines ls (fun x hx => h x (by simp [hx]))]
    rfl
def verL (e : En) : List UInt8 := wVer ++ 32 :: e.ver
def kerL (e : En) : List UInt8 := wKer ++ 32 :: (e.kn ++ 32 :: e.ks)
def extL (p : Blb) : List UInt8 := wExt ++ 32 :: (p.1 ++ 32 :: p.2)
def oplL (e : En) : List UInt8 := wOpt ++ 32 :: e.op
def linesE (e : En) : List (List UInt8) := verL e :: kerL e :: (e.ex.map extL ++ if e.op = [] then [] else [oplL e])
theorem print_lines (e : En) : printE e = (linesE e).flatMap (· ++ [10]) := by
  have h : ∀ ps : List Blb, ps.flatMap xLine = (ps.map extL).flatMap (· ++ [10]) := fun ps => by
    induction ps with
    | nil => rfl
    | cons p ps ih => rw [List.flatMap_cons, List.map_cons, List.flatMap_cons, ih]; simp [xLine, extL]
  unfold printE linesE
  rw [h, List.flatMap_cons, List.flatMap_cons, List.flatMap_append]
  unfold optL
  split <;> simp [headP, verL, kerL, oplL]
theorem inB_no {lo hi : Int} {s : List UInt8} {c : UInt8} (h : s.all (inB lo hi) = true) (hc : (c.toNat : Int) < lo) : c ∉ s := fun hm => by
  have := List.all_eq_true.1 h c hm
  simp [inB] at this
  omega
theorem ver_no {s : List UInt8} (h : verOk s = true) : (10 : UInt8) ∉ s ∧ (32 : UInt8) ∉ s ∧ s ≠ [] := by
  have hl := verOk_len h
  unfold verOk at h
  simp only [Bool.and_eq_true] at h
  exact ⟨inB_no h.2 (by decide), inB_no h.2 (by decide), fun e => by rw [e] at hl; simp at hl⟩
theorem op_no {s : List UInt8} (h : optOk s = true) : (10 : UInt8) ∉ s := by
  unfold optOk at h
  simp only [Bool.and_eq_true] at h
  exact inB_no h.1.2 (by decide)
theorem namC_no {c : UInt8} (h : namC c = true) : c ≠ 10 ∧ c ≠ 32 := by
  constructor <;> (intro e; subst e; revert h; decide +kernel)
theorem hexC_no {c : UInt8} (h : hexC c = true) : c ≠ 10 ∧ c ≠ 32 := by
  constructor <;> (intro e; subst e; revert h; decide +kernel)
theorem bok_no {p : Blb} (h : bOk p = true) : (10 : UInt8) ∉ p.1 ∧ (32 : UInt8) ∉ p.1 ∧ (10 : UInt8) ∉ p.2 ∧ p.1 ≠ [] := by
  have hl := bOk_len h
  unfold bOk blobOk hexOk nameOk at h
  simp only [Bool.and_eq_true] at h
  exact ⟨fun hm => (namC_no (List.all_eq_true.1 h.2.2 _ hm)).1 rfl, fun hm => (namC_no (List.all_eq_true.1 h.2.2 _ hm)).2 rfl, fun hm => (hexC_no (List.all_eq_true.1 h.1.2 _ hm)).1 rfl, fun e => by rw [e] at hl; simp at hl⟩
theorem lineE_ver {e : En} {r : List UInt8} (h0 : e.ver = []) (h : verOk r = true) : lineE e (wVer ++ 32 :: r) = some { e with ver := r } := by
  obtain ⟨c1, c2⟩ := cut_of (w := wVer) (r := r) (by decide)
  unfold lineE
  simp only [c1, c2]
  rw [if_pos trivial, if_pos ⟨h0, h⟩]
theorem lineE_op {e : En} {r : List UInt8} (h0 : e.op = []) (h1 : r ≠ []) (h : optOk r = true) : lineE e (wOpt ++ 32 :: r) = some { e with op := r } := by
  obtain ⟨c1, c2⟩ := cut_of (w := wOpt) (r := r) (by decide)
  unfold lineE
  simp only [c1, c2]
  rw [if_neg (by decide), if_pos trivial, if_pos ⟨h0, h1, h⟩]
theorem lineE_ker {e : En} {p : Blb} (h0 : e.kn = []) (h : bOk p = true) : lineE e (wKer ++ 32 :: (p.1 ++ 32 :: p.2)) = some { e with kn := p.1, ks := p.2 } := by
  obtain ⟨c1, c2⟩ := cut_of (w := wKer) (r := p.1 ++ 32 :: p.2) (by decide)
  obtain ⟨c3, c4⟩ := cut_of (w := p.1) (r := p.2) (bok_no h).2.1
  unfold lineE
  simp only [c1, c2, c3, c4]
  rw [if_neg (by decide), if_neg (by decide), if_pos trivial, if_pos ⟨h0, h⟩]
theorem lineE_ext {e : En} {p : Blb} (h8 : e.ex.length + 1 ≤ 8) (h : bOk p = true) : lineE e (wExt ++ 32 :: (p.1 ++ 32 :: p.2)) = some { e with ex := e.ex ++ [p] } := by
  obtain ⟨c1, c2⟩ := cut_of (w := wExt) (r := p.1 ++ 32 :: p.2) (by decide)
  obtain ⟨c3, c4⟩ := cut_of (w := p.1) (r := p.2) (bok_no h).2.1
  unfold lineE
  simp only [c1, c2, c3, c4]
  rw [if_neg (by decide), if_neg (by decide), if_neg (by decide), if_pos trivial, if_pos ⟨h, h8⟩]
theorem skip_no {w r : List UInt8} (h0 : w ≠ []) (h : w.head? ≠ some 35) : skipL (w ++ r) = false := by
  cases w with
  | nil => exact absurd rfl h0
  | cons c w =>
    unfold skipL
    simp at h
    simp [h]
theorem parse_ext : ∀ (ps : List Blb) (e : En) (n : Nat) (ls : List (List UInt8)), e.ex.length + ps.length ≤ 8 → (∀ p ∈ ps, bOk p = true) → parseL e n (ps.map extL ++ ls) = parseL { e with ex := e.ex ++ ps } (n + ps.length) ls
  | [], e, n, ls, _, _ => by simp
  | p :: ps, e, n, ls, h8, h => by
    rw [List.map_cons, List.cons_append, parseL, if_neg (by rw [extL, skip_no (by decide) (by decide)]; simp), extL, lineE_ext (by simp at h8; omega) (h p (by simp))]
    simp only []
    rw [parse_ext ps _ (n + 1) ls (by simp at h8 ⊢; omega) (fun q hq => h q (by simp [hq]))]
    simp [Nat.add_comm, Nat.add_left_comm]
theorem parseL_lines {e : En} (h : OkP e) : parseL e0 0 (linesE e ++ [[]]) = (none, e) := by
  have hv := ver_no h.ver
  have hk := bok_no h.k
  have hn := h.n
  unfold linesE
  rw [List.cons_append, List.cons_append, parseL, if_neg (by rw [verL, skip_no (by decide) (by decide)]; simp), verL, lineE_ver rfl h.ver]
  simp only []
  rw [parseL, if_neg (by rw [kerL, skip_no (by decide) (by decide)]; simp), kerL, lineE_ker (p := (e.kn, e.ks)) rfl h.k]
  simp only []
  rw [List.append_assoc, parse_ext _ _ _ _ (by simp [e0]; omega) h.ex]
  have hend : ∀ (x : En) (n : Nat), parseL x n [[]] = (none, x) := fun x n => by
    rw [parseL, if_pos (by decide), parseL]
  by_cases ho : e.op = []
  · rw [if_pos ho, List.nil_append, hend]
    obtain ⟨a, b, c, d, f⟩ := e
    simp [e0] at ho ⊢
    exact ho
  · rw [if_neg ho, List.cons_append, List.nil_append, parseL, if_neg (by rw [oplL, skip_no (by decide) (by decide)]; simp), oplL, lineE_op rfl ho h.op]
    simp only []
    rw [hend]
    obtain ⟨a, b, c, d, f⟩ := e
    simp [e0]
theorem parse_print {e : En} (h : OkP e) : parseS (printE e) = (0, 0, e) := by
  have hv := ver_no h.ver
  have hk := bok_no h.k
  have hl := printE_len h
  unfold parseS
  rw [if_neg (by omega), print_lines, pcs_lines, parseL_lines h]
  · simp only []
    rw [if_neg (fun c => c.elim hv.2.2 hk.2.2.2)]
  · intro l hl
    have hm := hl
    unfold linesE at hm
    rcases List.mem_cons.1 hm with rfl | hm
    · unfold verL wVer; simp; exact hv.1
    rcases List.mem_cons.1 hm with rfl | hm
    · unfold kerL wKer; simp; exact ⟨hk.1, hk.2.2.1⟩
    rcases List.mem_append.1 hm with hm | hm
    · obtain ⟨p, hp, rfl⟩ := List.mem_map.1 hm
      have := bok_no (h.ex p hp)
      unfold extL wExt; simp; exact ⟨this.1, this.2.2.1⟩
    · split at hm
      · simp at hm
      · obtain rfl := List.mem_singleton.1 hm
        unfold oplL wOpt; simp; exact op_no h.op
/-- What the lines ahead may have put down. -/
structure Half (e : En) : Prop where
  ver : e.ver = [] ∨ verOk e.ver = true
  k : e.kn = [] ∨ bOk (e.kn, e.ks) = true
  n : e.ex.length ≤ 8
  ex : ∀ p ∈ e.ex, bOk p = true
  op : e.op = [] ∨ optOk e.op = true
theorem Half.line {e e' : En} {s : List UInt8} (h : Half e) (hs : lineE e s = some e') : Half e' := by
  unfold lineE at hs
  simp only [] at hs
  split at hs
  · split at hs
    · rename_i c; cases hs; exact ⟨.inr c.2, h.k, h.n, h.ex, h.op⟩
    · cases hs
  split at hs
  · split at hs
    · rename_i c; cases hs; exact ⟨h.ver, h.k, h.n, h.ex, .inr c.2.2⟩
    · cases hs
  split at hs
  · split at hs
    · rename_i c; cases hs; exact ⟨h.ver, .inr c.2, h.n, h.ex, h.op⟩
    · cases hs
  split at hs
  · split at hs
    · rename_i c; cases hs
      refine ⟨h.ver, h.k, by simp; omega, fun p hp => ?_, h.op⟩
      rcases List.mem_append.1 hp with hp | hp
      · exact h.ex p hp
      · obtain rfl := List.mem_singleton.1 hp; exact c.1
    · cases hs
  · cases hs
theorem Half.parse : ∀ (ls : List (List UInt8)) (e : En) (n : Nat) (e' : En), Half e → parseL e n ls = (none, e') → Half e'
  | [], e, n, e', h, hs => by rw [parseL] at hs; cases hs; exact h
  | l :: ls, e, n, e', h, hs => by
    rw [parseL] at hs
    split at hs
    · exact Half.parse ls e _ e' h hs
    · split at hs
      · rename_i e1 h1; exact Half.parse ls e1 _ e' (h.line h1) hs
      · cases hs
theorem parse_ok {s : List UInt8} (h : (parseS s).1 = 0) : OkP (parseS s).2.2 := by
  unfold parseS at h ⊢
  split at h
  · cases h
  · rename_i hl
    rw [if_neg hl]
    cases hp : parseL e0 0 (pcs s) with
    | mk a e =>
      rw [hp] at h
      cases a with
      | some k => cases h
      | none =>
        simp only [] at h ⊢
        split at h
        · cases h
        · rename_i hc
          rw [if_neg hc]
          have hh := Half.parse (pcs s) e0 0 e ⟨.inl rfl, .inl rfl, by simp [e0], by simp [e0], .inl rfl⟩ hp
          exact ⟨hh.ver.resolve_left fun c => hc (.inl c), hh.n, hh.op.elim (fun c => by rw [c]; decide) id, hh.k.resolve_left fun c => hc (.inr c), hh.ex⟩
theorem parse_bad {s : List UInt8} (h : (parseS s).1 ≠ 0) : (parseS s).2.2 = e0 ∧ ((parseS s).1 = 2 ∧ (parseS s).2.1 = 0 ∨ (parseS s).1 = 30) := by
  unfold parseS at h ⊢
  split
  · exact ⟨rfl, .inl ⟨rfl, rfl⟩⟩
  · rename_i hl
    rw [if_neg hl] at h
    cases hp : parseL e0 0 (pcs s) with
    | mk a e =>
      rw [hp] at h
      cases a with
      | some k => exact ⟨rfl, .inr rfl⟩
      | none =>
        simp only [] at h ⊢
        split at h
        · rename_i hc; rw [if_pos hc]; exact ⟨rfl, .inr rfl⟩
        · exact absurd rfl h
end Go.Proofs.YtkehijlgbfjmkaaGreatDoor.KW

/- Whether blocks may be written. No condition. -/
import Derived.Test.YtcgkadfgojmmlaaDoorJB3
set_option linter.unusedVariables false
set_option linter.unusedSimpArgs false
set_option maxRecDepth 10000
set_option maxHeartbeats 4000000
namespace Go.Proofs.YtcgkadfgojmmlaaDoor.JN
open Go Go.RowKit Go.Proofs.YtcgkadfgojmmlaaDoor Go.Proofs.YtcgkadfgojmmlaaDoor.Abs Go.Proofs.YtcgkadfgojmmlaaDoor.Ic Go.Proofs.YtcgkadfgojmmlaaDoor.EAs Go.Proofs.YtcgkadfgojmmlaaDoor.EErr Go.Proofs.YtcgkadfgojmmlaaDoor.DFn
abbrev tJ : Nat := 67
abbrev tBk : Nat := 35
def JO (H : AH) (jb p at_ most : Nat) : Prop := H.at_ jb = some (.cells false tJ [.ptr p 0, .int .i64 (at_ : Int), .int .i64 (most : Int)])
/-- A block that may be bad: its number, its bytes, how many. -/
structure Gr where
  no : Int
  av : AV
  len : Nat
def rowG (x : Gr) : List AV := [.int .i64 x.no, x.av]
def rowsG (l : List Gr) : List (List AV) := l.map rowG
theorem allG (l : List Gr) : All 2 (rowsG l) := fun r hr => by obtain ⟨x, _, rfl⟩ := List.mem_map.1 hr; rfl
def GrOk (x : Gr) : Prop := lenS x.av = some x.len ∧ x.av.one = true ∧ x.av.cells = [x.av] ∧ x.len ≤ 100000
def BG (H : AH) (v : AV) (l : List Gr) : Prop := (l = [] ∧ v = .snil ∨ ∃ b, v = .slice b 0 l.length 2 ∧ H.at_ b = some (.cells false tBk (rowsG l).flatten)) ∧ ∀ x ∈ l, GrOk x
def badG (at_ most nb : Nat) (seen : List Int) (x : Gr) : Prop := x.no < 0 ∨ (nb : Int) ≤ x.no ∨ ((at_ : Int) ≤ x.no ∧ x.no < (at_ : Int) + (need most : Int)) ∨ x.no ∈ seen ∨ x.len ≠ 128
instance (at_ most nb : Nat) (seen : List Int) (x : Gr) : Decidable (badG at_ most nb seen x) := by unfold badG; infer_instance
def gd (at_ most nb : Nat) : List Int → List Gr → Bool
  | _, [] => true
  | seen, x :: r => if badG at_ most nb seen x then false else gd at_ most nb (seen ++ [x.no]) r
/-- A map that has these numbers. -/
def MapIs (H : AH) (mb : Nat) (seen : List Int) : Prop := ∃ es c, H.at_ mb = some (.map es c) ∧ es.map (fun e => (e.key, e.val)) = seen.map fun n => (AV.int .i64 n, AV.bool true)
theorem findA_seen : ∀ (es : List AEntry) (seen : List Int) (n : Int) (i : Nat), es.map (fun e => (e.key, e.val)) = seen.map (fun n => (AV.int .i64 n, AV.bool true)) → (n ∈ seen → ∃ j, findA .i64 n es i = some (some (j, .bool true))) ∧ (n ∉ seen → findA .i64 n es i = some none)
  | [], seen, n, i, h => by
    cases seen with
    | nil => exact ⟨fun h => by simp at h, fun _ => rfl⟩
    | cons a r => simp at h
  | e :: es, seen, n, i, h => by
    cases seen with
    | nil => simp at h
    | cons a r =>
      simp only [List.map_cons, List.cons.injEq, Prod.mk.injEq] at h
      obtain ⟨⟨h1, h2⟩, h3⟩ := h
      obtain ⟨i1, i2⟩ := findA_seen es r n (i + 1) h3
      unfold findA
      rw [h1, h2]
      by_cases e : n = a
      · subst e
        simp
      · simp only [if_true, if_neg e]
        exact ⟨fun hm => i1 (by simpa [e] using hm), fun hm => i2 (by simpa [e] using hm)⟩
def GdI (at_ most nb p jb : Nat) (v : AV) (l : List Gr) (H : AH) (kk : Nat) (tm : Tms) (H' : AH) : Prop := H.keepsAll H' ∧ H.next < H'.next ∧ ∃ i : Nat, kk = l.length - i ∧ i ≤ l.length ∧ gd at_ most nb [] l = gd at_ most nb ((l.take i).map (·.no)) (l.drop i) ∧ MapIs H' H.next ((l.take i).map (·.no)) ∧
  tm 0 = .ptr jb 0 ∧ tm 5 = .map H.next ∧ tm 10 = v ∧ tm 11 = .int .i64 (l.length : Int) ∧ tm 12 = .int .i64 (i : Int)
theorem JGood {H : AH} {jb p L at_ most : Nat} {s : DK} {v : AV} {l : List Gr} (hd : DS H p L s) (hj : JO H jb p at_ most) (hm : 1 ≤ most ∧ most ≤ 200) (ha : at_ ≤ 2048) (h : BG H v l) (hl : l.length ≤ 100000) :
    ACall Tryd.prog 29 [.ptr jb 0, v] H (fun r H' => r = .bool (gd at_ most s.ct.length [] l) ∧ H' = H) := by
  refine acall_enter fits29 (by simp) (by simp) fun hok => ?_
  obtain ⟨hv, hx⟩ := h
  have hvl : lenS v = some l.length := by rcases hv with ⟨rfl, rfl⟩ | ⟨b, rfl, _⟩ <;> rfl
  have hneed : need most ≤ 300 := by unfold need lists; omega
  simp (disch := first | omega | (simp; done) | assumption) [wr64, wrU8, wrU64, Nat.add_assoc, -getElem?_pos, List.getElem?_cons_zero, List.getElem?_cons_succ, ic29, rs29, hvl]
  refine iwp_loop (GdI at_ most s.ct.length p jb v l H) l.length ⟨by ((repeat (first | exact AH.keepsAll_refl _ | refine keeps_set hok ?_ (by first | omega | (simp; done) | (simp; omega)) | refine keeps_new hok ?_ (by first | omega | (simp; done) | (simp; omega)))); done), by simp, 0, rfl, by omega, by simp, ⟨[], 0, by simp, rfl⟩, by simp, by simp, by simp, by simp, by simp⟩ ?_
  rintro kk tm H1 ⟨hk, hn, i, rfl, hi, hg, hmp, t0, t5, t10, t11, t12⟩
  by_cases hlt : i < l.length
  · have hlt' : (i : Int) < (l.length : Int) := by omega
    obtain ⟨b, rfl, hb⟩ : ∃ b, v = .slice b 0 l.length 2 ∧ H.at_ b = some (.cells false tBk (rowsG l).flatten) := by
      rcases hv with ⟨rfl, rfl⟩ | h
      · simp at hlt
      · exact h
    have hb1 := hk _ _ hb
    have hj1 := hk _ _ hj
    have hd1 := hd.keeps hk
    have hld : loadC H1 b (i * 2) (some 2) = some (.agg (rowG l[i])) := by
      have := load_flat hb1 (allG l) (k := i) (by simpa [rowsG] using hlt)
      simpa [rowsG] using this
    have hdr : l.drop i = l[i] :: l.drop (i + 1) := List.drop_eq_getElem_cons hlt
    have htk : (l.take (i + 1)).map (·.no) = (l.take i).map (·.no) ++ [l[i].no] := by rw [List.take_add_one, List.getElem?_eq_getElem hlt, List.map_append]; rfl
    obtain ⟨x1, x2, x3, x4⟩ := hx _ (List.getElem_mem hlt)
    rw [hdr, gd] at hg
    generalize hxx : l[i] = x at *
    generalize (l.take i).map (·.no) = seen at *
    obtain ⟨no, av, n⟩ := x
    dsimp only [rowG] at *
    obtain ⟨es, c, hes, hmap⟩ := hmp
    obtain ⟨hf1, hf2⟩ := findA_seen es seen no 0 hmap
    have hmpn : ∀ o, (H1.new o).at_ H.next = some (.map es c) := fun o => by rw [AH.new_ne _ _ (by omega)]; exact hes
    have hjn : ∀ o, (H1.new o).at_ jb = some (.cells false tJ [.ptr p 0, .int .i64 (at_ : Int), .int .i64 (most : Int)]) := fun o => by have := hok _ _ hj; rw [AH.new_ne _ _ (by omega)]; exact hj1
    have hjb : jb < H.next := hok _ _ hj
    simp (disch := first | omega | (simp; done) | assumption) [wr64, wrU8, wrU64, Nat.add_assoc, -getElem?_pos, List.getElem?_cons_zero, List.getElem?_cons_succ, t0, t5, t10, t11, t12, hlt, hlt']
    refine Try.intro (by simpa using hld) ?_
    have hjne : ¬ jb = H1.next := by omega
    have hmne : ¬ H.next = H1.next := by omega
    have hkX : ∀ o o', H.keepsAll ((H1.new o).set H1.next o') := fun o o' y q h => by
      have := hok _ _ h
      rw [AH.set_ne _ _ (by omega), AH.new_ne _ _ (by omega)]
      exact hk _ _ h
    have hkY : ∀ o o' o2, H.keepsAll (((H1.new o).set H1.next o').set H.next o2) := fun o o' o2 y q h => by
      have := hok _ _ h
      rw [AH.set_ne _ _ (by omega)]
      exact hkX o o' y q h
    have hN := fun H => Need (m := (most : Int)) (k := most) (by omega) (by omega) H
    have hgT : badG at_ most s.ct.length seen ⟨no, av, n⟩ → gd at_ most s.ct.length [] l = false := fun h => by rw [if_pos h] at hg; exact hg
    have hgF : ¬ badG at_ most s.ct.length seen ⟨no, av, n⟩ → gd at_ most s.ct.length [] l = gd at_ most s.ct.length (seen ++ [no]) (l.drop (i + 1)) := fun h => by rw [if_neg h] at hg; exact hg
    clear hg
    unfold badG at hgT hgF
    dsimp only at hgT hgF
    have hG : gd at_ most s.ct.length [] l = gd at_ most s.ct.length [] l := rfl
    generalize hgd0 : gd at_ most s.ct.length [] l = g0 at hgT hgF ⊢
    generalize need most = nd at hgT hgF hN hneed
    by_cases c1 : (at_ : Int) ≤ no
    · by_cases c2 : no < (at_ : Int) + (nd : Int)
      · simp (disch := first | omega | (simp; done) | assumption) [wr64, wrU8, wrU64, Nat.add_assoc, -getElem?_pos, List.getElem?_cons_zero, List.getElem?_cons_succ, t0, t5, t10, t11, t12, hlt, hlt', hj1, hjne, hmne, hes, x1, x2, x3, c1, c2]
        refine CallW.of (hN _) ?_
        rintro v2 H2 ⟨rfl, rfl⟩
        by_cases c3 : no < 0
        · exfalso; omega
        by_cases c4 : (s.ct.length : Int) ≤ no
        · have hg := hgT (.inr (.inl c4))
          simp (disch := first | omega | (simp; done) | assumption) [wr64, wrU8, wrU64, Nat.add_assoc, -getElem?_pos, List.getElem?_cons_zero, List.getElem?_cons_succ, t0, t5, t10, t11, t12, hlt, hlt', hj1, hjne, hmne, hes, x1, x2, x3, c1, c2, c3, c4, hg]
          refine CallW.val (Blocks (hd.keeps (hkX _ _))) ?_
          simp (disch := first | omega | (simp; done) | assumption) [wr64, wrU8, wrU64, Nat.add_assoc, -getElem?_pos, List.getElem?_cons_zero, List.getElem?_cons_succ, t0, t5, t10, t11, t12, hlt, hlt', hj1, hjne, hmne, hes, x1, x2, x3, c1, c2, c3, c4, hg]
          exact hkX _ _
        have hg := hgT (.inr (.inr (.inl ⟨c1, c2⟩)))
        simp (disch := first | omega | (simp; done) | assumption) [wr64, wrU8, wrU64, Nat.add_assoc, -getElem?_pos, List.getElem?_cons_zero, List.getElem?_cons_succ, t0, t5, t10, t11, t12, hlt, hlt', hj1, hjne, hmne, hes, x1, x2, x3, c1, c2, c3, c4, hg]
        refine CallW.val (Blocks (hd.keeps (hkX _ _))) ?_
        simp (disch := first | omega | (simp; done) | assumption) [wr64, wrU8, wrU64, Nat.add_assoc, -getElem?_pos, List.getElem?_cons_zero, List.getElem?_cons_succ, t0, t5, t10, t11, t12, hlt, hlt', hj1, hjne, hmne, hes, x1, x2, x3, c1, c2, c3, c4, hg]
        exact hkX _ _
      · simp (disch := first | omega | (simp; done) | assumption) [wr64, wrU8, wrU64, Nat.add_assoc, -getElem?_pos, List.getElem?_cons_zero, List.getElem?_cons_succ, t0, t5, t10, t11, t12, hlt, hlt', hj1, hjne, hmne, hes, x1, x2, x3, c1, c2]
        refine CallW.of (hN _) ?_
        rintro v2 H2 ⟨rfl, rfl⟩
        by_cases c3 : no < 0
        · exfalso; omega
        by_cases c4 : (s.ct.length : Int) ≤ no
        · have hg := hgT (.inr (.inl c4))
          simp (disch := first | omega | (simp; done) | assumption) [wr64, wrU8, wrU64, Nat.add_assoc, -getElem?_pos, List.getElem?_cons_zero, List.getElem?_cons_succ, t0, t5, t10, t11, t12, hlt, hlt', hj1, hjne, hmne, hes, x1, x2, x3, c1, c2, c3, c4, hg]
          refine CallW.val (Blocks (hd.keeps (hkX _ _))) ?_
          simp (disch := first | omega | (simp; done) | assumption) [wr64, wrU8, wrU64, Nat.add_assoc, -getElem?_pos, List.getElem?_cons_zero, List.getElem?_cons_succ, t0, t5, t10, t11, t12, hlt, hlt', hj1, hjne, hmne, hes, x1, x2, x3, c1, c2, c3, c4, hg]
          exact hkX _ _
        by_cases c5 : no ∈ seen
        · have hg := hgT (.inr (.inr (.inr (.inl c5))))
          obtain ⟨j, hfa⟩ := hf1 c5
          simp (disch := first | omega | (simp; done) | assumption) [wr64, wrU8, wrU64, Nat.add_assoc, -getElem?_pos, List.getElem?_cons_zero, List.getElem?_cons_succ, t0, t5, t10, t11, t12, hlt, hlt', hj1, hjne, hmne, hes, x1, x2, x3, c1, c2, c3, c4, hg]
          refine CallW.val (Blocks (hd.keeps (hkX _ _))) ?_
          simp (disch := first | omega | (simp; done) | assumption) [wr64, wrU8, wrU64, Nat.add_assoc, -getElem?_pos, List.getElem?_cons_zero, List.getElem?_cons_succ, t0, t5, t10, t11, t12, hlt, hlt', hj1, hjne, hmne, hes, x1, x2, x3, c1, c2, c3, c4, hg, lkpA, lkpR, hfa]
          exact hkX _ _
        have hfa := hf2 c5
        by_cases c6 : n = 128
        · subst c6
          have hg := hgF (fun h => by rcases h with h | h | h | h | h; exact c3 h; exact c4 h; exact (by have h1 := h.1; have h2 := h.2; omega); exact c5 h; exact h rfl)
          simp (disch := first | omega | (simp; done) | assumption) [wr64, wrU8, wrU64, Nat.add_assoc, -getElem?_pos, List.getElem?_cons_zero, List.getElem?_cons_succ, t0, t5, t10, t11, t12, hlt, hlt', hj1, hjne, hmne, hes, x1, x2, x3, c1, c2, c3, c4]
          refine CallW.val (Blocks (hd.keeps (hkX _ _))) ?_
          simp (disch := first | omega | (simp; done) | assumption) [wr64, wrU8, wrU64, Nat.add_assoc, -getElem?_pos, List.getElem?_cons_zero, List.getElem?_cons_succ, t0, t5, t10, t11, t12, hlt, hlt', hj1, hjne, hmne, hes, x1, x2, x3, c1, c2, c3, c4, lkpA, lkpR, hfa, msetA]
          refine ⟨l.length - (i + 1), by omega, hkY _ _ _, by simp; omega, i + 1, rfl, by omega, by rw [htk, hgd0]; exact hg, ⟨es ++ [⟨.int .i64 no, .bool true, c⟩], c + 1, by simp, by rw [htk]; simp [hmap]⟩, by simp [t0], by simp [t5], by simp [t10], by simp [t11], by simp⟩
        · have hg := hgT (.inr (.inr (.inr (.inr c6))))
          have c6' : ¬ (n : Int) = 128 := by omega
          simp (disch := first | omega | (simp; done) | assumption) [wr64, wrU8, wrU64, Nat.add_assoc, -getElem?_pos, List.getElem?_cons_zero, List.getElem?_cons_succ, t0, t5, t10, t11, t12, hlt, hlt', hj1, hjne, hmne, hes, x1, x2, x3, c1, c2, c3, c4, hg]
          refine CallW.val (Blocks (hd.keeps (hkX _ _))) ?_
          simp (disch := first | omega | (simp; done) | assumption) [wr64, wrU8, wrU64, Nat.add_assoc, -getElem?_pos, List.getElem?_cons_zero, List.getElem?_cons_succ, t0, t5, t10, t11, t12, hlt, hlt', hj1, hjne, hmne, hes, x1, x2, x3, c1, c2, c3, c4, c6, c6', hg, lkpA, lkpR, hfa]
          exact hkX _ _
    · simp (disch := first | omega | (simp; done) | assumption) [wr64, wrU8, wrU64, Nat.add_assoc, -getElem?_pos, List.getElem?_cons_zero, List.getElem?_cons_succ, t0, t5, t10, t11, t12, hlt, hlt', hj1, hjne, hmne, hes, x1, x2, x3, c1]
      by_cases c3 : no < 0
      · have hg := hgT (.inl c3)
        simp (disch := first | omega | (simp; done) | assumption) [wr64, wrU8, wrU64, Nat.add_assoc, -getElem?_pos, List.getElem?_cons_zero, List.getElem?_cons_succ, t0, t5, t10, t11, t12, hlt, hlt', hj1, hjne, hmne, hes, x1, x2, x3, c1, c3, hg]
        exact hkX _ _
      by_cases c4 : (s.ct.length : Int) ≤ no
      · have hg := hgT (.inr (.inl c4))
        simp (disch := first | omega | (simp; done) | assumption) [wr64, wrU8, wrU64, Nat.add_assoc, -getElem?_pos, List.getElem?_cons_zero, List.getElem?_cons_succ, t0, t5, t10, t11, t12, hlt, hlt', hj1, hjne, hmne, hes, x1, x2, x3, c1, c3, c4, hg]
        refine CallW.val (Blocks (hd.keeps (hkX _ _))) ?_
        simp (disch := first | omega | (simp; done) | assumption) [wr64, wrU8, wrU64, Nat.add_assoc, -getElem?_pos, List.getElem?_cons_zero, List.getElem?_cons_succ, t0, t5, t10, t11, t12, hlt, hlt', hj1, hjne, hmne, hes, x1, x2, x3, c1, c3, c4, hg]
        exact hkX _ _
      by_cases c5 : no ∈ seen
      · have hg := hgT (.inr (.inr (.inr (.inl c5))))
        obtain ⟨j, hfa⟩ := hf1 c5
        simp (disch := first | omega | (simp; done) | assumption) [wr64, wrU8, wrU64, Nat.add_assoc, -getElem?_pos, List.getElem?_cons_zero, List.getElem?_cons_succ, t0, t5, t10, t11, t12, hlt, hlt', hj1, hjne, hmne, hes, x1, x2, x3, c1, c3, c4, hg]
        refine CallW.val (Blocks (hd.keeps (hkX _ _))) ?_
        simp (disch := first | omega | (simp; done) | assumption) [wr64, wrU8, wrU64, Nat.add_assoc, -getElem?_pos, List.getElem?_cons_zero, List.getElem?_cons_succ, t0, t5, t10, t11, t12, hlt, hlt', hj1, hjne, hmne, hes, x1, x2, x3, c1, c3, c4, hg, lkpA, lkpR, hfa]
        exact hkX _ _
      have hfa := hf2 c5
      by_cases c6 : n = 128
      · subst c6
        have hg := hgF (fun h => by rcases h with h | h | h | h | h; exact c3 h; exact c4 h; exact (by have h1 := h.1; have h2 := h.2; omega); exact c5 h; exact h rfl)
        simp (disch := first | omega | (simp; done) | assumption) [wr64, wrU8, wrU64, Nat.add_assoc, -getElem?_pos, List.getElem?_cons_zero, List.getElem?_cons_succ, t0, t5, t10, t11, t12, hlt, hlt', hj1, hjne, hmne, hes, x1, x2, x3, c1, c3, c4]
        refine CallW.val (Blocks (hd.keeps (hkX _ _))) ?_
        simp (disch := first | omega | (simp; done) | assumption) [wr64, wrU8, wrU64, Nat.add_assoc, -getElem?_pos, List.getElem?_cons_zero, List.getElem?_cons_succ, t0, t5, t10, t11, t12, hlt, hlt', hj1, hjne, hmne, hes, x1, x2, x3, c1, c3, c4, lkpA, lkpR, hfa, msetA]
        refine ⟨l.length - (i + 1), by omega, hkY _ _ _, by simp; omega, i + 1, rfl, by omega, by rw [htk, hgd0]; exact hg, ⟨es ++ [⟨.int .i64 no, .bool true, c⟩], c + 1, by simp, by rw [htk]; simp [hmap]⟩, by simp [t0], by simp [t5], by simp [t10], by simp [t11], by simp⟩
      · have hg := hgT (.inr (.inr (.inr (.inr c6))))
        have c6' : ¬ (n : Int) = 128 := by omega
        simp (disch := first | omega | (simp; done) | assumption) [wr64, wrU8, wrU64, Nat.add_assoc, -getElem?_pos, List.getElem?_cons_zero, List.getElem?_cons_succ, t0, t5, t10, t11, t12, hlt, hlt', hj1, hjne, hmne, hes, x1, x2, x3, c1, c3, c4, hg]
        refine CallW.val (Blocks (hd.keeps (hkX _ _))) ?_
        simp (disch := first | omega | (simp; done) | assumption) [wr64, wrU8, wrU64, Nat.add_assoc, -getElem?_pos, List.getElem?_cons_zero, List.getElem?_cons_succ, t0, t5, t10, t11, t12, hlt, hlt', hj1, hjne, hmne, hes, x1, x2, x3, c1, c3, c4, c6, c6', hg, lkpA, lkpR, hfa]
        exact hkX _ _
  · obtain rfl : i = l.length := by omega
    rw [List.drop_of_length_le (Nat.le_refl _), gd] at hg
    simp (disch := first | omega | (simp; done) | assumption) [wr64, wrU8, wrU64, Nat.add_assoc, -getElem?_pos, List.getElem?_cons_zero, List.getElem?_cons_succ, t0, t5, t10, t11, t12, hg]
    exact hk
end Go.Proofs.YtcgkadfgojmmlaaDoor.JN

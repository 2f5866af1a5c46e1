/- The law PickGroups, and what the order of candidates says of neighbours. -/
import Derived.Test.YtllkdoefonehoaaGreatDoorPTells
set_option linter.unusedVariables false
set_option linter.unusedSimpArgs false
set_option maxRecDepth 10000
set_option maxHeartbeats 4000000
namespace Go.Proofs.YtllkdoefonehoaaGreatDoor.PPick
open Go Go.RowKit Go.Proofs.YtllkdoefonehoaaGreatDoor Go.Proofs.YtllkdoefonehoaaGreatDoor.Abs Go.Proofs.YtllkdoefonehoaaGreatDoor.Ic Go.Proofs.YtllkdoefonehoaaGreatDoor.Vm Go.Proofs.YtllkdoefonehoaaGreatDoor.Dg Go.Proofs.YtllkdoefonehoaaGreatDoor.PVer Go.Proofs.YtllkdoefonehoaaGreatDoor.CFn Go.Proofs.YtllkdoefonehoaaGreatDoor.CBig Go.Proofs.YtllkdoefonehoaaGreatDoor.Cm Go.Proofs.YtllkdoefonehoaaGreatDoor.SP Go.Proofs.YtllkdoefonehoaaGreatDoor.Srt
/-- The candidate at a place. -/
def el (L : List Cd) (i : Nat) : Cd := L.getD i d0
theorem own_load {H : AH} {q : Nat} {t : TypeId} {L : List Cd} (hq : H.at_ q = some (.cells false t (rowsC L).flatten)) {i : Nat} (hi : i < L.length) : loadC H q (i * 6) (some 6) = some (.agg (cdC (el L i))) ∧ loadC H q (i * 6) none = some (.str (el L i).file) := by
  have h1 := load_flat (k := i) hq (all6 L) (by simpa using hi)
  have h2 := load_flat1 (k := i) (i := 0) hq (all6 L) (by simpa using hi) (by omega)
  have e : el L i = L[i] := by unfold el; rw [List.getD_eq_getElem?_getD, List.getElem?_eq_getElem hi]; rfl
  rw [e]
  refine ⟨by rw [h1]; simp, ?_⟩
  rw [Nat.add_zero] at h2
  rw [h2]
  simp [cdC]
theorem getD_vok {L : List Cd} (hv : ∀ c ∈ L, VOk c) (p : Nat) : VOk (el L p) := by
  unfold el
  rw [List.getD_eq_getElem?_getD]
  cases hx : L[p]? with
  | none => show (0 : Nat) ≤ _; omega
  | some y => exact hv y (List.mem_of_getElem? hx)
theorem cmpC_le {a b : Cd} (h : cmpC a b ≤ 0) : rankC a < rankC b ∨ (rankC a = rankC b ∧ (0 < cmpV a.ver b.ver ∨ (cmpV a.ver b.ver = 0 ∧ (goodC a < goodC b ∨ (goodC a = goodC b ∧ cmpB a.file b.file ≤ 0))))) := by
  have hv := cmpV_ord.anti a.ver b.ver
  unfold cmpC Ord.lexc at h
  simp only [] at h
  by_cases h1 : rankC a = rankC b
  · rw [if_pos (cmpI_zero.2 h1)] at h
    refine .inr ⟨h1, ?_⟩
    by_cases h2 : cmpV a.ver b.ver = 0
    · rw [if_pos (by omega)] at h
      refine .inr ⟨h2, ?_⟩
      by_cases h3 : goodC a = goodC b
      · rw [if_pos (cmpI_zero.2 h3)] at h
        exact .inr ⟨h3, h⟩
      · rw [if_neg (by rw [cmpI_zero]; exact h3)] at h
        unfold cmpI at h
        left
        split at h
        · omega
        · split at h <;> omega
    · rw [if_neg (by omega)] at h
      left
      omega
  · rw [if_neg (by rw [cmpI_zero]; exact h1)] at h
    unfold cmpI at h
    left
    split at h
    · omega
    · split at h <;> omega
theorem stab_le {L M : List Cd} (h : Stab L M) {i : Nat} (hi : i + 1 < M.length) : cmpC (el M i) (el M (i + 1)) ≤ 0 := by
  obtain ⟨ps, hp, hs, rfl⟩ := h
  have hl : ps.length = L.length := by simpa using hp.length_eq
  rw [List.length_map] at hi
  have e : ∀ k, k < ps.length → el (ps.map fun p => L.getD p d0) k = L.getD (gt ps k) d0 := fun k hk => by
    unfold el
    rw [List.getD_eq_getElem?_getD, List.getElem?_map, List.getElem?_eq_getElem hk, gt_of hk]
    rfl
  rw [e i (by omega), e (i + 1) hi]
  rcases hs i (i + 1) (by omega) (by omega) (by omega) with h | h
  · exact Int.le_of_lt h
  · exact Int.le_of_eq h.1
theorem stab_len {L M : List Cd} (h : Stab L M) : M.length = L.length := by
  obtain ⟨ps, hp, _, rfl⟩ := h
  simpa using hp.length_eq
theorem stab_vok {L M : List Cd} (h : Stab L M) (hv : ∀ c ∈ L, VOk c) : ∀ c ∈ M, VOk c := by
  obtain ⟨ps, hp, _, rfl⟩ := h
  intro c hc
  obtain ⟨p, _, rfl⟩ := List.mem_map.1 hc
  rw [List.getD_eq_getElem?_getD]
  cases hx : L[p]? with
  | none => show (0 : Nat) ≤ _; omega
  | some y => exact hv y (List.mem_of_getElem? hx)
end Go.Proofs.YtllkdoefonehoaaGreatDoor.PPick
namespace Go.Proofs.YtllkdoefonehoaaGreatDoor.PRef
open Go Go.RowKit Go.Proofs.YtllkdoefonehoaaGreatDoor Go.Proofs.YtllkdoefonehoaaGreatDoor.Abs Go.Proofs.YtllkdoefonehoaaGreatDoor.Ic Go.Proofs.YtllkdoefonehoaaGreatDoor.Vm Go.Proofs.YtllkdoefonehoaaGreatDoor.Dg Go.Proofs.YtllkdoefonehoaaGreatDoor.St Go.Proofs.YtllkdoefonehoaaGreatDoor.PVer Go.Proofs.YtllkdoefonehoaaGreatDoor.PPick Go.Proofs.YtllkdoefonehoaaGreatDoor.CFn Go.Proofs.YtllkdoefonehoaaGreatDoor.CBig Go.Proofs.YtllkdoefonehoaaGreatDoor.Cm
def GrI (q n : Nat) (H : AH) (kk : Nat) (tm : Tms) (H' : AH) : Prop := H.keepsAll H' ∧ H.next ≤ H'.next ∧ ∃ i : Nat, kk = n - i ∧ 1 ≤ i ∧ tm 5 = .slice q 0 n 6 ∧ tm 6 = .int .i64 (i : Int)
theorem Groups {fs vs : List (List UInt8)} {v w : AV} {H : AH} (hv : SL H v (fs.map AV.str)) (hw : SL H w (vs.map AV.str)) (hf : ∀ f ∈ fs, f.length ≤ 9223372036854775807) (hvl : ∀ f ∈ vs, f.length ≤ 9223372036854775807) :
    ACall Tryz.prog 5 [v, w] H (fun r H' => r = .bool true ∧ H' = H) := by
  refine acall_enter fits5 (by simp) (by simp) fun hok => ?_
  have hL40 : (candsOf (prs fs vs)).length ≤ 40 := by have := candsOf_len (prs fs vs); simp [prs] at this ⊢; omega
  have hvk := candsOf_vok (prs fs vs)
  simp (disch := first | omega | (simp; done) | assumption) [wr64, wrU8, wrU64, Nat.add_assoc, -getElem?_pos, List.getElem?_cons_zero, List.getElem?_cons_succ, -loadC, -storeC, ic5, rs5]
  refine CallW.okof (Cands hv hw hf hvl) ?_
  rintro r H1 ⟨hk1, hn1, ho⟩ hok1
  try simp only [newO_none] at hk1 hn1 ho
  generalize candsOf (prs fs vs) = L at *
  simp (disch := first | omega | (simp; done) | assumption) [wr64, wrU8, wrU64, Nat.add_assoc, -getElem?_pos, List.getElem?_cons_zero, List.getElem?_cons_succ, -loadC, -storeC]
  refine CallW.okof (PPick.Order ho hL40 hvk) ?_
  rintro r2 H2 ⟨hk2, hn2, M, hst, hoM⟩ hok2
  try simp only [newO_none] at hk2 hn2 hoM
  have hml := stab_len hst
  have hmv := stab_vok hst hvk
  have hle := fun i => stab_le hst (i := i)
  have hk : H.keepsAll H2 := ktrans hk1 hk2
  clear ho hk1 hk2 hst hvk
  rcases hoM with ⟨_, rfl⟩ | ⟨q, rfl, _, hq, _, _⟩
  · simp (disch := first | omega | (simp; done) | assumption) [wr64, wrU8, wrU64, Nat.add_assoc, -getElem?_pos, List.getElem?_cons_zero, List.getElem?_cons_succ, ]
    refine iwp_loop (fun n tm H' => H' = H2 ∧ tm 5 = .snil ∧ tm 6 = .int .i64 1) 0 ⟨rfl, by simp, by simp⟩ ?_
    rintro n tm H' ⟨rfl, t5, t6⟩
    simp (disch := first | omega | (simp; done) | assumption) [wr64, wrU8, wrU64, Nat.add_assoc, -getElem?_pos, List.getElem?_cons_zero, List.getElem?_cons_succ, t5, t6]
    refine CallW.val (Awake _) ?_
    simp (disch := first | omega | (simp; done) | assumption) [wr64, wrU8, wrU64, Nat.add_assoc, -getElem?_pos, List.getElem?_cons_zero, List.getElem?_cons_succ, ]
    exact hk
  have hld := fun i (hi : i < M.length) => (own_load hq hi).1
  have hV := getD_vok hmv
  rw [List.length_map] at *
  generalize hn : M.length = n at *
  simp (disch := first | omega | (simp; done) | assumption) [wr64, wrU8, wrU64, Nat.add_assoc, -getElem?_pos, List.getElem?_cons_zero, List.getElem?_cons_succ, -loadC, -storeC]
  refine iwp_loop (GrI q n H2) (n - 1) ⟨AH.keepsAll_refl _, Nat.le_refl _, 1, rfl, by omega, by simp, by simp⟩ ?_
  rintro kk tm H3 ⟨hk3, hn3, i, rfl, h1i, t5, t6⟩
  have hok := hok2
  by_cases ci : i < n
  · have ci1 : (i : Int) < (n : Int) := by omega
    have hi1 : (i : Int) - 1 = ((i - 1 : Nat) : Int) := by omega
    have hi2 : ((i - 1 : Nat) : Int) < (n : Int) := by omega
    have hi3 : i - 1 < n := by omega
    have la := hld (i - 1) hi3
    have lb := hld i ci
    have hc := hle (i - 1) (by omega)
    rw [show i - 1 + 1 = i by omega] at hc
    have va := hV (i - 1)
    have vb := hV i
    generalize el M (i - 1) = a at *
    generalize el M i = b at *
    have r1 := Rank a
    have r2 := Rank b
    have hC := RCompare a.ver b.ver va vb
    have s1 := state_good a
    have s2 := state_good b
    have q1 := goodC_rng a
    have q2 := goodC_rng b
    have hB := less_bytes a.file b.file
    have la3 := loadC_keeps hk3 la
    have lb3 := loadC_keeps hk3 lb
    simp only [cdC] at la3 lb3 r1 r2 lb
    generalize i - 1 = i1 at *
    simp (disch := first | omega | (simp; done) | assumption) [wr64, wrU8, wrU64, Nat.add_assoc, -getElem?_pos, List.getElem?_cons_zero, List.getElem?_cons_succ, -loadC, t5, t6, ci, ci1, hi1, hi2, hi3, la3, lb3]
    refine ⟨loadC_keeps (by ((repeat (first | exact hk3 | refine keeps_set hok ?_ (by first | omega | (simp; done) | (simp; omega)) | refine keeps_new hok ?_ (by first | omega | (simp; done) | (simp; omega)))); done)) lb, ?_⟩
    simp (disch := first | omega | (simp; done) | assumption) [wr64, wrU8, wrU64, Nat.add_assoc, -getElem?_pos, List.getElem?_cons_zero, List.getElem?_cons_succ, ]
    refine CallW.val (r1 _) ?_
    simp (disch := first | omega | (simp; done) | assumption) [wr64, wrU8, wrU64, Nat.add_assoc, -getElem?_pos, List.getElem?_cons_zero, List.getElem?_cons_succ, ]
    refine CallW.val (r2 _) ?_
    have hcs := cmpC_le hc
    have hfile : cmpB a.file b.file ≤ 0 → Op.bytesLess a.file b.file = true ∨ (a.file = b.file ∧ Op.bytesLess b.file b.file = false) := fun h => by
      by_cases hz : cmpB a.file b.file = 0
      · refine .inr ⟨cmpB_zero hz, ?_⟩
        rw [less_bytes, cmpB_ord.refl]; rfl
      · left
        rw [hB, decide_eq_true_iff]
        omega
    clear hB hc la lb
    have S1 := fun H => CFn.RState a.has a.left a.done H
    have S2 := fun H => CFn.RState b.has b.left b.done H
    generalize CFn.state a.has a.left = sa at *
    generalize CFn.state b.has b.left = sb at *
    generalize rankC a = ra at *
    generalize rankC b = rb at *
    generalize cmpV a.ver b.ver = kv at *
    generalize goodC a = ga at *
    generalize goodC b = gb at *
    rcases hcs with h | ⟨h, hcs⟩
    · have h1 : ¬ rb < ra := by omega
      simp (disch := first | omega | (simp; done) | assumption) [wr64, wrU8, wrU64, Nat.add_assoc, -getElem?_pos, List.getElem?_cons_zero, List.getElem?_cons_succ, h, h1]
      refine CallW.val (r1 _) ?_
      simp (disch := first | omega | (simp; done) | assumption) [wr64, wrU8, wrU64, Nat.add_assoc, -getElem?_pos, List.getElem?_cons_zero, List.getElem?_cons_succ, ]
      refine CallW.val (r2 _) ?_
      simp (disch := first | omega | (simp; done) | assumption) [wr64, wrU8, wrU64, Nat.add_assoc, -getElem?_pos, List.getElem?_cons_zero, List.getElem?_cons_succ, h, t5, t6]
      exact ⟨n - (i + 1), by omega, by ((repeat (first | exact hk3 | refine keeps_set hok ?_ (by first | omega | (simp; done) | (simp; omega)) | refine keeps_new hok ?_ (by first | omega | (simp; done) | (simp; omega)))); done), by simp; omega, i + 1, rfl, by omega, by simp [t5], by simp⟩
    · subst h
      simp (disch := first | omega | (simp; done) | assumption) [wr64, wrU8, wrU64, Nat.add_assoc, -getElem?_pos, List.getElem?_cons_zero, List.getElem?_cons_succ, ]
      refine CallW.val (r1 _) ?_
      simp (disch := first | omega | (simp; done) | assumption) [wr64, wrU8, wrU64, Nat.add_assoc, -getElem?_pos, List.getElem?_cons_zero, List.getElem?_cons_succ, ]
      refine CallW.val (r2 _) ?_
      simp (disch := first | omega | (simp; done) | assumption) [wr64, wrU8, wrU64, Nat.add_assoc, -getElem?_pos, List.getElem?_cons_zero, List.getElem?_cons_succ, ]
      refine CallW.val (hC _) ?_
      rcases hcs with h2 | ⟨h2, hcs⟩
      · have h3 : ¬ kv < 0 := by omega
        have h4 : ¬ kv = 0 := by omega
        simp (disch := first | omega | (simp; done) | assumption) [wr64, wrU8, wrU64, Nat.add_assoc, -getElem?_pos, List.getElem?_cons_zero, List.getElem?_cons_succ, h3]
        refine CallW.val (S1 _) ?_
        simp (disch := first | omega | (simp; done) | assumption) [wr64, wrU8, wrU64, Nat.add_assoc, -getElem?_pos, List.getElem?_cons_zero, List.getElem?_cons_succ, ]
        refine CallW.val (S2 _) ?_
        simp (disch := first | omega | (simp; done) | assumption) [wr64, wrU8, wrU64, Nat.add_assoc, -getElem?_pos, List.getElem?_cons_zero, List.getElem?_cons_succ, h4, t5, t6]
        exact ⟨n - (i + 1), by omega, by ((repeat (first | exact hk3 | refine keeps_set hok ?_ (by first | omega | (simp; done) | (simp; omega)) | refine keeps_new hok ?_ (by first | omega | (simp; done) | (simp; omega)))); done), by simp; omega, i + 1, rfl, by omega, by simp [t5], by simp⟩
      · subst h2
        simp (disch := first | omega | (simp; done) | assumption) [wr64, wrU8, wrU64, Nat.add_assoc, -getElem?_pos, List.getElem?_cons_zero, List.getElem?_cons_succ, ]
        refine CallW.val (S1 _) ?_
        simp (disch := first | omega | (simp; done) | assumption) [wr64, wrU8, wrU64, Nat.add_assoc, -getElem?_pos, List.getElem?_cons_zero, List.getElem?_cons_succ, ]
        refine CallW.val (S2 _) ?_
        rcases hcs with h5 | ⟨h5, h6⟩
        · have e1 : sa = 0 := by rw [s1]; omega
          have e2 : ¬ sb = 0 := by rw [s2]; omega
          have e3 : ¬ 0 = sb := fun h => e2 h.symm
          simp (disch := first | omega | (simp; done) | assumption) [wr64, wrU8, wrU64, Nat.add_assoc, -getElem?_pos, List.getElem?_cons_zero, List.getElem?_cons_succ, e1, e2, e3, t5, t6]
          exact ⟨n - (i + 1), by omega, by ((repeat (first | exact hk3 | refine keeps_set hok ?_ (by first | omega | (simp; done) | (simp; omega)) | refine keeps_new hok ?_ (by first | omega | (simp; done) | (simp; omega)))); done), by simp; omega, i + 1, rfl, by omega, by simp [t5], by simp⟩
        · by_cases g : ga = 0
          · have e1 : sa = 0 := by rw [s1]; exact g
            have e2 : sb = 0 := by rw [s2]; omega
            rcases hfile h6 with hl | ⟨hl, hl2⟩
            · simp (disch := first | omega | (simp; done) | assumption) [wr64, wrU8, wrU64, Nat.add_assoc, -getElem?_pos, List.getElem?_cons_zero, List.getElem?_cons_succ, e1, e2, hl, t5, t6]
              exact ⟨n - (i + 1), by omega, by ((repeat (first | exact hk3 | refine keeps_set hok ?_ (by first | omega | (simp; done) | (simp; omega)) | refine keeps_new hok ?_ (by first | omega | (simp; done) | (simp; omega)))); done), by simp; omega, i + 1, rfl, by omega, by simp [t5], by simp⟩
            · simp (disch := first | omega | (simp; done) | assumption) [wr64, wrU8, wrU64, Nat.add_assoc, -getElem?_pos, List.getElem?_cons_zero, List.getElem?_cons_succ, e1, e2, hl, hl2, t5, t6]
              exact ⟨n - (i + 1), by omega, by ((repeat (first | exact hk3 | refine keeps_set hok ?_ (by first | omega | (simp; done) | (simp; omega)) | refine keeps_new hok ?_ (by first | omega | (simp; done) | (simp; omega)))); done), by simp; omega, i + 1, rfl, by omega, by simp [t5], by simp⟩
          · have e1 : ¬ sa = 0 := by rw [s1]; exact g
            have e2 : ¬ sb = 0 := by rw [s2]; omega
            by_cases e3 : sa = sb
            · rcases hfile h6 with hl | ⟨hl, hl2⟩
              · simp (disch := first | omega | (simp; done) | assumption) [wr64, wrU8, wrU64, Nat.add_assoc, -getElem?_pos, List.getElem?_cons_zero, List.getElem?_cons_succ, e1, e2, e3, hl, t5, t6]
                exact ⟨n - (i + 1), by omega, by ((repeat (first | exact hk3 | refine keeps_set hok ?_ (by first | omega | (simp; done) | (simp; omega)) | refine keeps_new hok ?_ (by first | omega | (simp; done) | (simp; omega)))); done), by simp; omega, i + 1, rfl, by omega, by simp [t5], by simp⟩
              · simp (disch := first | omega | (simp; done) | assumption) [wr64, wrU8, wrU64, Nat.add_assoc, -getElem?_pos, List.getElem?_cons_zero, List.getElem?_cons_succ, e1, e2, e3, hl, hl2, t5, t6]
                exact ⟨n - (i + 1), by omega, by ((repeat (first | exact hk3 | refine keeps_set hok ?_ (by first | omega | (simp; done) | (simp; omega)) | refine keeps_new hok ?_ (by first | omega | (simp; done) | (simp; omega)))); done), by simp; omega, i + 1, rfl, by omega, by simp [t5], by simp⟩
            · simp (disch := first | omega | (simp; done) | assumption) [wr64, wrU8, wrU64, Nat.add_assoc, -getElem?_pos, List.getElem?_cons_zero, List.getElem?_cons_succ, e1, e2, e3, t5, t6]
              exact ⟨n - (i + 1), by omega, by ((repeat (first | exact hk3 | refine keeps_set hok ?_ (by first | omega | (simp; done) | (simp; omega)) | refine keeps_new hok ?_ (by first | omega | (simp; done) | (simp; omega)))); done), by simp; omega, i + 1, rfl, by omega, by simp [t5], by simp⟩
  · have ci1 : ¬ (i : Int) < (n : Int) := by omega
    simp (disch := first | omega | (simp; done) | assumption) [wr64, wrU8, wrU64, Nat.add_assoc, -getElem?_pos, List.getElem?_cons_zero, List.getElem?_cons_succ, -loadC, -storeC, t5, t6, ci, ci1]
    refine CallW.val (Awake _) ?_
    simp (disch := first | omega | (simp; done) | assumption) [wr64, wrU8, wrU64, Nat.add_assoc, -getElem?_pos, List.getElem?_cons_zero, List.getElem?_cons_succ, ]
    exact ktrans hk hk3
theorem PickGroups.walk (a0 : Option Addr) (l0 c0 : Nat) (L0 : List (List AV)) (a1 : Option Addr) (l1 c1 : Nat) (L1 : List (List AV)) (W : World) (hsh : W.ShapedOpen Tryz.prog) (h0 : IsFlat W [.str] a0 l0 c0 L0) (h1 : IsFlat W [.str] a1 l1 c1 L1) :
    Calls Tryz.prog 5 #[.slice a0 l0 c0, .slice a1 l1 c1] W fun e W' => e = .returned (.bool true) ∧ Below W.heap.size W W' := by
  obtain ⟨v, fs, hv, rv, hf⟩ := PWalk.texts h0
  obtain ⟨w, vs, hw, rw', hvl⟩ := PWalk.texts h1
  exact PWalk.walk hsh (Groups hv hw hf hvl) (.cons rv (.cons rw' .nil))
end Go.Proofs.YtllkdoefonehoaaGreatDoor.PRef

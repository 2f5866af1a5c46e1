/- The law PickTotal. -/
import Derived.Test.YtllkdoefonehoaaDoorPLaw2
import Derived.Test.YtllkdoefonehoaaDoorPWalk
set_option linter.unusedVariables false
set_option linter.unusedSimpArgs false
set_option maxRecDepth 10000
set_option maxHeartbeats 4000000
namespace Go.Proofs.YtllkdoefonehoaaDoor.PPick
open Go Go.RowKit Go.Proofs.YtllkdoefonehoaaDoor Go.Proofs.YtllkdoefonehoaaDoor.Abs Go.Proofs.YtllkdoefonehoaaDoor.Ic Go.Proofs.YtllkdoefonehoaaDoor.Vm Go.Proofs.YtllkdoefonehoaaDoor.Dg Go.Proofs.YtllkdoefonehoaaDoor.PVer Go.Proofs.YtllkdoefonehoaaDoor.CFn Go.Proofs.YtllkdoefonehoaaDoor.CBig Go.Proofs.YtllkdoefonehoaaDoor.Cm Go.Proofs.YtllkdoefonehoaaDoor.SP Go.Proofs.YtllkdoefonehoaaDoor.Srt
/-- The candidate at a place. -/
def el (L : List Cd) (i : Nat) : Cd := L.getD i d0
theorem own_load {H : AH} {q : Nat} {t : TypeId} {L : List Cd} (hq : H.at_ q = some (.cells false t (rowsC L).flatten)) {i : Nat} (hi : i < L.length) : loadC H q (i * 6) (some 6) = some (.agg (cdC (el L i))) ∧ loadC H q (i * 6) none = some (.str (el L i).file) := by
  have h1 := load_flat (k := i) hq (all6 L) (by simpa using hi)
  have h2 := load_flat1 (k := i) (i := 0) hq (all6 L) (by simpa using hi) (by omega)
  have e : el L i = L[i] := by unfold el; rw [List.getD_eq_getElem?_getD, List.getElem?_eq_getElem hi]; rfl
  rw [e]
  refine ⟨by rw [h1]; simp, ?_⟩
  rw [Nat.add_zero] at h2
  rw [h2]
  simp [cdC]
theorem cmpB_zero : ∀ {a b : List UInt8}, cmpB a b = 0 → a = b
  | [], [], _ => rfl
  | _ :: _, [], h => by simp [Lib.compareBytes] at h
  | [], _ :: _, h => by simp [Lib.compareBytes] at h
  | a :: x, b :: y, h => by
    rw [cmpB_cons] at h
    have hz : cmpc a b = 0 := by
      by_cases e : cmpc a b = 0
      · exact e
      · rw [if_neg e] at h; exact h
    rw [if_pos hz] at h
    rw [cmpB_zero h]
    congr 1
    rw [cmpc_eq] at hz
    have := cmpI_zero.1 hz
    exact UInt8.toNat_inj.1 (by omega)
theorem cmpC_file {a b : Cd} (h : cmpC a b = 0) : a.file = b.file := by
  unfold cmpC Ord.lexc at h
  simp only [] at h
  repeat' split at h
  · exact cmpB_zero h
  all_goals contradiction
theorem getD_vok {L : List Cd} (hv : ∀ c ∈ L, VOk c) (p : Nat) : VOk (el L p) := by
  unfold el
  rw [List.getD_eq_getElem?_getD]
  cases hx : L[p]? with
  | none => show (0 : Nat) ≤ _; omega
  | some y => exact hv y (List.mem_of_getElem? hx)
def T1 (q n : Nat) (H : AH) (kk : Nat) (tm : Tms) (H' : AH) : Prop := H' = H ∧ ∃ i : Nat, kk = n - i ∧ i ≤ n ∧ tm 5 = .slice q 0 n 6 ∧ tm 6 = .int .i64 (i : Int)
def T2 (q n i : Nat) (H : AH) (kk : Nat) (tm : Tms) (H' : AH) : Prop := H' = H ∧ ∃ k : Nat, kk = n - k ∧ k ≤ n ∧ tm 5 = .slice q 0 n 6 ∧ tm 6 = .int .i64 (i : Int) ∧ tm 7 = .int .i64 (k : Int)
def T3 (q n i k : Nat) (x : Bool) (H : AH) (kk : Nat) (tm : Tms) (H' : AH) : Prop := H' = H ∧ ∃ j : Nat, kk = n - j ∧ j ≤ n ∧ tm 5 = .slice q 0 n 6 ∧ tm 6 = .int .i64 (i : Int) ∧ tm 7 = .int .i64 (k : Int) ∧ tm 8 = .bool x ∧ tm 10 = .int .i64 (j : Int)
theorem Total {fs vs : List (List UInt8)} {v w : AV} {H : AH} (hv : SL H v (fs.map AV.str)) (hw : SL H w (vs.map AV.str)) (hf : ∀ f ∈ fs, f.length ≤ 9223372036854775807) (hvl : ∀ f ∈ vs, f.length ≤ 9223372036854775807) :
    ACall Tryd.prog 5 [v, w] H (fun r H' => r = .bool true ∧ H' = H) := by
  refine acall_enter fits5 (by simp) (by simp) fun hok => ?_
  have hL40 : (candsOf (prs fs vs)).length ≤ 40 := by have := candsOf_len (prs fs vs); simp [prs] at this ⊢; omega
  have hvk := candsOf_vok (prs fs vs)
  simp (disch := first | omega | (simp; done) | assumption) [wr64, wrU8, wrU64, Nat.add_assoc, -getElem?_pos, List.getElem?_cons_zero, List.getElem?_cons_succ, -loadC, -storeC, ic5, rs5]
  refine CallW.okof (Cands hv hw hf hvl) ?_
  rintro r H1 ⟨hk1, hn1, ho⟩ hok1
  try simp only [newO_none] at hk1
  generalize candsOf (prs fs vs) = L at *
  rcases ho with ⟨_, rfl⟩ | ⟨q, rfl, _, hq, _, _⟩
  · simp (disch := first | omega | (simp; done) | assumption) [wr64, wrU8, wrU64, Nat.add_assoc, -getElem?_pos, List.getElem?_cons_zero, List.getElem?_cons_succ, ]
    refine iwp_loop (fun n tm H' => H' = H1 ∧ tm 5 = .snil ∧ tm 6 = .int .i64 0) 0 ⟨rfl, by simp, by simp⟩ ?_
    rintro n tm H' ⟨rfl, t5, t6⟩
    simp (disch := first | omega | (simp; done) | assumption) [wr64, wrU8, wrU64, Nat.add_assoc, -getElem?_pos, List.getElem?_cons_zero, List.getElem?_cons_succ, t5, t6]
    refine CallW.val (Awake _) ?_
    simp (disch := first | omega | (simp; done) | assumption) [wr64, wrU8, wrU64, Nat.add_assoc, -getElem?_pos, List.getElem?_cons_zero, List.getElem?_cons_succ, ]
    exact hk1
  have hld := fun i (hi : i < L.length) => own_load hq hi
  have hV := getD_vok hvk
  rw [List.length_map] at *
  generalize hn : L.length = n at *
  have hLs := fun i j => Less (el L i) (el L j) (hV i) (hV j)
  have hord : ∀ i j k, cmpC (el L i) (el L j) < 0 → cmpC (el L j) (el L k) < 0 → cmpC (el L i) (el L k) < 0 := fun i j k h1 h2 => by
    have h3 := cmpC_ord.tr (el L i) (el L j) (el L k) (by omega) (by omega)
    have h4 : cmpC (el L i) (el L k) ≠ 0 := fun e => by
      have := cmpC_ord.zero_l e (el L j)
      have := cmpC_ord.anti (el L j) (el L k)
      omega
    omega
  have hanti := fun i j => cmpC_ord.anti (el L i) (el L j)
  have hfile : ∀ i j, cmpC (el L i) (el L j) = 0 → (el L i).file = (el L j).file := fun i j h => cmpC_file h
  simp (disch := first | omega | (simp; done) | assumption) [wr64, wrU8, wrU64, Nat.add_assoc, -getElem?_pos, List.getElem?_cons_zero, List.getElem?_cons_succ, -loadC, -storeC]
  refine iwp_loop (T1 q n H1) n ⟨rfl, 0, rfl, by omega, by simp, by simp⟩ ?_
  rintro kk tm H2 ⟨rfl, i, rfl, hi, t5, t6⟩
  by_cases ci : i < n ∧ i < 6
  · have ci1 : (i : Int) < (n : Int) := by omega
    have ci2 : (i : Int) < 6 := by omega
    obtain ⟨li, fi⟩ := hld i ci.1
    simp (disch := first | omega | (simp; done) | assumption) [wr64, wrU8, wrU64, Nat.add_assoc, -getElem?_pos, List.getElem?_cons_zero, List.getElem?_cons_succ, -loadC, -storeC, t5, t6, ci.1, ci.2, ci1, ci2]
    refine iwp_loop (T2 q n i H2) n ⟨rfl, 0, rfl, by omega, by simp [t5], by simp [t6], by simp⟩ ?_
    clear t5 t6 tm
    rintro kk tm H2 ⟨rfl, k, rfl, hk, t5, t6, t7⟩
    by_cases ck : k < n ∧ k < 6
    · have ck1 : (k : Int) < (n : Int) := by omega
      have ck2 : (k : Int) < 6 := by omega
      obtain ⟨lk, fk⟩ := hld k ck.1
      simp (disch := first | omega | (simp; done) | assumption) [wr64, wrU8, wrU64, Nat.add_assoc, -getElem?_pos, List.getElem?_cons_zero, List.getElem?_cons_succ, -loadC, -storeC, t5, t6, t7, ck.1, ck.2, ck1, ck2, ci1, li, lk]
      refine CallW.val (hLs i k _) ?_
      simp (disch := first | omega | (simp; done) | assumption) [wr64, wrU8, wrU64, Nat.add_assoc, -getElem?_pos, List.getElem?_cons_zero, List.getElem?_cons_succ, -loadC, -storeC, t5, t6, t7, ck1, ci1, li, lk]
      refine CallW.val (hLs k i _) ?_
      have han := hanti i k
      rw [han]
      have hlt : cmpC (el L i) (el L k) < 0 ∨ cmpC (el L i) (el L k) = 0 ∨ 0 < cmpC (el L i) (el L k) := by omega
      rcases hlt with h | h | h
      · have h' : ¬ 0 < cmpC (el L i) (el L k) := by omega
        simp (disch := first | omega | (simp; done) | assumption) [wr64, wrU8, wrU64, Nat.add_assoc, -getElem?_pos, List.getElem?_cons_zero, List.getElem?_cons_succ, -loadC, -storeC, t5, t6, t7, h, h', ck1, ci1]
        refine iwp_loop (T3 q n i k true H2) n ⟨rfl, 0, rfl, by omega, by simp [t5], by simp [t6], by simp [t7], by simp, by simp⟩ ?_
        clear t5 t6 t7 tm
        rintro kk tm H2 ⟨rfl, j, rfl, hj, t5, t6, t7, t8, t10⟩
        by_cases cj : j < n ∧ j < 6
        · have cj1 : (j : Int) < (n : Int) := by omega
          have cj2 : (j : Int) < 6 := by omega
          obtain ⟨lj, fj⟩ := hld j cj.1
          simp (disch := first | omega | (simp; done) | assumption) [wr64, wrU8, wrU64, Nat.add_assoc, -getElem?_pos, List.getElem?_cons_zero, List.getElem?_cons_succ, -loadC, -storeC, t5, t6, t7, t8, t10, cj.1, cj.2, cj1, cj2, ck1, ci1, li, lk, lj]
          refine CallW.val (hLs k j _) ?_
          by_cases hkj : cmpC (el L k) (el L j) < 0
          · have hij := hord i k j h hkj
            simp (disch := first | omega | (simp; done) | assumption) [wr64, wrU8, wrU64, Nat.add_assoc, -getElem?_pos, List.getElem?_cons_zero, List.getElem?_cons_succ, -loadC, -storeC, t5, t6, t7, t8, t10, cj1, ck1, ci1, li, lk, lj, hkj]
            refine CallW.val (hLs i j _) ?_
            simp (disch := first | omega | (simp; done) | assumption) [wr64, wrU8, wrU64, Nat.add_assoc, -getElem?_pos, List.getElem?_cons_zero, List.getElem?_cons_succ, -loadC, -storeC, t5, t6, t7, t8, t10, hij]
            exact ⟨n - (j + 1), by omega, rfl, j + 1, rfl, by omega, by simp [t5], by simp [t6], by simp [t7], by simp [t8], by simp⟩
          · simp (disch := first | omega | (simp; done) | assumption) [wr64, wrU8, wrU64, Nat.add_assoc, -getElem?_pos, List.getElem?_cons_zero, List.getElem?_cons_succ, -loadC, -storeC, t5, t6, t7, t8, t10, cj1, ck1, ci1, li, lk, lj, hkj]
            exact ⟨n - (j + 1), by omega, rfl, j + 1, rfl, by omega, by simp [t5], by simp [t6], by simp [t7], by simp [t8], by simp⟩
        · have fin : ∀ tm' : Tms, tm' 5 = .slice q 0 n 6 → tm' 6 = .int .i64 (i : Int) → tm' 7 = .int .i64 ((k : Int) + 1) → ∃ m, m < n - k ∧ T2 q n i H2 m tm' H2 := fun tm' a b c => ⟨n - (k + 1), by omega, rfl, k + 1, rfl, by omega, a, b, by simpa using c⟩
          by_cases cj1 : j < n
          · have cj1' : (j : Int) < (n : Int) := by omega
            have cj2 : ¬ (j : Int) < 6 := by omega
            have cj3 : ¬ j < 6 := by omega
            simp (disch := first | omega | (simp; done) | assumption) [wr64, wrU8, wrU64, Nat.add_assoc, -getElem?_pos, List.getElem?_cons_zero, List.getElem?_cons_succ, -loadC, -storeC, t5, t6, t7, t8, t10, cj1, cj1', cj2, cj3]
            exact fin _ (by simp [t5]) (by simp [t6]) (by simp)
          · have cj1' : ¬ (j : Int) < (n : Int) := by omega
            simp (disch := first | omega | (simp; done) | assumption) [wr64, wrU8, wrU64, Nat.add_assoc, -getElem?_pos, List.getElem?_cons_zero, List.getElem?_cons_succ, -loadC, -storeC, t5, t6, t7, t8, t10, cj1, cj1']
            exact fin _ (by simp [t5]) (by simp [t6]) (by simp)
      · have hf := hfile i k h
        rw [← hf] at fk
        simp (disch := first | omega | (simp; done) | assumption) [wr64, wrU8, wrU64, Nat.add_assoc, -getElem?_pos, List.getElem?_cons_zero, List.getElem?_cons_succ, -loadC, -storeC, t5, t6, t7, h, ck1, ci1, fi, fk]
        refine iwp_loop (T3 q n i k false H2) n ⟨rfl, 0, rfl, by omega, by simp [t5], by simp [t6], by simp [t7], by simp, by simp⟩ ?_
        clear t5 t6 t7 tm
        rintro kk tm H2 ⟨rfl, j, rfl, hj, t5, t6, t7, t8, t10⟩
        by_cases cj : j < n ∧ j < 6
        · have cj1 : (j : Int) < (n : Int) := by omega
          have cj2 : (j : Int) < 6 := by omega
          simp (disch := first | omega | (simp; done) | assumption) [wr64, wrU8, wrU64, Nat.add_assoc, -getElem?_pos, List.getElem?_cons_zero, List.getElem?_cons_succ, -loadC, -storeC, t5, t6, t7, t8, t10, cj.1, cj.2, cj1, cj2]
          exact ⟨n - (j + 1), by omega, rfl, j + 1, rfl, by omega, by simp [t5], by simp [t6], by simp [t7], by simp [t8], by simp⟩
        · have fin : ∀ tm' : Tms, tm' 5 = .slice q 0 n 6 → tm' 6 = .int .i64 (i : Int) → tm' 7 = .int .i64 ((k : Int) + 1) → ∃ m, m < n - k ∧ T2 q n i H2 m tm' H2 := fun tm' a b c => ⟨n - (k + 1), by omega, rfl, k + 1, rfl, by omega, a, b, by simpa using c⟩
          by_cases cj1 : j < n
          · have cj1' : (j : Int) < (n : Int) := by omega
            have cj2 : ¬ (j : Int) < 6 := by omega
            have cj3 : ¬ j < 6 := by omega
            simp (disch := first | omega | (simp; done) | assumption) [wr64, wrU8, wrU64, Nat.add_assoc, -getElem?_pos, List.getElem?_cons_zero, List.getElem?_cons_succ, -loadC, -storeC, t5, t6, t7, t8, t10, cj1, cj1', cj2, cj3]
            exact fin _ (by simp [t5]) (by simp [t6]) (by simp)
          · have cj1' : ¬ (j : Int) < (n : Int) := by omega
            simp (disch := first | omega | (simp; done) | assumption) [wr64, wrU8, wrU64, Nat.add_assoc, -getElem?_pos, List.getElem?_cons_zero, List.getElem?_cons_succ, -loadC, -storeC, t5, t6, t7, t8, t10, cj1, cj1']
            exact fin _ (by simp [t5]) (by simp [t6]) (by simp)
      · have h' : 0 < cmpC (el L i) (el L k) := h
        have h2 : ¬ cmpC (el L i) (el L k) < 0 := by omega
        simp (disch := first | omega | (simp; done) | assumption) [wr64, wrU8, wrU64, Nat.add_assoc, -getElem?_pos, List.getElem?_cons_zero, List.getElem?_cons_succ, -loadC, -storeC, t5, t6, t7, h2, h', ck1, ci1]
        refine iwp_loop (T3 q n i k false H2) n ⟨rfl, 0, rfl, by omega, by simp [t5], by simp [t6], by simp [t7], by simp, by simp⟩ ?_
        clear t5 t6 t7 tm
        rintro kk tm H2 ⟨rfl, j, rfl, hj, t5, t6, t7, t8, t10⟩
        by_cases cj : j < n ∧ j < 6
        · have cj1 : (j : Int) < (n : Int) := by omega
          have cj2 : (j : Int) < 6 := by omega
          simp (disch := first | omega | (simp; done) | assumption) [wr64, wrU8, wrU64, Nat.add_assoc, -getElem?_pos, List.getElem?_cons_zero, List.getElem?_cons_succ, -loadC, -storeC, t5, t6, t7, t8, t10, cj.1, cj.2, cj1, cj2]
          exact ⟨n - (j + 1), by omega, rfl, j + 1, rfl, by omega, by simp [t5], by simp [t6], by simp [t7], by simp [t8], by simp⟩
        · have fin : ∀ tm' : Tms, tm' 5 = .slice q 0 n 6 → tm' 6 = .int .i64 (i : Int) → tm' 7 = .int .i64 ((k : Int) + 1) → ∃ m, m < n - k ∧ T2 q n i H2 m tm' H2 := fun tm' a b c => ⟨n - (k + 1), by omega, rfl, k + 1, rfl, by omega, a, b, by simpa using c⟩
          by_cases cj1 : j < n
          · have cj1' : (j : Int) < (n : Int) := by omega
            have cj2 : ¬ (j : Int) < 6 := by omega
            have cj3 : ¬ j < 6 := by omega
            simp (disch := first | omega | (simp; done) | assumption) [wr64, wrU8, wrU64, Nat.add_assoc, -getElem?_pos, List.getElem?_cons_zero, List.getElem?_cons_succ, -loadC, -storeC, t5, t6, t7, t8, t10, cj1, cj1', cj2, cj3]
            exact fin _ (by simp [t5]) (by simp [t6]) (by simp)
          · have cj1' : ¬ (j : Int) < (n : Int) := by omega
            simp (disch := first | omega | (simp; done) | assumption) [wr64, wrU8, wrU64, Nat.add_assoc, -getElem?_pos, List.getElem?_cons_zero, List.getElem?_cons_succ, -loadC, -storeC, t5, t6, t7, t8, t10, cj1, cj1']
            exact fin _ (by simp [t5]) (by simp [t6]) (by simp)
    · have fin : ∀ tm' : Tms, tm' 5 = .slice q 0 n 6 → tm' 6 = .int .i64 ((i : Int) + 1) → ∃ m, m < n - i ∧ T1 q n H2 m tm' H2 := fun tm' a b => ⟨n - (i + 1), by omega, rfl, i + 1, rfl, by omega, a, by simpa using b⟩
      by_cases ck1 : k < n
      · have ck1' : (k : Int) < (n : Int) := by omega
        have ck2 : ¬ (k : Int) < 6 := by omega
        have ck3 : ¬ k < 6 := by omega
        simp (disch := first | omega | (simp; done) | assumption) [wr64, wrU8, wrU64, Nat.add_assoc, -getElem?_pos, List.getElem?_cons_zero, List.getElem?_cons_succ, -loadC, -storeC, t5, t6, t7, ck1, ck1', ck2, ck3]
        exact fin _ (by simp [t5]) (by simp)
      · have ck1' : ¬ (k : Int) < (n : Int) := by omega
        simp (disch := first | omega | (simp; done) | assumption) [wr64, wrU8, wrU64, Nat.add_assoc, -getElem?_pos, List.getElem?_cons_zero, List.getElem?_cons_succ, -loadC, -storeC, t5, t6, t7, ck1, ck1']
        exact fin _ (by simp [t5]) (by simp)
  · by_cases ci1 : i < n
    · have ci1' : (i : Int) < (n : Int) := by omega
      have ci2 : ¬ (i : Int) < 6 := by omega
      have ci3 : ¬ i < 6 := by omega
      simp (disch := first | omega | (simp; done) | assumption) [wr64, wrU8, wrU64, Nat.add_assoc, -getElem?_pos, List.getElem?_cons_zero, List.getElem?_cons_succ, -loadC, -storeC, t5, t6, ci1, ci1', ci2, ci3]
      refine CallW.val (Awake _) ?_
      simp (disch := first | omega | (simp; done) | assumption) [wr64, wrU8, wrU64, Nat.add_assoc, -getElem?_pos, List.getElem?_cons_zero, List.getElem?_cons_succ, ]
      exact hk1
    · have ci1' : ¬ (i : Int) < (n : Int) := by omega
      simp (disch := first | omega | (simp; done) | assumption) [wr64, wrU8, wrU64, Nat.add_assoc, -getElem?_pos, List.getElem?_cons_zero, List.getElem?_cons_succ, -loadC, -storeC, t5, t6, ci1, ci1']
      refine CallW.val (Awake _) ?_
      simp (disch := first | omega | (simp; done) | assumption) [wr64, wrU8, wrU64, Nat.add_assoc, -getElem?_pos, List.getElem?_cons_zero, List.getElem?_cons_succ, ]
      exact hk1
theorem PickTotal.walk (a0 : Option Addr) (l0 c0 : Nat) (L0 : List (List AV)) (a1 : Option Addr) (l1 c1 : Nat) (L1 : List (List AV)) (W : World) (hsh : W.ShapedOpen Tryd.prog) (h0 : IsFlat W [.str] a0 l0 c0 L0) (h1 : IsFlat W [.str] a1 l1 c1 L1) :
    Calls Tryd.prog 5 #[.slice a0 l0 c0, .slice a1 l1 c1] W fun e W' => e = .returned (.bool true) ∧ Below W.heap.size W W' := by
  obtain ⟨v, fs, hv, rv, hf⟩ := PWalk.texts h0
  obtain ⟨w, vs, hw, rw', hvl⟩ := PWalk.texts h1
  exact PWalk.walk hsh (Total hv hw hf hvl) (.cons rv (.cons rw' .nil))
end Go.Proofs.YtllkdoefonehoaaDoor.PPick

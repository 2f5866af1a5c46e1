/- A stable sort of the library, worked out: swaps, rotations, insertion. -/
import Derived.Test.YtfimhkijacamoaaDoorSortP
import Derived.Test.YtfimhkijacamoaaDoorFRow
import Derived.Test.YtfimhkijacamoaaDoorIc
set_option linter.unusedVariables false
set_option linter.unusedSimpArgs false
set_option maxRecDepth 10000
set_option maxHeartbeats 4000000
namespace Go.Proofs.YtfimhkijacamoaaDoor.Srt
open Go Go.RowKit Go.Proofs.YtfimhkijacamoaaDoor Go.Proofs.YtfimhkijacamoaaDoor.Abs Go.Proofs.YtfimhkijacamoaaDoor.Ic Go.Proofs.YtfimhkijacamoaaDoor.SP
abbrev tE : Nat := 9
/-- Elements by their places, and what holds them against each other. -/
structure Env (f : Nat → List UInt8) (c : Nat → Nat → Int) (cf : FuncId) : Prop where
  cmp : ∀ p q H, ACall Tryd.prog cf [.str (f p), .str (f q)] H fun v H' => v = .int .i64 (c p q) ∧ H' = H
  ord : COrd c
def rowsE (f : Nat → List UInt8) (ps : List Nat) : List AV := (ps.map fun p => [AV.str (f p)]).flatten
def Set (f : Nat → List UInt8) (q : Nat) (ps : List Nat) (H : AH) : AH := H.set q (some (.cells false tE (rowsE f ps)))
def At (f : Nat → List UInt8) (q : Nat) (ps : List Nat) (H : AH) : Prop := H.at_ q = some (.cells false tE (rowsE f ps))
theorem set_set (H : AH) (b : Nat) (x y : Option AObj) : (H.set b x).set b y = H.set b y := by
  unfold AH.set
  congr 1
  funext k
  simp only
  split <;> rfl
theorem Set_Set (f : Nat → List UInt8) (q : Nat) (ps qs : List Nat) (H : AH) : Set f q qs (Set f q ps H) = Set f q qs H := set_set _ _ _ _
theorem at_Set (f : Nat → List UInt8) (q : Nat) (ps : List Nat) (H : AH) : At f q ps (Set f q ps H) := AH.set_same _ _ _
theorem Set_at {f : Nat → List UInt8} {q : Nat} {ps : List Nat} {H : AH} (h : At f q ps H) : Set f q ps H = H := by
  unfold Set AH.set
  cases H with
  | mk n a =>
    congr 1
    funext k
    split
    · rename_i e; subst e; exact h.symm
    · rfl
section
variable {f : Nat → List UInt8} {c : Nat → Nat → Int} {cf : FuncId} (E : Env f c cf)
include E
omit E in
theorem Env.all (ps : List Nat) : All 1 (ps.map fun p => [AV.str (f p)]) := fun l hl => by
  obtain ⟨p, _, rfl⟩ := List.mem_map.1 hl
  rfl
theorem Env.load {q : Nat} {ps : List Nat} {H : AH} (h : At f q ps H) {k : Nat} (hk : k < ps.length) : loadC H q k none = some (.str (f (gt ps k))) := by
  have _ := E.ord
  have := load_flat1 (k := k) (i := 0) h (Env.all ps) (by simpa using hk) (by omega)
  rw [Nat.mul_one, Nat.add_zero] at this
  rw [this]
  simp [gt_of hk]
theorem Env.store {q : Nat} {ps : List Nat} {H : AH} (h : At f q ps H) {k p : Nat} (hk : k < ps.length) : storeC H q k [.str (f p)] = some (Set f q (ps.set k p) H) := by
  have _ := E.ord
  have := store_flat (k := k) (x := [AV.str (f p)]) h (Env.all ps) (by simpa using hk) rfl rfl
  rw [Nat.mul_one] at this
  rw [this]
  unfold Set rowsE
  rw [List.map_set]
/-! ### A row of swaps -/
def SwI (q N a b n : Nat) (ps : List Nat) (f : Nat → List UInt8) (H : AH) (kk : Nat) (tm : Tms) (H' : AH) : Prop := ∃ (i : Nat) (ps' : List Nat), kk = n - i ∧ i ≤ n ∧ H' = Set f q ps' H ∧ ps'.length = N ∧ ps'.Perm ps ∧ gt ps' = SwR (gt ps) a b i ∧
  tm 0 = .slice q 0 N 1 ∧ tm 1 = .int .i64 (a : Int) ∧ tm 2 = .int .i64 (b : Int) ∧ tm 3 = .int .i64 (n : Int) ∧ tm 10 = .int .i64 (i : Int)
theorem SwapRange {q N a b n : Nat} {ps : List Nat} {H : AH} (h : At f q ps H) (hN : ps.length = N) (hab : a + n ≤ b) (hb : b + n ≤ N) (hN9 : N ≤ 1000000) :
    ACall Tryd.prog 71 [.slice q 0 N 1, .int .i64 (a : Int), .int .i64 (b : Int), .int .i64 (n : Int), .func (.func cf) [] []] H
      (fun v H' => v = .tuple [] ∧ ∃ ps', H' = Set f q ps' H ∧ ps'.length = N ∧ ps'.Perm ps ∧ gt ps' = SwR (gt ps) a b n) := by
  refine acall_of fits71 (by simp) ?_
  simp (disch := first | omega | (simp; done) | assumption) [wr64, wrU8, wrU64, Nat.add_assoc, -getElem?_pos, List.getElem?_cons_zero, List.getElem?_cons_succ, -loadC, -storeC, ic71, rs71]
  refine iwp_loop (SwI q N a b n ps f H) n ⟨0, ps, rfl, by omega, (Set_at h).symm, hN, .refl _, (swR_zero _ _ _).symm, by simp, by simp, by simp, by simp, by simp⟩ ?_
  rintro kk tm H1 ⟨i, ps1, rfl, hi, rfl, hl1, hp1, hg1, t0, t1, t2, t3, t10⟩
  by_cases hlt : i < n
  · have hlt' : (i : Int) < (n : Int) := by omega
    have hA := at_Set f q ps1 H
    have l1 := E.load hA (k := b + i) (by omega)
    have l2 := E.load hA (k := a + i) (by omega)
    have s1 := E.store hA (k := a + i) (p := gt ps1 (b + i)) (by omega)
    have hA2 := at_Set f q (ps1.set (a + i) (gt ps1 (b + i))) H
    have s2 := E.store hA2 (k := b + i) (p := gt ps1 (a + i)) (by simp; omega)
    have e1 : ((a : Int) + (i : Int)) = ((a + i : Nat) : Int) := by omega
    have e2 : ((b : Int) + (i : Int)) = ((b + i : Nat) : Int) := by omega
    have e3 : ((a + i : Nat) : Int) < (N : Int) := by omega
    have e4 : ((b + i : Nat) : Int) < (N : Int) := by omega
    generalize hka : a + i = ka at *
    generalize hkb : b + i = kb at *
    simp (disch := first | omega | (simp; done) | assumption) [wr64, wrU8, wrU64, Nat.add_assoc, -getElem?_pos, List.getElem?_cons_zero, List.getElem?_cons_succ, -loadC, -storeC, t0, t1, t2, t3, t10, hlt, hlt', e1, e2, e3, e4, l1, l2, s1, s2, Set_Set]
    refine ⟨n - (i + 1), by omega, i + 1, (ps1.set ka (gt ps1 kb)).set kb (gt ps1 ka), rfl, by omega, rfl, by simp [hl1], (swp_perm (by omega) (by omega)).trans hp1, ?_, by simp [t0], by simp [t1], by simp [t2], by simp [t3], by simp⟩
    funext k
    rw [swR_succ (by omega), ← hg1]
    have := gt_swp (ps := ps1) (i := ka) (j := kb) k (by omega) (by omega)
    unfold swp at this
    rw [this, hka, hkb]
  · have hlt' : ¬ (i : Int) < (n : Int) := by omega
    obtain rfl : i = n := by omega
    simp (disch := first | omega | (simp; done) | assumption) [wr64, wrU8, wrU64, Nat.add_assoc, -getElem?_pos, List.getElem?_cons_zero, List.getElem?_cons_succ, -loadC, -storeC, t0, t1, t2, t3, t10, hlt, hlt']
    exact ⟨ps1, rfl, hl1, hp1, hg1⟩
/-! ### A rotation -/
def RoI (q N a m b : Nat) (ps : List Nat) (f : Nat → List UInt8) (cf : FuncId) (H : AH) (kk : Nat) (tm : Tms) (H' : AH) : Prop := ∃ (i j : Nat) (ps' : List Nat), kk = i + j ∧ 0 < i ∧ 0 < j ∧ i ≤ m ∧ m + j ≤ N ∧ H' = Set f q ps' H ∧ ps'.length = N ∧ ps'.Perm ps ∧ Rot (gt ps') (m - i) m (m + j) = Rot (gt ps) a m b ∧
  tm 0 = .slice q 0 N 1 ∧ tm 2 = .int .i64 (m : Int) ∧ tm 4 = .func (.func cf) [] [] ∧ tm 10 = .int .i64 (i : Int) ∧ tm 11 = .int .i64 (j : Int)
theorem Rotate {q N a m b : Nat} {ps : List Nat} {H : AH} (h : At f q ps H) (hN : ps.length = N) (ham : a < m) (hmb : m < b) (hb : b ≤ N) (hN9 : N ≤ 1000000) :
    ACall Tryd.prog 58 [.slice q 0 N 1, .int .i64 (a : Int), .int .i64 (m : Int), .int .i64 (b : Int), .func (.func cf) [] []] H
      (fun v H' => v = .tuple [] ∧ ∃ ps', H' = Set f q ps' H ∧ ps'.length = N ∧ ps'.Perm ps ∧ gt ps' = Rot (gt ps) a m b) := by
  refine acall_of fits58 (by simp) ?_
  have e1 : ((m : Int) - (a : Int)) = ((m - a : Nat) : Int) := by omega
  have e2 : ((b : Int) - (m : Int)) = ((b - m : Nat) : Int) := by omega
  simp (disch := first | omega | (simp; done) | assumption) [wr64, wrU8, wrU64, Nat.add_assoc, -getElem?_pos, List.getElem?_cons_zero, List.getElem?_cons_succ, -loadC, -storeC, ic58, rs58, e1, e2]
  refine iwp_loop (RoI q N a m b ps f cf H) _ ⟨m - a, b - m, ps, rfl, by omega, by omega, by omega, by omega, (Set_at h).symm, hN, .refl _, by rw [show m - (m - a) = a by omega, show m + (b - m) = b by omega], by simp, by simp, by simp, by simp, by simp⟩ ?_
  clear e1 e2
  rintro kk tm H1 ⟨i, j, ps1, rfl, hi, hj, him, hjN, rfl, hl1, hp1, hr1, t0, t2, t4, t10, t11⟩
  have hA := at_Set f q ps1 H
  by_cases hij : i = j
  · subst hij
    have e1 : ((m : Int) - (i : Int)) = ((m - i : Nat) : Int) := by omega
    have hS := SwapRange E hA hl1 (a := m - i) (b := m) (n := i) (by omega) (by omega) hN9
    have hre := rot_eq (g := gt ps1) him
    generalize m - i = mi at *
    simp (disch := first | omega | (simp; done) | assumption) [wr64, wrU8, wrU64, Nat.add_assoc, -getElem?_pos, List.getElem?_cons_zero, List.getElem?_cons_succ, -loadC, -storeC, t0, t2, t4, t10, t11, e1]
    refine CallW.of hS ?_
    rintro v H2 ⟨rfl, ps2, rfl, hl2, hp2, hg2⟩
    simp (disch := first | omega | (simp; done) | assumption) [wr64, wrU8, wrU64, Nat.add_assoc, -getElem?_pos, List.getElem?_cons_zero, List.getElem?_cons_succ, Set_Set]
    exact ⟨ps2, rfl, hl2, hp2.trans hp1, by rw [hg2, hre]; exact hr1⟩
  · have hij' : ¬ ((i : Int) = (j : Int)) := by omega
    by_cases hgt : j < i
    · have hgt' : (j : Int) < (i : Int) := by omega
      have e1 : ((m : Int) - (i : Int)) = ((m - i : Nat) : Int) := by omega
      have e2 : ((i : Int) - (j : Int)) = ((i - j : Nat) : Int) := by omega
      have hS := SwapRange E hA hl1 (a := m - i) (b := m) (n := j) (by omega) (by omega) hN9
      have hrt := rot_gt (g := gt ps1) him hgt
      generalize hmi : m - i = mi at *
      simp (disch := first | omega | (simp; done) | assumption) [wr64, wrU8, wrU64, Nat.add_assoc, -getElem?_pos, List.getElem?_cons_zero, List.getElem?_cons_succ, -loadC, -storeC, t0, t2, t4, t10, t11, e1, hij, hij', hgt, hgt']
      refine CallW.of hS ?_
      rintro v H2 ⟨rfl, ps2, rfl, hl2, hp2, hg2⟩
      simp (disch := first | omega | (simp; done) | assumption) [wr64, wrU8, wrU64, Nat.add_assoc, -getElem?_pos, List.getElem?_cons_zero, List.getElem?_cons_succ, Set_Set, t0, t2, t4, t10, t11, e2]
      exact ⟨i - j + j, by omega, i - j, j, ps2, rfl, by omega, hj, by omega, hjN, rfl, hl2, hp2.trans hp1, by rw [hg2, hrt]; exact hr1, by simp [t0], by simp [t2], by simp [t4], by simp, by simp [t11]⟩
    · have hgt' : ¬ (j : Int) < (i : Int) := by omega
      have e1 : ((m : Int) - (i : Int)) = ((m - i : Nat) : Int) := by omega
      have e2 : ((m : Int) + (j : Int) - (i : Int)) = ((m + j - i : Nat) : Int) := by omega
      have e3 : ((j : Int) - (i : Int)) = ((j - i : Nat) : Int) := by omega
      have hS := SwapRange E hA hl1 (a := m - i) (b := m + j - i) (n := i) (by omega) (by omega) hN9
      have hrt := rot_lt (g := gt ps1) him (by omega : i < j)
      generalize hmi : m - i = mi at *
      generalize hmj : m + j - i = mj at *
      simp (disch := first | omega | (simp; done) | assumption) [wr64, wrU8, wrU64, Nat.add_assoc, -getElem?_pos, List.getElem?_cons_zero, List.getElem?_cons_succ, -loadC, -storeC, t0, t2, t4, t10, t11, e1, e2, hij, hij', hgt, hgt']
      refine CallW.of hS ?_
      rintro v H2 ⟨rfl, ps2, rfl, hl2, hp2, hg2⟩
      simp (disch := first | omega | (simp; done) | assumption) [wr64, wrU8, wrU64, Nat.add_assoc, -getElem?_pos, List.getElem?_cons_zero, List.getElem?_cons_succ, Set_Set, t0, t2, t4, t10, t11, e3]
      exact ⟨i + (j - i), by omega, i, j - i, ps2, rfl, hi, by omega, him, by omega, rfl, hl2, hp2.trans hp1, by rw [hg2, hmi, hrt]; exact hr1, by simp [t0], by simp [t2], by simp [t4], by simp [t10], by simp⟩
/-! ### Insertion -/
def InI (c : Nat → Nat → Int) (q N a b : Nat) (ps : List Nat) (f : Nat → List UInt8) (cf : FuncId) (H : AH) (kk : Nat) (tm : Tms) (H' : AH) : Prop := ∃ (i : Nat) (ps' : List Nat), kk = N + 1 - i ∧ a + 1 ≤ i ∧ (i ≤ b ∨ i = a + 1) ∧ H' = Set f q ps' H ∧ ps'.length = N ∧ ps'.Perm ps ∧
  Srt c (gt ps') a i ∧ Mm (gt ps) (gt ps') a i ∧ Ou (gt ps) (gt ps') a i ∧
  tm 0 = .slice q 0 N 1 ∧ tm 1 = .int .i64 (a : Int) ∧ tm 2 = .int .i64 (b : Int) ∧ tm 3 = .func (.func cf) [] [] ∧ tm 8 = .int .i64 (i : Int)
def InJ (c : Nat → Nat → Int) (q N a b i : Nat) (ps : List Nat) (f : Nat → List UInt8) (cf : FuncId) (H : AH) (kk : Nat) (tm : Tms) (H' : AH) : Prop := ∃ (j : Nat) (ps' : List Nat), kk = j ∧ a ≤ j ∧ j ≤ i ∧ H' = Set f q ps' H ∧ ps'.length = N ∧ ps'.Perm ps ∧ gt ps' = Mw (gt ps) j i ∧
  (∀ k, j ≤ k → k < i → pr c (gt ps i) (gt ps k)) ∧ tm 0 = .slice q 0 N 1 ∧ tm 1 = .int .i64 (a : Int) ∧ tm 2 = .int .i64 (b : Int) ∧ tm 3 = .func (.func cf) [] [] ∧ tm 8 = .int .i64 (i : Int) ∧ tm 9 = .int .i64 (j : Int)
theorem Insertion {q N a b : Nat} {ps : List Nat} {H : AH} (h : At f q ps H) (hN : ps.length = N) (hab : a ≤ b) (hb : b ≤ N) (hN9 : N ≤ 1000000) (hinc : ∀ x y, a ≤ x → x < y → y < b → gt ps x < gt ps y) :
    ACall Tryd.prog 40 [.slice q 0 N 1, .int .i64 (a : Int), .int .i64 (b : Int), .func (.func cf) [] []] H
      (fun v H' => v = .tuple [] ∧ ∃ ps', H' = Set f q ps' H ∧ ps'.length = N ∧ ps'.Perm ps ∧ Srt c (gt ps') a b ∧ Mm (gt ps) (gt ps') a b ∧ Ou (gt ps) (gt ps') a b) := by
  have hc := E.ord
  refine acall_of fits40 (by simp) ?_
  simp (disch := first | omega | (simp; done) | assumption) [wr64, wrU8, wrU64, Nat.add_assoc, -getElem?_pos, List.getElem?_cons_zero, List.getElem?_cons_succ, -loadC, -storeC, ic40, rs40]
  refine iwp_loop (InI c q N a b ps f cf H) (N + 1 - (a + 1)) ⟨a + 1, ps, rfl, by omega, .inr rfl, (Set_at h).symm, hN, .refl _, fun x y h1 h2 h3 => by omega, Mm.refl _ _ _, Ou.refl _ _ _, by simp, by simp, by simp, by simp, by simp⟩ ?_
  rintro kk tm H1 ⟨i, ps1, rfl, hi, hib, rfl, hl1, hp1, hs1, hm1, ho1, t0, t1, t2, t3, t8⟩
  by_cases hlt : i < b
  · have hlt' : (i : Int) < (b : Int) := by omega
    simp (disch := first | omega | (simp; done) | assumption) [wr64, wrU8, wrU64, Nat.add_assoc, -getElem?_pos, List.getElem?_cons_zero, List.getElem?_cons_succ, -loadC, -storeC, t0, t1, t2, t3, t8, hlt, hlt']
    refine iwp_loop (InJ c q N a b i ps1 f cf H) i ⟨i, ps1, rfl, by omega, by omega, rfl, hl1, .refl _, by rw [mw_id], fun k h1 h2 => by omega, by simp [t0], by simp [t1], by simp [t2], by simp [t3], by simp [t8], by simp⟩ ?_
    clear t0 t1 t2 t3 t8 tm
    rintro j tm H1 ⟨j', ps2, rfl, hj, hji, rfl, hl2, hp2, hg2, hq2, t0, t1, t2, t3, t8, t9⟩
    have fin : (∀ k, a ≤ k → k < j → pr c (gt ps1 k) (gt ps1 i)) → ∃ m, m < N + 1 - i ∧ ∃ (i1 : Nat) (ps' : List Nat), m = N + 1 - i1 ∧ a + 1 ≤ i1 ∧ (i1 ≤ b ∨ i1 = a + 1) ∧ Set f q ps2 H = Set f q ps' H ∧ ps'.length = N ∧ ps'.Perm ps ∧ Srt c (gt ps') a i1 ∧ Mm (gt ps) (gt ps') a i1 ∧ Ou (gt ps) (gt ps') a i1 ∧ i1 = i + 1 := fun hq1 => by
      obtain ⟨w1, w2, w3⟩ := mw_srt hc hs1 hj hji hq1 hq2
      rw [← hg2] at w1 w2 w3
      exact ⟨N + 1 - (i + 1), by omega, i + 1, ps2, rfl, by omega, .inl (by omega), rfl, hl2, hp2.trans hp1, w1, (hm1.wide ho1 (Nat.le_refl _) (by omega)).trans w2, (ho1.wide (Nat.le_refl _) (by omega)).trans w3, rfl⟩
    by_cases hja : a < j
    · have hja' : (a : Int) < (j : Int) := by omega
      have hA := at_Set f q ps2 H
      have l1 := E.load hA (k := j) (by omega)
      have l2 := E.load hA (k := j - 1) (by omega)
      have g1 : gt ps2 j = gt ps1 i := by rw [hg2]; unfold Mw; rw [if_pos rfl]
      have g2 : gt ps2 (j - 1) = gt ps1 (j - 1) := by rw [hg2]; unfold Mw; rw [if_neg (by omega), if_neg (by omega)]
      have s1 := E.store hA (k := j) (p := gt ps2 (j - 1)) (by omega)
      have hA2 := at_Set f q (ps2.set j (gt ps2 (j - 1))) H
      have s2 := E.store hA2 (k := j - 1) (p := gt ps2 j) (by simp; omega)
      have hgt := gt_swp (ps := ps2) (i := j) (j := j - 1) (hi := by omega) (hj := by omega)
      have hpm := swp_perm (ps := ps2) (i := j) (j := j - 1) (by omega) (by omega)
      unfold swp at hgt hpm
      have e1 : (j : Int) - 1 = ((j - 1 : Nat) : Int) := by omega
      have e2 : (j : Int) < (N : Int) := by omega
      have e3 : ((j - 1 : Nat) : Int) < (N : Int) := by omega
      have hms := mw_swap (g := gt ps1) (j := j) (i := i) (by omega) hji
      have htag : gt ps1 (j - 1) < gt ps1 i := by
        obtain ⟨k', k1, k2, e⟩ := hm1 (j - 1) (by omega) (by omega)
        rw [e, ho1 i (by omega)]
        exact hinc k' i k1 k2 hlt
      generalize hj1 : j - 1 = j1 at *
      simp only [g1, g2] at s1 s2 hpm l1 l2 hgt
      simp (disch := first | omega | (simp; done) | assumption) [wr64, wrU8, wrU64, Nat.add_assoc, -getElem?_pos, List.getElem?_cons_zero, List.getElem?_cons_succ, -loadC, -storeC, t0, t1, t2, t3, t8, t9, hja, hja', e1, e2, e3, l1, l2]
      refine CallW.val (E.cmp _ _ _) ?_
      by_cases hcn : c (gt ps1 i) (gt ps1 j1) < 0
      · simp (disch := first | omega | (simp; done) | assumption) [wr64, wrU8, wrU64, Nat.add_assoc, -getElem?_pos, List.getElem?_cons_zero, List.getElem?_cons_succ, -loadC, -storeC, t0, t1, t2, t3, t8, t9, hja, hja', e1, e2, e3, l1, l2, hcn, s1, s2, Set_Set, g1, g2]
        refine ⟨j1, by omega, j1, (ps2.set j (gt ps1 j1)).set j1 (gt ps1 i), rfl, by omega, by omega, rfl, by simp [hl2], hpm.trans hp2, ?_, fun k k1 k2 => ?_, by simp [t0], by simp [t1], by simp [t2], by simp [t3], by simp [t8], by simp⟩
        · funext k
          rw [hgt k, hms k, ← hg2, g1, g2]
        · by_cases e : k = j1
          · subst e; exact .inl hcn
          · exact hq2 k (by omega) k2
      · have hq := fin fun k k1 k2 => by
          have hp := pr_neg hc htag hcn
          by_cases e : k = j1
          · subst e; exact hp
          · exact pr_trans hc (hs1 k j1 k1 (by omega) (by omega)) hp
        clear fin
        obtain ⟨m, hm, i1, ps3, w1, w2, w3, w4, w5, w6, w7, w8, w9, rfl⟩ := hq
        simp (disch := first | omega | (simp; done) | assumption) [wr64, wrU8, wrU64, Nat.add_assoc, -getElem?_pos, List.getElem?_cons_zero, List.getElem?_cons_succ, -loadC, -storeC, t0, t1, t2, t3, t8, t9, hja, hja', e1, e2, e3, hcn]
        exact ⟨m, hm, i + 1, ps3, w1, w2, w3, w4, w5, w6, w7, w8, w9, by simp [t0], by simp [t1], by simp [t2], by simp [t3], by simp⟩
    · have hja' : ¬ (a : Int) < (j : Int) := by omega
      obtain ⟨m, hm, i1, ps3, w1, w2, w3, w4, w5, w6, w7, w8, w9, rfl⟩ := fin fun k k1 k2 => by omega
      simp (disch := first | omega | (simp; done) | assumption) [wr64, wrU8, wrU64, Nat.add_assoc, -getElem?_pos, List.getElem?_cons_zero, List.getElem?_cons_succ, -loadC, -storeC, t0, t1, t2, t3, t8, t9, hja, hja']
      exact ⟨m, hm, i + 1, ps3, w1, w2, w3, w4, w5, w6, w7, w8, w9, by simp [t0], by simp [t1], by simp [t2], by simp [t3], by simp⟩
  · have hlt' : ¬ (i : Int) < (b : Int) := by omega
    simp (disch := first | omega | (simp; done) | assumption) [wr64, wrU8, wrU64, Nat.add_assoc, -getElem?_pos, List.getElem?_cons_zero, List.getElem?_cons_succ, -loadC, -storeC, t0, t1, t2, t3, t8, hlt, hlt']
    refine ⟨ps1, rfl, hl1, hp1, ?_, ?_, ?_⟩
    · intro x y x1 x2 x3
      exact hs1 x y x1 x2 (by omega)
    · rcases hib with h9 | h9
      · obtain rfl : i = b := by omega
        exact hm1
      · intro k k1 k2
        obtain ⟨k', k3, k4, e⟩ := hm1 k k1 (by omega)
        exact ⟨k', k3, by omega, e⟩
    · intro k hk
      by_cases e : i = b
      · subst e; exact ho1 k hk
      · have hia : i = a + 1 := by omega
        by_cases e2 : k = a
        · subst e2
          obtain ⟨k', k3, k4, e3⟩ := hm1 k (Nat.le_refl _) (by omega)
          rw [e3]; congr 1; omega
        · exact ho1 k (by omega)
end
end Go.Proofs.YtfimhkijacamoaaDoor.Srt

/- A stable sort of the library, worked out: merging. -/
import Derived.Test.YtfimhkijacamoaaDoorSrt1
set_option linter.unusedVariables false
set_option linter.unusedSimpArgs false
set_option maxRecDepth 10000
set_option maxHeartbeats 4000000
namespace Go.Proofs.YtfimhkijacamoaaDoor.Srt
open Go Go.RowKit Go.Proofs.YtfimhkijacamoaaDoor Go.Proofs.YtfimhkijacamoaaDoor.Abs Go.Proofs.YtfimhkijacamoaaDoor.Ic Go.Proofs.YtfimhkijacamoaaDoor.SP
abbrev MC : ICode := ic41
def MQ (f : Nat → List UInt8) (c : Nat → Nat → Int) (q N a b : Nat) (ps : List Nat) (H : AH) (v : AV) (H' : AH) : Prop :=
  v = .tuple [] ∧ ∃ ps', H' = Set f q ps' H ∧ ps'.length = N ∧ ps'.Perm ps ∧ Srt c (gt ps') a b ∧ Mm (gt ps) (gt ps') a b ∧ Ou (gt ps) (gt ps') a b
def Args (q N a m b : Nat) (cf : FuncId) : List AV := [.slice q 0 N 1, .int .i64 (a : Int), .int .i64 (m : Int), .int .i64 (b : Int), .func (.func cf) [] []]
def Tm (q N a m b : Nat) (cf : FuncId) (tm : Tms) : Prop := tm 0 = .slice q 0 N 1 ∧ tm 1 = .int .i64 (a : Int) ∧ tm 2 = .int .i64 (m : Int) ∧ tm 3 = .int .i64 (b : Int) ∧ tm 4 = .func (.func cf) [] []
theorem half (i j : Nat) : ((i : Int) + (j : Int)).fdiv (2 ^ min 1 IntKind.u64.bits) = (((i + j) / 2 : Nat) : Int) := by
  have e : (2 : Int) ^ min 1 IntKind.u64.bits = 2 := by decide
  rw [e, Int.fdiv_eq_ediv_of_nonneg _ (by omega)]
  omega
section
variable {f : Nat → List UInt8} {c : Nat → Nat → Int} {cf : FuncId} (E : Env f c cf)
include E
/-! ### One put into a row behind it -/
def MaI (c : Nat → Nat → Int) (cf : FuncId) (g : Nat → Nat) (q N a m b : Nat) (H : AH) (kk : Nat) (tm : Tms) (H' : AH) : Prop := H' = H ∧ ∃ i j : Nat, kk = j - i ∧ m ≤ i ∧ i ≤ j ∧ j ≤ b ∧ (∀ k, m ≤ k → k < i → pr c (g k) (g a)) ∧ (∀ k, j ≤ k → k < b → pr c (g a) (g k)) ∧
  Tm q N a m b cf tm ∧ tm 10 = .int .i64 (i : Int) ∧ tm 11 = .int .i64 (j : Int)
def MaJ (cf : FuncId) (q N a m b i : Nat) (ps : List Nat) (f : Nat → List UInt8) (H : AH) (kk : Nat) (tm : Tms) (H' : AH) : Prop := ∃ (k : Nat) (ps' : List Nat), kk = i - k ∧ a ≤ k ∧ k + 1 ≤ i ∧ H' = Set f q ps' H ∧ ps'.length = N ∧ ps'.Perm ps ∧ gt ps' = Mv (gt ps) a (k + 1) ∧
  Tm q N a m b cf tm ∧ tm 10 = .int .i64 (i : Int) ∧ tm 13 = .int .i64 (k : Int)
theorem MergeA {C : ICode} (hC : C = MC) {q N a b : Nat} {ps : List Nat} {H : AH} (h : At f q ps H) (hN : ps.length = N) (hmb : a + 1 < b) (hb : b ≤ N) (hN9 : N ≤ 1000000) (h2 : Srt c (gt ps) (a + 1) b) (h3 : Sep (gt ps) a (a + 1) b) :
    IWP Tryd.prog C (fnPost rs41 (MQ f c q N a b ps H)) (tm0 (Args q N a (a + 1) b cf)) H := by
  have hc := E.ord
  have e1 : (((a + 1 : Nat) : Int) - (a : Int)) = 1 := by omega
  subst hC
  generalize hm : a + 1 = m at *
  simp (disch := first | omega | (simp; done) | assumption) [wr64, wrU8, wrU64, Nat.add_assoc, -getElem?_pos, List.getElem?_cons_zero, List.getElem?_cons_succ, -loadC, -storeC, MC, ic41, rs41, Args, e1]
  refine iwp_loop (MaI c cf (gt ps) q N a m b H) (b - m) ⟨rfl, m, b, rfl, by omega, by omega, by omega, fun k h1 h2 => by omega, fun k h1 h2 => by omega, ⟨by simp, by simp, by simp, by simp, by simp⟩, by simp, by simp⟩ ?_
  rintro kk tm H1 ⟨rfl, i, j, rfl, hi, hij, hj, q1, q2, ⟨t0, t1, t2, t3, t4⟩, t10, t11⟩
  by_cases hlt : i < j
  · have hlt' : (i : Int) < (j : Int) := by omega
    have hh := half i j
    have hA : At f q ps H1 := h
    have l1 := E.load hA (k := (i + j) / 2) (by omega)
    have l2 := E.load hA (k := a) (by omega)
    have htag := h3 a ((i + j) / 2) (by omega) (by omega) (by omega) (by omega)
    have hx1 : i ≤ (i + j) / 2 := by omega
    have hx2 : (i + j) / 2 < j := by omega
    generalize (i + j) / 2 = x at *
    have e2 : (x : Int) < (N : Int) := by omega
    have e3 : (a : Int) < (N : Int) := by omega
    simp (disch := first | omega | (simp; done) | assumption) [wr64, wrU8, wrU64, Nat.add_assoc, -getElem?_pos, List.getElem?_cons_zero, List.getElem?_cons_succ, -loadC, -storeC, t0, t1, t2, t3, t4, t10, t11, hlt, hlt', hh, e2, e3, l1, l2]
    refine CallW.val (E.cmp _ _ _) ?_
    by_cases hcn : c (gt ps x) (gt ps a) < 0
    · simp (disch := first | omega | (simp; done) | assumption) [wr64, wrU8, wrU64, Nat.add_assoc, -getElem?_pos, List.getElem?_cons_zero, List.getElem?_cons_succ, -loadC, -storeC, t0, t1, t2, t3, t4, t10, t11, hcn]
      refine ⟨j - (x + 1), by omega, rfl, x + 1, j, rfl, by omega, by omega, hj, fun k k1 k2 => ?_, q2, ⟨by simp [t0], by simp [t1], by simp [t2], by simp [t3], by simp [t4]⟩, by simp, by simp [t11]⟩
      by_cases e : k = x
      · subst e; exact .inl hcn
      · exact pr_trans hc (h2 k x (by omega) (by omega) (by omega)) (.inl hcn)
    · simp (disch := first | omega | (simp; done) | assumption) [wr64, wrU8, wrU64, Nat.add_assoc, -getElem?_pos, List.getElem?_cons_zero, List.getElem?_cons_succ, -loadC, -storeC, t0, t1, t2, t3, t4, t10, t11, hcn]
      refine ⟨x - i, by omega, rfl, i, x, rfl, by omega, by omega, by omega, q1, fun k k1 k2 => ?_, ⟨by simp [t0], by simp [t1], by simp [t2], by simp [t3], by simp [t4]⟩, by simp [t10], by simp⟩
      have hp := pr_neg hc htag hcn
      by_cases e : k = x
      · subst e; exact hp
      · exact pr_trans hc hp (h2 x k (by omega) (by omega) (by omega))
  · have hlt' : ¬ (i : Int) < (j : Int) := by omega
    obtain rfl : i = j := by omega
    simp (disch := first | omega | (simp; done) | assumption) [wr64, wrU8, wrU64, Nat.add_assoc, -getElem?_pos, List.getElem?_cons_zero, List.getElem?_cons_succ, -loadC, -storeC, t0, t1, t2, t3, t4, t10, t11, hlt, hlt']
    refine iwp_loop (MaJ cf q N a m b i ps f H1) (i - a) ⟨a, ps, rfl, by omega, by omega, (Set_at h).symm, hN, .refl _, (mv_id _ _).symm, ⟨by simp [t0], by simp [t1], by simp [t2], by simp [t3], by simp [t4]⟩, by simp [t10], by simp⟩ ?_
    clear t0 t1 t2 t3 t4 t10 t11 hlt hlt' tm
    rintro kk tm H2 ⟨k, ps1, rfl, hk, hki, rfl, hl1, hp1, hg1, ⟨t0, t1, t2, t3, t4⟩, t10, t13⟩
    by_cases hlt : k + 1 < i
    · have hlt' : (k : Int) < (i : Int) - 1 := by omega
      have hA := at_Set f q ps1 H1
      have l1 := E.load hA (k := k) (by omega)
      have l2 := E.load hA (k := k + 1) (by omega)
      have s1 := E.store hA (k := k) (p := gt ps1 (k + 1)) (by omega)
      have hA2 := at_Set f q (ps1.set k (gt ps1 (k + 1))) H1
      have s2 := E.store hA2 (k := k + 1) (p := gt ps1 k) (by simp; omega)
      have hgt := gt_swp (ps := ps1) (i := k) (j := k + 1) (hi := by omega) (hj := by omega)
      have hpm := swp_perm (ps := ps1) (i := k) (j := k + 1) (by omega) (by omega)
      unfold swp at hgt hpm
      have hms := mv_swap (g := gt ps) hk
      have e1 : (k : Int) + 1 = ((k + 1 : Nat) : Int) := by omega
      have e2 : (k : Int) < (N : Int) := by omega
      have e3 : ((k + 1 : Nat) : Int) < (N : Int) := by omega
      generalize hk1 : k + 1 = k1 at *
      simp (disch := first | omega | (simp; done) | assumption) [wr64, wrU8, wrU64, Nat.add_assoc, -getElem?_pos, List.getElem?_cons_zero, List.getElem?_cons_succ, -loadC, -storeC, t0, t1, t2, t3, t4, t10, t13, hlt, hlt', e1, e2, e3, l1, l2, s1, s2, Set_Set]
      refine ⟨i - k1, by omega, k1, (ps1.set k (gt ps1 k1)).set k1 (gt ps1 k), rfl, by omega, by omega, rfl, by simp [hl1], hpm.trans hp1, ?_, ⟨by simp [t0], by simp [t1], by simp [t2], by simp [t3], by simp [t4]⟩, by simp [t10], by simp⟩
      funext y
      rw [hgt y, hg1]
      subst hk1
      rw [hms y]
    · have hlt' : ¬ (k : Int) < (i : Int) - 1 := by omega
      simp (disch := first | omega | (simp; done) | assumption) [wr64, wrU8, wrU64, Nat.add_assoc, -getElem?_pos, List.getElem?_cons_zero, List.getElem?_cons_succ, -loadC, -storeC, t0, t1, t2, t3, t4, t10, t13, hlt, hlt']
      obtain rfl : i = k + 1 := by omega
      subst hm
      obtain ⟨w1, w2, w3⟩ := mv_srt hc h2 h3 (by omega : a + 1 ≤ k + 1) (by omega) q1 q2
      exact ⟨rfl, ps1, rfl, hl1, hp1, by rw [hg1]; exact w1, by rw [hg1]; exact w2, by rw [hg1]; exact w3⟩
/-! ### One put into a row ahead of it -/
def MbI (c : Nat → Nat → Int) (cf : FuncId) (g : Nat → Nat) (q N a m b : Nat) (H : AH) (kk : Nat) (tm : Tms) (H' : AH) : Prop := H' = H ∧ ∃ i j : Nat, kk = j - i ∧ a ≤ i ∧ i ≤ j ∧ j ≤ m ∧ (∀ k, a ≤ k → k < i → pr c (g k) (g m)) ∧ (∀ k, j ≤ k → k < m → pr c (g m) (g k)) ∧
  Tm q N a m b cf tm ∧ tm 14 = .int .i64 (i : Int) ∧ tm 15 = .int .i64 (j : Int)
def MbJ (cf : FuncId) (q N a m b i : Nat) (ps : List Nat) (f : Nat → List UInt8) (H : AH) (kk : Nat) (tm : Tms) (H' : AH) : Prop := ∃ (k : Nat) (ps' : List Nat), kk = k ∧ i ≤ k ∧ k ≤ m ∧ H' = Set f q ps' H ∧ ps'.length = N ∧ ps'.Perm ps ∧ gt ps' = Mw (gt ps) k m ∧
  Tm q N a m b cf tm ∧ tm 14 = .int .i64 (i : Int) ∧ tm 17 = .int .i64 (k : Int)
theorem MergeB {C : ICode} (hC : C = MC) {q N a m : Nat} {ps : List Nat} {H : AH} (h : At f q ps H) (hN : ps.length = N) (ham : a + 1 < m) (hb : m + 1 ≤ N) (hN9 : N ≤ 1000000) (h1 : Srt c (gt ps) a m) (h3 : Sep (gt ps) a m (m + 1)) :
    IWP Tryd.prog C (fnPost rs41 (MQ f c q N a (m + 1) ps H)) (tm0 (Args q N a m (m + 1) cf)) H := by
  have hc := E.ord
  have e1 : (((m + 1 : Nat) : Int) - (m : Int)) = 1 := by omega
  have e0 : ¬ ((m : Int) - (a : Int)) = 1 := by omega
  subst hC
  generalize hm : m + 1 = b at *
  simp (disch := first | omega | (simp; done) | assumption) [wr64, wrU8, wrU64, Nat.add_assoc, -getElem?_pos, List.getElem?_cons_zero, List.getElem?_cons_succ, -loadC, -storeC, MC, ic41, rs41, Args, e0, e1]
  refine iwp_loop (MbI c cf (gt ps) q N a m b H) (m - a) ⟨rfl, a, m, rfl, by omega, by omega, by omega, fun k h1 h2 => by omega, fun k h1 h2 => by omega, ⟨by simp, by simp, by simp, by simp, by simp⟩, by simp, by simp⟩ ?_
  rintro kk tm H1 ⟨rfl, i, j, rfl, hi, hij, hj, q1, q2, ⟨t0, t1, t2, t3, t4⟩, t14, t15⟩
  by_cases hlt : i < j
  · have hlt' : (i : Int) < (j : Int) := by omega
    have hh := half i j
    have hA : At f q ps H1 := h
    have l1 := E.load hA (k := (i + j) / 2) (by omega)
    have l2 := E.load hA (k := m) (by omega)
    have htag := h3 ((i + j) / 2) m (by omega) (by omega) (by omega) (by omega)
    have hx1 : i ≤ (i + j) / 2 := by omega
    have hx2 : (i + j) / 2 < j := by omega
    generalize (i + j) / 2 = x at *
    have e2 : (x : Int) < (N : Int) := by omega
    have e3 : (m : Int) < (N : Int) := by omega
    simp (disch := first | omega | (simp; done) | assumption) [wr64, wrU8, wrU64, Nat.add_assoc, -getElem?_pos, List.getElem?_cons_zero, List.getElem?_cons_succ, -loadC, -storeC, t0, t1, t2, t3, t4, t14, t15, hlt, hlt', hh, e2, e3, l1, l2]
    refine CallW.val (E.cmp _ _ _) ?_
    by_cases hcn : c (gt ps m) (gt ps x) < 0
    · simp (disch := first | omega | (simp; done) | assumption) [wr64, wrU8, wrU64, Nat.add_assoc, -getElem?_pos, List.getElem?_cons_zero, List.getElem?_cons_succ, -loadC, -storeC, t0, t1, t2, t3, t4, t14, t15, hcn]
      refine ⟨x - i, by omega, rfl, i, x, rfl, by omega, by omega, by omega, q1, fun k k1 k2 => ?_, ⟨by simp [t0], by simp [t1], by simp [t2], by simp [t3], by simp [t4]⟩, by simp [t14], by simp⟩
      by_cases e : k = x
      · subst e; exact .inl hcn
      · exact pr_trans hc (.inl hcn) (h1 x k (by omega) (by omega) (by omega))
    · simp (disch := first | omega | (simp; done) | assumption) [wr64, wrU8, wrU64, Nat.add_assoc, -getElem?_pos, List.getElem?_cons_zero, List.getElem?_cons_succ, -loadC, -storeC, t0, t1, t2, t3, t4, t14, t15, hcn]
      refine ⟨j - (x + 1), by omega, rfl, x + 1, j, rfl, by omega, by omega, hj, fun k k1 k2 => ?_, q2, ⟨by simp [t0], by simp [t1], by simp [t2], by simp [t3], by simp [t4]⟩, by simp, by simp [t15]⟩
      have hp := pr_neg hc htag hcn
      by_cases e : k = x
      · subst e; exact hp
      · exact pr_trans hc (h1 k x (by omega) (by omega) (by omega)) hp
  · have hlt' : ¬ (i : Int) < (j : Int) := by omega
    obtain rfl : i = j := by omega
    simp (disch := first | omega | (simp; done) | assumption) [wr64, wrU8, wrU64, Nat.add_assoc, -getElem?_pos, List.getElem?_cons_zero, List.getElem?_cons_succ, -loadC, -storeC, t0, t1, t2, t3, t4, t14, t15, hlt, hlt']
    refine iwp_loop (MbJ cf q N a m b i ps f H1) m ⟨m, ps, rfl, by omega, by omega, (Set_at h).symm, hN, .refl _, by rw [mw_id], ⟨by simp [t0], by simp [t1], by simp [t2], by simp [t3], by simp [t4]⟩, by simp [t14], by simp⟩ ?_
    clear t0 t1 t2 t3 t4 t14 t15 hlt hlt' tm
    rintro k tm H2 ⟨k', ps1, rfl, hk, hki, rfl, hl1, hp1, hg1, ⟨t0, t1, t2, t3, t4⟩, t14, t17⟩
    by_cases hlt : i < k
    · have hlt' : (i : Int) < (k : Int) := by omega
      have hA := at_Set f q ps1 H1
      have l1 := E.load hA (k := k) (by omega)
      have l2 := E.load hA (k := k - 1) (by omega)
      have s1 := E.store hA (k := k) (p := gt ps1 (k - 1)) (by omega)
      have hA2 := at_Set f q (ps1.set k (gt ps1 (k - 1))) H1
      have s2 := E.store hA2 (k := k - 1) (p := gt ps1 k) (by simp; omega)
      have hgt := gt_swp (ps := ps1) (i := k) (j := k - 1) (hi := by omega) (hj := by omega)
      have hpm := swp_perm (ps := ps1) (i := k) (j := k - 1) (by omega) (by omega)
      unfold swp at hgt hpm
      have hms := mw_swap (g := gt ps) (j := k) (i := m) (by omega) hki
      have e1 : (k : Int) - 1 = ((k - 1 : Nat) : Int) := by omega
      have e2 : (k : Int) < (N : Int) := by omega
      have e3 : ((k - 1 : Nat) : Int) < (N : Int) := by omega
      generalize hk1 : k - 1 = k1 at *
      simp (disch := first | omega | (simp; done) | assumption) [wr64, wrU8, wrU64, Nat.add_assoc, -getElem?_pos, List.getElem?_cons_zero, List.getElem?_cons_succ, -loadC, -storeC, t0, t1, t2, t3, t4, t14, t17, hlt, hlt', e1, e2, e3, l1, l2, s1, s2, Set_Set]
      refine ⟨k1, by omega, k1, (ps1.set k (gt ps1 k1)).set k1 (gt ps1 k), rfl, by omega, by omega, rfl, by simp [hl1], hpm.trans hp1, ?_, ⟨by simp [t0], by simp [t1], by simp [t2], by simp [t3], by simp [t4]⟩, by simp [t14], by simp⟩
      funext y
      rw [hgt y, hg1, hms y]
    · have hlt' : ¬ (i : Int) < (k : Int) := by omega
      simp (disch := first | omega | (simp; done) | assumption) [wr64, wrU8, wrU64, Nat.add_assoc, -getElem?_pos, List.getElem?_cons_zero, List.getElem?_cons_succ, -loadC, -storeC, t0, t1, t2, t3, t4, t14, t17, hlt, hlt']
      obtain rfl : i = k := by omega
      subst hm
      obtain ⟨w1, w2, w3⟩ := mw_srt hc h1 hi hki q1 q2
      exact ⟨rfl, ps1, rfl, hl1, hp1, by rw [hg1]; exact w1, by rw [hg1]; exact w2, by rw [hg1]; exact w3⟩
/-! ### The cut -/
def McI (c : Nat → Nat → Int) (cf : FuncId) (g : Nat → Nat) (q N a m b mid n p lo hi : Nat) (H : AH) (kk : Nat) (tm : Tms) (H' : AH) : Prop := H' = H ∧ ∃ s r : Nat, kk = r - s ∧ Cut c g n lo s r hi ∧ Tm q N a m b cf tm ∧ tm 18 = .int .i64 (mid : Int) ∧
  tm 19 = .int .i64 (n : Int) ∧ tm 20 = .int .i64 (s : Int) ∧ tm 21 = .int .i64 (r : Int) ∧ tm 22 = .int .i64 (p : Int)
/-- Where the cut lies. -/
def McM (c : Nat → Nat → Int) (cf : FuncId) (g : Nat → Nat) (q N a m b mid n lo hi : Nat) (H : AH) (tm : Tms) (H' : AH) : Prop := H' = H ∧ ∃ s e : Nat, e + s = n ∧ Cut c g n lo s s hi ∧ Tm q N a m b cf tm ∧ tm 18 = .int .i64 (mid : Int) ∧
  tm 20 = .int .i64 (s : Int) ∧ tm 24 = .int .i64 (e : Int)
theorem McL {X : ICode} {Q : IPost} {q N a m b mid n p lo hi : Nat} {ps : List Nat} {H : AH} (h : At f q ps H) (hN : ps.length = N) (ham : a + 1 < m) (hmb : m + 1 < b) (hb : b ≤ N) (hN9 : N ≤ 1000000) (h1 : Srt c (gt ps) a m) (h2 : Srt c (gt ps) m b) (h3 : Sep (gt ps) a m b)
    (m1 : 2 * mid ≤ a + b) (m2 : a + b ≤ 2 * mid + 1) (hn : n = mid + m) (hp : p + 1 = n) (hl : (mid < m ∧ lo + b = n ∧ hi = mid) ∨ (m ≤ mid ∧ lo = a ∧ hi = m))
    (hX : ∀ tm H', McM c cf (gt ps) q N a m b mid n lo hi H tm H' → IWP Tryd.prog X Q tm H') {tm : Tms} (h0 : McI c cf (gt ps) q N a m b mid n p lo hi H (hi - lo) tm H) :
    LoopW Tryd.prog (part_ [1, 1, 1, 1, 1, 1, 1, 0, 0, 0] MC) (IPost.inBlock 8 (IPost.then (IWP Tryd.prog (.seq (part_ [1, 1, 1, 1, 1, 1, 1, 1, 0] MC) X) Q) Q)) tm H markL := by
  have hc := E.ord
  refine iwp_loop (McI c cf (gt ps) q N a m b mid n p lo hi H) (hi - lo) h0 ?_
  clear h0 tm
  rintro kk tm H1 ⟨rfl, s, r, rfl, hC, ⟨t0, t1, t2, t3, t4⟩, t18, t19, t20, t21, t22⟩
  by_cases hlt : s < r
  · have hlt' : (s : Int) < (r : Int) := by omega
    have hcb := hC
    obtain ⟨c1, c2, c3, _, _⟩ := hcb
    have hA : At f q ps H1 := h
    have hs := half s r
    have hl1 := fun (hn' : ¬ c (gt ps (n - 1 - (s + r) / 2)) (gt ps ((s + r) / 2)) < 0) => cut_left hc h1 h2 h3 (by omega : a ≤ lo) (by omega : hi ≤ m) (by omega) (by omega) hC (x := (s + r) / 2) (by omega) (by omega) hn'
    have hr1 := fun (hn' : c (gt ps (n - 1 - (s + r) / 2)) (gt ps ((s + r) / 2)) < 0) => cut_right hc h1 h2 h3 (by omega : a ≤ lo) (by omega : hi ≤ m) (by omega) (by omega) hC (x := (s + r) / 2) (by omega) (by omega) hn'
    have hx1 : s ≤ (s + r) / 2 := by omega
    have hx2 : (s + r) / 2 < r := by omega
    have l1 := E.load hA (k := n - 1 - (s + r) / 2) (by omega)
    have l2 := E.load hA (k := (s + r) / 2) (by omega)
    generalize hx : (s + r) / 2 = x at *
    generalize hnx : n - 1 - x = nx at *
    have e2 : ((p : Int) - (x : Int)) = (nx : Int) := by omega
    have e3 : (nx : Int) < (N : Int) := by omega
    have e4 : (x : Int) < (N : Int) := by omega
    simp (disch := first | omega | (simp; done) | assumption) [wr64, wrU8, wrU64, Nat.add_assoc, -getElem?_pos, List.getElem?_cons_zero, List.getElem?_cons_succ, -loadC, -storeC, part_, MC, ic41, t0, t1, t2, t3, t4, t18, t19, t20, t21, t22, hlt, hlt', hs, e2, e3, e4, l1, l2]
    refine CallW.val (E.cmp _ _ _) ?_
    by_cases hcn : c (gt ps nx) (gt ps x) < 0
    · simp (disch := first | omega | (simp; done) | assumption) [wr64, wrU8, wrU64, Nat.add_assoc, -getElem?_pos, List.getElem?_cons_zero, List.getElem?_cons_succ, -loadC, -storeC, t0, t1, t2, t3, t4, t18, t19, t20, t21, t22, hcn]
      exact ⟨x - s, by omega, rfl, s, x, rfl, hr1 hcn, ⟨by simp [t0], by simp [t1], by simp [t2], by simp [t3], by simp [t4]⟩, by simp [t18], by simp [t19], by simp [t20], by simp, by simp [t22]⟩
    · simp (disch := first | omega | (simp; done) | assumption) [wr64, wrU8, wrU64, Nat.add_assoc, -getElem?_pos, List.getElem?_cons_zero, List.getElem?_cons_succ, -loadC, -storeC, t0, t1, t2, t3, t4, t18, t19, t20, t21, t22, hcn]
      exact ⟨r - (x + 1), by omega, rfl, x + 1, r, rfl, hl1 hcn, ⟨by simp [t0], by simp [t1], by simp [t2], by simp [t3], by simp [t4]⟩, by simp [t18], by simp [t19], by simp, by simp [t21], by simp [t22]⟩
  · have hlt' : ¬ (s : Int) < (r : Int) := by omega
    obtain ⟨c1, c2, c3, c4, c5⟩ := id hC
    obtain rfl : s = r := by omega
    have e2 : ((n : Int) - (s : Int)) = ((n - s : Nat) : Int) := by omega
    obtain ⟨e, he⟩ : ∃ e, e + s = n := ⟨n - s, by omega⟩
    rw [show n - s = e by omega] at e2
    simp (disch := first | omega | (simp; done) | assumption) [wr64, wrU8, wrU64, Nat.add_assoc, -getElem?_pos, List.getElem?_cons_zero, List.getElem?_cons_succ, -loadC, -storeC, part_, MC, ic41, t0, t1, t2, t3, t4, t18, t19, t20, t21, t22, hlt, hlt', e2]
    exact hX _ _ ⟨rfl, s, e, he, hC, ⟨by simp [t0], by simp [t1], by simp [t2], by simp [t3], by simp [t4]⟩, by simp [t18], by simp [t20], by simp⟩
theorem MergeC1 {C : ICode} (hC : C = MC) {Q : IPost} {q N a m b mid n lo hi : Nat} {ps : List Nat} {H : AH} (h : At f q ps H) (hN : ps.length = N) (ham : a + 1 < m) (hmb : m + 1 < b) (hb : b ≤ N) (hN9 : N ≤ 1000000) (h1 : Srt c (gt ps) a m) (h2 : Srt c (gt ps) m b) (h3 : Sep (gt ps) a m b)
    (m1 : 2 * mid ≤ a + b) (m2 : a + b ≤ 2 * mid + 1) (hn : n = mid + m) (hl : (mid < m ∧ lo + b = n ∧ hi = mid) ∨ (m ≤ mid ∧ lo = a ∧ hi = m))
    (hX : ∀ tm H', McM c cf (gt ps) q N a m b mid n lo hi H tm H' → IWP Tryd.prog (part_ [1, 1, 1, 1, 1, 1, 1, 1, 1] C) Q tm H') :
    IWP Tryd.prog C Q (tm0 (Args q N a m b cf)) H := by
  have hc := E.ord
  have e0 : ¬ ((m : Int) - (a : Int)) = 1 := by omega
  have e1 : ¬ ((b : Int) - (m : Int)) = 1 := by omega
  have hcut : C = (.seq (part_ [0] MC) (.seq (part_ [1, 0] MC) (.seq (part_ [1, 1, 0] MC) (.seq (part_ [1, 1, 1, 0] MC) (.seq (part_ [1, 1, 1, 1, 0] MC) (.seq (part_ [1, 1, 1, 1, 1, 0] MC) (.seq (part_ [1, 1, 1, 1, 1, 1, 0] MC) (.seq (.block 8 (.loop (part_ [1, 1, 1, 1, 1, 1, 1, 0, 0, 0] MC))) (.seq (part_ [1, 1, 1, 1, 1, 1, 1, 1, 0] MC) (part_ [1, 1, 1, 1, 1, 1, 1, 1, 1] MC)))))))))) := by rw [hC]; kernel_rfl
  rw [show part_ [1, 1, 1, 1, 1, 1, 1, 1, 1] C = part_ [1, 1, 1, 1, 1, 1, 1, 1, 1] MC by rw [hC]] at hX
  rw [hcut]
  clear hcut hC
  generalize part_ [1, 1, 1, 1, 1, 1, 1, 1, 1] MC = X at *
  obtain ⟨p, hp⟩ : ∃ p, p + 1 = n := ⟨n - 1, by omega⟩
  have key := fun tm => McL E (tm := tm) h hN ham hmb hb hN9 h1 h2 h3 m1 m2 hn hp hl hX
  clear hX
  generalize part_ [1, 1, 1, 1, 1, 1, 1, 0, 0, 0] MC = L at *
  generalize hY : part_ [1, 1, 1, 1, 1, 1, 1, 1, 0] MC = Y at *
  have hh := half a b
  rw [show (a + b) / 2 = mid by omega] at hh
  have e2 : ((mid : Int) + (m : Int)) = (n : Int) := by omega
  have e4 : ((n : Int) - 1) = (p : Int) := by omega
  rcases hl with ⟨l1, l2, l3⟩ | ⟨l1, l2, l3⟩
  · have l1' : (mid : Int) < (m : Int) := by omega
    have e3 : ((n : Int) - (b : Int)) = (lo : Int) := by omega
    subst l3
    simp (disch := first | omega | (simp; done) | assumption) [wr64, wrU8, wrU64, Nat.add_assoc, -getElem?_pos, List.getElem?_cons_zero, List.getElem?_cons_succ, -loadC, -storeC, part_, MC, ic41, Args, e0, e1, e2, e3, e4, hh, l1, l1']
    exact key _ ⟨rfl, lo, hi, rfl, ⟨by omega, by omega, by omega, fun k k1 k2 => by omega, fun k k1 k2 => by omega⟩, ⟨by simp, by simp, by simp, by simp, by simp⟩, by simp, by simp, by simp, by simp, by simp⟩
  · have l1' : ¬ (mid : Int) < (m : Int) := by omega
    subst l2 l3
    simp (disch := first | omega | (simp; done) | assumption) [wr64, wrU8, wrU64, Nat.add_assoc, -getElem?_pos, List.getElem?_cons_zero, List.getElem?_cons_succ, -loadC, -storeC, part_, MC, ic41, Args, e0, e1, e2, e4, hh, l1, l1']
    exact key _ ⟨rfl, _, _, rfl, ⟨by omega, by omega, by omega, fun k k1 k2 => by omega, fun k k1 k2 => by omega⟩, ⟨by simp, by simp, by simp, by simp, by simp⟩, by simp, by simp, by simp, by simp, by simp⟩
end
end Go.Proofs.YtfimhkijacamoaaDoor.Srt

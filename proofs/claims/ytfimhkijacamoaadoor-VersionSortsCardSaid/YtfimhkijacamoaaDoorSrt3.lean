/- A stable sort of the library, worked out: merging, and the whole. -/
import Derived.Test.YtfimhkijacamoaaDoorSrt2
set_option linter.unusedVariables false
set_option linter.unusedSimpArgs false
set_option maxRecDepth 10000
set_option maxHeartbeats 4000000
namespace Go.Proofs.YtfimhkijacamoaaDoor.Srt
open Go Go.RowKit Go.Proofs.YtfimhkijacamoaaDoor Go.Proofs.YtfimhkijacamoaaDoor.Abs Go.Proofs.YtfimhkijacamoaaDoor.Ic Go.Proofs.YtfimhkijacamoaaDoor.SP
section
variable {f : Nat → List UInt8} {c : Nat → Nat → Int} {cf : FuncId} (E : Env f c cf)
include E
def Me1 (cf : FuncId) (f : Nat → List UInt8) (q N a m b mid s e : Nat) (ps : List Nat) (H : AH) (tm : Tms) (H' : AH) : Prop := ∃ ps', H' = Set f q ps' H ∧ ps'.length = N ∧ ps'.Perm ps ∧ gt ps' = Rot (gt ps) s m e ∧ Tm q N a m b cf tm ∧ tm 18 = .int .i64 (mid : Int) ∧
  tm 20 = .int .i64 (s : Int) ∧ tm 24 = .int .i64 (e : Int)
def Me2 (c : Nat → Nat → Int) (cf : FuncId) (f : Nat → List UInt8) (q N a m b mid s e : Nat) (ps : List Nat) (H : AH) (tm : Tms) (H' : AH) : Prop := ∃ ps', H' = Set f q ps' H ∧ ps'.length = N ∧ ps'.Perm ps ∧
  Srt c (gt ps') a mid ∧ Mm (Rot (gt ps) s m e) (gt ps') a mid ∧ Ou (Rot (gt ps) s m e) (gt ps') a mid ∧ Tm q N a m b cf tm ∧ tm 18 = .int .i64 (mid : Int) ∧ tm 24 = .int .i64 (e : Int)
theorem MergeC2 {C : ICode} (hC : C = MC) {q N a m b mid n lo hi : Nat} {ps : List Nat} {H : AH} {tm : Tms} (h : At f q ps H) (hN : ps.length = N) (ham : a + 1 < m) (hmb : m + 1 < b) (hb : b ≤ N) (hN9 : N ≤ 1000000) (h1 : Srt c (gt ps) a m) (h2 : Srt c (gt ps) m b) (h3 : Sep (gt ps) a m b)
    (m1 : 2 * mid ≤ a + b) (m2 : a + b ≤ 2 * mid + 1) (hn : n = mid + m) (hl : (mid < m ∧ lo + b = n ∧ hi = mid) ∨ (m ≤ mid ∧ lo = a ∧ hi = m))
    (IH : ∀ (a' m' b' : Nat) (ps' : List Nat) (H' : AH), b' - a' < b - a → At f q ps' H' → ps'.length = N → a' < m' → m' < b' → b' ≤ N → Srt c (gt ps') a' m' → Srt c (gt ps') m' b' → Sep (gt ps') a' m' b' →
      ACall Tryd.prog 41 (Args q N a' m' b' cf) H' (MQ f c q N a' b' ps' H'))
    {H1 : AH} (hM : McM c cf (gt ps) q N a m b mid n lo hi H tm H1) : IWP Tryd.prog (part_ [1, 1, 1, 1, 1, 1, 1, 1, 1] C) (fnPost rs41 (MQ f c q N a b ps H)) tm H1 := by
  have hc := E.ord
  obtain ⟨rfl, s, e, hes, hcut, ⟨t0, t1, t2, t3, t4⟩, t18, t20, t24⟩ := hM
  obtain ⟨d1, d2, d3, d4, d5, d6, d7, d8, d9, d10, d11, d12, d13⟩ := cut_done hc (by omega) (by omega) h1 h2 h3 (by omega : mid = (a + b) / 2) (lo := lo) (hi := hi) (s := s) (by omega) (by rw [← hn]; exact hcut)
  rw [show mid + m - s = e by omega] at d3 d4 d5 d7 d8 d9 d10 d11 d12 d13
  have hcut : part_ [1, 1, 1, 1, 1, 1, 1, 1, 1] C = (.seq (part_ [1, 1, 1, 1, 1, 1, 1, 1, 1, 0] MC) (.seq (part_ [1, 1, 1, 1, 1, 1, 1, 1, 1, 1, 0] MC) (part_ [1, 1, 1, 1, 1, 1, 1, 1, 1, 1, 1] MC))) := by rw [hC]; kernel_rfl
  rw [hcut]
  clear hcut hC
  generalize hP1 : part_ [1, 1, 1, 1, 1, 1, 1, 1, 1, 0] MC = P1
  generalize hP2 : part_ [1, 1, 1, 1, 1, 1, 1, 1, 1, 1, 0] MC = P2
  generalize hP3 : part_ [1, 1, 1, 1, 1, 1, 1, 1, 1, 1, 1] MC = P3
  refine iwp_cut (Me1 cf f q N a m b mid s e ps H1) ?_ ?_
  · rw [← hP1]
    clear hP1 hP2 hP3
    by_cases hr : s < m ∧ m < e
    · have r1 : (s : Int) < (m : Int) := by omega
      have r2 : (m : Int) < (e : Int) := by omega
      simp (disch := first | omega | (simp; done) | assumption) [wr64, wrU8, wrU64, Nat.add_assoc, -getElem?_pos, List.getElem?_cons_zero, List.getElem?_cons_succ, part_, MC, ic41, t0, t1, t2, t3, t4, t18, t20, t24, hr.1, hr.2, r1, r2]
      refine CallW.of (Rotate E h hN hr.1 hr.2 (by omega) hN9) ?_
      rintro v H2 ⟨rfl, ps2, rfl, w1, w2, w3⟩
      simp (disch := first | omega | (simp; done) | assumption) [wr64, wrU8, wrU64, Nat.add_assoc, -getElem?_pos, List.getElem?_cons_zero, List.getElem?_cons_succ, t0, t1, t2, t3, t4]
      exact ⟨ps2, rfl, w1, w2, w3, ⟨by simp [t0], by simp [t1], by simp [t2], by simp [t3], by simp [t4]⟩, by simp [t18], by simp [t20], by simp [t24]⟩
    · have hd : Me1 cf f q N a m b mid s e ps H1 = Me1 cf f q N a m b mid s e ps H1 := rfl
      have fin : ∀ tm', Tm q N a m b cf tm' ∧ tm' 18 = .int .i64 (mid : Int) ∧ tm' 20 = .int .i64 (s : Int) ∧ tm' 24 = .int .i64 (e : Int) → Me1 cf f q N a m b mid s e ps H1 tm' H1 := fun tm' ⟨p1, p2, p3, p4⟩ =>
        ⟨ps, (Set_at h).symm, hN, .refl _, (rot_triv (by omega) d2 d3).symm, p1, p2, p3, p4⟩
      by_cases r0 : s < m
      · have r1 : (s : Int) < (m : Int) := by omega
        have r2 : ¬ (m : Int) < (e : Int) := by omega
        have r3 : ¬ m < e := by omega
        simp (disch := first | omega | (simp; done) | assumption) [wr64, wrU8, wrU64, Nat.add_assoc, -getElem?_pos, List.getElem?_cons_zero, List.getElem?_cons_succ, part_, MC, ic41, t0, t1, t2, t3, t4, t18, t20, t24, r0, r1, r2, r3]
        exact fin _ ⟨⟨by simp [t0], by simp [t1], by simp [t2], by simp [t3], by simp [t4]⟩, by simp [t18], by simp [t20], by simp [t24]⟩
      · have r1 : ¬ (s : Int) < (m : Int) := by omega
        simp (disch := first | omega | (simp; done) | assumption) [wr64, wrU8, wrU64, Nat.add_assoc, -getElem?_pos, List.getElem?_cons_zero, List.getElem?_cons_succ, part_, MC, ic41, t0, t1, t2, t3, t4, t18, t20, t24, r0, r1]
        exact fin _ ⟨⟨by simp [t0], by simp [t1], by simp [t2], by simp [t3], by simp [t4]⟩, by simp [t18], by simp [t20], by simp [t24]⟩
  clear t0 t1 t2 t3 t4 t18 t20 t24 tm
  rintro tm H2 ⟨ps1, rfl, l1, p1, g1, ⟨t0, t1, t2, t3, t4⟩, t18, t20, t24⟩
  generalize hG : Rot (gt ps) s m e = G at *
  refine iwp_cut (Me2 c cf f q N a m b mid s e ps H1) ?_ ?_
  · rw [← hP2]
    clear hP1 hP2 hP3
    by_cases hr : a < s ∧ s < mid
    · have r1 : (a : Int) < (s : Int) := by omega
      have r2 : (s : Int) < (mid : Int) := by omega
      simp (disch := first | omega | (simp; done) | assumption) [wr64, wrU8, wrU64, Nat.add_assoc, -getElem?_pos, List.getElem?_cons_zero, List.getElem?_cons_succ, part_, MC, ic41, t0, t1, t2, t3, t4, t18, t20, t24, hr.1, hr.2, r1, r2]
      refine CallW.of (IH a s mid ps1 _ (by omega) (at_Set _ _ _ _) l1 hr.1 hr.2 (by omega) (by rw [g1]; exact d7) (by rw [g1]; exact d8) (by rw [g1]; exact d9)) ?_
      rintro v H3 ⟨rfl, ps2, rfl, w1, w2, w3, w4, w5⟩
      rw [g1] at w4 w5
      simp (disch := first | omega | (simp; done) | assumption) [wr64, wrU8, wrU64, Nat.add_assoc, -getElem?_pos, List.getElem?_cons_zero, List.getElem?_cons_succ, t0, t1, t2, t3, t4, Set_Set]
      exact ⟨ps2, rfl, w1, w2.trans p1, w3, by rw [hG]; exact w4, by rw [hG]; exact w5, ⟨by simp [t0], by simp [t1], by simp [t2], by simp [t3], by simp [t4]⟩, by simp [t18], by simp [t24]⟩
    · have fin : ∀ tm', Tm q N a m b cf tm' ∧ tm' 18 = .int .i64 (mid : Int) ∧ tm' 24 = .int .i64 (e : Int) → Me2 c cf f q N a m b mid s e ps H1 tm' (Set f q ps1 H1) := fun tm' ⟨p2, p3, p4⟩ =>
        ⟨ps1, rfl, l1, p1, by rw [g1]; exact srt_glue d7 d8 hr d6 d1, by rw [g1, hG]; exact Mm.refl _ _ _, by rw [g1, hG]; exact Ou.refl _ _ _, p2, p3, p4⟩
      by_cases r0 : a < s
      · have r1 : (a : Int) < (s : Int) := by omega
        have r2 : ¬ (s : Int) < (mid : Int) := by omega
        have r3 : ¬ s < mid := by omega
        simp (disch := first | omega | (simp; done) | assumption) [wr64, wrU8, wrU64, Nat.add_assoc, -getElem?_pos, List.getElem?_cons_zero, List.getElem?_cons_succ, part_, MC, ic41, t0, t1, t2, t3, t4, t18, t20, t24, r0, r1, r2, r3]
        exact fin _ ⟨⟨by simp [t0], by simp [t1], by simp [t2], by simp [t3], by simp [t4]⟩, by simp [t18], by simp [t24]⟩
      · have r1 : ¬ (a : Int) < (s : Int) := by omega
        simp (disch := first | omega | (simp; done) | assumption) [wr64, wrU8, wrU64, Nat.add_assoc, -getElem?_pos, List.getElem?_cons_zero, List.getElem?_cons_succ, part_, MC, ic41, t0, t1, t2, t3, t4, t18, t20, t24, r0, r1]
        exact fin _ ⟨⟨by simp [t0], by simp [t1], by simp [t2], by simp [t3], by simp [t4]⟩, by simp [t18], by simp [t24]⟩
  clear t0 t1 t2 t3 t4 t18 t20 t24 tm
  rintro tm H2 ⟨ps2, rfl, l2, p2, s2, mm2, o2, ⟨t0, t1, t2, t3, t4⟩, t18, t24⟩
  rw [hG] at mm2 o2
  rw [← hP3]
  clear hP1 hP2 hP3
  have q10 : Srt c (gt ps2) mid e := fun i j i1 i2 i3 => by rw [o2 i (by omega), o2 j (by omega)]; exact d10 i j i1 i2 i3
  have q11 : Srt c (gt ps2) e b := fun i j i1 i2 i3 => by rw [o2 i (by omega), o2 j (by omega)]; exact d11 i j i1 i2 i3
  have q12 : Sep (gt ps2) mid e b := fun i j i1 i2 i3 i4 => by rw [o2 i (by omega), o2 j (by omega)]; exact d12 i j i1 i2 i3 i4
  have last : ∀ ps3 : List Nat, Srt c (gt ps3) mid b → Mm (gt ps2) (gt ps3) mid b → Ou (gt ps2) (gt ps3) mid b → Srt c (gt ps3) a b ∧ Mm (gt ps) (gt ps3) a b ∧ Ou (gt ps) (gt ps3) a b := fun ps3 w1 w2 w3 => by
    obtain ⟨v1, v2, v3⟩ := halves (by omega) (by omega) d13 s2 mm2 o2 w1 w2 w3
    have z1 : Mm (gt ps) G a b := by rw [← hG]; exact (rot_mm d2 d3).wide (rot_ou d2 d3) d6 d5
    have z2 : Ou (gt ps) G a b := by rw [← hG]; exact (rot_ou d2 d3).wide d6 d5
    exact ⟨v1, z1.trans v2, z2.trans v3⟩
  by_cases hr : mid < e ∧ e < b
  · have r1 : (mid : Int) < (e : Int) := by omega
    have r2 : (e : Int) < (b : Int) := by omega
    simp (disch := first | omega | (simp; done) | assumption) [wr64, wrU8, wrU64, Nat.add_assoc, -getElem?_pos, List.getElem?_cons_zero, List.getElem?_cons_succ, part_, MC, ic41, rs41, t0, t1, t2, t3, t4, t18, t24, hr.1, hr.2, r1, r2]
    refine CallW.of (IH mid e b ps2 _ (by omega) (at_Set _ _ _ _) l2 hr.1 hr.2 (by omega) q10 q11 q12) ?_
    rintro v H3 ⟨rfl, ps3, rfl, w1, w2, w3, w4, w5⟩
    obtain ⟨v1, v2, v3⟩ := last ps3 w3 w4 w5
    simp (disch := first | omega | (simp; done) | assumption) [wr64, wrU8, wrU64, Nat.add_assoc, -getElem?_pos, List.getElem?_cons_zero, List.getElem?_cons_succ, Set_Set, rs41]
    exact ⟨rfl, ps3, rfl, w1, w2.trans p2, v1, v2, v3⟩
  · have fin : MQ f c q N a b ps H1 (.tuple []) (Set f q ps2 H1) := by
      obtain ⟨v1, v2, v3⟩ := last ps2 (srt_glue q10 q11 hr (by omega) (by omega)) (Mm.refl _ _ _) (Ou.refl _ _ _)
      exact ⟨rfl, ps2, rfl, l2, p2, v1, v2, v3⟩
    by_cases r0 : mid < e
    · have r1 : (mid : Int) < (e : Int) := by omega
      have r2 : ¬ (e : Int) < (b : Int) := by omega
      have r3 : ¬ e < b := by omega
      simp (disch := first | omega | (simp; done) | assumption) [wr64, wrU8, wrU64, Nat.add_assoc, -getElem?_pos, List.getElem?_cons_zero, List.getElem?_cons_succ, part_, MC, ic41, rs41, t0, t1, t2, t3, t4, t18, t24, r0, r1, r2, r3]
      exact fin
    · have r1 : ¬ (mid : Int) < (e : Int) := by omega
      simp (disch := first | omega | (simp; done) | assumption) [wr64, wrU8, wrU64, Nat.add_assoc, -getElem?_pos, List.getElem?_cons_zero, List.getElem?_cons_succ, part_, MC, ic41, rs41, t0, t1, t2, t3, t4, t18, t24, r0, r1]
      exact fin
theorem SymMerge {q N : Nat} (hN9 : N ≤ 1000000) (z : Nat) : ∀ (a m b : Nat) (ps : List Nat) (H : AH), b - a = z → At f q ps H → ps.length = N → a < m → m < b → b ≤ N → Srt c (gt ps) a m → Srt c (gt ps) m b → Sep (gt ps) a m b →
    ACall Tryd.prog 41 (Args q N a m b cf) H (MQ f c q N a b ps H) := by
  induction z using Nat.strongRecOn with
  | _ z ih =>
    intro a m b ps H hz h hN ham hmb hb h1 h2 h3
    by_cases hA : m = a + 1
    · subst hA
      exact acall_of fits41 (by simp [Args]) (MergeA E rfl h hN hmb hb hN9 h2 h3)
    by_cases hB : b = m + 1
    · subst hB
      exact acall_of fits41 (by simp [Args]) (MergeB E rfl h hN (by omega) hb hN9 h1 h3)
    have hm1 : 2 * ((a + b) / 2) ≤ a + b := by omega
    have hm2 : a + b ≤ 2 * ((a + b) / 2) + 1 := by omega
    generalize (a + b) / 2 = mid at *
    have hIH := fun (a' m' b' : Nat) (ps' : List Nat) (H' : AH) (hlt : b' - a' < b - a) h => ih (b' - a') (by omega) a' m' b' ps' H' rfl h
    obtain ⟨lo, hi, hl⟩ : ∃ lo hi, (mid < m ∧ lo + b = mid + m ∧ hi = mid) ∨ (m ≤ mid ∧ lo = a ∧ hi = m) := by
      by_cases e : mid < m
      · exact ⟨mid + m - b, mid, .inl ⟨e, by omega, rfl⟩⟩
      · exact ⟨a, m, .inr ⟨by omega, rfl, rfl⟩⟩
    exact acall_of fits41 (by simp [Args]) (MergeC1 E rfl h hN (by omega) (by omega) hb hN9 h1 h2 h3 hm1 hm2 rfl hl fun tm H' hM => MergeC2 E rfl h hN (by omega) (by omega) hb hN9 h1 h2 h3 hm1 hm2 rfl hl hIH hM)
/-! ### The whole -/
abbrev SC : ICode := ic24
def StQ (f : Nat → List UInt8) (c : Nat → Nat → Int) (q N : Nat) (H : AH) (v : AV) (H' : AH) : Prop := v = .tuple [] ∧ ∃ ps', H' = Set f q ps' H ∧ ps'.length = N ∧ ps'.Perm (List.range N) ∧ Srt c (gt ps') 0 N
def S1I (c : Nat → Nat → Int) (cf : FuncId) (f : Nat → List UInt8) (q N : Nat) (H : AH) (kk : Nat) (tm : Tms) (H' : AH) : Prop := ∃ (i : Nat) (ps : List Nat), kk = 3 - i ∧ i ≤ 2 ∧ 20 * i ≤ N ∧ H' = Set f q ps H ∧ Blk c N (20 * i) ps ∧
  tm 0 = .slice q 0 N 1 ∧ tm 1 = .int .i64 (N : Int) ∧ tm 2 = .func (.func cf) [] [] ∧ tm 6 = .int .i64 20 ∧ tm 7 = .int .i64 ((20 * i : Nat) : Int) ∧ tm 8 = .int .i64 ((20 * i + 20 : Nat) : Int)
def S1M (c : Nat → Nat → Int) (cf : FuncId) (f : Nat → List UInt8) (q N : Nat) (H : AH) (tm : Tms) (H' : AH) : Prop := ∃ ps : List Nat, H' = Set f q ps H ∧ Blk c N N ps ∧
  tm 0 = .slice q 0 N 1 ∧ tm 1 = .int .i64 (N : Int) ∧ tm 2 = .func (.func cf) [] [] ∧ tm 6 = .int .i64 20
theorem Stable1 {C : ICode} (hC : C = SC) {Q : IPost} {q N : Nat} {H : AH} (h : At f q (List.range N) H) (hN : N ≤ 40)
    (hX : ∀ tm H', S1M c cf f q N H tm H' → IWP Tryd.prog (part_ [1, 1, 1, 1] C) Q tm H') : IWP Tryd.prog C Q (tm0 [.slice q 0 N 1, .int .i64 (N : Int), .func (.func cf) [] []]) H := by
  have hcut : C = (.seq (part_ [0] SC) (.seq (part_ [1, 0] SC) (.seq (part_ [1, 1, 0] SC) (.seq (part_ [1, 1, 1, 0] SC) (part_ [1, 1, 1, 1] SC))))) := by rw [hC]; kernel_rfl
  rw [show part_ [1, 1, 1, 1] C = part_ [1, 1, 1, 1] SC by rw [hC]] at hX
  rw [hcut]
  clear hcut hC
  generalize part_ [1, 1, 1, 1] SC = X at *
  simp (disch := first | omega | (simp; done) | assumption) [wr64, wrU8, wrU64, Nat.add_assoc, -getElem?_pos, List.getElem?_cons_zero, List.getElem?_cons_succ, -loadC, -storeC, part_, SC, ic24]
  refine iwp_loop (S1I c cf f q N H) 3 ⟨0, List.range N, rfl, by omega, by omega, (Set_at h).symm, ⟨by simp, .refl _, fun i j h1 h2 => by omega, fun k h1 => by omega, fun k h1 h2 => gt_range h2⟩, by simp, by simp, by simp, by simp, by simp, by simp⟩ ?_
  rintro kk tm H1 ⟨i, ps, rfl, hi, hiN, rfl, hB, t0, t1, t2, t6, t7, t8⟩
  have hx20 : (20 * i) % 20 = 0 := by omega
  generalize hx : 20 * i = x at *
  generalize hy : x + 20 = y at *
  by_cases hle : y ≤ N
  · have hle' : (y : Int) ≤ (N : Int) := by omega
    have e1 : (y : Int) + 20 = ((y + 20 : Nat) : Int) := by omega
    simp (disch := first | omega | (simp; done) | assumption) [wr64, wrU8, wrU64, Nat.add_assoc, -getElem?_pos, List.getElem?_cons_zero, List.getElem?_cons_succ, -loadC, -storeC, t0, t1, t2, t6, t7, t8, hle, hle']
    refine CallW.of (Insertion E (at_Set f q ps H) hB.1 (a := x) (b := y) (by omega) hle (by omega) fun u v h1 h2 h3 => ?_) ?_
    · rw [hB.2.2.2.2 u h1 (by omega), hB.2.2.2.2 v (by omega) (by omega)]; exact h2
    rintro v H2 ⟨rfl, ps2, rfl, w1, w2, w3, w4, w5⟩
    generalize hz : y + 20 = z at *
    simp (disch := first | omega | (simp; done) | assumption) [wr64, wrU8, wrU64, Nat.add_assoc, -getElem?_pos, List.getElem?_cons_zero, List.getElem?_cons_succ, -loadC, -storeC, Set_Set, t0, t1, t2, t6, t7, t8, e1]
    exact ⟨3 - (i + 1), by omega, i + 1, ps2, rfl, by omega, by omega, rfl, by rw [show 20 * (i + 1) = y by omega]; exact blk_step hB hx20 (by omega) hle (by omega) w1 w2 w3 w4 w5, by simp [t0], by simp [t1], by simp [t2], by simp [t6], by simp; omega, by simp; omega⟩
  · have hle' : ¬ (y : Int) ≤ (N : Int) := by omega
    simp (disch := first | omega | (simp; done) | assumption) [wr64, wrU8, wrU64, Nat.add_assoc, -getElem?_pos, List.getElem?_cons_zero, List.getElem?_cons_succ, -loadC, -storeC, t0, t1, t2, t6, t7, t8, hle, hle']
    refine CallW.of (Insertion E (at_Set f q ps H) hB.1 (a := x) (b := N) (by omega) (Nat.le_refl _) (by omega) fun u v h1 h2 h3 => ?_) ?_
    · rw [hB.2.2.2.2 u h1 (by omega), hB.2.2.2.2 v (by omega) (by omega)]; exact h2
    rintro v H2 ⟨rfl, ps2, rfl, w1, w2, w3, w4, w5⟩
    simp (disch := first | omega | (simp; done) | assumption) [wr64, wrU8, wrU64, Nat.add_assoc, -getElem?_pos, List.getElem?_cons_zero, List.getElem?_cons_succ, -loadC, -storeC, Set_Set]
    exact hX _ _ ⟨ps2, rfl, blk_step hB hx20 (by omega) (Nat.le_refl _) (by omega) w1 w2 w3 w4 w5, by simp [t0], by simp [t1], by simp [t2], by simp [t6]⟩
def Fin (c : Nat → Nat → Int) (N : Nat) (ps : List Nat) : Prop := ps.length = N ∧ ps.Perm (List.range N) ∧ Srt c (gt ps) 0 N
def S2I (c : Nat → Nat → Int) (cf : FuncId) (f : Nat → List UInt8) (q N : Nat) (H : AH) (kk : Nat) (tm : Tms) (H' : AH) : Prop := ∃ ps : List Nat, H' = Set f q ps H ∧ tm 0 = .slice q 0 N 1 ∧ tm 1 = .int .i64 (N : Int) ∧ tm 2 = .func (.func cf) [] [] ∧
  ((kk = 1 ∧ tm 6 = .int .i64 20 ∧ Blk c N N ps) ∨ (kk = 0 ∧ tm 6 = .int .i64 40 ∧ Fin c N ps))
def S3I (c : Nat → Nat → Int) (cf : FuncId) (f : Nat → List UInt8) (q N : Nat) (H : AH) (kk : Nat) (tm : Tms) (H' : AH) : Prop := ∃ ps : List Nat, H' = Set f q ps H ∧ tm 0 = .slice q 0 N 1 ∧ tm 1 = .int .i64 (N : Int) ∧ tm 2 = .func (.func cf) [] [] ∧ tm 6 = .int .i64 20 ∧
  ((kk = 1 ∧ tm 7 = .int .i64 0 ∧ tm 8 = .int .i64 40 ∧ Blk c N N ps) ∨ (kk = 0 ∧ N = 40 ∧ tm 7 = .int .i64 40 ∧ tm 8 = .int .i64 80 ∧ Fin c N ps))
theorem Stable2 {C : ICode} (hC : C = SC) {q N : Nat} {H H1 : AH} {tm : Tms} (hN : N ≤ 40) (hM : S1M c cf f q N H tm H1) :
    IWP Tryd.prog (part_ [1, 1, 1, 1] C) (fnPost rs24 (StQ f c q N H)) tm H1 := by
  obtain ⟨ps, rfl, hB, t0, t1, t2, t6⟩ := hM
  subst hC
  simp (disch := first | omega | (simp; done) | assumption) [wr64, wrU8, wrU64, Nat.add_assoc, -getElem?_pos, List.getElem?_cons_zero, List.getElem?_cons_succ, -loadC, -storeC, part_, SC, ic24, rs24]
  refine iwp_loop (S2I c cf f q N H) 1 ⟨ps, rfl, t0, t1, t2, .inl ⟨rfl, t6, hB⟩⟩ ?_
  clear t0 t1 t2 t6 tm hB ps
  -- of two blocks in order one
  have mrg : ∀ ps, Blk c N N ps → 20 < N → ACall Tryd.prog 41 [.slice q 0 N 1, .int .i64 0, .int .i64 20, .int .i64 (N : Int), .func (.func cf) [] []] (Set f q ps H) (fun v H2 => v = .tuple [] ∧ ∃ ps', H2 = Set f q ps' H ∧ Fin c N ps') := fun ps hB h20 => by
    obtain ⟨b1, b2, b3, b4, b5⟩ := hB
    refine (SymMerge E (q := q) (by omega) (N - 0) 0 20 N ps (Set f q ps H) rfl (at_Set _ _ _ _) b1 (by omega) h20 (Nat.le_refl _) (fun i j i1 i2 i3 => b3 i j i2 (by omega) (by omega)) (fun i j i1 i2 i3 => b3 i j i2 i3 (by omega)) (fun i j i1 i2 i3 i4 => ?_)).mono ?_
    · have e1 := b4 i (by omega)
      have e2 := b4 j (by omega)
      omega
    · rintro v H2 ⟨rfl, ps', rfl, w1, w2, w3, w4, w5⟩
      rw [Set_Set]
      exact ⟨rfl, ps', rfl, w1, w2.trans b2, w3⟩
  rintro kk tm H1 ⟨ps, rfl, t0, t1, t2, hd⟩
  rcases hd with ⟨rfl, t6, hB⟩ | ⟨rfl, t6, hS⟩
  · by_cases h20 : 20 < N
    · have h20' : (20 : Int) < (N : Int) := by omega
      simp (disch := first | omega | (simp; done) | assumption) [wr64, wrU8, wrU64, Nat.add_assoc, -getElem?_pos, List.getElem?_cons_zero, List.getElem?_cons_succ, -loadC, -storeC, t0, t1, t2, t6, h20, h20']
      refine iwp_loop (S3I c cf f q N H) 1 ⟨ps, rfl, by simp [t0], by simp [t1], by simp [t2], by simp [t6], .inl ⟨rfl, by simp, by simp, hB⟩⟩ ?_
      clear t0 t1 t2 t6 tm hB ps
      rintro kk tm H1 ⟨ps, rfl, t0, t1, t2, t6, hd⟩
      rcases hd with ⟨rfl, t7, t8, hB⟩ | ⟨rfl, h40, t7, t8, hS⟩
      · by_cases h40 : N = 40
        · have hm := mrg ps hB h20
          subst h40
          simp (disch := first | omega | (simp; done) | assumption) [wr64, wrU8, wrU64, Nat.add_assoc, -getElem?_pos, List.getElem?_cons_zero, List.getElem?_cons_succ, -loadC, -storeC, t0, t1, t2, t6, t7, t8]
          refine CallW.of hm ?_
          rintro v H2 ⟨rfl, ps2, rfl, hF⟩
          simp (disch := first | omega | (simp; done) | assumption) [wr64, wrU8, wrU64, Nat.add_assoc, -getElem?_pos, List.getElem?_cons_zero, List.getElem?_cons_succ, -loadC, -storeC, t0, t1, t2, t6, t7, t8]
          exact ⟨ps2, rfl, by simp [t0], by simp [t1], by simp [t2], by simp [t6], .inr ⟨rfl, rfl, by simp, by simp, hF⟩⟩
        · have h40' : ¬ (40 : Int) ≤ (N : Int) := by omega
          simp (disch := first | omega | (simp; done) | assumption) [wr64, wrU8, wrU64, Nat.add_assoc, -getElem?_pos, List.getElem?_cons_zero, List.getElem?_cons_succ, -loadC, -storeC, t0, t1, t2, t6, t7, t8, h40', h20']
          refine CallW.of (mrg ps hB h20) ?_
          rintro v H2 ⟨rfl, ps2, rfl, hF⟩
          simp (disch := first | omega | (simp; done) | assumption) [wr64, wrU8, wrU64, Nat.add_assoc, -getElem?_pos, List.getElem?_cons_zero, List.getElem?_cons_succ, -loadC, -storeC, t0, t1, t2, t6, t7, t8]
          exact ⟨ps2, rfl, by simp [t0], by simp [t1], by simp [t2], .inr ⟨rfl, by simp, hF⟩⟩
      · subst h40
        simp (disch := first | omega | (simp; done) | assumption) [wr64, wrU8, wrU64, Nat.add_assoc, -getElem?_pos, List.getElem?_cons_zero, List.getElem?_cons_succ, -loadC, -storeC, t0, t1, t2, t6, t7, t8]
        exact ⟨ps, rfl, by simp [t0], by simp [t1], by simp [t2], .inr ⟨rfl, by simp, hS⟩⟩
    · have h20' : ¬ (20 : Int) < (N : Int) := by omega
      simp (disch := first | omega | (simp; done) | assumption) [wr64, wrU8, wrU64, Nat.add_assoc, -getElem?_pos, List.getElem?_cons_zero, List.getElem?_cons_succ, -loadC, -storeC, t0, t1, t2, t6, h20, h20']
      exact ⟨rfl, ps, rfl, hB.1, hB.2.1, fun i j i1 i2 i3 => hB.2.2.1 i j i2 i3 (by omega)⟩
  · have h40 : ¬ (40 : Int) < (N : Int) := by omega
    simp (disch := first | omega | (simp; done) | assumption) [wr64, wrU8, wrU64, Nat.add_assoc, -getElem?_pos, List.getElem?_cons_zero, List.getElem?_cons_succ, -loadC, -storeC, t0, t1, t2, t6, h40]
    exact ⟨rfl, ps, rfl, hS.1, hS.2.1, hS.2.2⟩
theorem Stable {q N : Nat} {H : AH} (h : At f q (List.range N) H) (hN : N ≤ 40) : ACall Tryd.prog 24 [.slice q 0 N 1, .int .i64 (N : Int), .func (.func cf) [] []] H (StQ f c q N H) :=
  acall_of fits24 (by simp) (Stable1 E rfl h hN fun tm H' hM => Stable2 E rfl hN hM)
theorem SortStable {q N : Nat} {H : AH} (h : At f q (List.range N) H) (hN : N ≤ 40) : ACall Tryd.prog 17 [.slice q 0 N 1, .func (.func cf) [] []] H (StQ f c q N H) := by
  refine acall_of fits17 (by simp) ?_
  simp (disch := first | omega | (simp; done) | assumption) [wr64, wrU8, wrU64, Nat.add_assoc, -getElem?_pos, List.getElem?_cons_zero, List.getElem?_cons_succ, -loadC, -storeC, ic17, rs17]
  refine CallW.of (Stable E h hN) ?_
  rintro v H2 ⟨rfl, hQ⟩
  simp (disch := first | omega | (simp; done) | assumption) [wr64, wrU8, wrU64, Nat.add_assoc, -getElem?_pos, List.getElem?_cons_zero, List.getElem?_cons_succ, ]
  exact ⟨rfl, hQ⟩
end
end Go.Proofs.YtfimhkijacamoaaDoor.Srt

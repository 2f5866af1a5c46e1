/- JournalEach. No condition. -/
import Derived.Test.YtcgkadfgojmmlaaDoorJBg
import Derived.Test.YtcgkadfgojmmlaaDoorLBnd
set_option linter.unusedVariables false
set_option linter.unusedSimpArgs false
set_option maxRecDepth 100000
set_option maxHeartbeats 4000000
namespace Go.Proofs.YtcgkadfgojmmlaaDoor.JN
open Go Go.RowKit Go.Proofs.YtcgkadfgojmmlaaDoor Go.Proofs.YtcgkadfgojmmlaaDoor.Abs Go.Proofs.YtcgkadfgojmmlaaDoor.Ic Go.Proofs.YtcgkadfgojmmlaaDoor.EAs Go.Proofs.YtcgkadfgojmmlaaDoor.EErr Go.Proofs.YtcgkadfgojmmlaaDoor.DFn
abbrev EaC : ICode := ic7
abbrev EaQ (H : AH) : IPost := fnPost rs7 fun v H' => v = .bool true ∧ H.keepsAll H'
theorem BI.dat {H : AH} {b : Nat} {l : List Ib} (h : H.at_ b = some (.cells false tBk (rowsI l).flatten)) {i : Nat} (hi : i < l.length) : loadC H b (i * 2 + 1) none = some (sl l[i].2) := by
  have := load_flat1 h (allI l) (k := i) (i := 1) (by simpa [rowsI] using hi) (by omega)
  rw [this]
  simp [rowsI, rowI]
/-- The disk, the journal. -/
structure JS (H H1 : AH) (p L jb at_ most : Nat) (s : DK) : Prop where
  keeps : H.keepsAll H1
  ok : H1.ok
  next : H.next ≤ H1.next
  p0 : H.next ≤ p
  L0 : H.next ≤ L
  ds : DS H1 p L s
  jo : JO H1 jb p at_ most
theorem JS.mono {H H1 H2 : AH} {p L jb at_ most : Nat} {s : DK} (h : JS H H1 p L jb at_ most s) (hk : H1.keepsAll H2) (hok : H2.ok) (hn : H1.next ≤ H2.next) : JS H H2 p L jb at_ most s :=
  ⟨fun y o hh => hk _ _ (h.keeps _ _ hh), hok, by have := h.next; omega, h.p0, h.L0, h.ds.keeps hk, hk _ _ h.jo⟩
theorem JS.kx {H H1 H2 : AH} {p L jb at_ most : Nat} {s s' : DK} (h : JS H H1 p L jb at_ most s) (hok0 : H.ok) (hk : KX p L H1 H2) (hok : H2.ok) (hn : H1.next ≤ H2.next) (hd : DS H2 p L s') : JS H H2 p L jb at_ most s' :=
  ⟨hk.keepsAll h.keeps hok0 h.p0 h.L0, hok, by have := h.next; omega, h.p0, h.L0, hd, JO.kx h.ds hk h.jo⟩
theorem fill_ne : fill 1000 ≠ fill 10 := by decide +kernel
def E5I (n : Nat) (jb : Nat) (w : AV) (H1 : AH) (kk : Nat) (tm : Tms) (H' : AH) : Prop := H1.keepsAll H' ∧ H1.next ≤ H'.next ∧ ∃ k : Nat, kk = n - k ∧ k ≤ n ∧ tm 0 = .int .i64 (n : Int) ∧ tm 9 = .ptr jb 0 ∧ tm 10 = w ∧ tm 17 = .int .i64 (k : Int)
theorem Ea5 {C : ICode} (hC : C = EaC) {n : Nat} (hn6 : n ≤ 6) {H H1 : AH} {p L jb : Nat} {s : DK} {w : AV} {lx : List Ib} {tm : Tms} (hJ : JS H H1 p L jb 4 6 s) (hl : s.ct.length = 40) (ha : s.dead = false) (hb : BI H1 w lx) (hlx : lx.length = n)
    (hv : ∀ k (hk : k < lx.length), vw s.ct (25 + k) = lx[k].2.2) (t0 : tm 0 = .int .i64 (n : Int)) (t9 : tm 9 = .ptr jb 0) (t10 : tm 10 = w) :
    IWP Tryd.prog (part_ [1, 1, 1, 1, 1, 1, 1, 1, 1, 1, 1, 1, 1, 1, 1, 1, 1] C) (EaQ H) tm H1 := by
  rw [hC]
  obtain ⟨b, rfl, hbb, hq⟩ := hb
  simp (disch := first | omega | (simp; done) | assumption) [wr64, wrU8, wrU64, Nat.add_assoc, -getElem?_pos, List.getElem?_cons_zero, List.getElem?_cons_succ, part_, EaC, ic7]
  refine iwp_loop (E5I n jb (.slice b 0 lx.length 2) H1) n ⟨fun _ _ h => h, Nat.le_refl _, 0, rfl, by omega, by simp [t0], by simp [t9], by simp [t10], by simp⟩ ?_
  clear t0 t9 t10
  clear tm
  rintro kk tm H2 ⟨k2, n2, k, rfl, hk, t0, t9, t10, t17⟩
  by_cases hlt : k < n
  · have hlt' : (k : Int) < (n : Int) := by omega
    have hkl : k < lx.length := by omega
    have hkl' : (k : Int) < (lx.length : Int) := by omega
    have hvk := hv k hkl
    have hm := List.getElem_mem hkl
    have hR := JRead (i := 25 + k) (hJ.ds.keeps k2) (show JO H2 jb p 4 6 from k2 _ _ hJ.jo) (by omega) ha
    rw [show ((25 + k : Nat) : Int) = 25 + (k : Int) by omega] at hR
    have hld := fun {H3 : AH} (h : H2.keepsAll H3) => BI.dat (h _ _ (k2 _ _ hbb)) hkl
    have hqx := hq _ hm
    generalize lx[k] = x at *
    simp (disch := first | omega | (simp; done) | assumption) [wr64, wrU8, wrU64, Nat.add_assoc, -getElem?_pos, List.getElem?_cons_zero, List.getElem?_cons_succ, t0, t9, t10, t17, hlt, hlt']
    refine CallW.okof hR ?_
    rintro v H3 ⟨k3, n3, q, hq1, hq2, rfl, hQ⟩ hok3
    try simp only [newO_none] at k3 n3 hq1
    rw [hvk] at hQ
    have b1 := b2s_q hQ
    have b2 := b2s_q ((hqx.keeps k2).keeps k3)
    have hl3 := hld k3
    simp only [sl] at b1 b2 hl3
    simp (disch := first | omega | (simp; done) | assumption) [wr64, wrU8, wrU64, Nat.add_assoc, -getElem?_pos, List.getElem?_cons_zero, List.getElem?_cons_succ, t0, t9, t10, t17, hkl, hkl', b1]
    refine Try.intro (by simpa [Nat.add_assoc] using hl3) ?_
    simp (disch := first | omega | (simp; done) | assumption) [wr64, wrU8, wrU64, Nat.add_assoc, -getElem?_pos, List.getElem?_cons_zero, List.getElem?_cons_succ, t0, t9, t10, t17, b2]
    exact ⟨n - (k + 1), by omega, fun y o h => k3 _ _ (k2 _ _ h), by omega, k + 1, rfl, by omega, by simp [t0], by simp [t9], by simp [t10], by simp⟩
  · have hlt' : ¬ (k : Int) < (n : Int) := by omega
    simp (disch := first | omega | (simp; done) | assumption) [wr64, wrU8, wrU64, Nat.add_assoc, -getElem?_pos, List.getElem?_cons_zero, List.getElem?_cons_succ, t0, t9, t10, t17, hlt, hlt']
    refine CallW.val JAwake ?_
    simp (disch := first | omega | (simp; done) | assumption) [wr64, wrU8, wrU64, Nat.add_assoc, -getElem?_pos, List.getElem?_cons_zero, List.getElem?_cons_succ, rs7]
    exact fun y o h => k2 _ _ (hJ.keeps _ _ h)
/-- Which of the two groups the disk has. -/
def Ea4M (n : Nat) (s : DK) (f : Nat → Int) : Prop := ∀ k, k < n → vw s.ct (25 + k) = fill (f k)
theorem Ea4 {C : ICode} (hC : C = EaC) {n : Nat} (hn1 : 1 ≤ n) (hn6 : n ≤ 6) {H H1 : AH} (hok : H.ok) {p L jb : Nat} {s : DK} {va vb fv : AV} {la lb : List Ib} {tm : Tms} (hJ : JS H H1 p L jb 4 6 s) (hl : s.ct.length = 40) (ha : s.dead = false)
    (hA : BI H1 va la) (hB : BI H1 vb lb) (hla : la.map wr = rowF 25 (fun k => 10 + (k : Int)) n) (hlb : lb.map wr = rowF 25 (fun k => 1000 + (k : Int)) n) (hst : (fv ≠ .nilIface ∧ Ea4M n s (fun k => 10 + (k : Int))) ∨ Ea4M n s (fun k => 1000 + (k : Int)))
    (hfv : fv = .nilIface ∨ ∃ b : Nat, fv = .iface 74 (.ptr b 0)) (t0 : tm 0 = .int .i64 (n : Int)) (t9 : tm 9 = .ptr jb 0) (t10 : tm 10 = va) (t11 : tm 11 = vb) (t13 : tm 13 = fv)
    (hX : ∀ tm' H2 w lx, JS H H2 p L jb 4 6 s → BI H2 w lx → lx.length = n → (∀ k (hk : k < lx.length), vw s.ct (25 + k) = lx[k].2.2) → tm' 0 = .int .i64 (n : Int) → tm' 9 = .ptr jb 0 → tm' 10 = w → IWP Tryd.prog (part_ [1, 1, 1, 1, 1, 1, 1, 1, 1, 1, 1, 1, 1, 1, 1, 1, 1] C) (EaQ H) tm' H2) :
    IWP Tryd.prog (part_ [1, 1, 1, 1, 1, 1, 1, 1, 1, 1, 1, 1, 1, 1, 1] C) (EaQ H) tm H1 := by
  have hcut : part_ [1, 1, 1, 1, 1, 1, 1, 1, 1, 1, 1, 1, 1, 1, 1] C = (.seq (part_ [1, 1, 1, 1, 1, 1, 1, 1, 1, 1, 1, 1, 1, 1, 1, 0] EaC) (.seq (part_ [1, 1, 1, 1, 1, 1, 1, 1, 1, 1, 1, 1, 1, 1, 1, 1, 0] EaC) (part_ [1, 1, 1, 1, 1, 1, 1, 1, 1, 1, 1, 1, 1, 1, 1, 1, 1] EaC))) := by rw [hC]; kernel_rfl
  rw [show part_ [1, 1, 1, 1, 1, 1, 1, 1, 1, 1, 1, 1, 1, 1, 1, 1, 1] C = part_ [1, 1, 1, 1, 1, 1, 1, 1, 1, 1, 1, 1, 1, 1, 1, 1, 1] EaC by rw [hC]] at hX
  rw [hcut]
  clear hcut hC
  generalize part_ [1, 1, 1, 1, 1, 1, 1, 1, 1, 1, 1, 1, 1, 1, 1, 1, 1] EaC = Y at *
  have hlal : la.length = n := by have := congrArg List.length hla; simpa [rowF_len] using this
  have hlbl : lb.length = n := by have := congrArg List.length hlb; simpa [rowF_len] using this
  have hga : ∀ k (hk : k < la.length), la[k].2.2 = fill (10 + (k : Int)) := fun k hk => by
    have h9 : (la.map wr)[k]? = (rowF 25 (fun k => 10 + (k : Int)) n)[k]? := by rw [hla]
    rw [List.getElem?_map, List.getElem?_eq_getElem hk, List.getElem?_eq_getElem (by rw [rowF_len]; omega)] at h9
    have := Option.some.inj h9
    simp only [rowF, List.getElem_map, List.getElem_range, wr] at this
    exact (Prod.mk.inj this).2
  have hgb : ∀ k (hk : k < lb.length), lb[k].2.2 = fill (1000 + (k : Int)) := fun k hk => by
    have h9 : (lb.map wr)[k]? = (rowF 25 (fun k => 1000 + (k : Int)) n)[k]? := by rw [hlb]
    rw [List.getElem?_map, List.getElem?_eq_getElem hk, List.getElem?_eq_getElem (by rw [rowF_len]; omega)] at h9
    have := Option.some.inj h9
    simp only [rowF, List.getElem_map, List.getElem_range, wr] at this
    exact (Prod.mk.inj this).2
  have hvb1 : vb.cells = [vb] ∧ vb.one = true := by obtain ⟨b, rfl, _⟩ := hB; exact ⟨rfl, rfl⟩
  obtain ⟨b, rfl, hbb, hq⟩ := id hA
  have h0 : 0 < la.length := by omega
  have h0' : ¬ la = [] := fun e => by rw [e] at h0; simp at h0
  have hld := BI.dat hbb h0
  have hb0 := b2s_q (hq _ (List.getElem_mem h0))
  have hx0 := hga 0 h0
  have hR := JRead (i := 25) hJ.ds hJ.jo (by omega) ha
  generalize la[0] = x at *
  simp only [sl] at hld hb0
  rw [hx0] at hb0
  simp (disch := first | omega | (simp; done) | assumption) [wr64, wrU8, wrU64, Nat.add_assoc, -getElem?_pos, List.getElem?_cons_zero, List.getElem?_cons_succ, part_, EaC, ic7, t0, t9, t10, t11, t13, h0]
  refine Try.intro (by simpa using hld) ?_
  simp (disch := first | omega | (simp; done) | assumption) [wr64, wrU8, wrU64, Nat.add_assoc, -getElem?_pos, List.getElem?_cons_zero, List.getElem?_cons_succ, t0, t9, t10, t11, t13, hb0]
  refine CallW.okof (show ACall Tryd.prog _ [.ptr jb 0, .int .i64 25] _ _ from hR) ?_
  rintro v H2 ⟨k2, n2, q, hq1, hq2, rfl, hQ⟩ hok2
  try simp only [newO_none] at k2 n2 hq1
  have hJ2 := hJ.mono k2 hok2 n2
  have b1 := b2s_q hQ
  simp only [sl] at b1
  rcases hst with ⟨hnf, hM⟩ | hM
  · have h25 := hM 0 (by omega)
    rw [Nat.add_zero] at h25
    rw [h25] at b1
    rcases hfv with rfl | ⟨bf, rfl⟩
    · exact absurd rfl hnf
    simp (disch := first | omega | (simp; done) | assumption) [wr64, wrU8, wrU64, Nat.add_assoc, -getElem?_pos, List.getElem?_cons_zero, List.getElem?_cons_succ, t0, t9, t10, t11, t13, b1]
    exact hX _ _ _ _ hJ2 (hA.keeps k2) hlal (fun k hk => by rw [hga k hk]; exact hM k (by omega)) (by simp [t0]) (by simp [t9]) (by simp [t10])
  · have h25 := hM 0 (by omega)
    rw [Nat.add_zero] at h25
    rw [h25] at b1
    have hne : ¬ fill 1000 = fill 10 := fill_ne
    have hfin := fun tm' h1 h2 h3 => hX tm' _ _ _ hJ2 (hB.keeps k2) hlbl (fun k hk => by rw [hgb k hk]; exact hM k (by omega)) h1 h2 h3
    rcases hfv with rfl | ⟨bf, rfl⟩
    · simp (disch := first | omega | (simp; done) | assumption) [wr64, wrU8, wrU64, Nat.add_assoc, -getElem?_pos, List.getElem?_cons_zero, List.getElem?_cons_succ, t0, t9, t10, t11, t13, hvb1.1, hvb1.2]
      exact hfin _ (by simp [t0]) (by simp [t9]) (by simp [t11])
    · simp (disch := first | omega | (simp; done) | assumption) [wr64, wrU8, wrU64, Nat.add_assoc, -getElem?_pos, List.getElem?_cons_zero, List.getElem?_cons_succ, t0, t9, t10, t11, t13, b1, hne, hvb1.1, hvb1.2]
      exact hfin _ (by simp [t0]) (by simp [t9]) (by simp [t11])
abbrev zz : Nat → Bs := fun _ => zer
theorem eGeo {n c : Nat} {f : Nat → Int} (hn1 : 1 ≤ n) (hn6 : n ≤ 6) (hc1 : 13 ≤ c) (hc2 : c + n ≤ 40) {s : DK} (hl : s.ct.length = 40) : Geo 4 6 s.ct.length (rowF c f n) :=
  ⟨by omega, by omega, by rw [hl]; decide, by omega, by rw [rowF_len]; omega, by rw [rowF_len]; omega, by rw [hl]; exact rowF_good (by omega) (by unfold need lists; omega)⟩
theorem notown {i : Nat} (h : 13 ≤ i) : ¬ own 4 6 i := fun h' => by have := h'.2; unfold need lists at this; omega
theorem Ea3 {C : ICode} (hC : C = EaC) {n : Nat} {op : Int} (hn1 : 1 ≤ n) (hn6 : n ≤ 6) {H H1 : AH} (hok : H.ok) (hE : EOk H) {p L jb : Nat} {s : DK} {va vb fv : AV} {la lb : List Ib} {tm : Tms} (hJ : JS H H1 p L jb 4 6 s) (hl : s.ct.length = 40) (hs : SOk s 100000)
    (hA : BI H1 va la) (hB : BI H1 vb lb) (hla : la.map wr = rowF 25 (fun k => 10 + (k : Int)) n) (hlb : lb.map wr = rowF 25 (fun k => 1000 + (k : Int)) n)
    (hst : (Tol H1 fv ∧ SC 4 6 (aft zz (rowF 25 (fun k => 10 + (k : Int)) n)) (rowF 25 (fun k => 1000 + (k : Int)) n) s.ct) ∨ (fv = .nilIface ∧ St0 4 6 (aft (aft zz (rowF 25 (fun k => 10 + (k : Int)) n)) (rowF 25 (fun k => 1000 + (k : Int)) n)) s.ct))
    (t0 : tm 0 = .int .i64 (n : Int)) (t2 : tm 2 = .int .i64 op) (t7 : tm 7 = .ptr p 0) (t10 : tm 10 = va) (t11 : tm 11 = vb) (t13 : tm 13 = fv) :
    IWP Tryd.prog (part_ [1, 1, 1, 1, 1, 1, 1, 1, 1, 1, 1] C) (EaQ H) tm H1 := by
  have hcut : part_ [1, 1, 1, 1, 1, 1, 1, 1, 1, 1, 1] C = (.seq (part_ [1, 1, 1, 1, 1, 1, 1, 1, 1, 1, 1, 0] EaC) (.seq (part_ [1, 1, 1, 1, 1, 1, 1, 1, 1, 1, 1, 1, 0] EaC) (.seq (part_ [1, 1, 1, 1, 1, 1, 1, 1, 1, 1, 1, 1, 1, 0] EaC) (.seq (part_ [1, 1, 1, 1, 1, 1, 1, 1, 1, 1, 1, 1, 1, 1, 0] EaC) (part_ [1, 1, 1, 1, 1, 1, 1, 1, 1, 1, 1, 1, 1, 1, 1] EaC))))) := by rw [hC]; kernel_rfl
  have hX := fun (tm' : Tms) (H2 : AH) (s2 : DK) (jb2 : Nat) (hJ2 : JS H H2 p L jb2 4 6 s2) (hl2 : s2.ct.length = 40) (ha2 : s2.dead = false) (h1 : BI H2 va la) (h2 : BI H2 vb lb) h3 h4 (e0 : tm' 0 = .int .i64 (n : Int)) (e9 : tm' 9 = .ptr jb2 0) (e10 : tm' 10 = va) (e11 : tm' 11 = vb) (e13 : tm' 13 = fv) =>
    Ea4 (C := EaC) rfl hn1 hn6 hok hJ2 hl2 ha2 h1 h2 hla hlb h3 h4 e0 e9 e10 e11 e13 fun tm'' H3 w lx g1 g2 g3 g4 g5 g6 g7 => Ea5 rfl hn6 g1 hl2 ha2 g2 g3 g4 g5 g6 g7
  rw [hcut]
  clear hcut hC
  generalize part_ [1, 1, 1, 1, 1, 1, 1, 1, 1, 1, 1, 1, 1, 1, 1] EaC = Y at *
  have hfv : fv = .nilIface ∨ ∃ b : Nat, fv = .iface 74 (.ptr b 0) := by
    rcases hst with ⟨⟨b, _, _, h, _⟩, _⟩ | ⟨h, _⟩
    · exact .inr ⟨b, h⟩
    · exact .inl h
  obtain ⟨m, hm, hm64⟩ := St.mask_small 6 (by omega) op
  have hm' : bits .and .i64 op 63 = (m : Int) := hm
  generalize hAw : rowF 25 (fun k => 10 + (k : Int)) n = A at *
  generalize hBw : rowF 25 (fun k => 1000 + (k : Int)) n = B at *
  have hG : ∀ {s' : DK}, s'.ct.length = 40 → Geo 4 6 s'.ct.length B := fun h => by rw [← hBw]; exact eGeo hn1 hn6 (by omega) (by omega) h
  have vA : ∀ {ct : List (Option Bs)}, St0 4 6 (aft zz A) ct → ∀ k, k < n → vw ct (25 + k) = fill (10 + (k : Int)) := fun h k hk => by rw [h.2 _ (notown (by omega)), ← hAw]; exact rowF_aft (f := fun k => 10 + (k : Int)) hk
  have vB : ∀ {ct : List (Option Bs)}, St0 4 6 (aft (aft zz A) B) ct → ∀ k, k < n → vw ct (25 + k) = fill (1000 + (k : Int)) := fun h k hk => by rw [h.2 _ (notown (by omega)), ← hBw]; exact rowF_aft (f := fun k => 1000 + (k : Int)) hk
  -- behind the check
  have rest : ∀ tm', tm' 0 = .int .i64 (n : Int) → tm' 2 = .int .i64 op → tm' 7 = .ptr p 0 → tm' 10 = va → tm' 11 = vb → tm' 13 = fv → IWP Tryd.prog (.seq (part_ [1, 1, 1, 1, 1, 1, 1, 1, 1, 1, 1, 1, 0] EaC) (.seq (part_ [1, 1, 1, 1, 1, 1, 1, 1, 1, 1, 1, 1, 1, 0] EaC) (.seq (part_ [1, 1, 1, 1, 1, 1, 1, 1, 1, 1, 1, 1, 1, 1, 0] EaC) Y))) (EaQ H) tm' H1 := by
    intro tm' t0 t2 t7 t10 t11 t13
    simp (disch := first | omega | (simp; done) | assumption) [wr64, wrU8, wrU64, Nat.add_assoc, -getElem?_pos, List.getElem?_cons_zero, List.getElem?_cons_succ, part_, EaC, ic7, t0, t2, t7, t10, t11, t13]
    refine CallW.okof (Power hJ.ds) ?_
    rintro v H2 ⟨rfl, n2, k2, hd2⟩ hok2
    try simp only [newO_none] at n2 k2
    have hJ2 := hJ.kx hok k2 hok2 (by omega) hd2
    have hA2 := hA.kx hJ.ds k2
    have hB2 := hB.kx hJ.ds k2
    have hs2 : SOk ⟨s.ct, s.w, -1, false⟩ 100000 := hs.fused (by omega) _ _ (by omega) (by omega)
    simp (disch := first | omega | (simp; done) | assumption) [wr64, wrU8, wrU64, Nat.add_assoc, -getElem?_pos, List.getElem?_cons_zero, List.getElem?_cons_succ, t0, t2, t7, t10, t11, t13, hm']
    rcases hst with ⟨⟨bT, _, _, hT, _⟩, hsc⟩ | ⟨hT, hst0⟩
    · refine CallW.okof (Opened ((m : Int) - 20) hJ2.ds (hG (s' := ⟨s.ct, s.w, -1, false⟩) hl) (by show s.ct.length ≤ 100; omega) hs2 (by omega) hsc rfl (by show (-1 : Int) < 0; omega)) ?_
      rintro v H3 ⟨n3, k3, s3, jb3, hd3, rfl, hjb3, hj3, hl3, hs3, hst3, ha3, _⟩ hok3
      try simp only [newO_none] at n3 k3 hjb3
      have hJ3 : JS H H3 p L jb3 4 6 s3 := ⟨k3.keepsAll hJ2.keeps hok hJ2.p0 hJ2.L0, hok3, by have := hJ2.next; omega, hJ2.p0, hJ2.L0, hd3, hj3⟩
      simp (disch := first | omega | (simp; done) | assumption) [wr64, wrU8, wrU64, Nat.add_assoc, -getElem?_pos, List.getElem?_cons_zero, List.getElem?_cons_succ, t0, t2, t7, t10, t11, t13]
      refine hX _ H3 s3 jb3 hJ3 (by rw [hl3]; exact hl) ha3 (hA2.kx hJ2.ds k3) (hB2.kx hJ2.ds k3) ?_ hfv (by simp [t0]) (by simp) (by simp [t10]) (by simp [t11]) (by simp [t13])
      rcases hst3 with h | h
      · exact .inl ⟨by rw [hT]; simp, vA h⟩
      · exact .inr (vB h)
    · refine CallW.okof (Opened ((m : Int) - 20) (base := aft (aft zz A) B) (lw := B) hJ2.ds (hG (s' := ⟨s.ct, s.w, -1, false⟩) hl) (by show s.ct.length ≤ 100; omega) hs2 (by omega) (.inl hst0) rfl (by show (-1 : Int) < 0; omega)) ?_
      rintro v H3 ⟨n3, k3, s3, jb3, hd3, rfl, hjb3, hj3, hl3, hs3, hst3, ha3, _⟩ hok3
      try simp only [newO_none] at n3 k3 hjb3
      have hJ3 : JS H H3 p L jb3 4 6 s3 := ⟨k3.keepsAll hJ2.keeps hok hJ2.p0 hJ2.L0, hok3, by have := hJ2.next; omega, hJ2.p0, hJ2.L0, hd3, hj3⟩
      rw [aft_aft, or_self] at hst3
      simp (disch := first | omega | (simp; done) | assumption) [wr64, wrU8, wrU64, Nat.add_assoc, -getElem?_pos, List.getElem?_cons_zero, List.getElem?_cons_succ, t0, t2, t7, t10, t11, t13]
      exact hX _ H3 s3 jb3 hJ3 (by rw [hl3]; exact hl) ha3 (hA2.kx hJ2.ds k3) (hB2.kx hJ2.ds k3) (.inr (vB hst3)) hfv (by simp [t0]) (by simp) (by simp [t10]) (by simp [t11]) (by simp [t13])
  generalize hZ : (ICode.seq (part_ [1, 1, 1, 1, 1, 1, 1, 1, 1, 1, 1, 1, 0] EaC) (.seq (part_ [1, 1, 1, 1, 1, 1, 1, 1, 1, 1, 1, 1, 1, 0] EaC) (.seq (part_ [1, 1, 1, 1, 1, 1, 1, 1, 1, 1, 1, 1, 1, 1, 0] EaC) Y))) = Z at *
  rcases hst with ⟨⟨bT, f, g, hT, hf1, hf2, hch⟩, hsc⟩ | ⟨rfl, hst0⟩
  · have hIs := ELawIs jrn [] 50 (loadC_keeps hJ.keeps hE) hch
    rw [hT] at hIs
    rw [show isV (.iface 74 (.ptr bT 0)) [f, g] (some 50) jrn [] 50 = true by simp [isV, hf1, hf2]] at hIs
    unfold jrn at hIs
    rw [hT] at t13 rest
    simp (disch := first | omega | (simp; done) | assumption) [wr64, wrU8, wrU64, Nat.add_assoc, -getElem?_pos, List.getElem?_cons_zero, List.getElem?_cons_succ, part_, EaC, ic7, t0, t2, t7, t10, t11, t13]
    refine CallW.val hIs ?_
    simp (disch := first | omega | (simp; done) | assumption) [wr64, wrU8, wrU64, Nat.add_assoc, -getElem?_pos, List.getElem?_cons_zero, List.getElem?_cons_succ, ]
    exact rest _ (by simp [t0]) (by simp [t2]) (by simp [t7]) (by simp [t10]) (by simp [t11]) (by simp [t13])
  · simp (disch := first | omega | (simp; done) | assumption) [wr64, wrU8, wrU64, Nat.add_assoc, -getElem?_pos, List.getElem?_cons_zero, List.getElem?_cons_succ, part_, EaC, ic7, t0, t2, t7, t10, t11, t13]
    exact rest _ (by simp [t0]) (by simp [t2]) (by simp [t7]) (by simp [t10]) (by simp [t11]) (by simp [t13])
theorem Ea2 {C : ICode} (hC : C = EaC) {n : Nat} {at_ op : Int} (hn1 : 1 ≤ n) (hn6 : n ≤ 6) {H H1 : AH} (hok : H.ok) (hE : EOk H) {p L jb : Nat} {s : DK} {va vb : AV} {la lb : List Ib} {tm : Tms} (hJ : JS H H1 p L jb 4 6 s) (hl : s.ct.length = 40) (hs : SOk s 1000)
    (ha : s.dead = false) (hf : s.f < 0) (hst : St0 4 6 zz s.ct) (hA : BI H1 va la) (hB : BI H1 vb lb) (hla : la.map wr = rowF 25 (fun k => 10 + (k : Int)) n) (hlb : lb.map wr = rowF 25 (fun k => 1000 + (k : Int)) n)
    (t0 : tm 0 = .int .i64 (n : Int)) (t1 : tm 1 = .int .i64 at_) (t2 : tm 2 = .int .i64 op) (t7 : tm 7 = .ptr p 0) (t9 : tm 9 = .ptr jb 0) (t10 : tm 10 = va) (t11 : tm 11 = vb) :
    IWP Tryd.prog (part_ [1, 1, 1, 1, 1, 1, 1, 1] C) (EaQ H) tm H1 := by
  have hcut : part_ [1, 1, 1, 1, 1, 1, 1, 1] C = (.seq (part_ [1, 1, 1, 1, 1, 1, 1, 1, 0] EaC) (.seq (part_ [1, 1, 1, 1, 1, 1, 1, 1, 1, 0] EaC) (.seq (part_ [1, 1, 1, 1, 1, 1, 1, 1, 1, 1, 0] EaC) (part_ [1, 1, 1, 1, 1, 1, 1, 1, 1, 1, 1] EaC)))) := by rw [hC]; kernel_rfl
  have hX := fun (tm' : Tms) (H2 : AH) (s2 : DK) (fv : AV) (hJ2 : JS H H2 p L jb 4 6 s2) (hl2 : s2.ct.length = 40) hs2 (h1 : BI H2 va la) (h2 : BI H2 vb lb) h3 e0 e2 e7 e10 e11 e13 => Ea3 (C := EaC) (op := op) (fv := fv) (tm := tm') rfl hn1 hn6 hok hE hJ2 hl2 hs2 h1 h2 hla hlb h3 e0 e2 e7 e10 e11 e13
  rw [hcut]
  clear hcut hC
  generalize part_ [1, 1, 1, 1, 1, 1, 1, 1, 1, 1, 1] EaC = Y at *
  obtain ⟨m, hm, hm32⟩ := mask31 at_
  have hGa : Geo 4 6 s.ct.length (la.map wr) := by rw [hla]; exact eGeo hn1 hn6 (by omega) (by omega) hl
  simp (disch := first | omega | (simp; done) | assumption) [wr64, wrU8, wrU64, Nat.add_assoc, -getElem?_pos, List.getElem?_cons_zero, List.getElem?_cons_succ, part_, EaC, ic7, t0, t1, t2, t7, t9, t10, t11]
  refine CallW.okof (Commit hJ.ds hJ.jo hGa hs (by omega) hst hA) ?_
  rintro v H2 ⟨n2, k2, s2, hd2, hC2, _⟩ hok2
  try simp only [newO_none] at n2 k2
  obtain ⟨rfl, ha2, hf2⟩ := hC2.all ha hf
  have hst2 := hC2.good rfl
  rw [hla] at hst2
  have hl2 : s2.ct.length = 40 := by rw [hC2.ct]; exact hl
  have hJ2 := hJ.kx hok k2 hok2 n2 hd2
  have hA2 := hA.kx hJ.ds k2
  have hB2 := hB.kx hJ.ds k2
  simp (disch := first | omega | (simp; done) | assumption) [wr64, wrU8, wrU64, Nat.add_assoc, -getElem?_pos, List.getElem?_cons_zero, List.getElem?_cons_succ, t0, t1, t2, t7, t9, t10, t11, hm]
  refine CallW.okof (Fuse (m : Int) hJ2.ds) ?_
  rintro v H3 ⟨rfl, n3, k3, hd3⟩ hok3
  try simp only [newO_none] at n3 k3
  have hs3 : SOk ⟨s2.ct, s2.w, max (m : Int) (-1), s2.dead || decide ((m : Int) = 0)⟩ (1000 + 700) := hC2.sok.fused (by omega) _ _ (by omega) (by omega)
  generalize hs3d : (⟨s2.ct, s2.w, max (m : Int) (-1), s2.dead || decide ((m : Int) = 0)⟩ : DK) = s3 at *
  have hct3 : s3.ct = s2.ct := by rw [← hs3d]
  have hJ3 := hJ2.kx hok k3 hok3 (by omega) hd3
  have hA3 := hA2.kx hJ2.ds k3
  have hB3 := hB2.kx hJ2.ds k3
  have hGb : Geo 4 6 s3.ct.length (lb.map wr) := by rw [hlb]; exact eGeo hn1 hn6 (by omega) (by omega) (by rw [hct3]; exact hl2)
  simp (disch := first | omega | (simp; done) | assumption) [wr64, wrU8, wrU64, Nat.add_assoc, -getElem?_pos, List.getElem?_cons_zero, List.getElem?_cons_succ, t0, t1, t2, t7, t9, t10, t11]
  refine CallW.okof (Commit hJ3.ds hJ3.jo hGb hs3 (by omega) (by rw [hct3]; exact hst2) hB3) ?_
  rintro v H4 ⟨n4, k4, s4, hd4, hC4, hv4⟩ hok4
  try simp only [newO_none] at n4 k4
  have hJ4 := hJ3.kx hok k4 hok4 n4 hd4
  have hvo : v.cells = [v] ∧ v.one = true := by rcases hv4 with rfl | ⟨_, _, _, rfl, _⟩ <;> exact ⟨rfl, rfl⟩
  have hst4 := hC4.st
  have hgd4 := hC4.good
  rw [hlb] at hst4 hgd4
  simp (disch := first | omega | (simp; done) | assumption) [wr64, wrU8, wrU64, Nat.add_assoc, -getElem?_pos, List.getElem?_cons_zero, List.getElem?_cons_succ, t0, t1, t2, t7, t9, t10, t11]
  refine hX _ H4 s4 v hJ4 (by rw [hC4.ct, hct3]; exact hl2) (hC4.sok.mono (by omega)) (hA3.kx hJ3.ds k4) (hB3.kx hJ3.ds k4) ?_ (by simp [t0]) (by simp [t2]) (by simp [t7]) (by simp [t10]) (by simp [t11]) (by simp)
  rcases hv4 with rfl | h
  · exact .inr ⟨rfl, hgd4 rfl⟩
  · exact .inl ⟨h, hst4⟩
def EaI (n : Nat) (at_ op : Int) (p L jb : Nat) (s : DK) (H : AH) (kk : Nat) (tm : Tms) (H' : AH) : Prop := JS H H' p L jb 4 6 s ∧ ∃ (i : Nat) (la lb : List Ib) (va vb : AV), kk = n - i ∧ i ≤ n ∧ GL H.next H' va la ∧ GL H.next H' vb lb ∧ Disj va vb ∧ la.map wr = rowF 25 (fun k => 10 + (k : Int)) i ∧ lb.map wr = rowF 25 (fun k => 1000 + (k : Int)) i ∧
  tm 0 = .int .i64 (n : Int) ∧ tm 1 = .int .i64 at_ ∧ tm 2 = .int .i64 op ∧ tm 7 = .ptr p 0 ∧ tm 9 = .ptr jb 0 ∧ tm 10 = va ∧ tm 11 = vb ∧ tm 12 = .int .i64 (i : Int)
theorem JS.kt {H H1 H2 : AH} {p L jb at_ most : Nat} {s : DK} (h : JS H H1 p L jb at_ most s) (hok0 : H.ok) (hk : KBel H.next H1 H2) (ht : KT H1 H2) (hok : H2.ok) (hn : H1.next ≤ H2.next) : JS H H2 p L jb at_ most s :=
  ⟨fun y o hh => hk _ _ (hok0 _ _ hh) (h.keeps _ _ hh), hok, by have := h.next; omega, h.p0, h.L0, DS.kt ht h.ds, JO.kt ht h.jo⟩
theorem Ea1 {C : ICode} (hC : C = EaC) {n0 at_ op : Int} {H : AH} (hok : H.ok) (hE : EOk H) : IWP Tryd.prog C (EaQ H) (tm0 [.int .i64 n0, .int .i64 at_, .int .i64 op]) H := by
  have hcut : C = (.seq (part_ [0] EaC) (.seq (part_ [1, 0] EaC) (.seq (part_ [1, 1, 0] EaC) (.seq (part_ [1, 1, 1, 0] EaC) (.seq (part_ [1, 1, 1, 1, 0] EaC) (.seq (part_ [1, 1, 1, 1, 1, 0] EaC) (.seq (part_ [1, 1, 1, 1, 1, 1, 0] EaC) (.seq (part_ [1, 1, 1, 1, 1, 1, 1, 0] EaC) (part_ [1, 1, 1, 1, 1, 1, 1, 1] EaC))))))))) := by rw [hC]; kernel_rfl
  obtain ⟨n', hn0, hn6'⟩ := St.mask_mod n0 6 (by omega)
  have hn' : (bits .and .i64 n0 255).tmod 6 = (n' : Int) := hn0
  have hX := fun (n : Nat) (hn1 : 1 ≤ n) (hn6 : n ≤ 6) (tm' : Tms) (H2 : AH) (p L jb : Nat) (s : DK) (va vb : AV) (la lb : List Ib) (hJ2 : JS H H2 p L jb 4 6 s) (hl2 : s.ct.length = 40) hs2 h1 h2 h3 (a1 : BI H2 va la) (a2 : BI H2 vb lb) a3 a4 e0 e1 e2 e7 e9 e10 e11 => Ea2 (C := EaC) (n := n) (at_ := at_) (op := op) (tm := tm') rfl hn1 hn6 hok hE hJ2 hl2 hs2 h1 h2 h3 a1 a2 a3 a4 e0 e1 e2 e7 e9 e10 e11
  rw [hcut]
  clear hcut hC
  generalize part_ [1, 1, 1, 1, 1, 1, 1, 1] EaC = Y at *
  simp (disch := first | omega | (simp; done) | assumption) [wr64, wrU8, wrU64, Nat.add_assoc, -getElem?_pos, List.getElem?_cons_zero, List.getElem?_cons_succ, part_, EaC, ic7]
  refine CallW.okof (show ACall Tryd.prog _ [.int .i64 40] _ _ from New (n := 40) (by omega) (by omega) _) ?_
  rintro v H1 ⟨hk1, hn1, p, L, rfl, hp, hL, hp1, hL1, hd1⟩ hok1
  try simp only [newO_none] at hk1 hn1 hp hL
  have hG0 : Geo 4 6 (List.replicate 40 (none : Option Bs)).length [(30, zer)] := ⟨by omega, by omega, by decide, by simp, by simp, by simp, good_one (by simp) (notown (by omega)) zer_len⟩
  simp (disch := first | omega | (simp; done) | assumption) [wr64, wrU8, wrU64, Nat.add_assoc, -getElem?_pos, List.getElem?_cons_zero, List.getElem?_cons_succ, ]
  refine CallW.okof (show ACall Tryd.prog _ [.ptr p 0, .int .i64 (-(0 + 1))] _ _ from Opened (base := zz) (-(0 + 1)) hd1 hG0 (by simp) (sok_fresh 40) (by omega) (.inl (st0_fresh _ _ _)) rfl (by show (-1 : Int) < 0; omega)) ?_
  rintro v H2 ⟨n2, k2, s2, jb, hd2, rfl, hjb, hj2, hl2, hs2, hst2, ha2, hf2⟩ hok2
  try simp only [newO_none] at n2 k2 hjb
  rw [aftz, or_self] at hst2
  simp only [List.length_replicate] at hl2
  have hJ : JS H H2 p L jb 4 6 s2 := ⟨k2.keepsAll hk1 hok hp hL, hok2, by omega, hp, hL, hd2, hj2⟩
  simp (disch := first | omega | (simp; done) | assumption) [wr64, wrU8, wrU64, Nat.add_assoc, -getElem?_pos, List.getElem?_cons_zero, List.getElem?_cons_succ, hn']
  refine iwp_loop (EaI (n' + 1) at_ op p L jb s2 H) (n' + 1) ⟨hJ, 0, [], [], .snil, .snil, rfl, by omega, GL.nil _ _, GL.nil _ _, Disj.nil_left _, rfl, rfl, by simp, by simp, by simp, by simp, by simp, by simp, by simp, by simp⟩ ?_
  clear hJ k2 n2 hok2 hd2 hj2 hd1 hk1 hn1 hok1
  rintro kk tm H3 ⟨hJ, i, la, lb, va, vb, rfl, hi, ga, gb, hdj, hla, hlb, t0, t1, t2, t7, t9, t10, t11, t12⟩
  have hlal : la.length = i := by have := congrArg List.length hla; simpa [rowF_len] using this
  have hlbl : lb.length = i := by have := congrArg List.length hlb; simpa [rowF_len] using this
  by_cases hlt : i < n' + 1
  · have hlt' : (i : Int) < (n' : Int) + 1 := by omega
    simp (disch := first | omega | (simp; done) | assumption) [wr64, wrU8, wrU64, Nat.add_assoc, -getElem?_pos, List.getElem?_cons_zero, List.getElem?_cons_succ, t0, t1, t2, t7, t9, t10, t11, t12, hlt, hlt']
    refine CallW.okof (Fill (10 + (i : Int)) _) ?_
    rintro v H4 ⟨k4, n4, q4, hq4, hq4n, hr4⟩ hok4
    try simp only [newO_none] at k4 n4 hq4
    obtain ⟨rfl, hQ4⟩ := qok_of hr4
    have hnx := hJ.next
    have ga4 := ga.keeps k4 n4
    have gb4 := gb.keeps k4 n4
    obtain ⟨va', H5, a1, g1, n5, kb5, kt5, hok5, oth5⟩ := appI (x := (25 + i, (q4, fill (10 + (i : Int))))) ga4 ⟨hQ4, hq4n, by dsimp only; omega⟩ hok4 (by omega) (by omega)
    obtain ⟨gb5, hdj5⟩ := oth5 vb lb gb4 hdj
    simp only [rowI, sl] at a1
    rw [show ((25 + i : Nat) : Int) = 25 + (i : Int) by omega] at a1
    simp only [sl]
    simp (disch := first | omega | (simp; done) | assumption) [wr64, wrU8, wrU64, Nat.add_assoc, -getElem?_pos, List.getElem?_cons_zero, List.getElem?_cons_succ, t0, t1, t2, t7, t9, t10, t11, t12]
    refine Try.intro a1 ?_
    simp (disch := first | omega | (simp; done) | assumption) [wr64, wrU8, wrU64, Nat.add_assoc, -getElem?_pos, List.getElem?_cons_zero, List.getElem?_cons_succ, t0, t1, t2, t7, t9, t10, t11, t12]
    refine CallW.okof (Fill (1000 + (i : Int)) _) ?_
    rintro v H6 ⟨k6, n6, q6, hq6, hq6n, hr6⟩ hok6
    try simp only [newO_none] at k6 n6 hq6
    obtain ⟨rfl, hQ6⟩ := qok_of hr6
    have g16 := g1.keeps k6 n6
    have gb6 := gb5.keeps k6 n6
    obtain ⟨vb', H7, a2, g2, n7, kb7, kt7, hok7, oth7⟩ := appI (x := (25 + i, (q6, fill (1000 + (i : Int))))) gb6 ⟨hQ6, hq6n, by dsimp only; omega⟩ hok6 (by omega) (by omega)
    obtain ⟨ga7, hdj7⟩ := oth7 va' _ g16 hdj5.symm
    simp only [rowI, sl] at a2
    rw [show ((25 + i : Nat) : Int) = 25 + (i : Int) by omega] at a2
    simp only [sl]
    simp (disch := first | omega | (simp; done) | assumption) [wr64, wrU8, wrU64, Nat.add_assoc, -getElem?_pos, List.getElem?_cons_zero, List.getElem?_cons_succ, t0, t1, t2, t7, t9, t10, t11, t12]
    refine Try.intro a2 ?_
    simp (disch := first | omega | (simp; done) | assumption) [wr64, wrU8, wrU64, Nat.add_assoc, -getElem?_pos, List.getElem?_cons_zero, List.getElem?_cons_succ, t0, t1, t2, t7, t9, t10, t11, t12]
    have hJ4 := hJ.mono k4 hok4 n4
    have hJ5 := hJ4.kt hok kb5 kt5 hok5 (by omega)
    have hJ6 := hJ5.mono k6 hok6 n6
    have hJ7 := hJ6.kt hok kb7 kt7 hok7 (by omega)
    exact ⟨n' + 1 - (i + 1), by omega, hJ7, i + 1, la ++ [(25 + i, (q4, fill (10 + (i : Int))))], lb ++ [(25 + i, (q6, fill (1000 + (i : Int))))], va', vb', rfl, by omega, ga7, g2, hdj7.symm, by rw [List.map_append, hla, rowF_succ]; rfl, by rw [List.map_append, hlb, rowF_succ]; rfl, by simp [t0], by simp [t1], by simp [t2], by simp [t7], by simp [t9], by simp, by simp, by simp⟩
  · have hlt' : ¬ (i : Int) < (n' : Int) + 1 := by omega
    obtain rfl : i = n' + 1 := by omega
    simp (disch := first | omega | (simp; done) | assumption) [wr64, wrU8, wrU64, Nat.add_assoc, -getElem?_pos, List.getElem?_cons_zero, List.getElem?_cons_succ, t0, t1, t2, t7, t9, t10, t11, t12, hlt, hlt']
    exact hX (n' + 1) (by omega) (by omega) _ H3 p L jb s2 va vb la lb hJ hl2 (hs2.mono (by omega)) ha2 (by omega) hst2 (ga.bi (by omega)) (gb.bi (by omega)) hla hlb (by simp [t0]) (by simp [t1]) (by simp [t2]) (by simp [t7]) (by simp [t9]) (by simp [t10]) (by simp [t11])
theorem EachC {C : ICode} (hC : C = EaC) {fn : Func} (hF : Fits Tryd.prog 7 fn C rs7) (hnt : 3 ≤ fn.ntmps) {n at_ op : Int} {H : AH} (hE : EOk H) :
    ACall Tryd.prog 7 [.int .i64 n, .int .i64 at_, .int .i64 op] H (fun v H' => v = .bool true ∧ H' = H) :=
  acall_enter hF hnt (by simp) fun hok => Ea1 hC hok hE
theorem JournalEach.walk (a0 a1 a2 : Int) (W : World) (hsh : W.ShapedOpen Tryd.prog) (hG : ELaid.G W) (_ : (Lit.int .i64 a0).wf = true) (_ : (Lit.int .i64 a1).wf = true) (_ : (Lit.int .i64 a2).wf = true) :
    Calls Tryd.prog 7 #[.int .i64 a0, .int .i64 a1, .int .i64 a2] W fun e W' => e = .returned (.bool true) ∧ Below W.heap.size W W' :=
  ELaid.walk hsh hG (EachC rfl fits7 (by simp) (ELaid.H1_err W)) (.cons (.int ..) (.cons (.int ..) (.cons (.int ..) .nil)))
end Go.Proofs.YtcgkadfgojmmlaaDoor.JN

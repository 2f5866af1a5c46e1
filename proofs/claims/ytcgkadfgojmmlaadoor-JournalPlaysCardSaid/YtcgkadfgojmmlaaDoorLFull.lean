/- JournalFull. No condition. -/
import Derived.Test.YtcgkadfgojmmlaaDoorLEach
set_option linter.unusedVariables false
set_option linter.unusedSimpArgs false
set_option maxRecDepth 100000
set_option maxHeartbeats 4000000
namespace Go.Proofs.YtcgkadfgojmmlaaDoor.JN
open Go Go.RowKit Go.Proofs.YtcgkadfgojmmlaaDoor Go.Proofs.YtcgkadfgojmmlaaDoor.Abs Go.Proofs.YtcgkadfgojmmlaaDoor.Ic Go.Proofs.YtcgkadfgojmmlaaDoor.EAs Go.Proofs.YtcgkadfgojmmlaaDoor.EErr Go.Proofs.YtcgkadfgojmmlaaDoor.DFn
abbrev FuC : ICode := ic5
abbrev FuQ (H : AH) : IPost := fnPost rs5 fun v H' => v = .bool true ∧ H.keepsAll H'
abbrev fF : Nat → Int := fun k => (k : Int) + 1
/-- What is known ahead of the last checks. -/
structure FuM (H H1 : AH) (p L jb n : Nat) (s : DK) (gv : AV) (want : Int) : Prop where
  js : JS H H1 p L jb 5 n s
  len : s.ct.length = 120
  alive : s.dead = false
  v60 : vw s.ct 60 = fill 1
  w : want ≠ 0
  ch : ∃ (b : Nat) (f : Fl), gv = .iface 74 (.ptr b 0) ∧ f.op = jrn ∧ f.name = [] ∧ Chain H1 gv [f] (some want)
theorem Fu4 {C : ICode} (hC : C = FuC) {H H1 : AH} (hE : EOk H) {p L jb n : Nat} {s : DK} {gv : AV} {want : Int} {tm : Tms} (hM : FuM H H1 p L jb n s gv want) (t5 : tm 5 = .ptr p 0) (t7 : tm 7 = .ptr jb 0) (t11 : tm 11 = .int .i64 s.w) (t12 : tm 12 = gv) (t13 : tm 13 = .int .i64 want) :
    IWP Tryd.prog (part_ [1, 1, 1, 1, 1, 1, 1, 1, 1, 1, 1, 1, 1] C) (FuQ H) tm H1 := by
  rw [hC]
  obtain ⟨hJ, hl, ha, h60, hw, bg, f, rfl, hf1, hf2, hch⟩ := hM
  simp (disch := first | omega | (simp; done) | assumption) [wr64, wrU8, wrU64, Nat.add_assoc, -getElem?_pos, List.getElem?_cons_zero, List.getElem?_cons_succ, part_, FuC, ic5, t5, t7, t11, t12, t13]
  refine CallW.okof (show ACall Tryd.prog _ [.ptr jb 0, .int .i64 60] _ _ from JRead (i := 60) hJ.ds hJ.jo (by omega) ha) ?_
  rintro v H2 ⟨k2, n2, q, hq1, hq2, rfl, hQ⟩ hok2
  try simp only [newO_none] at k2 n2 hq1
  rw [h60] at hQ
  have hk02 : H.keepsAll H2 := fun y o h => k2 _ _ (hJ.keeps _ _ h)
  have hIs := ELawIs jrn [] want (loadC_keeps hk02 hE) (hch.keeps k2)
  rw [show isV (.iface 74 (.ptr bg 0)) [f] (some want) jrn [] want = true by simp [isV, hf1, hf2, hw]] at hIs
  unfold jrn at hIs
  have b1 := b2s_q hQ
  simp only [sl] at b1
  have hd2 := hJ.ds.keeps k2
  simp (disch := first | omega | (simp; done) | assumption) [wr64, wrU8, wrU64, Nat.add_assoc, -getElem?_pos, List.getElem?_cons_zero, List.getElem?_cons_succ, t5, t7, t11, t12, t13]
  refine CallW.val hIs ?_
  simp (disch := first | omega | (simp; done) | assumption) [wr64, wrU8, wrU64, Nat.add_assoc, -getElem?_pos, List.getElem?_cons_zero, List.getElem?_cons_succ, t5, t7, t11, t12, t13]
  refine CallW.val (Writes hd2) ?_
  simp (disch := first | omega | (simp; done) | assumption) [wr64, wrU8, wrU64, Nat.add_assoc, -getElem?_pos, List.getElem?_cons_zero, List.getElem?_cons_succ, t5, t7, t11, t12, t13, b1]
  refine CallW.okof (Fill 1 _) ?_
  rintro v H3 ⟨k3, n3, q3, hq3, hq3n, hr3⟩ hok3
  try simp only [newO_none] at k3 n3 hq3
  obtain ⟨rfl, hQ3⟩ := qok_of hr3
  have b2 := b2s_q hQ3
  have b13 := b2s_q (hQ.keeps k3)
  simp only [sl] at b2 b13
  simp (disch := first | omega | (simp; done) | assumption) [wr64, wrU8, wrU64, Nat.add_assoc, -getElem?_pos, List.getElem?_cons_zero, List.getElem?_cons_succ, sl, b2, b13]
  refine CallW.val JAwake ?_
  simp (disch := first | omega | (simp; done) | assumption) [wr64, wrU8, wrU64, Nat.add_assoc, -getElem?_pos, List.getElem?_cons_zero, List.getElem?_cons_succ, rs5]
  exact fun y o h => k3 _ _ (hk02 _ _ h)
theorem gd_twice {at_ most nb : Nat} (x : Gr) : gd at_ most nb [] [x, x] = false := by
  unfold gd
  split
  · rfl
  · unfold gd
    rw [if_pos]
    exact .inr (.inr (.inr (.inl (by simp))))
theorem gd_one {at_ most nb : Nat} {x : Gr} (h : badG at_ most nb [] x) : gd at_ most nb [] [x] = false := by
  unfold gd
  rw [if_pos h]
theorem WrongP.fum {n : Int} {H : AH} {v : AV} {H' : AH} (h : WrongP n H v H') : ∃ (b : Nat) (f : Fl), v = .iface 74 (.ptr b 0) ∧ f.op = jrn ∧ f.name = [] ∧ Chain H' v [f] (some n) := by
  obtain ⟨_, _, f, h1, h2, h3, h4⟩ := h
  exact ⟨_, f, h3, h1, h2, h4⟩
theorem Fu3 {C : ICode} (hC : C = FuC) {H H1 : AH} (hok0 : H.ok) {p L jb n : Nat} {kind : Int} {s : DK} {va : AV} {la : List Ib} {tm : Tms} (hn1 : 1 ≤ n) (hn : n ≤ 20) (hJ : JS H H1 p L jb 5 n s) (hl : s.ct.length = 120) (ha : s.dead = false) (h60 : vw s.ct 60 = fill 1)
    (hA : GL H.next H1 va la) (hla : la.map wr = rowF 60 fF n) (t0 : tm 0 = .int .i64 (n : Int)) (t1 : tm 1 = .int .i64 kind) (t5 : tm 5 = .ptr p 0) (t7 : tm 7 = .ptr jb 0) (t9 : tm 9 = va) (t11 : tm 11 = .int .i64 s.w) (t13 : tm 13 = .int .i64 1)
    (hX : ∀ tm' H2 gv want, FuM H H2 p L jb n s gv want → tm' 5 = .ptr p 0 → tm' 7 = .ptr jb 0 → tm' 11 = .int .i64 s.w → tm' 12 = gv → tm' 13 = .int .i64 want → IWP Tryd.prog (part_ [1, 1, 1, 1, 1, 1, 1, 1, 1, 1, 1, 1, 1] C) (FuQ H) tm' H2) :
    IWP Tryd.prog (part_ [1, 1, 1, 1, 1, 1, 1, 1, 1, 1, 1, 1] C) (FuQ H) tm H1 := by
  have hcut : part_ [1, 1, 1, 1, 1, 1, 1, 1, 1, 1, 1, 1] C = (.seq (part_ [1, 1, 1, 1, 1, 1, 1, 1, 1, 1, 1, 1, 0] FuC) (part_ [1, 1, 1, 1, 1, 1, 1, 1, 1, 1, 1, 1, 1] FuC)) := by rw [hC]; kernel_rfl
  rw [show part_ [1, 1, 1, 1, 1, 1, 1, 1, 1, 1, 1, 1, 1] C = part_ [1, 1, 1, 1, 1, 1, 1, 1, 1, 1, 1, 1, 1] FuC by rw [hC]] at hX
  rw [hcut]
  clear hcut hC
  generalize part_ [1, 1, 1, 1, 1, 1, 1, 1, 1, 1, 1, 1, 1] FuC = Y at *
  have hlal : la.length = n := by have := congrArg List.length hla; simpa [rowF_len] using this
  have fin : ∀ H2 gv want tm', H1.keepsAll H2 → H2.ok → H1.next ≤ H2.next → want ≠ 0 → (∃ (b : Nat) (f : Fl), gv = .iface 74 (.ptr b 0) ∧ f.op = jrn ∧ f.name = [] ∧ Chain H2 gv [f] (some want)) → tm' 5 = .ptr p 0 → tm' 7 = .ptr jb 0 → tm' 11 = .int .i64 s.w → tm' 12 = gv → tm' 13 = .int .i64 want → IWP Tryd.prog Y (FuQ H) tm' H2 :=
    fun H2 gv want tm' k2 o2 n2 hw hch e5 e7 e11 e12 e13 => hX tm' H2 gv want ⟨hJ.mono k2 o2 n2, hl, ha, h60, hw, hch⟩ e5 e7 e11 e12 e13
  obtain ⟨b, rfl, hbb, hq⟩ := hA.bi (by omega)
  obtain ⟨c, hc, hc4⟩ := St.mask_small 2 (by omega) kind
  have hc' : bits .and .i64 kind 3 = (c : Int) := hc
  have hmm : 1 ≤ n ∧ n ≤ 200 := by omega
  match c, hc4 with
  | 0, _ =>
    have hlt := hJ.ok _ _ hbb
    have happ := appAll hbb hlt (by omega) (by omega)
    simp (disch := first | omega | (simp; done) | assumption) [wr64, wrU8, wrU64, Nat.add_assoc, -getElem?_pos, List.getElem?_cons_zero, List.getElem?_cons_succ, part_, FuC, ic5, t0, t1, t5, t7, t9, t11, t13, hc']
    refine Try.intro happ ?_
    have hok2 := appendK_ok (AH.ok_new hJ.ok) happ
    have hnx := hJ.next
    have k2 : H1.keepsAll (((H1.new (.cells false tBk [])).set H1.next none).new (.cells false tBk (rowsI la).flatten)) := fun y o h => by
      have := hJ.ok _ _ h
      rw [AH.new_ne _ _ (by simp; omega), AH.set_ne _ _ (by omega), AH.new_ne _ _ (by omega)]
      exact h
    have n2 : (((H1.new (.cells false tBk [])).set H1.next none).new (.cells false tBk (rowsI la).flatten)).next = H1.next + 2 := by simp
    have g2 : GL H.next (((H1.new (.cells false tBk [])).set H1.next none).new (.cells false tBk (rowsI la).flatten)) (.slice (H1.next + 1) 0 la.length 2) la := by
      refine ⟨.inr ⟨H1.next + 1, by simp [rowsI], ?_, by simp, by omega, by simp⟩, fun x hx => ⟨(hA.2 x hx).1.keeps k2, by have := (hA.2 x hx).2.1; omega, (hA.2 x hx).2.2⟩⟩
      intro e
      have : la = [] := by simpa [rowsI] using e
      rw [this] at hlal
      simp at hlal
      omega
    clear happ
    generalize ((H1.new (.cells false tBk [])).set H1.next none).new (.cells false tBk (rowsI la).flatten) = H2 at *
    simp (disch := first | omega | (simp; done) | assumption) [wr64, wrU8, wrU64, Nat.add_assoc, -getElem?_pos, List.getElem?_cons_zero, List.getElem?_cons_succ, t7]
    refine CallW.okof (Fill 0 _) ?_
    rintro v H3 ⟨k3, n3, q3, hq3, hq3n, hr3⟩ hok3
    try simp only [newO_none] at k3 n3 hq3
    obtain ⟨rfl, hQ3⟩ := qok_of hr3
    have g3 := g2.keeps k3 n3
    obtain ⟨va', H4, a1, g4, n4, kb4, kt4, hok4, _⟩ := appI (x := (100, (q3, fill 0))) g3 ⟨hQ3, hq3n, by dsimp only; omega⟩ hok3 (by omega) (by omega)
    simp only [rowI, sl] at a1
    simp (disch := first | omega | (simp; done) | assumption) [wr64, wrU8, wrU64, Nat.add_assoc, -getElem?_pos, List.getElem?_cons_zero, List.getElem?_cons_succ, t7, sl]
    refine Try.intro (by simpa using a1) ?_
    simp (disch := first | omega | (simp; done) | assumption) [wr64, wrU8, wrU64, Nat.add_assoc, -getElem?_pos, List.getElem?_cons_zero, List.getElem?_cons_succ, t7]
    have hJ4 := ((hJ.mono k2 hok2 (by omega)).mono k3 hok3 n3).kt hok0 kb4 kt4 hok4 (by omega)
    have hgd : gd 5 n s.ct.length [] ((la ++ [(100, (q3, fill 0))]).map grI) = true := by
      refine gd_of _ _ (fun x hx => ?_) ?_
      · refine ⟨?_, ?_, by simp⟩
        · rcases List.mem_append.1 hx with hx | hx
          · have hm : wr x ∈ rowF 60 fF n := by rw [← hla]; exact List.mem_map_of_mem hx
            obtain ⟨k, hk, he⟩ := rowF_mem hm
            have : x.1 = 60 + k := congrArg (·.1) he
            omega
          · obtain rfl := List.mem_singleton.1 hx; dsimp only; omega
        · rcases List.mem_append.1 hx with hx | hx
          · have hm : wr x ∈ rowF 60 fF n := by rw [← hla]; exact List.mem_map_of_mem hx
            obtain ⟨k, hk, he⟩ := rowF_mem hm
            have : x.1 = 60 + k := congrArg (·.1) he
            intro ho
            have := ho.2
            unfold need lists at this
            omega
          · obtain rfl := List.mem_singleton.1 hx
            intro ho
            have := ho.2
            unfold need lists at this
            dsimp only at this
            omega
      · rw [List.map_append, ← wr_fst, hla]
        rw [List.nodup_append]
        refine ⟨rowF_nodup _ _ _, by simp, fun a ha b hb => ?_⟩
        obtain ⟨x, hx, rfl⟩ := List.mem_map.1 ha
        obtain ⟨k, hk, rfl⟩ := rowF_mem hx
        obtain rfl : b = 100 := by simpa using hb
        dsimp only
        omega
    refine CallW.okof (Commit_big hJ4.ds hJ4.jo hmm (by omega) g4.bg (by simp; omega) hgd (by simp; omega)) ?_
    rintro v H5 hw hok5
    obtain ⟨bb, f, rfl, hf⟩ := hw.fum
    have hn5 := hw.2.1
    try simp only [newO_none] at hn5
    simp (disch := first | omega | (simp; done) | assumption) [wr64, wrU8, wrU64, Nat.add_assoc, -getElem?_pos, List.getElem?_cons_zero, List.getElem?_cons_succ, t0, t1, t5, t7, t9, t11, t13]
    exact hX _ H5 _ 5 ⟨hJ4.mono hw.1 hok5 hn5, hl, ha, h60, by omega, ⟨bb, f, rfl, hf⟩⟩ (by simp [t5]) (by simp [t7]) (by simp [t11]) (by simp) (by simp)
  | 1, _ =>
    have h0 : 0 < la.length := by omega
    have h0' : ¬ la = [] := fun e => by rw [e] at h0; simp at h0
    have hld := BI.at hbb h0
    have hx0 := hq _ (List.getElem_mem h0)
    generalize la[0] = x at *
    simp (disch := first | omega | (simp; done) | assumption) [wr64, wrU8, wrU64, Nat.add_assoc, -getElem?_pos, List.getElem?_cons_zero, List.getElem?_cons_succ, part_, FuC, ic5, t0, t1, t5, t7, t9, t11, t13, hc', h0]
    refine Try.intro (by simpa using hld) ?_
    simp (disch := first | omega | (simp; done) | assumption) [wr64, wrU8, wrU64, Nat.add_assoc, -getElem?_pos, List.getElem?_cons_zero, List.getElem?_cons_succ, t7, t9, h0]
    refine Try.intro (by simpa using hld) ?_
    simp (disch := first | omega | (simp; done) | assumption) [wr64, wrU8, wrU64, Nat.add_assoc, -getElem?_pos, List.getElem?_cons_zero, List.getElem?_cons_succ, t7, t9, sl_one, sl_cells]
    have hkB : H1.keepsAll (H1.new (.cells false 35 [.int .i64 (x.1 : Int), sl x.2, .int .i64 (x.1 : Int), sl x.2])) := keeps_new hJ.ok (AH.keepsAll_refl _) (Nat.le_refl _)
    have hBG : BG (H1.new (.cells false 35 [.int .i64 (x.1 : Int), sl x.2, .int .i64 (x.1 : Int), sl x.2])) (.slice H1.next 0 2 2) [grI x, grI x] := ⟨.inr ⟨H1.next, rfl, AH.new_same _ _⟩, fun y hy => by
      have : y = grI x := by simpa using hy
      rw [this]
      exact ⟨rfl, rfl, rfl, by show 128 ≤ 100000; omega⟩⟩
    refine CallW.okof (Commit_bad (hJ.ds.keeps hkB) (show JO _ jb p 5 n from hkB _ _ hJ.jo) hmm (by omega) hBG (by simp) (gd_twice _)) ?_
    rintro v H2 hw hok2
    obtain ⟨bb, f, rfl, hf⟩ := hw.fum
    have hn2 := hw.2.1
    simp at hn2
    simp (disch := first | omega | (simp; done) | assumption) [wr64, wrU8, wrU64, Nat.add_assoc, -getElem?_pos, List.getElem?_cons_zero, List.getElem?_cons_succ, t0, t1, t5, t7, t9, t11, t13]
    exact fin H2 _ 1 _ (fun y o h => hw.1 _ _ (hkB _ _ h)) hok2 (by omega) (by omega) ⟨bb, f, rfl, hf⟩ (by simp [t5]) (by simp [t7]) (by simp [t11]) (by simp) (by simp [t13])
  | 2, _ =>
    have hN := fun H => Need (m := (n : Int)) (k := n) (by omega) (by omega) H
    obtain ⟨m, hm, hm8⟩ := St.mask_small 8 (by omega) (kind.fdiv (2 ^ min 2 IntKind.i64.bits))
    have hm' : bits .and .i64 (kind.fdiv (2 ^ min 2 IntKind.i64.bits)) 255 = (m : Int) := hm
    have hnd : 3 ≤ need n ∧ need n ≤ 300 := by unfold need lists; omega
    have hown : ∀ r, r < need n → badG 5 n s.ct.length [] ⟨5 + (r : Int), sl (0, zer), 128⟩ := fun r hr => .inr (.inr (.inl ⟨by show ((5 : Nat) : Int) ≤ 5 + (r : Int); omega, by show 5 + (r : Int) < ((5 : Nat) : Int) + (need n : Int); omega⟩))
    have hmod : ((m : Int)).tmod (need n : Int) = ((m % need n : Nat) : Int) := by rw [Int.tmod_eq_emod_of_nonneg (by omega)]; exact (Int.natCast_emod m (need n)).symm
    have hlt : m % need n < need n := Nat.mod_lt _ (by omega)
    have hbd := hown _ hlt
    have hnz : ¬ (need n : Int) = 0 := by omega
    have hnz' : ¬ need n = 0 := by omega
    generalize m % need n = r at *
    generalize need n = nd at *
    simp (disch := first | omega | (simp; done) | assumption) [wr64, wrU8, wrU64, Nat.add_assoc, -getElem?_pos, List.getElem?_cons_zero, List.getElem?_cons_succ, part_, FuC, ic5, t0, t1, t5, t7, t9, t11, t13, hc', hm']
    refine CallW.val (hN _) ?_
    simp (disch := first | omega | (simp; done) | assumption) [wr64, wrU8, wrU64, Nat.add_assoc, -getElem?_pos, List.getElem?_cons_zero, List.getElem?_cons_succ, hmod, hnz, hnz']
    refine CallW.okof (Fill 0 _) ?_
    rintro v H2 ⟨k2, n2, q2, hq2, hq2n, hr2⟩ hok2
    try simp only [newO_none] at k2 n2 hq2
    obtain ⟨rfl, hQ2⟩ := qok_of hr2
    have hkB : H2.keepsAll (H2.new (.cells false 35 [.int .i64 (5 + (r : Int)), sl (q2, fill 0)])) := keeps_new hok2 (AH.keepsAll_refl _) (Nat.le_refl _)
    have hBG : BG (H2.new (.cells false 35 [.int .i64 (5 + (r : Int)), sl (q2, fill 0)])) (.slice H2.next 0 1 2) [⟨5 + (r : Int), sl (q2, fill 0), 128⟩] := ⟨.inr ⟨H2.next, rfl, AH.new_same _ _⟩, fun y hy => by
      obtain rfl := List.mem_singleton.1 hy
      exact ⟨rfl, rfl, rfl, by show 128 ≤ 100000; omega⟩⟩
    simp (disch := first | omega | (simp; done) | assumption) [wr64, wrU8, wrU64, Nat.add_assoc, -getElem?_pos, List.getElem?_cons_zero, List.getElem?_cons_succ, t7, sl_one, sl_cells]
    refine CallW.okof (Commit_bad ((hJ.ds.keeps k2).keeps hkB) (show JO _ jb p 5 n from hkB _ _ (k2 _ _ hJ.jo)) hmm (by omega) hBG (by simp) (gd_one hbd)) ?_
    rintro v H3 hw hok3
    obtain ⟨bb, f, rfl, hf⟩ := hw.fum
    have hn3 := hw.2.1
    simp at hn3
    simp (disch := first | omega | (simp; done) | assumption) [wr64, wrU8, wrU64, Nat.add_assoc, -getElem?_pos, List.getElem?_cons_zero, List.getElem?_cons_succ, t0, t1, t5, t7, t9, t11, t13]
    exact fin H3 _ 1 _ (fun y o h => hw.1 _ _ (hkB _ _ (k2 _ _ h))) hok3 (by omega) (by omega) ⟨bb, f, rfl, hf⟩ (by simp [t5]) (by simp [t7]) (by simp [t11]) (by simp) (by simp [t13])
  | 3, _ =>
    simp (disch := first | omega | (simp; done) | assumption) [wr64, wrU8, wrU64, Nat.add_assoc, -getElem?_pos, List.getElem?_cons_zero, List.getElem?_cons_succ, part_, FuC, ic5, t0, t1, t5, t7, t9, t11, t13, hc']
    refine CallW.okof (Fill 0 _) ?_
    rintro v H2 ⟨k2, n2, q2, hq2, hq2n, hr2⟩ hok2
    try simp only [newO_none] at k2 n2 hq2
    obtain ⟨rfl, hQ2⟩ := qok_of hr2
    have hs1 : ∀ b, slcA 1 (some 1) none none (.slice b 0 128 1) = some (.slice b 1 127 1) := fun b => rfl
    have hkB : H2.keepsAll (H2.new (.cells false 35 [.int .i64 60, .slice q2 1 127 1])) := keeps_new hok2 (AH.keepsAll_refl _) (Nat.le_refl _)
    have hBG : BG (H2.new (.cells false 35 [.int .i64 60, .slice q2 1 127 1])) (.slice H2.next 0 1 2) [⟨60, .slice q2 1 127 1, 127⟩] := ⟨.inr ⟨H2.next, rfl, AH.new_same _ _⟩, fun y hy => by
      obtain rfl := List.mem_singleton.1 hy
      exact ⟨rfl, rfl, rfl, by show 127 ≤ 100000; omega⟩⟩
    simp (disch := first | omega | (simp; done) | assumption) [wr64, wrU8, wrU64, Nat.add_assoc, -getElem?_pos, List.getElem?_cons_zero, List.getElem?_cons_succ, t7, sl, hs1]
    refine CallW.okof (Commit_bad ((hJ.ds.keeps k2).keeps hkB) (show JO _ jb p 5 n from hkB _ _ (k2 _ _ hJ.jo)) hmm (by omega) hBG (by simp) (gd_one (.inr (.inr (.inr (.inr (show (127 : Nat) ≠ 128 by omega))))))) ?_
    rintro v H3 hw hok3
    obtain ⟨bb, f, rfl, hf⟩ := hw.fum
    have hn3 := hw.2.1
    simp at hn3
    simp (disch := first | omega | (simp; done) | assumption) [wr64, wrU8, wrU64, Nat.add_assoc, -getElem?_pos, List.getElem?_cons_zero, List.getElem?_cons_succ, t0, t1, t5, t7, t9, t11, t13]
    exact fin H3 _ 1 _ (fun y o h => hw.1 _ _ (hkB _ _ (k2 _ _ h))) hok3 (by omega) (by omega) ⟨bb, f, rfl, hf⟩ (by simp [t5]) (by simp [t7]) (by simp [t11]) (by simp) (by simp [t13])
theorem fGeo {n : Nat} (hn1 : 1 ≤ n) (hn : n ≤ 20) {nn : Nat} (hl : nn = 120) : Geo 5 n nn (rowF 60 fF n) := by
  subst hl
  exact ⟨hn1, by omega, by unfold need lists; omega, by omega, by rw [rowF_len]; omega, by rw [rowF_len]; omega, rowF_good (by omega) (by unfold need lists; omega)⟩
theorem Fu2 {C : ICode} (hC : C = FuC) {H H1 : AH} (hok0 : H.ok) (hE : EOk H) {p L jb n : Nat} {kind : Int} {va : AV} {la : List Ib} {tm : Tms} (hn1 : 1 ≤ n) (hn : n ≤ 20) (hJ : JS H H1 p L jb 5 n ⟨List.replicate 120 none, 0, -1, false⟩)
    (hA : GL H.next H1 va la) (hla : la.map wr = rowF 60 fF n) (t0 : tm 0 = .int .i64 (n : Int)) (t1 : tm 1 = .int .i64 kind) (t5 : tm 5 = .ptr p 0) (t7 : tm 7 = .ptr jb 0) (t9 : tm 9 = va) :
    IWP Tryd.prog (part_ [1, 1, 1, 1, 1, 1, 1, 1] C) (FuQ H) tm H1 := by
  have hcut : part_ [1, 1, 1, 1, 1, 1, 1, 1] C = (.seq (part_ [1, 1, 1, 1, 1, 1, 1, 1, 0] FuC) (.seq (part_ [1, 1, 1, 1, 1, 1, 1, 1, 1, 0] FuC) (.seq (part_ [1, 1, 1, 1, 1, 1, 1, 1, 1, 1, 0] FuC) (.seq (part_ [1, 1, 1, 1, 1, 1, 1, 1, 1, 1, 1, 0] FuC) (part_ [1, 1, 1, 1, 1, 1, 1, 1, 1, 1, 1, 1] FuC))))) := by rw [hC]; kernel_rfl
  have hX := fun (tm' : Tms) (H2 : AH) (s : DK) (hJ2 : JS H H2 p L jb 5 n s) (hl : s.ct.length = 120) ha h60 (h1 : GL H.next H2 va la) e0 e1 e5 e7 e9 e11 e13 => Fu3 (C := FuC) (kind := kind) (tm := tm') rfl hok0 hn1 hn hJ2 hl ha h60 h1 hla e0 e1 e5 e7 e9 e11 e13 fun tm'' H3 gv want g1 g2 g3 g4 g5 g6 => Fu4 rfl hE g1 g2 g3 g4 g5 g6
  rw [hcut]
  clear hcut hC
  generalize part_ [1, 1, 1, 1, 1, 1, 1, 1, 1, 1, 1, 1] FuC = Y at *
  have hG : Geo 5 n (List.replicate 120 (none : Option Bs)).length (la.map wr) := by rw [hla]; exact fGeo hn1 hn (by simp)
  have hv1 : va.cells = [va] ∧ va.one = true := ⟨hA.one.1, hA.one.2.1⟩
  simp (disch := first | omega | (simp; done) | assumption) [wr64, wrU8, wrU64, Nat.add_assoc, -getElem?_pos, List.getElem?_cons_zero, List.getElem?_cons_succ, part_, FuC, ic5, t0, t1, t5, t7, t9]
  refine CallW.okof (Commit (base := zz) hJ.ds hJ.jo hG (sok_fresh 120) (by omega) (st0_fresh _ _ _) (hA.bi (by have := congrArg List.length hla; simp [rowF_len] at this; omega))) ?_
  rintro v H2 ⟨n2, k2, s2, hd2, hC2, _⟩ hok2
  try simp only [newO_none] at n2 k2
  obtain ⟨rfl, ha2, hf2⟩ := hC2.all rfl (by show (-1 : Int) < 0; omega)
  have hst2 := hC2.good rfl
  rw [hla] at hst2
  have hl2 : s2.ct.length = 120 := by rw [hC2.ct]; simp
  have hJ2 := hJ.kx hok0 k2 hok2 n2 hd2
  have hA2 := hA.kx hJ.ds k2 n2
  have h60 : vw s2.ct 60 = fill 1 := by
    rw [hst2.2 60 (fun h => by have := h.2; unfold need lists at this; omega)]
    exact rowF_aft (c := 60) (f := fF) (k := 0) (by omega)
  simp (disch := first | omega | (simp; done) | assumption) [wr64, wrU8, wrU64, Nat.add_assoc, -getElem?_pos, List.getElem?_cons_zero, List.getElem?_cons_succ, t0, t1, t5, t7, t9]
  refine CallW.val (Commit_nil hJ2.ds hJ2.jo (by omega) (by omega)) ?_
  simp (disch := first | omega | (simp; done) | assumption) [wr64, wrU8, wrU64, Nat.add_assoc, -getElem?_pos, List.getElem?_cons_zero, List.getElem?_cons_succ, t0, t1, t5, t7, t9]
  refine CallW.val (Writes hJ2.ds) ?_
  simp (disch := first | omega | (simp; done) | assumption) [wr64, wrU8, wrU64, Nat.add_assoc, -getElem?_pos, List.getElem?_cons_zero, List.getElem?_cons_succ, t0, t1, t5, t7, t9]
  exact hX _ H2 s2 hJ2 hl2 ha2 h60 hA2 (by simp [t0]) (by simp [t1]) (by simp [t5]) (by simp [t7]) (by simp [t9]) (by simp) (by simp)
def FuI (n : Nat) (kind : Int) (p L jb : Nat) (s : DK) (H : AH) (kk : Nat) (tm : Tms) (H' : AH) : Prop := JS H H' p L jb 5 n s ∧ ∃ (i : Nat) (la : List Ib) (va : AV), kk = n - i ∧ i ≤ n ∧ GL H.next H' va la ∧ la.map wr = rowF 60 fF i ∧
  tm 0 = .int .i64 (n : Int) ∧ tm 1 = .int .i64 kind ∧ tm 5 = .ptr p 0 ∧ tm 7 = .ptr jb 0 ∧ tm 9 = va ∧ tm 10 = .int .i64 (i : Int)
theorem Fu1 {C : ICode} (hC : C = FuC) {n0 kind : Int} {H : AH} (hok : H.ok) (hE : EOk H) : IWP Tryd.prog C (FuQ H) (tm0 [.int .i64 n0, .int .i64 kind]) H := by
  have hcut : C = (.seq (part_ [0] FuC) (.seq (part_ [1, 0] FuC) (.seq (part_ [1, 1, 0] FuC) (.seq (part_ [1, 1, 1, 0] FuC) (.seq (part_ [1, 1, 1, 1, 0] FuC) (.seq (part_ [1, 1, 1, 1, 1, 0] FuC) (.seq (part_ [1, 1, 1, 1, 1, 1, 0] FuC) (.seq (part_ [1, 1, 1, 1, 1, 1, 1, 0] FuC) (part_ [1, 1, 1, 1, 1, 1, 1, 1] FuC))))))))) := by rw [hC]; kernel_rfl
  obtain ⟨n', hn0, hn6'⟩ := St.mask_mod n0 20 (by omega)
  have hn' : (bits .and .i64 n0 255).tmod 20 = (n' : Int) := hn0
  have hX := fun (n : Nat) (hn1 : 1 ≤ n) (hn6 : n ≤ 20) (tm' : Tms) (H2 : AH) (p L jb : Nat) (va : AV) (la : List Ib) (hJ2 : JS H H2 p L jb 5 n ⟨List.replicate 120 none, 0, -1, false⟩) (a1 : GL H.next H2 va la) a3 e0 e1 e5 e7 e9 => Fu2 (C := FuC) (n := n) (kind := kind) (tm := tm') rfl hok hE hn1 hn6 hJ2 a1 a3 e0 e1 e5 e7 e9
  rw [hcut]
  clear hcut hC
  generalize part_ [1, 1, 1, 1, 1, 1, 1, 1] FuC = Y at *
  simp (disch := first | omega | (simp; done) | assumption) [wr64, wrU8, wrU64, Nat.add_assoc, -getElem?_pos, List.getElem?_cons_zero, List.getElem?_cons_succ, part_, FuC, ic5, hn']
  refine CallW.okof (show ACall Tryd.prog _ [.int .i64 120] _ _ from New (n := 120) (by omega) (by omega) _) ?_
  rintro v H1 ⟨hk1, hn1, p, L, rfl, hp, hL, hp1, hL1, hd1⟩ hok1
  try simp only [newO_none] at hk1 hn1 hp hL
  simp (disch := first | omega | (simp; done) | assumption) [wr64, wrU8, wrU64, Nat.add_assoc, -getElem?_pos, List.getElem?_cons_zero, List.getElem?_cons_succ, ]
  have hO := Open0 (at_ := 5) (most := n' + 1) hd1 (by omega) (by unfold need lists; simp; omega) (by simp) rfl (vw_fresh _ _)
  rw [show ((n' + 1 : Nat) : Int) = (n' : Int) + 1 by omega] at hO
  refine CallW.okof (show ACall Tryd.prog _ [.ptr p 0, .int .i64 5, .int .i64 ((n' : Int) + 1)] _ _ from hO) ?_
  rintro v H2 ⟨k2, n2, jb, hjb, hjbn, rfl, hj2⟩ hok2
  try simp only [newO_none] at n2 k2 hjb
  have hJ : JS H H2 p L jb 5 (n' + 1) ⟨List.replicate 120 none, 0, -1, false⟩ := ⟨fun y o h => k2 _ _ (hk1 _ _ h), hok2, by omega, hp, hL, hd1.keeps k2, hj2⟩
  have hMo := Most hj2
  rw [show ((n' + 1 : Nat) : Int) = (n' : Int) + 1 by omega] at hMo
  simp (disch := first | omega | (simp; done) | assumption) [wr64, wrU8, wrU64, Nat.add_assoc, -getElem?_pos, List.getElem?_cons_zero, List.getElem?_cons_succ, ]
  refine CallW.val hMo ?_
  simp (disch := first | omega | (simp; done) | assumption) [wr64, wrU8, wrU64, Nat.add_assoc, -getElem?_pos, List.getElem?_cons_zero, List.getElem?_cons_succ, ]
  refine iwp_loop (FuI (n' + 1) kind p L jb ⟨List.replicate 120 none, 0, -1, false⟩ H) (n' + 1) ⟨hJ, 0, [], .snil, rfl, by omega, GL.nil _ _, rfl, by simp, by simp, by simp, by simp, by simp, by simp⟩ ?_
  clear hJ k2 n2 hok2 hd1 hk1 hn1 hok1 hj2 hjb hjbn hO hMo
  rintro kk tm H3 ⟨hJ, i, la, va, rfl, hi, ga, hla, t0, t1, t5, t7, t9, t10⟩
  have hlal : la.length = i := by have := congrArg List.length hla; simpa [rowF_len] using this
  by_cases hlt : i < n' + 1
  · have hlt' : (i : Int) < (n' : Int) + 1 := by omega
    simp (disch := first | omega | (simp; done) | assumption) [wr64, wrU8, wrU64, Nat.add_assoc, -getElem?_pos, List.getElem?_cons_zero, List.getElem?_cons_succ, t0, t1, t5, t7, t9, t10, hlt, hlt']
    refine CallW.okof (Fill ((i : Int) + 1) _) ?_
    rintro v H4 ⟨k4, n4, q4, hq4, hq4n, hr4⟩ hok4
    try simp only [newO_none] at k4 n4 hq4
    obtain ⟨rfl, hQ4⟩ := qok_of hr4
    have hnx := hJ.next
    have ga4 := ga.keeps k4 n4
    obtain ⟨va', H5, a1, g1, n5, kb5, kt5, hok5, oth5⟩ := appI (x := (60 + i, (q4, fill ((i : Int) + 1)))) ga4 ⟨hQ4, hq4n, by dsimp only; omega⟩ hok4 (by omega) (by omega)
    simp only [rowI, sl] at a1
    rw [show ((60 + i : Nat) : Int) = 60 + (i : Int) by omega] at a1
    simp only [sl]
    simp (disch := first | omega | (simp; done) | assumption) [wr64, wrU8, wrU64, Nat.add_assoc, -getElem?_pos, List.getElem?_cons_zero, List.getElem?_cons_succ, t0, t1, t5, t7, t9, t10]
    refine Try.intro a1 ?_
    simp (disch := first | omega | (simp; done) | assumption) [wr64, wrU8, wrU64, Nat.add_assoc, -getElem?_pos, List.getElem?_cons_zero, List.getElem?_cons_succ, t0, t1, t5, t7, t9, t10]
    have hJ4 := hJ.mono k4 hok4 n4
    have hJ5 := hJ4.kt hok kb5 kt5 hok5 (by omega)
    exact ⟨n' + 1 - (i + 1), by omega, hJ5, i + 1, la ++ [(60 + i, (q4, fill ((i : Int) + 1)))], va', rfl, by omega, g1, by rw [List.map_append, hla, rowF_succ]; rfl, by simp [t0], by simp [t1], by simp [t5], by simp [t7], by simp, by simp⟩
  · have hlt' : ¬ (i : Int) < (n' : Int) + 1 := by omega
    obtain rfl : i = n' + 1 := by omega
    simp (disch := first | omega | (simp; done) | assumption) [wr64, wrU8, wrU64, Nat.add_assoc, -getElem?_pos, List.getElem?_cons_zero, List.getElem?_cons_succ, t0, t1, t5, t7, t9, t10, hlt, hlt']
    exact hX (n' + 1) (by omega) (by omega) _ H3 p L jb va la hJ ga hla (by simp [t0]) (by simp [t1]) (by simp [t5]) (by simp [t7]) (by simp [t9])
theorem FullC {C : ICode} (hC : C = FuC) {fn : Func} (hF : Fits Tryd.prog 5 fn C rs5) (hnt : 2 ≤ fn.ntmps) {n kind : Int} {H : AH} (hE : EOk H) :
    ACall Tryd.prog 5 [.int .i64 n, .int .i64 kind] H (fun v H' => v = .bool true ∧ H' = H) :=
  acall_enter hF hnt (by simp) fun hok => Fu1 hC hok hE
theorem JournalFull.walk (a0 a1 : Int) (W : World) (hsh : W.ShapedOpen Tryd.prog) (hG : ELaid.G W) (_ : (Lit.int .i64 a0).wf = true) (_ : (Lit.int .i64 a1).wf = true) :
    Calls Tryd.prog 5 #[.int .i64 a0, .int .i64 a1] W fun e W' => e = .returned (.bool true) ∧ Below W.heap.size W W' :=
  ELaid.walk hsh hG (FullC rfl fits5 (by simp) (ELaid.H1_err W)) (.cons (.int ..) (.cons (.int ..) .nil))
end Go.Proofs.YtcgkadfgojmmlaaDoor.JN

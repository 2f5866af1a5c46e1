/- JournalPlays: a Commit, and the Opens behind a death. No condition. -/
import Derived.Test.YtcgkadfgojmmlaaDoorLPd
set_option linter.unusedVariables false
set_option linter.unusedSimpArgs false
set_option maxRecDepth 100000
set_option maxHeartbeats 4000000
namespace Go.Proofs.YtcgkadfgojmmlaaDoor.JN
open Go Go.RowKit Go.Proofs.YtcgkadfgojmmlaaDoor Go.Proofs.YtcgkadfgojmmlaaDoor.Abs Go.Proofs.YtcgkadfgojmmlaaDoor.Ic Go.Proofs.YtcgkadfgojmmlaaDoor.EAs Go.Proofs.YtcgkadfgojmmlaaDoor.EErr Go.Proofs.YtcgkadfgojmmlaaDoor.DFn
theorem PM.re {H H1 : AH} {p L jb jb2 O N : Nat} {s : DK} {o : OpA} {nw : List Int} (h : PM H H1 p L jb O N s o nw) (hj : JO H1 jb2 p 4 6) : PM H H1 p L jb2 O N s o nw :=
  ⟨⟨h.js.keeps, h.js.ok, h.js.next, h.js.p0, h.js.L0, h.js.ds, hj⟩, h.O0, h.N0, h.oat, h.nat_⟩
theorem aft_22 {X : Nat → Bs} : aft X [(22, X 22)] = X := by
  refine aft_same fun x hx => ?_
  obtain rfl := List.mem_singleton.1 hx
  rfl
theorem aft_len {X : Nat → Bs} {l : List Wr} (h : ∀ x ∈ l, x.2.length = 128) {i : Nat} (hi : (X i).length = 128) : (aft X l i).length = 128 := by
  unfold aft
  cases hf : l.find? (fun x => x.1 == i) with
  | none => exact hi
  | some x => exact h x (List.mem_of_find?_eq_some hf)
/-- An Open where nothing is under way. -/
theorem Op0 {H : AH} {p L c : Nat} {X : Nat → Bs} {s : DK} (op : Int) (hd : DS H p L s) (hl : s.ct.length = 40) (hs : SOk s c) (hc : c ≤ 800000) (hst : St0 4 6 X s.ct) (hX : (X 22).length = 128) (h1 : s.dead = false) (h2 : s.f < 0) :
    ACall Tryd.prog 20 [.ptr p 0, .int .i64 op] H (fun v H' => H.next ≤ H'.next ∧ KX p L H H' ∧ ∃ (s' : DK) (jb : Nat), DS H' p L s' ∧ v = .ptr jb 0 ∧ JO H' jb p 4 6 ∧ s'.ct.length = 40 ∧ SOk s' (c + 402) ∧ St0 4 6 X s'.ct ∧ s'.dead = false ∧ s'.f = -1) := by
  have hG : Geo 4 6 s.ct.length [(22, X 22)] := ⟨by omega, by omega, by rw [hl]; decide, by omega, by simp, by simp, by rw [hl]; exact good_one (by omega) (notown (by omega)) hX⟩
  have := Opened (base := X) (lw := [(22, X 22)]) op hd hG (by omega) hs hc (.inl hst) h1 h2
  refine ⟨this.1, fun j w cargs hr hv => (this.2 j w cargs hr hv).mono fun e' w' ⟨v, vc, j', H', he, ⟨a1, a2, s', jb, b1, b2, b3, b4, b5, b6, b7, b8, b9⟩, q⟩ => ⟨v, vc, j', H', he, ⟨a1, a2, s', jb, b1, b2, b4, by rw [b5]; exact hl, b6, ?_, b8, b9⟩, q⟩⟩
  rw [aft_22, or_self] at b7
  exact b7
/-- What a Commit has come to. -/
inductive Mid0 (bs : Nat → Bs) (li : List Zb) (bad : Int) (dd : Bool) (ct : List (Option Bs)) : Prop
  | none (h1 : bad ≠ 0) (h2 : dd = false) (h3 : St0 4 6 bs ct)
  | done (h1 : bad = 0) (h2 : dd = false) (h3 : St0 4 6 (aft bs (lwZ li)) ct)
  | cut (h1 : bad = 0) (h2 : dd = true) (h4 : Geo 4 6 40 (lwZ li)) (h3 : SC 4 6 bs (lwZ li) ct)
theorem PMid2 {v : AV} {p L jb O N i c : Nat} {s : DK} {o : OpA} {va : AV} {li : List Zb} {bs : Nat → Bs} {nw : List Int} {bad : Int} {dd : Bool} {H H1 : AH} {tm : Tms} (hok : H.ok) (hlv : SF H o.lv 2 (o.rw.map rawRow)) (hM : PM H H1 p L jb O N s o nw) (hg : GZ H.next H1 va li) {K : Nat} (hz : Zof o K li) (hK : K ≤ o.rw.length) (hl : li.length ≤ 100)
    (hct : s.ct.length = 40) (hs : SOk s (c + 700)) (hc : c ≤ 100000) (hnw : Nw nw bs) (hmid : Mid0 bs li bad dd s.ct) (hno : bad = 0 → ∀ x ∈ li, 22 ≤ x.1 ∧ x.1 < 40) (hnd : bad = 0 → ((lwZ li).map (·.1)).Nodup) (hq : ∀ x ∈ lwZ li, x.2.length = 128) (hT : TMr v p jb O N i tm) (t9 : tm 9 = va) (t10 : tm 10 = .int .i64 bad) (t16 : tm 16 = .bool dd) (Q : IPost)
    (hX : ∀ tm' H2 s2 jb2 nw' bs', PM H H2 p L jb2 O N s2 o nw' → s2.ct.length = 40 → SOk s2 (c + 2000) → s2.dead = false → s2.f = -1 → Nw nw' bs' → St0 4 6 bs' s2.ct → TMr v p jb2 O N i tm' → Q .normal tm' H2) :
    IWP Tryd.prog (part_ [1, 1, 1, 1, 1, 1, 0, 1, 0, 0, 1, 0, 0, 1, 1, 1, 1, 1, 1, 1, 1, 1, 1] PlC) Q tm H1 := by
  have hcut : part_ [1, 1, 1, 1, 1, 1, 0, 1, 0, 0, 1, 0, 0, 1, 1, 1, 1, 1, 1, 1, 1, 1, 1] PlC = (.seq (part_ [1, 1, 1, 1, 1, 1, 0, 1, 0, 0, 1, 0, 0, 1, 1, 1, 1, 1, 1, 1, 1, 1, 1, 0] PlC) (.seq (part_ [1, 1, 1, 1, 1, 1, 0, 1, 0, 0, 1, 0, 0, 1, 1, 1, 1, 1, 1, 1, 1, 1, 1, 1, 0] PlC) (part_ [1, 1, 1, 1, 1, 1, 0, 1, 0, 0, 1, 0, 0, 1, 1, 1, 1, 1, 1, 1, 1, 1, 1, 1, 1] PlC))) := by kernel_rfl
  have hE := fun jb s2 (hct : s2.ct.length = 40) (ha : s2.dead = false) hmid H1 hM hg tm hT t9 t10 t16 Q hX => @PEnd v p L jb O N i s2 o va li bs nw bad dd H H1 tm hok hlv hM hg K hz hK hl hct ha hnw hmid hno hnd hT t9 t10 t16 Q hX
  rw [hcut]
  clear hcut
  generalize part_ [1, 1, 1, 1, 1, 1, 0, 1, 0, 0, 1, 0, 0, 1, 1, 1, 1, 1, 1, 1, 1, 1, 1, 1, 1] PlC = ZE at *
  have hb22 : (bs 22).length = 128 := by
    have := (hnw.val 0 (by rw [hnw.len]; omega)).2.2
    rw [Nat.add_zero] at this
    rw [this]
    exact isB_len _
  -- behind the opening
  have fin : ∀ tm1 H2 s2 jb2, PM H H2 p L jb2 O N s2 o nw → GZ H.next H2 va li → s2.ct.length = 40 → SOk s2 (c + 1200) → s2.dead = false → MidC bs li bad dd s2.ct → TMr v p jb2 O N i tm1 → tm1 9 = va → tm1 10 = .int .i64 bad → tm1 16 = .bool dd → IWP Tryd.prog (.seq (part_ [1, 1, 1, 1, 1, 1, 0, 1, 0, 0, 1, 0, 0, 1, 1, 1, 1, 1, 1, 1, 1, 1, 1, 1, 0] PlC) ZE) Q tm1 H2 := by
    intro tm1 H2 s2 jb2 hM2 hg2 hct2 hs2 ha2 hm2 hT1 e9 e10 e16
    obtain ⟨t0, t3, t5, t6, t7, t8⟩ := id hT1
    simp (disch := first | omega | (simp; done) | assumption) [wr64, wrU8, wrU64, Nat.add_assoc, -getElem?_pos, List.getElem?_cons_zero, List.getElem?_cons_succ, part_, PlC, ic6, t0, t3, t5, t6, t7, t8, e9, e10, e16]
    refine CallW.okof (Fuse (-1) hM2.js.ds) ?_
    rintro vv H3 ⟨rfl, n3, k3, hd3⟩ hok3
    try simp only [newO_none] at n3 k3
    have hd3' := fuse_off (H := H) hd3 ha2
    have hM3 := hM2.kx hok k3 hok3 (by omega) hd3'
    have hg3 := hg2.kx hM2.js.ds k3 (by omega)
    simp (disch := first | omega | (simp; done) | assumption) [wr64, wrU8, wrU64, Nat.add_assoc, -getElem?_pos, List.getElem?_cons_zero, List.getElem?_cons_succ, t0, t3, t5, t6, t7, t8, e9, e10, e16]
    exact hE jb2 ⟨s2.ct, s2.w, -1, false⟩ hct2 rfl hm2 _ hM3 hg3 _ ⟨by simp [t0], by simp [t3], by simp [t5], by simp [t6], by simp [t7], by simp [t8]⟩ (by simp [e9]) (by simp [e10]) (by simp [e16]) _ fun tm2 H4 nw' bs' f1 f2 f3 f4 => hX _ _ _ _ _ _ f1 hct2 ((hs2.mono (by omega)).fused (by omega) _ _ (by omega) (by omega)) rfl rfl f2 f3 f4
  generalize (ICode.seq (part_ [1, 1, 1, 1, 1, 1, 0, 1, 0, 0, 1, 0, 0, 1, 1, 1, 1, 1, 1, 1, 1, 1, 1, 1, 0] PlC) ZE) = ZF at *
  obtain ⟨t0, t3, t5, t6, t7, t8⟩ := id hT
  have hoat := hM.oat
  unfold opRow at hoat
  cases hmid with
  | cut h1 h2 h4 h3 =>
    subst h2
    simp (disch := first | omega | (simp; done) | assumption) [wr64, wrU8, wrU64, Nat.add_assoc, -getElem?_pos, List.getElem?_cons_zero, List.getElem?_cons_succ, part_, PlC, ic6, t0, t3, t5, t6, t7, t8, t9, t10, t16]
    refine CallW.okof (Power hM.js.ds) ?_
    rintro vv H2 ⟨rfl, n2, k2, hd2⟩ hok2
    try simp only [newO_none] at n2 k2
    have hM2 := hM.kx hok k2 hok2 (by omega) hd2
    have hg2 := hg.kx hM.js.ds k2 (by omega)
    have hs2 : SOk ⟨s.ct, s.w, -1, false⟩ (c + 700) := hs.fused (by omega) _ _ (by omega) (by omega)
    have hoat2 := hM2.oat
    unfold opRow at hoat2
    simp (disch := first | omega | (simp; done) | assumption) [wr64, wrU8, wrU64, Nat.add_assoc, -getElem?_pos, List.getElem?_cons_zero, List.getElem?_cons_succ, t0, t3, t5, t6, t7, t8, t9, t10, t16, hoat2]
    refine CallW.okof (Opened (base := bs) (lw := lwZ li) o.op hM2.js.ds (by rw [hct]; exact h4) (by show s.ct.length ≤ 100; omega) hs2 (by omega) h3 rfl (by show (-1 : Int) < 0; omega)) ?_
    rintro vv H3 ⟨n3, k3, s3, jb3, hd3, rfl, hjb3, hj3, hl3, hs3, hst3, ha3, hf3⟩ hok3
    try simp only [newO_none] at n3 k3 hjb3
    have hM3 := (hM2.kx hok k3 hok3 n3 hd3).re hj3
    have hg3 := hg2.kx hM2.js.ds k3 n3
    simp (disch := first | omega | (simp; done) | assumption) [wr64, wrU8, wrU64, Nat.add_assoc, -getElem?_pos, List.getElem?_cons_zero, List.getElem?_cons_succ, t0, t3, t5, t6, t7, t8, t9, t10, t16]
    exact fin _ H3 s3 jb3 hM3 hg3 (by rw [hl3]; exact hct) (hs3.mono (by omega)) ha3 (.cut h1 rfl hst3) ⟨by simp [t0], by simp [t3], by simp [t5], by simp [t6], by simp [t7], by simp [t8]⟩ (by simp [t9]) (by simp [t10]) (by simp [t16])
  | none h1 h2 h3 =>
    subst h2
    cases hdd : s.dead
    · simp (disch := first | omega | (simp; done) | assumption) [wr64, wrU8, wrU64, Nat.add_assoc, -getElem?_pos, List.getElem?_cons_zero, List.getElem?_cons_succ, part_, PlC, ic6, t0, t3, t5, t6, t7, t8, t9, t10, t16]
      refine CallW.val (Dead hM.js.ds) ?_
      simp (disch := first | omega | (simp; done) | assumption) [wr64, wrU8, wrU64, Nat.add_assoc, -getElem?_pos, List.getElem?_cons_zero, List.getElem?_cons_succ, hdd]
      exact fin _ H1 s jb hM hg hct (hs.mono (by omega)) hdd (.none h1 rfl h3) ⟨by simp [t0], by simp [t3], by simp [t5], by simp [t6], by simp [t7], by simp [t8]⟩ (by simp [t9]) (by simp [t10]) (by simp [t16])
    · simp (disch := first | omega | (simp; done) | assumption) [wr64, wrU8, wrU64, Nat.add_assoc, -getElem?_pos, List.getElem?_cons_zero, List.getElem?_cons_succ, part_, PlC, ic6, t0, t3, t5, t6, t7, t8, t9, t10, t16]
      refine CallW.val (Dead hM.js.ds) ?_
      simp (disch := first | omega | (simp; done) | assumption) [wr64, wrU8, wrU64, Nat.add_assoc, -getElem?_pos, List.getElem?_cons_zero, List.getElem?_cons_succ, hdd, t0, t3, t5, t6, t7, t8]
      refine CallW.okof (Power hM.js.ds) ?_
      rintro vv H2 ⟨rfl, n2, k2, hd2⟩ hok2
      try simp only [newO_none] at n2 k2
      have hM2 := hM.kx hok k2 hok2 (by omega) hd2
      have hg2 := hg.kx hM.js.ds k2 (by omega)
      have hs2 : SOk ⟨s.ct, s.w, -1, false⟩ (c + 700) := hs.fused (by omega) _ _ (by omega) (by omega)
      have hoat2 := hM2.oat
      unfold opRow at hoat2
      simp (disch := first | omega | (simp; done) | assumption) [wr64, wrU8, wrU64, Nat.add_assoc, -getElem?_pos, List.getElem?_cons_zero, List.getElem?_cons_succ, t0, t3, t5, t6, t7, t8, t9, t10, t16, hoat2]
      refine CallW.okof (Op0 (X := bs) o.op hM2.js.ds hct hs2 (by omega) h3 hb22 rfl (by show (-1 : Int) < 0; omega)) ?_
      rintro vv H3 ⟨n3, k3, s3, jb3, hd3, rfl, hj3, hl3, hs3, hst3, ha3, hf3⟩ hok3
      try simp only [newO_none] at n3 k3
      have hM3 := (hM2.kx hok k3 hok3 n3 hd3).re hj3
      have hg3 := hg2.kx hM2.js.ds k3 n3
      simp (disch := first | omega | (simp; done) | assumption) [wr64, wrU8, wrU64, Nat.add_assoc, -getElem?_pos, List.getElem?_cons_zero, List.getElem?_cons_succ, t0, t3, t5, t6, t7, t8, t9, t10, t16]
      exact fin _ H3 s3 jb3 hM3 hg3 hl3 (hs3.mono (by omega)) ha3 (.none h1 rfl hst3) ⟨by simp [t0], by simp [t3], by simp [t5], by simp [t6], by simp [t7], by simp [t8]⟩ (by simp [t9]) (by simp [t10]) (by simp [t16])
  | done h1 h2 h3 =>
    subst h2
    have hb' : (aft bs (lwZ li) 22).length = 128 := aft_len hq hb22
    cases hdd : s.dead
    · simp (disch := first | omega | (simp; done) | assumption) [wr64, wrU8, wrU64, Nat.add_assoc, -getElem?_pos, List.getElem?_cons_zero, List.getElem?_cons_succ, part_, PlC, ic6, t0, t3, t5, t6, t7, t8, t9, t10, t16]
      refine CallW.val (Dead hM.js.ds) ?_
      simp (disch := first | omega | (simp; done) | assumption) [wr64, wrU8, wrU64, Nat.add_assoc, -getElem?_pos, List.getElem?_cons_zero, List.getElem?_cons_succ, hdd]
      exact fin _ H1 s jb hM hg hct (hs.mono (by omega)) hdd (.done h1 rfl h3) ⟨by simp [t0], by simp [t3], by simp [t5], by simp [t6], by simp [t7], by simp [t8]⟩ (by simp [t9]) (by simp [t10]) (by simp [t16])
    · simp (disch := first | omega | (simp; done) | assumption) [wr64, wrU8, wrU64, Nat.add_assoc, -getElem?_pos, List.getElem?_cons_zero, List.getElem?_cons_succ, part_, PlC, ic6, t0, t3, t5, t6, t7, t8, t9, t10, t16]
      refine CallW.val (Dead hM.js.ds) ?_
      simp (disch := first | omega | (simp; done) | assumption) [wr64, wrU8, wrU64, Nat.add_assoc, -getElem?_pos, List.getElem?_cons_zero, List.getElem?_cons_succ, hdd, t0, t3, t5, t6, t7, t8]
      refine CallW.okof (Power hM.js.ds) ?_
      rintro vv H2 ⟨rfl, n2, k2, hd2⟩ hok2
      try simp only [newO_none] at n2 k2
      have hM2 := hM.kx hok k2 hok2 (by omega) hd2
      have hg2 := hg.kx hM.js.ds k2 (by omega)
      have hs2 : SOk ⟨s.ct, s.w, -1, false⟩ (c + 700) := hs.fused (by omega) _ _ (by omega) (by omega)
      have hoat2 := hM2.oat
      unfold opRow at hoat2
      simp (disch := first | omega | (simp; done) | assumption) [wr64, wrU8, wrU64, Nat.add_assoc, -getElem?_pos, List.getElem?_cons_zero, List.getElem?_cons_succ, t0, t3, t5, t6, t7, t8, t9, t10, t16, hoat2]
      refine CallW.okof (Op0 (X := aft bs (lwZ li)) o.op hM2.js.ds hct hs2 (by omega) h3 hb' rfl (by show (-1 : Int) < 0; omega)) ?_
      rintro vv H3 ⟨n3, k3, s3, jb3, hd3, rfl, hj3, hl3, hs3, hst3, ha3, hf3⟩ hok3
      try simp only [newO_none] at n3 k3
      have hM3 := (hM2.kx hok k3 hok3 n3 hd3).re hj3
      have hg3 := hg2.kx hM2.js.ds k3 n3
      simp (disch := first | omega | (simp; done) | assumption) [wr64, wrU8, wrU64, Nat.add_assoc, -getElem?_pos, List.getElem?_cons_zero, List.getElem?_cons_succ, t0, t3, t5, t6, t7, t8, t9, t10, t16]
      exact fin _ H3 s3 jb3 hM3 hg3 hl3 (hs3.mono (by omega)) ha3 (.done h1 rfl hst3) ⟨by simp [t0], by simp [t3], by simp [t5], by simp [t6], by simp [t7], by simp [t8]⟩ (by simp [t9]) (by simp [t10]) (by simp [t16])
end Go.Proofs.YtcgkadfgojmmlaaDoor.JN

/- JournalPlays: a round. No condition. -/
import Derived.Test.YtcgkadfgojmmlaaDoorLPe
set_option linter.unusedVariables false
set_option linter.unusedSimpArgs false
set_option maxRecDepth 100000
set_option maxHeartbeats 4000000
namespace Go.Proofs.YtcgkadfgojmmlaaDoor.JN
open Go Go.RowKit Go.Proofs.YtcgkadfgojmmlaaDoor Go.Proofs.YtcgkadfgojmmlaaDoor.Abs Go.Proofs.YtcgkadfgojmmlaaDoor.Ic Go.Proofs.YtcgkadfgojmmlaaDoor.EAs Go.Proofs.YtcgkadfgojmmlaaDoor.EErr Go.Proofs.YtcgkadfgojmmlaaDoor.DFn
/-- What a Commit tells. -/
inductive Fv (H : AH) (fv : AV) (bad : Int) (dd : Bool) : Prop
  | wrong (h1 : bad = 1 ∨ bad = 5) (h2 : dd = false) (h3 : ∃ (b : Nat) (f : Fl), fv = .iface 74 (.ptr b 0) ∧ f.op = jrn ∧ f.name = [] ∧ Chain H fv [f] (some bad))
  | nil (h1 : bad = 0) (h2 : dd = false) (h3 : fv = .nilIface)
  | tol (h1 : bad = 0) (h2 : dd = true) (h3 : Tol H fv)
theorem PChk {v : AV} {p jb O N i : Nat} {va fv : AV} {bad : Int} {dd : Bool} {H1 : AH} {tm : Tms} (hE : EOk H1) (hf : Fv H1 fv bad dd) (hT : TMr v p jb O N i tm) (t9 : tm 9 = va) (t10 : tm 10 = .int .i64 bad) (t15 : tm 15 = fv) (Q : IPost)
    (hX : ∀ tm', TMr v p jb O N i tm' → tm' 9 = va → tm' 10 = .int .i64 bad → tm' 16 = .bool dd → IWP Tryd.prog (part_ [1, 1, 1, 1, 1, 1, 0, 1, 0, 0, 1, 0, 0, 1, 1, 1, 1, 1, 1, 1, 1, 1, 1] PlC) Q tm' H1) :
    IWP Tryd.prog (part_ [1, 1, 1, 1, 1, 1, 0, 1, 0, 0, 1, 0, 0, 1, 1, 1, 1, 1, 1, 1, 1] PlC) Q tm H1 := by
  have hcut : part_ [1, 1, 1, 1, 1, 1, 0, 1, 0, 0, 1, 0, 0, 1, 1, 1, 1, 1, 1, 1, 1] PlC = (.seq (part_ [1, 1, 1, 1, 1, 1, 0, 1, 0, 0, 1, 0, 0, 1, 1, 1, 1, 1, 1, 1, 1, 0] PlC) (.seq (part_ [1, 1, 1, 1, 1, 1, 0, 1, 0, 0, 1, 0, 0, 1, 1, 1, 1, 1, 1, 1, 1, 1, 0] PlC) (part_ [1, 1, 1, 1, 1, 1, 0, 1, 0, 0, 1, 0, 0, 1, 1, 1, 1, 1, 1, 1, 1, 1, 1] PlC))) := by kernel_rfl
  rw [hcut]
  clear hcut
  generalize part_ [1, 1, 1, 1, 1, 1, 0, 1, 0, 0, 1, 0, 0, 1, 1, 1, 1, 1, 1, 1, 1, 1, 1] PlC = ZE at *
  obtain ⟨t0, t3, t5, t6, t7, t8⟩ := id hT
  cases hf with
  | wrong h1 h2 h3 =>
    subst h2
    obtain ⟨b, f, rfl, hf1, hf2, hch⟩ := h3
    have hNm := ELawNum hE hch
    rw [show lawNum (.iface 74 (.ptr b 0)) (some bad) = bad from rfl] at hNm
    have hIs := ELawIs jrn [] bad hE hch
    have hb0 : bad ≠ 0 := by omega
    have hb50 : ¬ bad = 50 := by omega
    rw [show isV (.iface 74 (.ptr b 0)) [f] (some bad) jrn [] bad = true by simp [isV, hf1, hf2, hb0]] at hIs
    unfold jrn at hIs
    simp (disch := first | omega | (simp; done) | assumption) [wr64, wrU8, wrU64, Nat.add_assoc, -getElem?_pos, List.getElem?_cons_zero, List.getElem?_cons_succ, part_, PlC, ic6, t0, t3, t5, t6, t7, t8, t9, t10, t15]
    refine CallW.val hNm ?_
    simp (disch := first | omega | (simp; done) | assumption) [wr64, wrU8, wrU64, Nat.add_assoc, -getElem?_pos, List.getElem?_cons_zero, List.getElem?_cons_succ, t0, t3, t5, t6, t7, t8, t9, t10, t15, hb50]
    refine CallW.val hIs ?_
    simp (disch := first | omega | (simp; done) | assumption) [wr64, wrU8, wrU64, Nat.add_assoc, -getElem?_pos, List.getElem?_cons_zero, List.getElem?_cons_succ, t0, t3, t5, t6, t7, t8, t9, t10, t15, hb50]
    exact hX _ ⟨by simp [t0], by simp [t3], by simp [t5], by simp [t6], by simp [t7], by simp [t8]⟩ (by simp [t9]) (by simp [t10]) (by simp)
  | nil h1 h2 h3 =>
    subst h2
    subst h3
    subst h1
    have hNm := ELawNum hE (Chain.nil (H := H1))
    rw [show lawNum .nilIface none = 0 from rfl] at hNm
    have hIs := ELawIs jrn [] 0 hE (Chain.nil (H := H1))
    rw [show isV .nilIface [] none jrn [] 0 = true by simp [isV]] at hIs
    unfold jrn at hIs
    simp (disch := first | omega | (simp; done) | assumption) [wr64, wrU8, wrU64, Nat.add_assoc, -getElem?_pos, List.getElem?_cons_zero, List.getElem?_cons_succ, part_, PlC, ic6, t0, t3, t5, t6, t7, t8, t9, t10, t15]
    refine CallW.val hNm ?_
    simp (disch := first | omega | (simp; done) | assumption) [wr64, wrU8, wrU64, Nat.add_assoc, -getElem?_pos, List.getElem?_cons_zero, List.getElem?_cons_succ, t0, t3, t5, t6, t7, t8, t9, t10, t15]
    refine CallW.val hIs ?_
    simp (disch := first | omega | (simp; done) | assumption) [wr64, wrU8, wrU64, Nat.add_assoc, -getElem?_pos, List.getElem?_cons_zero, List.getElem?_cons_succ, t0, t3, t5, t6, t7, t8, t9, t10, t15]
    exact hX _ ⟨by simp [t0], by simp [t3], by simp [t5], by simp [t6], by simp [t7], by simp [t8]⟩ (by simp [t9]) (by simp [t10]) (by simp)
  | tol h1 h2 h3 =>
    subst h2
    subst h1
    obtain ⟨b, f, g, rfl, hf1, hf2, hch⟩ := h3
    have hNm := ELawNum hE hch
    rw [show lawNum (.iface 74 (.ptr b 0)) (some 50) = 50 from rfl] at hNm
    have hIs := ELawIs jrn [] 50 hE hch
    rw [show isV (.iface 74 (.ptr b 0)) [f, g] (some 50) jrn [] 50 = true by simp [isV, hf1, hf2]] at hIs
    unfold jrn at hIs
    simp (disch := first | omega | (simp; done) | assumption) [wr64, wrU8, wrU64, Nat.add_assoc, -getElem?_pos, List.getElem?_cons_zero, List.getElem?_cons_succ, part_, PlC, ic6, t0, t3, t5, t6, t7, t8, t9, t10, t15]
    refine CallW.val hNm ?_
    simp (disch := first | omega | (simp; done) | assumption) [wr64, wrU8, wrU64, Nat.add_assoc, -getElem?_pos, List.getElem?_cons_zero, List.getElem?_cons_succ, t0, t3, t5, t6, t7, t8, t9, t10, t15]
    refine CallW.val hIs ?_
    simp (disch := first | omega | (simp; done) | assumption) [wr64, wrU8, wrU64, Nat.add_assoc, -getElem?_pos, List.getElem?_cons_zero, List.getElem?_cons_succ, t0, t3, t5, t6, t7, t8, t9, t10, t15]
    exact hX _ ⟨by simp [t0], by simp [t3], by simp [t5], by simp [t6], by simp [t7], by simp [t8]⟩ (by simp [t9]) (by simp [t10]) (by simp)
/-- What a step's blocks may be. -/
inductive Bad (li : List Zb) (bad : Int) : Prop
  | one (h1 : bad = 1) (h2 : gd 4 6 40 [] (li.map grZ) = false)
  | five (h1 : bad = 5) (h2 : gd 4 6 40 [] (li.map grZ) = true) (h3 : 6 < li.length)
  | good (h1 : bad = 0) (h2 : gd 4 6 40 [] (li.map grZ) = true) (h3 : li.length ≤ 6) (h4 : ∀ x ∈ li, 22 ≤ x.1)
theorem PMid1 {v : AV} {p L jb O N i c : Nat} {s : DK} {o : OpA} {va : AV} {li : List Zb} {bs : Nat → Bs} {nw : List Int} {bad : Int} {H H1 : AH} {tm : Tms} (hok : H.ok) (hE : EOk H) (hlv : SF H o.lv 2 (o.rw.map rawRow)) (hM : PM H H1 p L jb O N s o nw) (hg : GZ H.next H1 va li) {K : Nat} (hz : Zof o K li) (hK : K ≤ o.rw.length) (hl : li.length ≤ 100)
    (hct : s.ct.length = 40) (hs : SOk s c) (hc : c ≤ 100000) (hst : St0 4 6 bs s.ct) (hnw : Nw nw bs) (hbad : Bad li bad) (hT : TMr v p jb O N i tm) (t9 : tm 9 = va) (t10 : tm 10 = .int .i64 bad) (Q : IPost)
    (hX : ∀ tm' H2 s2 jb2 nw' bs', PM H H2 p L jb2 O N s2 o nw' → s2.ct.length = 40 → SOk s2 (c + 2000) → s2.dead = false → s2.f = -1 → Nw nw' bs' → St0 4 6 bs' s2.ct → TMr v p jb2 O N i tm' → Q .normal tm' H2) :
    IWP Tryd.prog (part_ [1, 1, 1, 1, 1, 1, 0, 1, 0, 0, 1, 0, 0, 1, 1, 1, 1, 1, 1, 1] PlC) Q tm H1 := by
  have hcut : part_ [1, 1, 1, 1, 1, 1, 0, 1, 0, 0, 1, 0, 0, 1, 1, 1, 1, 1, 1, 1] PlC = (.seq (part_ [1, 1, 1, 1, 1, 1, 0, 1, 0, 0, 1, 0, 0, 1, 1, 1, 1, 1, 1, 1, 0] PlC) (part_ [1, 1, 1, 1, 1, 1, 0, 1, 0, 0, 1, 0, 0, 1, 1, 1, 1, 1, 1, 1, 1] PlC)) := by kernel_rfl
  have hqz : ∀ x ∈ lwZ li, x.2.length = 128 := fun x hx => by
    obtain ⟨y, hy, rfl⟩ := List.mem_map.1 hx
    obtain ⟨z, hz, rfl⟩ := List.mem_map.1 hy
    exact (hg.2 z hz).1.1
  have hno : bad = 0 → ∀ x ∈ li, 22 ≤ x.1 ∧ x.1 < 40 := fun h x hx => by
    cases hbad with
    | one h1 _ => omega
    | five h1 _ _ => omega
    | good _ h2 _ h4 => exact ⟨h4 x hx, ((gd_good li [] h2).1 x hx).2.1⟩
  have hgo : gd 4 6 40 [] (li.map grZ) = true → Good 4 6 40 (lwZ li) := fun h => good_of (H := H1) h fun x hx => (hg.2 x hx).1
  have hnd : bad = 0 → ((lwZ li).map (·.1)).Nodup := fun h => by
    cases hbad with
    | one h1 _ => omega
    | five h1 _ _ => omega
    | good _ h2 _ _ => exact (hgo h2).nodup
  have hP := fun dd H2 s2 fv (hM2 : PM H H2 p L jb O N s2 o nw) (hg2 : GZ H.next H2 va li) (hct2 : s2.ct.length = 40) (hs2 : SOk s2 (c + 700)) (hmid : Mid0 bs li bad dd s2.ct) (hf : Fv H2 fv bad dd) tm' (e1 : TMr v p jb O N i tm') (e9 : tm' 9 = va) (e10 : tm' 10 = .int .i64 bad) (e15 : tm' 15 = fv) =>
    PChk (loadC_keeps hM2.js.keeps hE) hf e1 e9 e10 e15 Q fun tm2 f1 f2 f3 f4 => PMid2 hok hlv hM2 hg2 hz hK hl hct2 hs2 hc hnw hmid hno hnd hqz f1 f2 f3 f4 Q hX
  rw [hcut]
  clear hcut
  generalize part_ [1, 1, 1, 1, 1, 1, 0, 1, 0, 0, 1, 0, 0, 1, 1, 1, 1, 1, 1, 1, 1] PlC = ZE at *
  obtain ⟨t0, t3, t5, t6, t7, t8⟩ := id hT
  have hlen : (li.map grZ).length ≤ 100000 := by simp; omega
  cases hbad with
  | one h1 h2 =>
    subst h1
    simp (disch := first | omega | (simp; done) | assumption) [wr64, wrU8, wrU64, Nat.add_assoc, -getElem?_pos, List.getElem?_cons_zero, List.getElem?_cons_succ, part_, PlC, ic6, t0, t3, t5, t6, t7, t8, t9, t10]
    refine CallW.okof (Commit_bad hM.js.ds hM.js.jo (by omega) (by omega) hg.bg hlen (by rw [hct]; exact h2)) ?_
    rintro fv H2 hw hok2
    obtain ⟨bb, f, rfl, hf⟩ := hw.fum
    have hn2 := hw.2.1
    try simp only [newO_none] at hn2
    simp (disch := first | omega | (simp; done) | assumption) [wr64, wrU8, wrU64, Nat.add_assoc, -getElem?_pos, List.getElem?_cons_zero, List.getElem?_cons_succ, t0, t3, t5, t6, t7, t8, t9, t10]
    exact hP false H2 s _ (hM.keeps hw.1 hok2 hn2) (hg.keeps hw.1 hn2) hct (hs.mono (by omega)) (.none (by omega) rfl hst) (.wrong (.inl rfl) rfl ⟨bb, f, rfl, hf⟩) _ ⟨by simp [t0], by simp [t3], by simp [t5], by simp [t6], by simp [t7], by simp [t8]⟩ (by simp [t9]) (by simp [t10]) (by simp)
  | five h1 h2 h3 =>
    subst h1
    simp (disch := first | omega | (simp; done) | assumption) [wr64, wrU8, wrU64, Nat.add_assoc, -getElem?_pos, List.getElem?_cons_zero, List.getElem?_cons_succ, part_, PlC, ic6, t0, t3, t5, t6, t7, t8, t9, t10]
    refine CallW.okof (Commit_big hM.js.ds hM.js.jo (by omega) (by omega) hg.bg hlen (by rw [hct]; exact h2) (by simpa using h3)) ?_
    rintro fv H2 hw hok2
    obtain ⟨bb, f, rfl, hf⟩ := hw.fum
    have hn2 := hw.2.1
    try simp only [newO_none] at hn2
    simp (disch := first | omega | (simp; done) | assumption) [wr64, wrU8, wrU64, Nat.add_assoc, -getElem?_pos, List.getElem?_cons_zero, List.getElem?_cons_succ, t0, t3, t5, t6, t7, t8, t9, t10]
    exact hP false H2 s _ (hM.keeps hw.1 hok2 hn2) (hg.keeps hw.1 hn2) hct (hs.mono (by omega)) (.none (by omega) rfl hst) (.wrong (.inr rfl) rfl ⟨bb, f, rfl, hf⟩) _ ⟨by simp [t0], by simp [t3], by simp [t5], by simp [t6], by simp [t7], by simp [t8]⟩ (by simp [t9]) (by simp [t10]) (by simp)
  | good h1 h2 h3 h4 =>
    subst h1
    by_cases hne : li = []
    · have hva : va = .snil := by
        rcases hg.1 with ⟨_, h⟩ | ⟨_, _, h, _⟩
        · exact h
        · exact absurd (by rw [hne]; rfl) h
      simp (disch := first | omega | (simp; done) | assumption) [wr64, wrU8, wrU64, Nat.add_assoc, -getElem?_pos, List.getElem?_cons_zero, List.getElem?_cons_succ, part_, PlC, ic6, t0, t3, t5, t6, t7, t8, t9, t10, hva]
      refine CallW.val (Commit_nil hM.js.ds hM.js.jo (by omega) (by omega)) ?_
      simp (disch := first | omega | (simp; done) | assumption) [wr64, wrU8, wrU64, Nat.add_assoc, -getElem?_pos, List.getElem?_cons_zero, List.getElem?_cons_succ, t0, t3, t5, t6, t7, t8, t9, t10]
      exact hP false H1 s .nilIface hM hg hct (hs.mono (by omega)) (.done rfl rfl (by rw [hne]; exact hst)) (.nil rfl rfl rfl) _ ⟨by simp [t0], by simp [t3], by simp [t5], by simp [t6], by simp [t7], by simp [t8]⟩ (by simp [t9, hva]) (by simp [t10]) (by simp)
    · have hpos : 1 ≤ li.length := List.length_pos_iff.2 hne
      have hG : Geo 4 6 40 (lwZ li) := ⟨by omega, by omega, by decide, by omega, by simpa using hpos, by simpa using h3, hgo h2⟩
      have h0 : ∀ x ∈ li, 0 ≤ x.1 := fun x hx => by have := h4 x hx; omega
      simp (disch := first | omega | (simp; done) | assumption) [wr64, wrU8, wrU64, Nat.add_assoc, -getElem?_pos, List.getElem?_cons_zero, List.getElem?_cons_succ, part_, PlC, ic6, t0, t3, t5, t6, t7, t8, t9, t10]
      refine CallW.okof (Commit (base := bs) hM.js.ds hM.js.jo (by rw [hct]; exact hG) hs (by omega) hst (hg.bi h0 hpos)) ?_
      rintro fv H2 ⟨n2, k2, s2, hd2, hC2, hv2⟩ hok2
      try simp only [newO_none] at n2 k2
      have hM2 := hM.kx hok k2 hok2 n2 hd2
      have hg2 := hg.kx hM.js.ds k2 n2
      have hfo : fv.cells = [fv] ∧ fv.one = true := by rcases hv2 with rfl | ⟨_, _, _, rfl, _⟩ <;> exact ⟨rfl, rfl⟩
      simp (disch := first | omega | (simp; done) | assumption) [wr64, wrU8, wrU64, Nat.add_assoc, -getElem?_pos, List.getElem?_cons_zero, List.getElem?_cons_succ, t0, t3, t5, t6, t7, t8, t9, t10]
      rcases hv2 with rfl | h
      · exact hP false H2 s2 .nilIface hM2 hg2 (by rw [hC2.ct]; exact hct) hC2.sok (.done rfl rfl (hC2.good rfl)) (.nil rfl rfl rfl) _ ⟨by simp [t0], by simp [t3], by simp [t5], by simp [t6], by simp [t7], by simp [t8]⟩ (by simp [t9]) (by simp [t10]) (by simp)
      · exact hP true H2 s2 fv hM2 hg2 (by rw [hC2.ct]; exact hct) hC2.sok (.cut rfl rfl hG hC2.st) (.tol rfl rfl h) _ ⟨by simp [t0], by simp [t3], by simp [t5], by simp [t6], by simp [t7], by simp [t8]⟩ (by simp [t9]) (by simp [t10]) (by simp)
theorem PMid {v : AV} {p L jb O N i c : Nat} {s : DK} {o : OpA} {va : AV} {li : List Zb} {bs : Nat → Bs} {nw : List Int} {bad : Int} {H H1 : AH} {tm : Tms} (hok : H.ok) (hE : EOk H) (hlv : SF H o.lv 2 (o.rw.map rawRow)) (hM : PM H H1 p L jb O N s o nw) (hg : GZ H.next H1 va li) {K : Nat} (hz : Zof o K li) (hK : K ≤ o.rw.length) (hl : li.length ≤ 100)
    (hct : s.ct.length = 40) (hs : SOk s c) (hc : c ≤ 100000) (hst : St0 4 6 bs s.ct) (hnw : Nw nw bs) (hbad : Bad li bad) (hT : TMr v p jb O N i tm) (t9 : tm 9 = va) (t10 : tm 10 = .int .i64 bad) (Q : IPost)
    (hX : ∀ tm' H2 s2 jb2 nw' bs', PM H H2 p L jb2 O N s2 o nw' → s2.ct.length = 40 → SOk s2 (c + 2000) → s2.dead = false → s2.f = -1 → Nw nw' bs' → St0 4 6 bs' s2.ct → TMr v p jb2 O N i tm' → Q .normal tm' H2) :
    IWP Tryd.prog (part_ [1, 1, 1, 1, 1, 1, 0, 1, 0, 0, 1, 0, 0, 1, 1, 1, 1, 1, 1] PlC) Q tm H1 := by
  have hcut : part_ [1, 1, 1, 1, 1, 1, 0, 1, 0, 0, 1, 0, 0, 1, 1, 1, 1, 1, 1] PlC = (.seq (part_ [1, 1, 1, 1, 1, 1, 0, 1, 0, 0, 1, 0, 0, 1, 1, 1, 1, 1, 1, 0] PlC) (part_ [1, 1, 1, 1, 1, 1, 0, 1, 0, 0, 1, 0, 0, 1, 1, 1, 1, 1, 1, 1] PlC)) := by kernel_rfl
  have hP := fun H2 s2 (hM2 : PM H H2 p L jb O N s2 o nw) (hg2 : GZ H.next H2 va li) (hct2 : s2.ct.length = 40) (hs2 : SOk s2 c) (hst2 : St0 4 6 bs s2.ct) tm' (e1 : TMr v p jb O N i tm') (e9 : tm' 9 = va) (e10 : tm' 10 = .int .i64 bad) =>
    PMid1 hok hE hlv hM2 hg2 hz hK hl hct2 hs2 hc hst2 hnw hbad e1 e9 e10 Q hX
  rw [hcut]
  clear hcut
  generalize part_ [1, 1, 1, 1, 1, 1, 0, 1, 0, 0, 1, 0, 0, 1, 1, 1, 1, 1, 1, 1] PlC = ZE at *
  obtain ⟨t0, t3, t5, t6, t7, t8⟩ := id hT
  have hoat := hM.oat
  unfold opRow at hoat
  by_cases hf : 0 ≤ o.fu
  · obtain ⟨m, hm, hm32⟩ := mask31 o.fu
    simp (disch := first | omega | (simp; done) | assumption) [wr64, wrU8, wrU64, Nat.add_assoc, -getElem?_pos, List.getElem?_cons_zero, List.getElem?_cons_succ, part_, PlC, ic6, t0, t3, t5, t6, t7, t8, t9, t10, hoat, hf, hm]
    refine CallW.okof (Fuse (m : Int) hM.js.ds) ?_
    rintro vv H2 ⟨rfl, n2, k2, hd2⟩ hok2
    try simp only [newO_none] at n2 k2
    have hs2 : SOk ⟨s.ct, s.w, max (m : Int) (-1), s.dead || decide ((m : Int) = 0)⟩ c := hs.fused (by omega) _ _ (by omega) (by omega)
    have hM2 := hM.kx hok k2 hok2 (by omega) hd2
    simp (disch := first | omega | (simp; done) | assumption) [wr64, wrU8, wrU64, Nat.add_assoc, -getElem?_pos, List.getElem?_cons_zero, List.getElem?_cons_succ, t0, t3, t5, t6, t7, t8, t9, t10]
    exact hP H2 _ hM2 (hg.kx hM.js.ds k2 (by omega)) hct hs2 hst _ ⟨by simp [t0], by simp [t3], by simp [t5], by simp [t6], by simp [t7], by simp [t8]⟩ (by simp [t9]) (by simp [t10])
  · simp (disch := first | omega | (simp; done) | assumption) [wr64, wrU8, wrU64, Nat.add_assoc, -getElem?_pos, List.getElem?_cons_zero, List.getElem?_cons_succ, part_, PlC, ic6, t0, t3, t5, t6, t7, t8, t9, t10, hoat, hf]
    exact hP H1 s hM hg hct hs hst _ ⟨by simp [t0], by simp [t3], by simp [t5], by simp [t6], by simp [t7], by simp [t8]⟩ (by simp [t9]) (by simp [t10])
/-- A round. -/
theorem Round {v : AV} {p L jb N i c : Nat} {s : DK} {ops : List OpA} {bs : Nat → Bs} {nw : List Int} {H H1 : AH} {tm : Tms} (hok : H.ok) (hE : EOk H) (hops : OpsOk H v ops) (hi : i < ops.length) (hJ : JS H H1 p L jb 4 6 s) (hN : H1.at_ N = some (.cells false t18I (nw.map (AV.int .i64)))) (hN0 : H.next ≤ N)
    (hct : s.ct.length = 40) (hs : SOk s c) (hc : c ≤ 100000) (hst : St0 4 6 bs s.ct) (hnw : Nw nw bs) (t0 : tm 0 = v) (t3 : tm 3 = .ptr p 0) (t5 : tm 5 = .ptr jb 0) (t6 : tm 6 = .ptr N 0) (t7 : tm 7 = .int .i64 (i : Int)) (Q : IPost)
    (hX : ∀ tm' H2 s2 jb2 nw' bs', JS H H2 p L jb2 4 6 s2 → H2.at_ N = some (.cells false t18I (nw'.map (AV.int .i64))) → s2.ct.length = 40 → SOk s2 (c + 2000) → s2.dead = false → s2.f = -1 → Nw nw' bs' → St0 4 6 bs' s2.ct → tm' 0 = v → tm' 3 = .ptr p 0 → tm' 5 = .ptr jb2 0 → tm' 6 = .ptr N 0 → tm' 7 = .int .i64 (i : Int) → Q .normal tm' H2)
    (hR : ∀ tm' H2, H.keepsAll H2 → tm' 2 = .bool true → Q .ret tm' H2) :
    IWP Tryd.prog (part_ [1, 1, 1, 1, 1, 1, 0, 1, 0, 0, 1, 0, 0] PlC) Q tm H1 := by
  have hcut : part_ [1, 1, 1, 1, 1, 1, 0, 1, 0, 0, 1, 0, 0] PlC = (.seq (part_ [1, 1, 1, 1, 1, 1, 0, 1, 0, 0, 1, 0, 0, 0] PlC) (.seq (part_ [1, 1, 1, 1, 1, 1, 0, 1, 0, 0, 1, 0, 0, 1, 0] PlC) (.seq (part_ [1, 1, 1, 1, 1, 1, 0, 1, 0, 0, 1, 0, 0, 1, 1, 0] PlC) (.seq (part_ [1, 1, 1, 1, 1, 1, 0, 1, 0, 0, 1, 0, 0, 1, 1, 1, 0] PlC) (.seq (part_ [1, 1, 1, 1, 1, 1, 0, 1, 0, 0, 1, 0, 0, 1, 1, 1, 1, 0] PlC) (.seq (part_ [1, 1, 1, 1, 1, 1, 0, 1, 0, 0, 1, 0, 0, 1, 1, 1, 1, 1, 0] PlC) (part_ [1, 1, 1, 1, 1, 1, 0, 1, 0, 0, 1, 0, 0, 1, 1, 1, 1, 1, 1] PlC))))))) := by kernel_rfl
  obtain ⟨b, oo, hv, hld, _⟩ := (hops.sf.keeps hJ.keeps).get (by omega) i (by simpa using hi)
  simp only [List.getElem_map, List.length_map] at hv hld
  have hom := hops.each _ (List.getElem_mem hi)
  generalize ops[i] = o at *
  have h3 := fun O H1 hM tm hT t9 t10 Q hX => @Pl3 v p L jb O N i s o nw H H1 tm hok hom hM hT t9 t10 Q hX
  have h5 := fun O va li bad B H1 hg hl tm hT t9 t10 Q hN hR => @Pl5 v p jb O N i va li bad B H1 tm hg hl hT t9 t10 Q hN hR
  have h6 := fun O va li bad H1 hM hg hz hl hbad tm hT t9 t10 Q hX => @PMid v p L jb O N i c s o va li bs nw bad H H1 tm hok hE hom hM hg (min o.rw.length 10) hz (by omega) hl hct hs hc hst hnw hbad hT t9 t10 Q hX
  rw [hcut]
  clear hcut
  generalize part_ [1, 1, 1, 1, 1, 1, 0, 1, 0, 0, 1, 0, 0, 1, 1, 1, 0] PlC = Z3 at *
  generalize part_ [1, 1, 1, 1, 1, 1, 0, 1, 0, 0, 1, 0, 0, 1, 1, 1, 1, 1, 0] PlC = Z5 at *
  generalize part_ [1, 1, 1, 1, 1, 1, 0, 1, 0, 0, 1, 0, 0, 1, 1, 1, 1, 1, 1] PlC = ZM at *
  obtain ⟨hl1, hl2, hl3⟩ := sfl hom
  have hi' : (i : Int) < (ops.length : Int) := by omega
  unfold opRow at hld
  simp (disch := first | omega | (simp; done) | assumption) [wr64, wrU8, wrU64, Nat.add_assoc, -getElem?_pos, List.getElem?_cons_zero, List.getElem?_cons_succ, part_, PlC, ic6, t0, t3, t5, t6, t7, hv, hi, hi']
  refine Try.intro (by simpa [Nat.add_assoc] using hld) ?_
  simp (disch := first | omega | (simp; done) | assumption) [wr64, wrU8, wrU64, Nat.add_assoc, -getElem?_pos, List.getElem?_cons_zero, List.getElem?_cons_succ, t0, t3, t5, t6, t7, hl2, hl3]
  have hkX : H1.keepsAll ((H1.new (.cells false tOp [.snil, .int .i64 0, .int .i64 0])).set H1.next (some (.cells false tOp (opRow o)))) := keeps_set hJ.ok (keeps_new hJ.ok (AH.keepsAll_refl _) (Nat.le_refl _)) (Nat.le_refl _)
  have hokX : ((H1.new (.cells false tOp [.snil, .int .i64 0, .int .i64 0])).set H1.next (some (.cells false tOp (opRow o)))).ok := ok_setc (AH.ok_new hJ.ok) (by simp)
  have hnx := hJ.next
  have hM : PM H ((H1.new (.cells false tOp [.snil, .int .i64 0, .int .i64 0])).set H1.next (some (.cells false tOp (opRow o)))) p L jb H1.next N s o nw := ⟨hJ.mono hkX hokX (by simp), hnx, hN0, AH.set_same _ _ _, hkX _ _ hN⟩
  unfold opRow at hM
  refine h3 H1.next _ hM _ ⟨by simp [t0, hv], by simp [t3], by simp [t5], by simp [t6], by simp [t7], by simp⟩ (by simp) (by simp) _ fun tm1 H2 li va hM2 hT1 hg2 hz2 e9 e10 => ?_
  clear hM hkX hokX
  have hlil := hz2.len (by omega)
  have hg6 := hg2.one
  have fin : ∀ bad tm2, Bad li bad ∨ (bad = 0 ∧ gd 4 6 40 [] (li.map grZ) = true ∧ li.length ≤ 6) → TMr v p jb H1.next N i tm2 → tm2 9 = va → tm2 10 = .int .i64 bad → IWP Tryd.prog Z5 (IPost.then (IWP Tryd.prog ZM Q) Q) tm2 H2 := by
    intro bad tm2 hb hT2 g9 g10
    refine h5 H1.next va li bad H.next H2 hg2 (by omega) _ hT2 g9 g10 _ (fun tm3 a1 a2 a3 a4 => ?_) fun tm3 a1 => ?_
    · simp (disch := first | omega | (simp; done) | assumption) [wr64, wrU8, wrU64, Nat.add_assoc, -getElem?_pos, List.getElem?_cons_zero, List.getElem?_cons_succ, ]
      refine h6 H1.next va li bad H2 hM2 hg2 hz2 (by omega) ?_ _ a1 a2 a3 _ fun tm4 H4 s4 jb4 nw4 bs4 b1 b2 b3 b4 b5 b6 b7 b8 => ?_
      · rcases hb with h | ⟨h1, h2, h3⟩
        · exact h
        · exact .good h1 h2 h3 (a4 h1)
      · exact hX _ H4 s4 jb4 nw4 bs4 b1.js b1.nat_ b2 b3 b4 b5 b6 b7 b8.t0 b8.t3 b8.t5 b8.t6 b8.t7
    · simp (disch := first | omega | (simp; done) | assumption) [wr64, wrU8, wrU64, Nat.add_assoc, -getElem?_pos, List.getElem?_cons_zero, List.getElem?_cons_succ, ]
      exact hR _ H2 hM2.js.keeps a1
  clear h3 h5 h6
  obtain ⟨t0, t3, t5, t6, t7, t8⟩ := id hT1
  cases hgd : gd 4 6 40 [] (li.map grZ) with
  | false =>
    rw [hgd] at e10
    simp only [bdV] at e10
    simp (disch := first | omega | (simp; done) | assumption) [wr64, wrU8, wrU64, Nat.add_assoc, -getElem?_pos, List.getElem?_cons_zero, List.getElem?_cons_succ, t0, t3, t5, t6, t7, t8, e9, e10]
    exact fin 1 _ (.inl (.one rfl hgd)) ⟨by simp [t0], by simp [t3], by simp [t5], by simp [t6], by simp [t7], by simp [t8]⟩ (by simp [e9]) (by simp [e10])
  | true =>
    rw [hgd] at e10
    simp only [bdV] at e10
    by_cases h6l : 6 < li.length
    · have h6l' : (6 : Int) < (li.length : Int) := by omega
      simp (disch := first | omega | (simp; done) | assumption) [wr64, wrU8, wrU64, Nat.add_assoc, -getElem?_pos, List.getElem?_cons_zero, List.getElem?_cons_succ, t0, t3, t5, t6, t7, t8, e9, e10, hg6.2.2, h6l, h6l']
      exact fin 5 _ (.inl (.five rfl hgd h6l)) ⟨by simp [t0], by simp [t3], by simp [t5], by simp [t6], by simp [t7], by simp [t8]⟩ (by simp [e9]) (by simp)
    · have h6l' : ¬ (6 : Int) < (li.length : Int) := by omega
      simp (disch := first | omega | (simp; done) | assumption) [wr64, wrU8, wrU64, Nat.add_assoc, -getElem?_pos, List.getElem?_cons_zero, List.getElem?_cons_succ, t0, t3, t5, t6, t7, t8, e9, e10, hg6.2.2, h6l, h6l']
      exact fin 0 _ (.inr ⟨rfl, hgd, by omega⟩) ⟨by simp [t0], by simp [t3], by simp [t5], by simp [t6], by simp [t7], by simp [t8]⟩ (by simp [e9]) (by simp [e10])
end Go.Proofs.YtcgkadfgojmmlaaDoor.JN

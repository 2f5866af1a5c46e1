/- Opening a journal. No condition. -/
import Derived.Test.YtcgkadfgojmmlaaDoorJBa
set_option linter.unusedVariables false
set_option linter.unusedSimpArgs false
set_option maxRecDepth 10000
set_option maxHeartbeats 4000000
namespace Go.Proofs.YtcgkadfgojmmlaaDoor.JN
open Go Go.RowKit Go.Proofs.YtcgkadfgojmmlaaDoor Go.Proofs.YtcgkadfgojmmlaaDoor.Abs Go.Proofs.YtcgkadfgojmmlaaDoor.Ic Go.Proofs.YtcgkadfgojmmlaaDoor.EAs Go.Proofs.YtcgkadfgojmmlaaDoor.EErr Go.Proofs.YtcgkadfgojmmlaaDoor.DFn
/-- A journal's place, and a group that may stand there. -/
structure Geo (at_ most nn : Nat) (lw : List Wr) : Prop where
  m1 : 1 ≤ most
  m2 : most ≤ 200
  fit : at_ + need most ≤ nn
  nb : nn ≤ 400
  l1 : 1 ≤ lw.length
  lm : lw.length ≤ most
  good : Good at_ most nn lw
abbrev hdOf (lw : List Wr) : Bs := headB (lw.length : Int) (bodyB lw)
abbrev SC (at_ most : Nat) (base : Nat → Bs) (lw : List Wr) (ct : List (Option Bs)) : Prop := StC at_ most (hdOf lw) (bodyB lw) base lw ct
/-- What an Open leaves. -/
structure Aft (at_ most : Nat) (base : Nat → Bs) (lw : List Wr) (s s' : DK) (c : Nat) (ok : Prop) : Prop where
  ct : s'.ct.length = s.ct.length
  sok : SOk s' (c + 201)
  st : SC at_ most base lw s'.ct
  good : ok → St0 at_ most base s'.ct ∨ St0 at_ most (aft base lw) s'.ct
  bad : ¬ ok → s'.dead = true
  all : s.dead = false → s.f < 0 → ok ∧ s'.dead = false ∧ s'.f = s.f
def RpP (at_ most p L c : Nat) (base : Nat → Bs) (lw : List Wr) (s : DK) (H : AH) (v : AV) (H' : AH) : Prop := H.next ≤ H'.next ∧ KX p L H H' ∧ ∃ s', DS H' p L s' ∧ Aft at_ most base lw s s' c (v = .nilIface) ∧ (v = .nilIface ∨ ∃ g, Chain H' v [g] (some 50))
theorem headB_zer (n : Int) (bd : List Bs) : headB n bd ≠ zer := fun e => by
  have h := head_magic n bd
  rw [e] at h
  exact absurd h (by decide)
theorem Replay {H : AH} {jb p L at_ most c : Nat} {base : Nat → Bs} {lw : List Wr} {s : DK} (hd : DS H p L s) (hj : JO H jb p at_ most) (hG : Geo at_ most s.ct.length lw) (hs : SOk s c) (hc : c ≤ 900000) (hst : SC at_ most base lw s.ct) :
    ACall Tryd.prog 27 [.ptr jb 0] H (RpP at_ most p L c base lw s H) := by
  refine acall_ok (bodyP_of fits27) fun hok => acall_of fits27 (by simp) ?_
  have hat : at_ < s.ct.length := by have := hG.fit; unfold need at this; omega
  have hl200 : lw.length ≤ 200 := by have := hG.lm; have := hG.m2; omega
  simp (disch := first | omega | (simp; done) | assumption) [wr64, wrU8, wrU64, Nat.add_assoc, -getElem?_pos, List.getElem?_cons_zero, List.getElem?_cons_succ, ic27, rs27]
  by_cases hdd : s.dead = true
  · refine CallW.okof (Group_dead hd hj hat hs hdd) ?_
    rintro v1 H1 ⟨k1, n1, g, e, rfl, hch⟩ hok1
    obtain ⟨rfl, _⟩ := chain_live hch
    simp (disch := first | omega | (simp; done) | assumption) [wr64, wrU8, wrU64, Nat.add_assoc, -getElem?_pos, List.getElem?_cons_zero, List.getElem?_cons_succ, ]
    refine ⟨n1, KX.of k1, s, hd.keeps k1, ⟨rfl, hs.mono (by omega), hst, fun h => (by cases h), fun _ => hdd, fun h => (by rw [hdd] at h; cases h)⟩, .inr ⟨g, hch⟩⟩
  have hal : s.dead = false := by simpa using hdd
  by_cases hz : vw s.ct at_ = zer
  · refine CallW.okof (Group_none hd hj hat hal hz) ?_
    rintro v1 H1 ⟨k1, n1, rfl⟩ hok1
    simp (disch := first | omega | (simp; done) | assumption) [wr64, wrU8, wrU64, Nat.add_assoc, -getElem?_pos, List.getElem?_cons_zero, List.getElem?_cons_succ, ]
    have h0 : St0 at_ most base s.ct ∨ St0 at_ most (aft base lw) s.ct := by
      rcases hst with h | h | h
      · exact .inl h
      · exact absurd (h.1.symm.trans hz) (headB_zer _ _)
      · exact .inr h
    refine ⟨n1, KX.of k1, s, hd.keeps k1, ⟨rfl, hs.mono (by omega), hst, fun _ => h0, fun h => absurd rfl h, fun h1 h2 => ⟨rfl, h1, rfl⟩⟩, .inl rfl⟩
  · have hP : StP at_ most (hdOf lw) (bodyB lw) base lw s.ct := by
      rcases hst with h | h | h
      · exact absurd h.1 hz
      · exact h
      · exact absurd h.1 hz
    refine CallW.okof (Group_some hd hj hG.fit hG.nb ⟨hG.m1, hG.m2⟩ hal hG.l1 hG.lm hG.good hP.1 hP.2.1) ?_
    rintro v1 H1 ⟨k1, n1, v, li, rfl, hBI, hli⟩ hok1
    simp only [newO_none] at k1 n1
    have hvl : lenS v = some li.length ∧ v.cells = [v] ∧ v.one = true := by obtain ⟨b, rfl, _⟩ := hBI; exact ⟨rfl, rfl, rfl⟩
    have hlen : li.length = lw.length := by rw [← hli]; simp
    have hl1 := hG.l1
    have hne : ¬ li.length = 0 := by omega
    have hne' : ¬ li = [] := fun e => by rw [e] at hlen; simp at hlen; omega
    obtain ⟨q1, q2, q3⟩ := hvl
    simp (disch := first | omega | (simp; done) | assumption) [wr64, wrU8, wrU64, Nat.add_assoc, -getElem?_pos, List.getElem?_cons_zero, List.getElem?_cons_succ, q1, q2, q3, hne, hne']
    have hL := Lay (hd.keeps k1) (show JO H1 jb p at_ most from k1 _ _ hj) hBI hat (fun x hx => hG.good.lt (wr x) (by rw [← hli]; exact List.mem_map_of_mem hx)) hs (by omega)
    refine CallW.okof hL ?_
    rintro v2 H2 ⟨n2, k2, hd2, he2⟩ hok2
    try simp only [newO_none] at k2 n2
    rw [hli] at hd2 he2
    obtain ⟨l1, l2⟩ := lay_law (s := s) rfl hat hG.good (bodyB_len lw) hG.lm hP
    obtain ⟨k, cu⟩ := wrs_cut (lw ++ [(at_, zer)]) s
    have hlen2 := wrs_len (lw ++ [(at_, zer)]) s
    have hsok := hs.wrs (W := lw ++ [(at_, zer)])
    have hv2 : v2.cells = [v2] ∧ v2.one = true := by
      cases he : (wrs s (lw ++ [(at_, zer)])).2 with
      | none => rw [he] at he2; obtain rfl : v2 = .nilIface := he2; exact ⟨rfl, rfl⟩
      | some i => rw [he] at he2; obtain ⟨bb, rfl⟩ := errV_iface he2; exact ⟨rfl, rfl⟩
    simp (disch := first | omega | (simp; done) | assumption) [wr64, wrU8, wrU64, Nat.add_assoc, -getElem?_pos, List.getElem?_cons_zero, List.getElem?_cons_succ, ]
    have hnn : ¬ (wrs s (lw ++ [(at_, zer)])).2 = none → v2 ≠ .nilIface := fun h e => by
      cases he : (wrs s (lw ++ [(at_, zer)])).2 with
      | none => exact h he
      | some i => rw [he] at he2; obtain ⟨bb, hb⟩ := errV_iface he2; rw [e] at hb; cases hb
    have hnil : (wrs s (lw ++ [(at_, zer)])).2 = none → v2 = .nilIface := fun h => by rw [h] at he2; exact he2
    refine ⟨by omega, (KX.of k1).trans k2, _, hd2, ⟨hlen2, hsok.mono (by simp; omega), ?_, fun h => ?_, fun h => ?_, fun h1 h2 => ?_⟩, ?_⟩
    · by_cases he : (wrs s (lw ++ [(at_, zer)])).2 = none
      · exact .inr (.inr (l1 he))
      · exact .inr (.inl (l2 he))
    · by_cases he : (wrs s (lw ++ [(at_, zer)])).2 = none
      · exact .inr (l1 he)
      · exact absurd h (hnn he)
    · refine cu.dead ?_
      have hk : ¬ k = (lw ++ [(at_, zer)]).length := fun e => h (hnil (cu.ok.2 e))
      have := cu.le
      omega
    · obtain ⟨a1, a2, a3⟩ := cu.all h1 h2
      exact ⟨hnil (cu.ok.2 a1), a2, a3⟩
    · cases he : (wrs s (lw ++ [(at_, zer)])).2 with
      | none => exact .inl (hnil he)
      | some i => rw [he] at he2; exact .inr he2
def OpP (at_ most p L c : Nat) (base : Nat → Bs) (lw : List Wr) (s : DK) (H : AH) (v : AV) (H' : AH) : Prop := H.next ≤ H'.next ∧ KX p L H H' ∧ ∃ s', DS H' p L s' ∧ ∃ ok : Prop, Aft at_ most base lw s s' c ok ∧
  ((ok ∧ ∃ jb, H.next ≤ jb ∧ v = .tuple [.ptr jb 0, .nilIface] ∧ JO H' jb p at_ most) ∨ (¬ ok ∧ ∃ (e : AV) (b : Nat) (f g : Fl), e = .iface 74 (.ptr b 0) ∧ v = .tuple [.pnil, e] ∧ f.op = jrn ∧ f.name = [] ∧ Chain H' e [f, g] (some 50)))
theorem Open {H : AH} {p L at_ most c : Nat} {base : Nat → Bs} {lw : List Wr} {s : DK} (hd : DS H p L s) (hG : Geo at_ most s.ct.length lw) (hs : SOk s c) (hc : c ≤ 900000) (hst : SC at_ most base lw s.ct) :
    ACall Tryd.prog 9 [.ptr p 0, .int .i64 (at_ : Int), .int .i64 (most : Int)] H (OpP at_ most p L c base lw s H) := by
  refine acall_ok (bodyP_of fits9) fun hok => acall_of fits9 (by simp) ?_
  have hfit := hG.fit
  have hm1 := hG.m1
  have hm2 := hG.m2
  have hnb := hG.nb
  have c1 : ¬ (most : Int) < 1 := by omega
  have c2 : ¬ 200 < (most : Int) := by omega
  have c3 : ¬ (at_ : Int) < 0 := by omega
  have hN := fun H => Need (m := (most : Int)) (k := most) (by omega) (by omega) H
  generalize need most = nd at hN hfit
  have c4 : ¬ (s.ct.length : Int) - (nd : Int) < (at_ : Int) := by omega
  have hnk : H.keepsAll (H.new (.cells false tJ [.ptr p 0, .int .i64 (at_ : Int), .int .i64 (most : Int)])) := keeps_new hok (AH.keepsAll_refl _) (Nat.le_refl _)
  simp (disch := first | omega | (simp; done) | assumption) [wr64, wrU8, wrU64, Nat.add_assoc, -getElem?_pos, List.getElem?_cons_zero, List.getElem?_cons_succ, ic9, rs9, c1, c2, c3]
  refine CallW.val (Blocks hd) ?_
  simp (disch := first | omega | (simp; done) | assumption) [wr64, wrU8, wrU64, Nat.add_assoc, -getElem?_pos, List.getElem?_cons_zero, List.getElem?_cons_succ, ]
  refine CallW.val (hN _) ?_
  simp (disch := first | omega | (simp; done) | assumption) [wr64, wrU8, wrU64, Nat.add_assoc, -getElem?_pos, List.getElem?_cons_zero, List.getElem?_cons_succ, c4]
  refine CallW.okof (Replay (hd.keeps hnk) (show JO _ H.next p at_ most from AH.new_same _ _) hG hs hc hst) ?_
  rintro v2 H2 ⟨n2, k2, s', hd2, hA, hv⟩ hok2
  simp only [newO_some, newO_none] at n2 k2
  have hn : H.next ≤ H2.next := by simp at n2; omega
  rcases hv with rfl | ⟨g, hch⟩
  · have hj2 : JO H2 H.next p at_ most := by
      obtain ⟨x1, x2⟩ := ds_ne (hd.keeps hnk) (AH.new_same H (.cells false tJ [.ptr p 0, .int .i64 (at_ : Int), .int .i64 (most : Int)])) (by decide) (by decide)
      exact k2 _ _ x1 x2 (AH.new_same _ _)
    simp (disch := first | omega | (simp; done) | assumption) [wr64, wrU8, wrU64, Nat.add_assoc, -getElem?_pos, List.getElem?_cons_zero, List.getElem?_cons_succ, ]
    exact ⟨hn, (KX.of hnk).trans k2, s', hd2, True, ⟨hA.ct, hA.sok, hA.st, fun _ => hA.good rfl, fun h => absurd trivial h, fun h1 h2 => ⟨trivial, (hA.all h1 h2).2⟩⟩, .inl ⟨trivial, H.next, Nat.le_refl _, rfl, hj2⟩⟩
  · obtain ⟨rfl, _⟩ := chain_live hch
    simp (disch := first | omega | (simp; done) | assumption) [wr64, wrU8, wrU64, Nat.add_assoc, -getElem?_pos, List.getElem?_cons_zero, List.getElem?_cons_succ, ]
    refine CallW.okof (Told hch) ?_
    rintro v3 H3 ⟨k3, n3, f, g', hf1, hf2, rfl, hch3⟩ hok3
    try simp only [newO_none] at k3 n3
    simp (disch := first | omega | (simp; done) | assumption) [wr64, wrU8, wrU64, Nat.add_assoc, -getElem?_pos, List.getElem?_cons_zero, List.getElem?_cons_succ, ]
    refine ⟨by omega, ((KX.of hnk).trans k2).trans (KX.of k3), s', hd2.keeps k3, False, ⟨hA.ct, hA.sok, hA.st, fun h => h.elim, fun _ => hA.bad (by simp), fun h1 h2 => by have := (hA.all h1 h2).1; cases this⟩, .inr ⟨fun h => h, _, _, f, g', rfl, rfl, hf1, hf2, hch3⟩⟩
end Go.Proofs.YtcgkadfgojmmlaaDoor.JN

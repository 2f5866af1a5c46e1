/- Writing a row of blocks; laying a group. No condition. -/
import Derived.Test.YtcgkadfgojmmlaaDoorJB6
set_option linter.unusedVariables false
set_option linter.unusedSimpArgs false
set_option maxRecDepth 10000
set_option maxHeartbeats 4000000
namespace Go.Proofs.YtcgkadfgojmmlaaDoor.JN
open Go Go.RowKit Go.Proofs.YtcgkadfgojmmlaaDoor Go.Proofs.YtcgkadfgojmmlaaDoor.Abs Go.Proofs.YtcgkadfgojmmlaaDoor.Ic Go.Proofs.YtcgkadfgojmmlaaDoor.EAs Go.Proofs.YtcgkadfgojmmlaaDoor.EErr Go.Proofs.YtcgkadfgojmmlaaDoor.DFn
/-- A disk within bounds. -/
structure SOk (s : DK) (c : Nat) : Prop where
  w0 : 0 ≤ s.w
  w1 : s.w ≤ (c : Int)
  f0 : -1 ≤ s.f
  f1 : s.f ≤ 1000
  die : s.ct.length ≤ 100 ∨ (s.dead = false ∧ s.f < 0)
theorem SOk.write {s : DK} {c : Nat} (h : SOk s c) (i : Nat) (b : Bs) : SOk (s.write i b) (c + 1) := by
  obtain ⟨h1, h2, h3, h4, h5⟩ := h
  have hf : (s.write i b).f = if 0 < s.f then s.f - 1 else s.f := rfl
  have hw : (s.write i b).w = s.w + 1 := rfl
  have hl : (s.write i b).ct.length = s.ct.length := by simp [DK.write]
  refine ⟨by omega, by omega, by rw [hf]; split <;> omega, by rw [hf]; split <;> omega, ?_⟩
  rw [hl]
  rcases h5 with h | ⟨ha, hb⟩
  · exact .inl h
  · exact .inr ⟨by simp [DK.write, show ¬ 0 < s.f by omega, ha], by rw [hf, if_neg (by omega)]; exact hb⟩
theorem SOk.mono {s : DK} {c d : Nat} (h : SOk s c) (hd : c ≤ d) : SOk s d := ⟨h.w0, by have := h.w1; omega, h.f0, h.f1, h.die⟩
theorem SOk.wrs : ∀ {W : List Wr} {s : DK} {c : Nat}, SOk s c → SOk (wrs s W).1 (c + W.length)
  | [], s, c, h => h
  | x :: W, s, c, h => by
    rw [JN.wrs]
    split
    · exact h.mono (by simp)
    · exact (SOk.wrs (h.write x.1 x.2)).mono (by simp; omega)
theorem ds_ne {H : AH} {p L : Nat} {s : DK} (h : DS H p L s) {y : Nat} {t : TypeId} {cs : List AV} (hy : H.at_ y = some (.cells false t cs)) (h1 : t ≠ tD) (h2 : t ≠ tBS) : y ≠ p ∧ y ≠ L := by
  obtain ⟨_, hp, cs', hL, _⟩ := h
  constructor
  · rintro rfl
    rw [hp] at hy
    injection hy with hy
    injection hy with _ hy _
    exact h1 hy.symm
  · rintro rfl
    rw [hL] at hy
    injection hy with hy
    injection hy with _ hy _
    exact h2 hy.symm
def ErrV (H : AH) (v : AV) : Option Nat → Prop
  | none => v = .nilIface
  | some _ => ∃ g : Fl, Chain H v [g] (some 50)
theorem errV_iface {H : AH} {v : AV} {i : Nat} (h : ErrV H v (some i)) : ∃ b : Nat, v = .iface 74 (.ptr b 0) := by
  obtain ⟨g, h⟩ := h
  exact ⟨_, (chain_live h).1⟩
def WrP (p L : Nat) (s : DK) (W : List Wr) (H : AH) (v : AV) (H' : AH) : Prop := H.next ≤ H'.next ∧ KX p L H H' ∧ DS H' p L (wrs s W).1 ∧ ErrV H' v (wrs s W).2
theorem Write {H : AH} {p L : Nat} {s : DK} {i c : Nat} {x : Qb} (hd : DS H p L s) (hx : QOk H x) (hi : i < s.ct.length) (hs : SOk s c) (hc : c ≤ 1000000) : ACall Tryd.prog 31 [.ptr p 0, .int .i64 (i : Int), sl x] H (WrP p L s [(i, x.2)] H) := by
  obtain ⟨n1, n2⟩ := ds_ne hd hx.2 (by decide) (by decide)
  have hrow : Row H (sl x) x.1 x.2 := ⟨rfl, hx.1, hx.2⟩
  have hw : wrs s [(i, x.2)] = if s.dead = true then (s, some i) else (s.write i x.2, none) := rfl
  unfold WrP
  rw [hw]
  by_cases h : s.dead = true
  · rw [if_pos h]
    have hl : s.ct.length ≤ 100 := by
      rcases hs.die with h' | ⟨h', _⟩
      · exact h'
      · rw [h] at h'; cases h'
    refine ⟨bodyP_of fits31, fun j w cargs hr hv => ((Write_dead hd hrow hi (by omega) h).2 j w cargs hr hv).mono fun e w' ⟨v, vc, j', H', he, ⟨a1, a2, f, a3, a4, a5, a6⟩, q⟩ => ⟨v, vc, j', H', he, ⟨a2, KX.of a1, hd.keeps a1, f, a6⟩, q⟩⟩
  · rw [if_neg h]
    have h0 : s.dead = false := by simpa using h
    refine ⟨bodyP_of fits31, fun j w cargs hr hv => ((Write_ok hd hrow n1 n2 hi h0 ⟨hs.w0, by have := hs.w1; omega⟩ ⟨hs.f0, by have := hs.f1; omega⟩).2 j w cargs hr hv).mono fun e w' ⟨v, vc, j', H', he, ⟨a1, a2, a3, a4⟩, q⟩ => ⟨v, vc, j', H', he, ⟨a2, a3, a4, a1⟩, q⟩⟩
theorem BI.kx {H H' : AH} {p L : Nat} {s : DK} {v : AV} {l : List Ib} (hd : DS H p L s) (hk : KX p L H H') (h : BI H v l) : BI H' v l := by
  obtain ⟨b, h1, h2, h3⟩ := h
  obtain ⟨n1, n2⟩ := ds_ne hd h2 (by decide) (by decide)
  refine ⟨b, h1, hk _ _ n1 n2 h2, fun x hx => ⟨(h3 x hx).1, ?_⟩⟩
  obtain ⟨m1, m2⟩ := ds_ne hd (h3 x hx).2 (by decide) (by decide)
  exact hk _ _ m1 m2 (h3 x hx).2
theorem JO.kx {H H' : AH} {p L jb at_ most : Nat} {s : DK} (hd : DS H p L s) (hk : KX p L H H') (h : JO H jb p at_ most) : JO H' jb p at_ most := by
  obtain ⟨n1, n2⟩ := ds_ne hd h (by decide) (by decide)
  exact hk _ _ n1 n2 h
def LaI (jb p L at_ most : Nat) (s : DK) (v : AV) (l : List Ib) (H : AH) (kk : Nat) (tm : Tms) (H' : AH) : Prop := H'.ok ∧ H.next ≤ H'.next ∧ KX p L H H' ∧ ∃ i : Nat, kk = l.length - i ∧ i ≤ l.length ∧ (wrs s ((l.map wr).take i)).2 = none ∧ DS H' p L (wrs s ((l.map wr).take i)).1 ∧
  tm 0 = .ptr jb 0 ∧ tm 8 = v ∧ tm 9 = .int .i64 (l.length : Int) ∧ tm 10 = .int .i64 (i : Int)
theorem zer_len : zer.length = 128 := by decide
theorem Lay {H : AH} {jb p L at_ most c : Nat} {s : DK} {v : AV} {l : List Ib} (hd : DS H p L s) (hj : JO H jb p at_ most) (h : BI H v l) (hat : at_ < s.ct.length) (hlt : ∀ x ∈ l, x.1 < s.ct.length) (hs : SOk s c) (hc : c + l.length ≤ 1000000) :
    ACall Tryd.prog 33 [.ptr jb 0, v] H (WrP p L s (l.map wr ++ [(at_, zer)]) H) := by
  refine acall_ok (bodyP_of fits33) fun hok => acall_of fits33 (by simp) ?_
  have h' := h
  obtain ⟨b, rfl, hb, hx⟩ := h
  simp (disch := first | omega | (simp; done) | assumption) [wr64, wrU8, wrU64, Nat.add_assoc, -getElem?_pos, List.getElem?_cons_zero, List.getElem?_cons_succ, ic33, rs33]
  refine iwp_loop (LaI jb p L at_ most s (.slice b 0 l.length 2) l H) l.length ⟨hok, Nat.le_refl _, fun _ _ _ _ h => h, 0, rfl, by omega, rfl, hd, by simp, by simp, by simp, by simp⟩ ?_
  rintro kk tm H1 ⟨hok1, hn1, hk1, i, rfl, hi, hw, hd1, t0, t8, t9, t10⟩
  have hj1 := JO.kx hd hk1 hj
  unfold JO at hj1
  have hs1 : SOk (wrs s ((l.map wr).take i)).1 (c + l.length) := (hs.wrs (W := (l.map wr).take i)).mono (by simp; omega)
  have hlen1 := wrs_len ((l.map wr).take i) s
  by_cases hil : i < l.length
  · have hil' : (i : Int) < (l.length : Int) := by omega
    have hbn := ds_ne hd hb (by decide) (by decide)
    have hb1 := hk1 _ _ hbn.1 hbn.2 hb
    have hld := BI.at hb1 hil
    have hxm := List.getElem_mem hil
    have hxq := hx _ hxm
    have hxn := ds_ne hd hxq.2 (by decide) (by decide)
    have hxq1 : QOk H1 l[i].2 := ⟨hxq.1, hk1 _ _ hxn.1 hxn.2 hxq.2⟩
    have hxl := hlt _ hxm
    have htk : (l.map wr).take (i + 1) = (l.map wr).take i ++ [wr l[i]] := by rw [List.take_add_one, List.getElem?_eq_getElem (by simpa using hil)]; simp
    have hsp : l.map wr ++ [(at_, zer)] = (l.map wr).take i ++ wr l[i] :: ((l.map wr).drop (i + 1) ++ [(at_, zer)]) := by
      rw [← List.cons_append, ← List.append_assoc]
      congr 1
      have := List.drop_eq_getElem_cons (l := l.map wr) (i := i) (by simpa using hil)
      simp only [List.getElem_map] at this
      rw [← this, List.take_append_drop]
    generalize l[i] = x at *
    have hjne : ¬ jb = H1.next := by have := hok _ _ hj; omega
    simp (disch := first | omega | (simp; done) | assumption) [wr64, wrU8, wrU64, Nat.add_assoc, -getElem?_pos, List.getElem?_cons_zero, List.getElem?_cons_succ, t0, t8, t9, t10, hil, hil']
    refine Try.intro (by simpa [Nat.add_assoc] using hld) ?_
    simp (disch := first | omega | (simp; done) | assumption) [wr64, wrU8, wrU64, Nat.add_assoc, -getElem?_pos, List.getElem?_cons_zero, List.getElem?_cons_succ, t0, t8, t9, t10, hil, hil', sl_one, sl_cells, hj1, hjne]
    have hkX : H1.keepsAll ((H1.new (.cells false 35 [.int .i64 0, .snil])).set H1.next (some (.cells false 35 [.int .i64 (x.1 : Int), sl x.2]))) := keeps_set hok1 (keeps_new hok1 (AH.keepsAll_refl _) (Nat.le_refl _)) (Nat.le_refl _)
    have hnX : H1.next ≤ ((H1.new (.cells false 35 [.int .i64 0, .snil])).set H1.next (some (.cells false 35 [.int .i64 (x.1 : Int), sl x.2]))).next := by simp
    generalize (H1.new (.cells false 35 [.int .i64 0, .snil])).set H1.next (some (.cells false 35 [.int .i64 (x.1 : Int), sl x.2])) = HX at *
    refine CallW.okof (Write (i := x.1) (x := x.2) (hd1.keeps hkX) ⟨hxq1.1, hkX _ _ hxq1.2⟩ (by rw [hlen1]; exact hxl) hs1 hc) ?_
    rintro v2 H2 ⟨hn2, hk2, hd2, he2⟩ hok2
    try simp only [newO_none, newO_some] at hn2 hk2
    have hk02 : KX p L H H2 := (hk1.trans (KX.of hkX)).trans hk2
    have hww : wrs (wrs s ((l.map wr).take i)).1 [wr x] = if (wrs s ((l.map wr).take i)).1.dead = true then ((wrs s ((l.map wr).take i)).1, some x.1) else ((wrs s ((l.map wr).take i)).1.write x.1 x.2.2, none) := rfl
    change DS H2 p L (wrs (wrs s ((l.map wr).take i)).1 [wr x]).1 at hd2
    change ErrV H2 v2 (wrs (wrs s ((l.map wr).take i)).1 [wr x]).2 at he2
    have hst : wrs s ((l.map wr).take (i + 1)) = wrs (wrs s ((l.map wr).take i)).1 [wr x] := by rw [htk, wrs_append, hw]
    by_cases hdd : (wrs s ((l.map wr).take i)).1.dead = true
    · rw [hww, if_pos hdd] at hd2 he2
      have hfin : wrs s (l.map wr ++ [(at_, zer)]) = ((wrs s ((l.map wr).take i)).1, some x.1) := by
        rw [hsp, wrs_append, hw]
        dsimp only
        rw [wrs, if_pos hdd]
        rfl
      obtain ⟨bb, rfl⟩ := errV_iface he2
      simp (disch := first | omega | (simp; done) | assumption) [wr64, wrU8, wrU64, Nat.add_assoc, -getElem?_pos, List.getElem?_cons_zero, List.getElem?_cons_succ, t0, t8, t9, t10]
      exact ⟨by omega, hk02, by rw [hfin]; exact hd2, by rw [hfin]; exact he2⟩
    · rw [hww, if_neg hdd] at he2
      obtain rfl : v2 = .nilIface := he2
      simp (disch := first | omega | (simp; done) | assumption) [wr64, wrU8, wrU64, Nat.add_assoc, -getElem?_pos, List.getElem?_cons_zero, List.getElem?_cons_succ, t0, t8, t9, t10]
      refine ⟨l.length - (i + 1), by omega, hok2, by omega, hk02, i + 1, rfl, by omega, by rw [hst, hww, if_neg hdd], by rw [hst]; exact hd2, by simp [t0], by simp [t8], by simp [t9], by simp⟩
  · obtain rfl : i = l.length := by omega
    rw [List.take_of_length_le (by simp)] at hw hd1 hs1 hlen1
    have hfin : wrs s (l.map wr ++ [(at_, zer)]) = wrs (wrs s (l.map wr)).1 [(at_, zer)] := by rw [wrs_append, hw]
    simp (disch := first | omega | (simp; done) | assumption) [wr64, wrU8, wrU64, Nat.add_assoc, -getElem?_pos, List.getElem?_cons_zero, List.getElem?_cons_succ, t0, t8, t9, t10, hj1, -List.reduceReplicate]
    have hkX : H1.keepsAll (H1.new (.cells false 5 (List.replicate 128 (AV.int .u8 0)))) := keeps_new hok1 (AH.keepsAll_refl _) (Nat.le_refl _)
    have hqz : QOk (H1.new (.cells false 5 (List.replicate 128 (AV.int .u8 0)))) (H1.next, zer) := ⟨zer_len, by rw [mgc_bytes]; exact AH.new_same _ _⟩
    have hnX : H1.next ≤ (H1.new (.cells false 5 (List.replicate 128 (AV.int .u8 0)))).next := by simp
    have hW := Write (i := at_) (x := (H1.next, zer)) (hd1.keeps hkX) hqz (by rw [hlen1]; exact hat) hs1 hc
    simp only [sl] at hW
    refine CallW.okof hW ?_
    rintro v2 H2 ⟨hn2, hk2, hd2, he2⟩ hok2
    have hv2 : v2.cells = [v2] ∧ v2.one = true := by
      cases he : (wrs (wrs s (l.map wr)).1 [(at_, zer)]).2 with
      | none => rw [he] at he2; obtain rfl : v2 = .nilIface := he2; exact ⟨rfl, rfl⟩
      | some i => rw [he] at he2; obtain ⟨bb, rfl⟩ := errV_iface he2; exact ⟨rfl, rfl⟩
    simp (disch := first | omega | (simp; done) | assumption) [wr64, wrU8, wrU64, Nat.add_assoc, -getElem?_pos, List.getElem?_cons_zero, List.getElem?_cons_succ, ]
    exact ⟨by omega, (hk1.trans (KX.of hkX)).trans hk2, by rw [hfin]; exact hd2, by rw [hfin]; exact he2⟩
end Go.Proofs.YtcgkadfgojmmlaaDoor.JN

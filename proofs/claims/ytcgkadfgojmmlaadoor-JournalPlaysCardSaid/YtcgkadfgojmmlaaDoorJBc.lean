/- A Commit. No condition. -/
import Derived.Test.YtcgkadfgojmmlaaDoorJBb
set_option linter.unusedVariables false
set_option linter.unusedSimpArgs false
set_option maxRecDepth 10000
set_option maxHeartbeats 4000000
namespace Go.Proofs.YtcgkadfgojmmlaaDoor.JN
open Go Go.RowKit Go.Proofs.YtcgkadfgojmmlaaDoor Go.Proofs.YtcgkadfgojmmlaaDoor.Abs Go.Proofs.YtcgkadfgojmmlaaDoor.Ic Go.Proofs.YtcgkadfgojmmlaaDoor.EAs Go.Proofs.YtcgkadfgojmmlaaDoor.EErr Go.Proofs.YtcgkadfgojmmlaaDoor.DFn
def Tol (H : AH) (v : AV) : Prop := ∃ (b : Nat) (f g : Fl), v = .iface 74 (.ptr b 0) ∧ f.op = jrn ∧ f.name = [] ∧ Chain H v [f, g] (some 50)
/-- What a Commit leaves. -/
structure Cmt (at_ most : Nat) (base : Nat → Bs) (lw : List Wr) (s s' : DK) (c : Nat) (ok : Prop) : Prop where
  ct : s'.ct.length = s.ct.length
  sok : SOk s' (c + 700)
  st : SC at_ most base lw s'.ct
  good : ok → St0 at_ most (aft base lw) s'.ct
  bad : ¬ ok → s'.dead = true
  all : s.dead = false → s.f < 0 → ok ∧ s'.dead = false ∧ s'.f = s.f
def CmP (at_ most p L c : Nat) (base : Nat → Bs) (lw : List Wr) (s : DK) (H : AH) (v : AV) (H' : AH) : Prop := H.next ≤ H'.next ∧ KX p L H H' ∧ ∃ s', DS H' p L s' ∧ Cmt at_ most base lw s s' c (v = .nilIface) ∧ (v = .nilIface ∨ Tol H' v)
def allW (at_ : Nat) (lw : List Wr) : List Wr := rowW (at_ + 1) (bodyB lw) ++ ((at_, hdOf lw) :: (lw ++ [(at_, zer)]))
theorem cmt_of {at_ most c : Nat} {base : Nat → Bs} {lw : List Wr} {s : DK} (hG : Geo at_ most s.ct.length lw) (hs : SOk s c) (hst : St0 at_ most base s.ct) {ok : Prop} (hok : ok ↔ (wrs s (allW at_ lw)).2 = none) : Cmt at_ most base lw s (wrs s (allW at_ lw)).1 c ok := by
  obtain ⟨l1, l2⟩ := commit_law (s := s) (hd := hdOf lw) (bd := bodyB lw) rfl hG.fit hG.good (bodyB_len lw) hG.lm hst
  obtain ⟨k, cu⟩ := wrs_cut (allW at_ lw) s
  have hl200 : lw.length ≤ 200 := by have := hG.lm; have := hG.m2; omega
  refine ⟨wrs_len _ _, (hs.wrs (W := allW at_ lw)).mono ?_, l2, fun h => l1 (hok.1 h), fun h => ?_, fun h1 h2 => ?_⟩
  · simp [allW, rowW_len, bodyB_len, lists]
    omega
  · refine cu.dead ?_
    have hk : ¬ k = (allW at_ lw).length := fun e => h (hok.2 (cu.ok.2 e))
    have := cu.le
    omega
  · obtain ⟨a1, a2, a3⟩ := cu.all h1 h2
    exact ⟨hok.2 (cu.ok.2 a1), a2, a3⟩
theorem errV_nil {H : AH} {v : AV} {r : Option Nat} (h : ErrV H v r) : (v = .nilIface ↔ r = none) ∧ (v.cells = [v] ∧ v.one = true) := by
  cases r with
  | none => obtain rfl : v = .nilIface := h; exact ⟨⟨fun _ => rfl, fun _ => rfl⟩, rfl, rfl⟩
  | some i => obtain ⟨b, rfl⟩ := errV_iface h; exact ⟨⟨fun h => (by cases h), fun h => (by cases h)⟩, rfl, rfl⟩
theorem ToldV {e : AV} {H : AH} {r : Option Nat} (h : ErrV H e r) : ACall Tryd.prog 28 [e] H (fun v H' => H.keepsAll H' ∧ H.next ≤ H'.next ∧ (v = .nilIface ↔ r = none) ∧ (v = .nilIface ∨ Tol H' v) ∧ v.cells = [v] ∧ v.one = true) := by
  cases r with
  | none =>
    obtain rfl : e = .nilIface := h
    refine ⟨bodyP_of fits28, fun j w cargs hr hv => ((Told_nil H).2 j w cargs hr hv).mono fun e' w' ⟨v, vc, j', H', he, ⟨h1, h2⟩, q⟩ => ⟨v, vc, j', H', he, ?_, q⟩⟩
    subst h1 h2
    exact ⟨AH.keepsAll_refl _, Nat.le_refl _, ⟨fun _ => rfl, fun _ => rfl⟩, .inl rfl, rfl, rfl⟩
  | some i =>
    obtain ⟨g, hc⟩ := h
    refine ⟨bodyP_of fits28, fun j w cargs hr hv => ((Told hc).2 j w cargs hr hv).mono fun e' w' ⟨v, vc, j', H', he, ⟨h1, h2, f, g', h3, h4, h5, h6⟩, q⟩ => ⟨v, vc, j', H', he, ?_, q⟩⟩
    refine ⟨h1, h2, ⟨fun h => (by rw [h5] at h; cases h), fun h => (by cases h)⟩, .inr ⟨_, f, g', h5, h3, h4, h6⟩, by rw [h5]; exact ⟨rfl, rfl⟩⟩
def CmI (jb p L at_ most A : Nat) (s : DK) (v0 : AV) (R : List Wr) (qs : List Qb) (N : Nat) (H : AH) (kk : Nat) (tm : Tms) (H' : AH) : Prop := H'.ok ∧ H.next ≤ H'.next ∧ KX p L H H' ∧ H'.at_ A = some (.cells false tBS (qs.map sl)) ∧ (∀ x ∈ qs, QOk H' x) ∧
  ∃ i : Nat, kk = N - i ∧ i ≤ N ∧ (wrs s (R.take i)).2 = none ∧ DS H' p L (wrs s (R.take i)).1 ∧ tm 0 = .ptr jb 0 ∧ tm 1 = v0 ∧ tm 5 = .slice A 0 N 1 ∧ tm 31 = .slice A 0 N 1 ∧ tm 32 = .int .i64 (N : Int) ∧ tm 33 = .int .i64 (i : Int)
theorem Commit {H : AH} {jb p L at_ most c : Nat} {base : Nat → Bs} {v : AV} {li : List Ib} {s : DK} (hd : DS H p L s) (hj : JO H jb p at_ most) (hG : Geo at_ most s.ct.length (li.map wr)) (hs : SOk s c) (hc : c ≤ 900000) (hst : St0 at_ most base s.ct) (h : BI H v li) :
    ACall Tryd.prog 11 [.ptr jb 0, v] H (CmP at_ most p L c base (li.map wr) s H) := by
  refine acall_ok (bodyP_of fits11) fun hok => acall_of fits11 (by simp) ?_
  have hfit := hG.fit
  have hm1 := hG.m1
  have hm2 := hG.m2
  have hnb := hG.nb
  have hl1 := hG.l1
  have hlm := hG.lm
  simp only [List.length_map] at hl1 hlm
  have hat : at_ < s.ct.length := by unfold need at hfit; omega
  have hat2 : at_ + lists li.length + li.length + 1 < s.ct.length := by unfold need lists at hfit; unfold lists; omega
  have hgd : gd at_ most s.ct.length [] (li.map grI) = true := gd_of li [] (fun x hx => ⟨hG.good.lt _ (List.mem_map_of_mem hx), hG.good.own _ (List.mem_map_of_mem hx), by simp⟩) (by rw [← wr_fst]; exact hG.good.nodup)
  have hJG := JGood hd hj ⟨hm1, hm2⟩ (by omega) h.bg (by simp; omega)
  rw [hgd] at hJG
  have hvl : lenS v = some li.length ∧ v.cells = [v] ∧ v.one = true := by obtain ⟨b, rfl, _⟩ := h; exact ⟨rfl, rfl, rfl⟩
  obtain ⟨q1, q2, q3⟩ := hvl
  have hj' := hj
  unfold JO at hj'
  have c1 : ¬ (most : Int) < (li.length : Int) := by omega
  have c2 : ¬ li.length = 0 := by omega
  have c3 : ¬ li = [] := fun e => by rw [e] at hl1; simp at hl1
  have hpn : p < H.next := hok _ _ hd.2.1
  have hLn : L < H.next := by obtain ⟨_, _, cs, h2, _⟩ := hd; exact hok _ _ h2
  simp (disch := first | omega | (simp; done) | assumption) [wr64, wrU8, wrU64, Nat.add_assoc, -getElem?_pos, List.getElem?_cons_zero, List.getElem?_cons_succ, ic11, rs11]
  refine CallW.val hJG ?_
  simp (disch := first | omega | (simp; done) | assumption) [wr64, wrU8, wrU64, Nat.add_assoc, -getElem?_pos, List.getElem?_cons_zero, List.getElem?_cons_succ, q1, hj', c1, c2, c3]
  refine CallW.okof (Body h hl1 (by omega) (fun x hx => by have := hG.good.lt _ (List.mem_map_of_mem hx); simp only [wr] at this; omega)) ?_
  rintro va H1 ⟨k1, n1, qs, ho, hqs, hqm⟩ hok1
  simp only [newO_none] at k1 n1 ho hqs
  have hbl := bodyB_len (li.map wr)
  rw [List.length_map] at hbl
  have hql : qs.length = (bodyB (li.map wr)).length := by rw [← hqm]; simp
  obtain ⟨A, rfl, hA, hAB⟩ : ∃ A, va = .slice A 0 qs.length 1 ∧ H1.at_ A = some (.cells false tBS (qs.map sl)) ∧ H.next + 1 ≤ A := by
    rcases ho with ⟨hh, _⟩ | ⟨A, e, hne, hA, hB, _⟩
    · have : qs.length = 0 := by have := congrArg List.length hh; simpa [rowsQ] using this
      omega
    · refine ⟨A, by rw [e, rowsQ_len], ?_, hB⟩
      rw [hA]
      congr 2
      clear hqm hqs hql e hne hA
      induction qs with
      | nil => rfl
      | cons x r ih => simp [rowsQ] at ih ⊢; exact ih
  have hqs1 : ∀ x ∈ qs, QOk H1 x := fun x hx => (hqs x hx).1
  have hget : ∀ i (hi : i < (bodyB (li.map wr)).length) (hi' : i < qs.length), qs[i].2 = (bodyB (li.map wr))[i] := fun i hi hi' => by
    have h9 : (qs.map (·.2))[i]? = some (bodyB (li.map wr))[i] := by rw [hqm]; exact List.getElem?_eq_getElem hi
    rw [List.getElem?_map, List.getElem?_eq_getElem hi'] at h9
    exact Option.some.inj h9
  clear ho hqs
  simp (disch := first | omega | (simp; done) | assumption) [wr64, wrU8, wrU64, Nat.add_assoc, -getElem?_pos, List.getElem?_cons_zero, List.getElem?_cons_succ, ]
  rw [hql]
  have hnx : ∀ x ∈ qs, x.1 ≠ p ∧ x.1 ≠ L := fun x hx => ds_ne (hd.keeps k1) (hqs1 x hx).2 (by decide) (by decide)
  have hRl : (rowW (at_ + 1) (bodyB (li.map wr))).length = (bodyB (li.map wr)).length := rowW_len _ _
  have hRg : ∀ i (hi : i < (bodyB (li.map wr)).length), (rowW (at_ + 1) (bodyB (li.map wr)))[i]'(by rw [hRl]; exact hi) = (at_ + 1 + i, (bodyB (li.map wr))[i]) := fun i hi => rowW_get _ _ _ hi
  have hfin := cmt_of hG hs hst (ok := (wrs s (allW at_ (li.map wr))).2 = none) Iff.rfl
  have hWa : allW at_ (li.map wr) = rowW (at_ + 1) (bodyB (li.map wr)) ++ ((at_, hdOf (li.map wr)) :: (li.map wr ++ [(at_, zer)])) := rfl
  have hHd : ∀ H, RQ H (.slice A 0 qs.length 1) qs → ACall Tryd.prog 32 [.int .i64 (li.length : Int), .slice A 0 qs.length 1] H (CloneP (hdOf (li.map wr)) H) := fun H h => by
    have := Head (H := H) li.length (by omega) h (by omega)
    rw [hqm] at this
    unfold hdOf
    rw [List.length_map]
    exact this
  generalize allW at_ (li.map wr) = W at *
  generalize hR : rowW (at_ + 1) (bodyB (li.map wr)) = R at *
  generalize hdOf (li.map wr) = hd' at *
  rw [hql] at hHd
  have hRQ : ∀ {H' : AH}, H'.at_ A = some (.cells false tBS (qs.map sl)) → (∀ x ∈ qs, QOk H' x) → RQ H' (.slice A 0 (bodyB (li.map wr)).length 1) qs := fun h1 h2 => ⟨A, by rw [hql], h1, h2⟩
  have hk3 : ∀ {HA HB : AH}, KX p L HA HB → HA.at_ A = some (.cells false tBS (qs.map sl)) → (∀ x ∈ qs, QOk HA x) → HB.at_ A = some (.cells false tBS (qs.map sl)) ∧ (∀ x ∈ qs, QOk HB x) := fun hk h1 h2 => ⟨hk _ _ (by omega) (by omega) h1, fun x hx => ⟨(h2 x hx).1, hk _ _ (hnx x hx).1 (hnx x hx).2 (h2 x hx).2⟩⟩
  refine iwp_loop (CmI jb p L at_ most A s v R qs (bodyB (li.map wr)).length H) (bodyB (li.map wr)).length ⟨hok1, n1, KX.of k1, hA, hqs1, 0, rfl, by omega, rfl, hd.keeps k1, by simp, by simp, by simp, by simp, by simp, by simp⟩ ?_
  clear hA hqs1 k1 n1 hok1
  rintro kk tm H2 ⟨hok2, n2, k2, hA2, hq2, i, rfl, hi, hw, hd2, t0, t1, t5, t31, t32, t33⟩
  have hj2 : H2.at_ jb = some (.cells false tJ [.ptr p 0, .int .i64 (at_ : Int), .int .i64 (most : Int)]) := JO.kx hd k2 hj
  have hs2 : SOk (wrs s (R.take i)).1 (c + 700) := (hs.wrs (W := R.take i)).mono (by simp; unfold lists at hbl; omega)
  have hlen2 := wrs_len (R.take i) s
  by_cases hil : i < (bodyB (li.map wr)).length
  · have hil' : (i : Int) < ((bodyB (li.map wr)).length : Int) := by omega
    have hiq : i < qs.length := by omega
    have hiR : i < R.length := by omega
    have hbi := hget i hil hiq
    have hRi := hRg i hil
    have hxq := hq2 _ (List.getElem_mem hiq)
    have l1 : (qs.map sl)[i]? = some (sl qs[i]) := by rw [List.getElem?_map, List.getElem?_eq_getElem hiq]; rfl
    have htk : R.take (i + 1) = R.take i ++ [R[i]] := by rw [List.take_add_one, List.getElem?_eq_getElem hiR]; rfl
    have hsp : R = R.take i ++ R[i] :: R.drop (i + 1) := by rw [← List.drop_eq_getElem_cons hiR, List.take_append_drop]
    rw [← hbi] at hRi
    have hWr := Write (i := at_ + 1 + i) (x := qs[i]) (c := c + 700) hd2 hxq (by rw [hlen2]; omega) hs2 (by omega)
    rw [show ((at_ + 1 + i : Nat) : Int) = (at_ : Int) + 1 + (i : Int) by omega, ← hRi] at hWr
    have hww : wrs (wrs s (R.take i)).1 [R[i]] = if (wrs s (R.take i)).1.dead = true then ((wrs s (R.take i)).1, some R[i].1) else ((wrs s (R.take i)).1.write R[i].1 R[i].2, none) := rfl
    generalize qs[i] = x at *
    simp only [sl] at l1 hWr
    simp (disch := first | omega | (simp; done) | assumption) [wr64, wrU8, wrU64, Nat.add_assoc, -getElem?_pos, List.getElem?_cons_zero, List.getElem?_cons_succ, t0, t1, t5, t31, t32, t33, hil, hil', hA2, l1, hj2]
    refine CallW.okof hWr ?_
    rintro v3 H3 ⟨n3, k3, hd3, he3⟩ hok3
    try simp only [newO_none] at n3 k3
    by_cases hdd : (wrs s (R.take i)).1.dead = true
    · rw [hww, if_pos hdd] at hd3 he3
      have hWf : wrs s W = ((wrs s (R.take i)).1, some R[i].1) := by
        rw [hWa]
        conv => lhs; rw [hsp]
        rw [List.append_assoc, wrs_append, hw]
        dsimp only
        rw [List.cons_append, wrs, if_pos hdd]
      obtain ⟨bb, rfl⟩ := errV_iface he3
      simp (disch := first | omega | (simp; done) | assumption) [wr64, wrU8, wrU64, Nat.add_assoc, -getElem?_pos, List.getElem?_cons_zero, List.getElem?_cons_succ, t0, t1, t5]
      refine CallW.okof (ToldV he3) ?_
      rintro v4 H4 ⟨k4, n4, e4, e4', e5⟩ hok4
      try simp only [newO_none] at k4 n4
      simp (disch := first | omega | (simp; done) | assumption) [wr64, wrU8, wrU64, Nat.add_assoc, -getElem?_pos, List.getElem?_cons_zero, List.getElem?_cons_succ, e5.1, e5.2]
      have e4n : ¬ v4 = .nilIface := fun e => by have := e4.1 e; cases this
      have hfn : ¬ (wrs s W).2 = none := by rw [hWf]; simp
      refine ⟨by omega, (k2.trans k3).trans (KX.of k4), (wrs s W).1, by rw [hWf]; exact hd3.keeps k4, ⟨hfin.ct, hfin.sok, hfin.st, fun h => absurd h e4n, fun _ => hfin.bad hfn, fun h1 h2 => absurd (hfin.all h1 h2).1 hfn⟩, e4'⟩
    · rw [hww, if_neg hdd] at he3
      obtain rfl : v3 = .nilIface := he3
      have hst' : wrs s (R.take (i + 1)) = wrs (wrs s (R.take i)).1 [R[i]] := by rw [htk, wrs_append, hw]
      obtain ⟨a1, a2⟩ := hk3 k3 hA2 hq2
      simp (disch := first | omega | (simp; done) | assumption) [wr64, wrU8, wrU64, Nat.add_assoc, -getElem?_pos, List.getElem?_cons_zero, List.getElem?_cons_succ, t0, t1, t5, t31, t32, t33]
      refine ⟨(bodyB (li.map wr)).length - (i + 1), by omega, hok3, by omega, k2.trans k3, a1, a2, i + 1, rfl, by omega, by rw [hst', hww, if_neg hdd], by rw [hst']; exact hd3, by simp [t0], by simp [t1], by simp [t5], by simp [t31], by simp [t32], by simp⟩
  · obtain rfl : i = (bodyB (li.map wr)).length := by omega
    rw [List.take_of_length_le (by omega)] at hw hd2 hs2 hlen2
    have hWs : wrs s W = wrs (wrs s R).1 ((at_, hd') :: (li.map wr ++ [(at_, zer)])) := by rw [hWa, wrs_append, hw]
    simp (disch := first | omega | (simp; done) | assumption) [wr64, wrU8, wrU64, Nat.add_assoc, -getElem?_pos, List.getElem?_cons_zero, List.getElem?_cons_succ, t0, t1, t5, t31, t32, t33, hj2, q1]
    refine CallW.okof (hHd _ (hRQ hA2 hq2)) ?_
    rintro v3 H3 ⟨k3, n3, q3, hq3, hq3n, rfl, hl3, hq3o⟩ hok3
    try simp only [newO_none] at k3 n3 hq3
    have hj3 := k3 _ _ hj2
    simp (disch := first | omega | (simp; done) | assumption) [wr64, wrU8, wrU64, Nat.add_assoc, -getElem?_pos, List.getElem?_cons_zero, List.getElem?_cons_succ, t0, t1, t5, hj2, hj3]
    have hs3 : SOk (wrs s R).1 (c + 700) := hs2
    have hWr := Write (H := H3) (i := at_) (x := (q3, hd')) (c := c + 700) (hd2.keeps k3) ⟨hl3, hq3o⟩ (by rw [hlen2]; exact hat) hs2 (by omega)
    simp only [sl] at hWr
    have hww : wrs (wrs s R).1 [(at_, hd')] = if (wrs s R).1.dead = true then ((wrs s R).1, some at_) else ((wrs s R).1.write at_ hd', none) := rfl
    refine CallW.okof hWr ?_
    rintro v4 H4 ⟨n4, k4, hd4, he4⟩ hok4
    try simp only [newO_none] at n4 k4
    by_cases hdd : (wrs s R).1.dead = true
    · rw [hww, if_pos hdd] at hd4 he4
      have hWf : wrs s W = ((wrs s R).1, some at_) := by rw [hWs, wrs, if_pos hdd]
      obtain ⟨bb, rfl⟩ := errV_iface he4
      simp (disch := first | omega | (simp; done) | assumption) [wr64, wrU8, wrU64, Nat.add_assoc, -getElem?_pos, List.getElem?_cons_zero, List.getElem?_cons_succ, t0, t1, t5]
      refine CallW.okof (ToldV he4) ?_
      rintro v5 H5 ⟨k5, n5, e4, e4', e5⟩ hok5
      try simp only [newO_none] at k5 n5
      simp (disch := first | omega | (simp; done) | assumption) [wr64, wrU8, wrU64, Nat.add_assoc, -getElem?_pos, List.getElem?_cons_zero, List.getElem?_cons_succ, e5.1, e5.2]
      have e4n : ¬ v5 = .nilIface := fun e => by have := e4.1 e; cases this
      have hfn : ¬ (wrs s W).2 = none := by rw [hWf]; simp
      refine ⟨by omega, ((k2.trans (KX.of k3)).trans k4).trans (KX.of k5), (wrs s W).1, by rw [hWf]; exact hd4.keeps k5, ⟨hfin.ct, hfin.sok, hfin.st, fun h => absurd h e4n, fun _ => hfin.bad hfn, fun h1 h2 => absurd (hfin.all h1 h2).1 hfn⟩, e4'⟩
    · rw [hww, if_neg hdd] at hd4 he4
      obtain rfl : v4 = .nilIface := he4
      have hWf : wrs s W = wrs ((wrs s R).1.write at_ hd') (li.map wr ++ [(at_, zer)]) := by rw [hWs, wrs, if_neg hdd]
      have hlen4 : ((wrs s R).1.write at_ hd').ct.length = s.ct.length := by simp [DK.write, hlen2]
      have hk04 : KX p L H H4 := (k2.trans (KX.of k3)).trans k4
      have hL := Lay hd4 (JO.kx hd hk04 hj) (BI.kx hd hk04 h) (by rw [hlen4]; exact hat) (fun x hx => by rw [hlen4]; exact hG.good.lt (wr x) (List.mem_map_of_mem hx)) (hs2.write at_ hd') (by omega)
      simp (disch := first | omega | (simp; done) | assumption) [wr64, wrU8, wrU64, Nat.add_assoc, -getElem?_pos, List.getElem?_cons_zero, List.getElem?_cons_succ, t0, t1, t5]
      unfold WrP at hL
      rw [← hWf] at hL
      refine CallW.okof hL ?_
      rintro v5 H5 ⟨n5, k5, hd5, he5⟩ hok5
      try simp only [newO_none] at k5 n5
      obtain ⟨_, g1, g2⟩ := errV_nil he5
      simp (disch := first | omega | (simp; done) | assumption) [wr64, wrU8, wrU64, Nat.add_assoc, -getElem?_pos, List.getElem?_cons_zero, List.getElem?_cons_succ, t0, t1, t5]
      refine CallW.okof (ToldV he5) ?_
      rintro v6 H6 ⟨k6, n6, e4, e4', e5⟩ hok6
      try simp only [newO_none] at k6 n6
      simp (disch := first | omega | (simp; done) | assumption) [wr64, wrU8, wrU64, Nat.add_assoc, -getElem?_pos, List.getElem?_cons_zero, List.getElem?_cons_succ, e5.1, e5.2]
      refine ⟨by omega, (hk04.trans k5).trans (KX.of k6), (wrs s W).1, hd5.keeps k6, ⟨hfin.ct, hfin.sok, hfin.st, fun h => hfin.good (e4.1 h), fun h => hfin.bad fun hh => h (e4.2 hh), fun h1 h2 => ⟨e4.2 (hfin.all h1 h2).1, (hfin.all h1 h2).2⟩⟩, e4'⟩
end Go.Proofs.YtcgkadfgojmmlaaDoor.JN

/- journal.group, where a group is under way. No condition. -/
import Derived.Test.YtcgkadfgojmmlaaDoorJB9
set_option linter.unusedVariables false
set_option linter.unusedSimpArgs false
set_option maxRecDepth 10000
set_option maxHeartbeats 4000000
namespace Go.Proofs.YtcgkadfgojmmlaaDoor.JN
open Go Go.RowKit Go.Proofs.YtcgkadfgojmmlaaDoor Go.Proofs.YtcgkadfgojmmlaaDoor.Abs Go.Proofs.YtcgkadfgojmmlaaDoor.Ic Go.Proofs.YtcgkadfgojmmlaaDoor.EAs Go.Proofs.YtcgkadfgojmmlaaDoor.EErr Go.Proofs.YtcgkadfgojmmlaaDoor.DFn
def grI (x : Ib) : Gr := ⟨x.1, sl x.2, 128⟩
theorem rowsG_I (l : List Ib) : rowsG (l.map grI) = rowsI l := by simp [rowsG, rowsI, rowG, rowI, grI]
theorem BI.bg {H : AH} {v : AV} {l : List Ib} (h : BI H v l) : BG H v (l.map grI) := by
  obtain ⟨b, h1, h2, h3⟩ := h
  refine ⟨.inr ⟨b, by simpa using h1, by rw [rowsG_I]; exact h2⟩, fun x hx => ?_⟩
  obtain ⟨y, hy, rfl⟩ := List.mem_map.1 hx
  exact ⟨rfl, rfl, rfl, by show 128 ≤ 100000; omega⟩
theorem gd_of {at_ most nb : Nat} : ∀ (l : List Ib) (seen : List Int), (∀ x ∈ l, x.1 < nb ∧ ¬ own at_ most x.1 ∧ (x.1 : Int) ∉ seen) → (l.map (·.1)).Nodup → gd at_ most nb seen (l.map grI) = true
  | [], _, _, _ => rfl
  | x :: l, seen, h, hn => by
    rw [List.map_cons, List.nodup_cons] at hn
    obtain ⟨h1, h2, h3⟩ := h x (by simp)
    rw [List.map_cons, gd, if_neg]
    · refine gd_of l _ (fun y hy => ?_) hn.2
      obtain ⟨a1, a2, a3⟩ := h y (by simp [hy])
      refine ⟨a1, a2, fun hm => ?_⟩
      rcases List.mem_append.1 hm with hm | hm
      · exact a3 hm
      · have e : (y.1 : Int) = (x.1 : Int) := by simpa [grI] using hm
        exact hn.1 (by rw [show x.1 = y.1 by omega]; exact List.mem_map_of_mem hy)
    · rintro (c | c | c | c | c)
      · simp [grI] at c; omega
      · simp [grI] at c; omega
      · simp [grI] at c; exact h2 ⟨by omega, by omega⟩
      · exact h3 c
      · exact c rfl
theorem wr_fst (l : List Ib) : (l.map wr).map (·.1) = l.map (·.1) := by simp [wr]
def G1 (jb q n N : Nat) (hd : Bs) (bd : List Bs) (H : AH) (kk : Nat) (tm : Tms) (H' : AH) : Prop := H.keepsAll H' ∧ H.next ≤ H'.next ∧ ∃ (i : Nat) (qs : List Qb), kk = N - i ∧ i ≤ N ∧ OutF H.next H' tBS 1 (tm 7) (rowsQ qs) ∧ (∀ x ∈ qs, QOk H' x ∧ x.1 < H'.next ∧ H.next ≤ x.1) ∧ QOk H' (q, hd) ∧ q < H'.next ∧
  qs.map (·.2) = bd.take i ∧ tm 0 = .ptr jb 0 ∧ tm 4 = .slice q 0 128 1 ∧ tm 6 = .int .u64 (n : Int) ∧ tm 55 = .int .i64 (N : Int) ∧ tm 56 = .int .i64 (i : Int)
def G2 (jb A n a : Nat) (qs : List Qb) (lw : List Wr) (H : AH) (kk : Nat) (tm : Tms) (H' : AH) : Prop := H.keepsAll H' ∧ H.next ≤ H'.next ∧ ∃ (i : Nat) (li : List Ib), kk = n - i ∧ i ≤ n ∧ OutF H.next H' tBk 2 (tm 11) (rowsI li) ∧ (∀ x ∈ li, x.2 ∈ qs) ∧ (∀ x ∈ qs, QOk H' x ∧ x.1 < H'.next ∧ H.next ≤ x.1) ∧
  H'.at_ A = some (.cells false tBS (qs.map sl)) ∧ A < H'.next ∧ li.map wr = lw.take i ∧ tm 0 = .ptr jb 0 ∧ tm 7 = .slice A 0 qs.length 1 ∧ tm 93 = .slice A a n 1 ∧ tm 94 = .int .i64 (n : Int) ∧ tm 95 = .int .i64 (i : Int)
def GrP (lw : List Wr) (H : AH) (r : AV) (H' : AH) : Prop := H.keepsAll H' ∧ H.next ≤ H'.next ∧ ∃ (v : AV) (li : List Ib), r = .tuple [v, .nilIface] ∧ BI H' v li ∧ li.map wr = lw
theorem Group_some {H : AH} {jb p L at_ most : Nat} {s : DK} {lw : List Wr} (hd : DS H p L s) (hj : JO H jb p at_ most) (hat : at_ + need most ≤ s.ct.length) (hnb : s.ct.length ≤ 400) (hm : 1 ≤ most ∧ most ≤ 200) (h : s.dead = false) (hl0 : 1 ≤ lw.length) (hlm : lw.length ≤ most)
    (hg : Good at_ most s.ct.length lw) (hz : vw s.ct at_ = headB (lw.length : Int) (bodyB lw)) (hb : ∀ k (hk : k < (bodyB lw).length), vw s.ct (at_ + 1 + k) = (bodyB lw)[k]) :
    ACall Tryd.prog 39 [.ptr jb 0] H (GrP lw H) := by
  refine acall_ok (bodyP_of fits39) fun hok => acall_of fits39 (by simp) ?_
  have hj0 := hj
  unfold JO at hj
  have hat0 : at_ < s.ct.length := by unfold need at hat; omega
  have hbl := bodyB_len lw
  have hpd := hd.2.1
  have hll : lists lw.length ≤ 13 := by unfold lists; omega
  simp (disch := first | omega | (simp; done) | assumption) [wr64, wrU8, wrU64, Nat.add_assoc, -getElem?_pos, List.getElem?_cons_zero, List.getElem?_cons_succ, ic39, rs39, hj]
  refine CallW.okof (Read hd hat0 h) ?_
  rintro v1 H1 ⟨h1, h2, q, hq1, hq2, rfl, hq⟩ hok1
  rw [hz] at hq
  try simp only [newO_none] at h1 h2 hq1
  have hb8 := b2s_part (n := 8) hq.2 (by rw [hq.1]; omega)
  dsimp only at hb8
  rw [head_magic] at hb8
  unfold mgc at hb8
  have hnum := head_num (n := lw.length) (by omega) (bodyB lw)
  simp (disch := first | omega | (simp; done) | assumption) [wr64, wrU8, wrU64, Nat.add_assoc, -getElem?_pos, List.getElem?_cons_zero, List.getElem?_cons_succ, slc8]
  refine CallW.val (Get (o := 8) (m := 120) hq.2 (by rw [hq.1]; omega) (by omega)) ?_
  dsimp only
  rw [hnum]
  have hj1 := h1 _ _ hj
  have c1 : ¬ (lw.length : Int) < 1 := by omega
  have c2 : ¬ (most : Int) < (lw.length : Int) := by omega
  have c3 : IntKind.u64.wrap (most : Int) = (most : Int) := wrU64 (by omega) (by omega)
  have c4 : IntKind.i64.wrap (lw.length : Int) = (lw.length : Int) := wrapI (by omega) (by omega)
  simp (disch := first | omega | (simp; done) | assumption) [wr64, wrU8, wrU64, Nat.add_assoc, -getElem?_pos, List.getElem?_cons_zero, List.getElem?_cons_succ, slc08, hb8, hj1, c1, c2, c3, c4]
  refine CallW.val (Lists (by omega) _) ?_
  have hdd : ∀ {H' : AH}, H.keepsAll H' → DS H' p L s := fun hk => hd.keeps hk
  simp (disch := first | omega | (simp; done) | assumption) [wr64, wrU8, wrU64, Nat.add_assoc, -getElem?_pos, List.getElem?_cons_zero, List.getElem?_cons_succ, c4]
  have eN : (lists lw.length : Int) + (lw.length : Int) = (((bodyB lw).length : Nat) : Int) := by omega
  rw [eN]
  generalize hhd : headB (lw.length : Int) (bodyB lw) = hd' at *
  refine iwp_loop (G1 jb q lw.length (bodyB lw).length hd' (bodyB lw) H) (bodyB lw).length ⟨h1, h2, 0, [], rfl, by omega, .inl ⟨rfl, by simp⟩, by simp, hq, hq2, by simp, by simp, by simp, by simp, by simp, by simp⟩ ?_
  clear hb8 hj1 hz hok1
  rintro kk tm H2 ⟨k2, n2, i, qs, rfl, hi, ho, hqs, hqq, hqn, hmap, t0, t4, t6, t55, t56⟩
  have hj2 := k2 _ _ hj
  by_cases hlt : i < (bodyB lw).length
  · have hlt' : (i : Int) < ((bodyB lw).length : Int) := by omega
    have hrd := hb i hlt
    have hri : at_ + 1 + i < s.ct.length := by unfold need lists at hat; rw [hbl] at hlt; unfold lists at hlt; omega
    have hR := Read (hdd k2) hri h
    rw [hrd, show ((at_ + 1 + i : Nat) : Int) = (at_ : Int) + 1 + (i : Int) by omega] at hR
    have htk : (bodyB lw).take (i + 1) = (bodyB lw).take i ++ [(bodyB lw)[i]] := by rw [List.take_add_one, List.getElem?_eq_getElem hlt]; rfl
    have hql : qs.length = i := by have := congrArg List.length hmap; simp at this; omega
    generalize (bodyB lw)[i] = bi at *
    have hov1 : ∀ w, tm 7 = w → w.cells = [w] ∧ w.one = true := fun w e => by subst e; rcases ho with ⟨_, hh⟩ | ⟨q, hh, _⟩ <;> (rw [hh]; exact ⟨rfl, rfl⟩)
    generalize t7 : tm 7 = ov at *
    simp (disch := first | omega | (simp; done) | assumption) [wr64, wrU8, wrU64, Nat.add_assoc, -getElem?_pos, List.getElem?_cons_zero, List.getElem?_cons_succ, t0, t4, t6, t55, t56, t7, hlt, hlt', hj2]
    refine CallW.okof hR ?_
    rintro v3 H3 ⟨k3, n3, q3, hq3, hq3n, rfl, hqo3⟩ hok3
    try simp only [newO_none] at k3 n3 hq3
    obtain ⟨v', H4, a1, p1, p2, p3, p4, p5, p6⟩ := appQ (x := (q3, bi)) (H := H3) (ho.keeps k3 n3) (fun y hy => ⟨(hqs y hy).1.1, k3 _ _ (hqs y hy).1.2⟩) hqo3 (fun y hy => by
      rcases List.mem_append.1 hy with hy | hy
      · have := (hqs y hy).2.1; omega
      · obtain rfl := List.mem_singleton.1 hy; exact hq3n) (by omega) (by omega)
    simp only [sl] at a1
    simp (disch := first | omega | (simp; done) | assumption) [wr64, wrU8, wrU64, Nat.add_assoc, -getElem?_pos, List.getElem?_cons_zero, List.getElem?_cons_succ, t0, t4, t6, t55, t56, t7]
    refine Try.intro a1 ?_
    simp (disch := first | omega | (simp; done) | assumption) [wr64, wrU8, wrU64, Nat.add_assoc, -getElem?_pos, List.getElem?_cons_zero, List.getElem?_cons_succ, t0, t4, t6, t55, t56]
    refine ⟨(bodyB lw).length - (i + 1), by omega, fun y o hh => p4 _ _ (hok _ _ hh) (k3 _ _ (k2 _ _ hh)), by omega, i + 1, qs ++ [(q3, bi)], rfl, by omega, by simpa using p1, fun y hy => ⟨p2 y hy, ?_⟩, ⟨hqq.1, p6 _ _ _ (by omega) (k3 _ _ hqq.2) (by decide)⟩, by omega, by rw [List.map_append, hmap, htk]; rfl, by simp [t0], by simp [t4], by simp [t6], by simp [t55], by simp⟩
    rcases List.mem_append.1 hy with hy | hy
    · have := (hqs y hy).2; omega
    · obtain rfl := List.mem_singleton.1 hy; dsimp only; omega
  · obtain rfl : i = (bodyB lw).length := by omega
    rw [List.take_of_length_le (Nat.le_refl _)] at hmap
    have hql : qs.length = (bodyB lw).length := by have := congrArg List.length hmap; simpa using this
    obtain ⟨A, e7, hA⟩ : ∃ A, tm 7 = .slice A 0 qs.length 1 ∧ H2.at_ A = some (.cells false tBS (qs.map sl)) ∧ H.next ≤ A := by
      rcases ho with ⟨hh, _⟩ | ⟨A, e, hne, hA, hB, _⟩
      · have : qs.length = 0 := by have := congrArg List.length hh; simpa [rowsQ] using this
        omega
      · refine ⟨A, by rw [e, rowsQ_len], ?_, hB⟩
        rw [hA]
        congr 2
        clear hmap hqs hql e hne hA
        induction qs with
        | nil => rfl
        | cons x r ih => simp [rowsQ] at ih ⊢; exact ih
    have hRQ : RQ H2 (.slice A 0 qs.length 1) qs := ⟨A, rfl, hA.1, fun x hx => (hqs x hx).1⟩
    have hHd := fun H => Head (H := H) (v := .slice A 0 qs.length 1) (l := qs) lw.length (by omega)
    simp (disch := first | omega | (simp; done) | assumption) [wr64, wrU8, wrU64, Nat.add_assoc, -getElem?_pos, List.getElem?_cons_zero, List.getElem?_cons_succ, t0, t4, t6, t55, t56, e7, c4]
    refine CallW.okof (hHd _ hRQ (by omega)) ?_
    rintro v3 H3 ⟨k3, n3, q3, hq3, hq3n, rfl, hl3, hqo3⟩ hok3
    try simp only [newO_none] at k3 n3 hq3
    rw [hmap, hhd] at hl3 hqo3
    have hE := Equal (a := (q, hd')) (b := (q3, hd')) (H := H3) ⟨hqq.1, k3 _ _ hqq.2⟩ ⟨hl3, hqo3⟩
    simp only [sl, decide_true] at hE
    simp (disch := first | omega | (simp; done) | assumption) [wr64, wrU8, wrU64, Nat.add_assoc, -getElem?_pos, List.getElem?_cons_zero, List.getElem?_cons_succ, t0, t4, t6, e7]
    refine CallW.val hE ?_
    simp (disch := first | omega | (simp; done) | assumption) [wr64, wrU8, wrU64, Nat.add_assoc, -getElem?_pos, List.getElem?_cons_zero, List.getElem?_cons_succ, t0, t4, t6, e7, c4]
    refine CallW.val (Lists (by omega) _) ?_
    have hk03 : H.keepsAll H3 := fun y o hh => k3 _ _ (k2 _ _ hh)
    have hqs3 : ∀ x ∈ qs, QOk H3 x ∧ x.1 < H3.next ∧ H.next ≤ x.1 := fun x hx => ⟨⟨(hqs x hx).1.1, k3 _ _ (hqs x hx).1.2⟩, by have := (hqs x hx).2; omega, (hqs x hx).2.2⟩
    have hA3 := k3 _ _ hA.1
    have hAB := hA.2
    have hAn : A < H3.next := hok3 _ _ hA3
    have hqget : ∀ k (hk : k < qs.length) (b : Bs), (bodyB lw)[k]? = some b → qs[k].2 = b := fun k hk b hb => by
      have h9 : (qs.map (·.2))[k]? = some b := by rw [hmap]; exact hb
      rw [List.getElem?_map, List.getElem?_eq_getElem hk] at h9
      exact Option.some.inj h9
    have hnumq : ∀ k (hk : k < lists lw.length) (hk' : k < qs.length), qs[k].2 = numB lw k := fun k hk hk' => hqget k hk' _ (bodyB_num hk)
    have hdatq : ∀ k (hk : k < lw.length) (hk' : lists lw.length + k < qs.length), qs[lists lw.length + k].2 = lw[k].2 := fun k hk hk' => hqget _ hk' _ (bodyB_dat hk)
    have hpos : 0 < lists lw.length := by unfold lists; omega
    have hdiv : ∀ k, k < lw.length → k / 16 < lists lw.length := fun k hk => by unfold lists; omega
    have hsm : ∀ x ∈ lw, x.1 < 512 := fun x hx => by have := hg.lt x hx; omega
    have hng : ∀ k (hk : k < lw.length), get8 ((numB lw (k / 16)).drop (8 * (k % 16))) = (lw[k].1 : Int) := fun k hk => numB_get hk hsm
    have hnl : qs.length = lists lw.length + lw.length := by omega
    clear hHd hE hqo3 hl3 hRQ hmap hqget hqq hq k3 hqs ho hhd hb hbl eN
    generalize lists lw.length = a at *
    have hs : slcA 1 (some (a : Int)) none none (.slice A 0 qs.length 1) = some (.slice A a lw.length 1) := by
      have hb : Abs.bounds qs.length (some (a : Int)) none none = some (a, qs.length) := by
        simp [Abs.bounds]
        omega
      simp only [slcA, if_true, hb, Option.map_some]
      rw [if_neg (by omega)]
      simp
      omega
    simp (disch := first | omega | (simp; done) | assumption) [wr64, wrU8, wrU64, Nat.add_assoc, -getElem?_pos, List.getElem?_cons_zero, List.getElem?_cons_succ, t0, t4, t6, e7, c4, hs]
    refine iwp_loop (G2 jb A lw.length a qs lw H) lw.length ⟨hk03, by omega, 0, [], rfl, by omega, .inl ⟨rfl, by simp⟩, by simp, hqs3, hA3, hAn, by simp, by simp [t0], by simp [e7], by simp, by simp, by simp⟩ ?_
    clear hk03 hqs3 hA3 t0 t4 t6 t55 t56 e7
    clear tm
    rintro kk tm H5 ⟨k5, n5, i, li, rfl, hi, ho, hlq, hqs5, hA5, hA5n, hlm5, t0, t7, t93, t94, t95⟩
    by_cases hlt : i < lw.length
    · have hlt' : (i : Int) < (lw.length : Int) := by omega
      have hai : a + i < qs.length := by omega
      have hdi := hdiv i hlt
      have hdq : i / 16 < qs.length := by omega
      have e1 : (i : Int).tdiv 16 = ((i / 16 : Nat) : Int) := by rw [Int.tdiv_eq_ediv_of_nonneg (by omega)]; omega
      have e2 : (i : Int).tmod 16 = ((i % 16 : Nat) : Int) := by rw [Int.tmod_eq_emod_of_nonneg (by omega)]; omega
      have l1 : (qs.map sl)[a + i]? = some (sl qs[a + i]) := by rw [List.getElem?_map, List.getElem?_eq_getElem hai]; rfl
      have l2 : (qs.map sl)[i / 16]? = some (sl qs[i / 16]) := by rw [List.getElem?_map, List.getElem?_eq_getElem hdq]; rfl
      have hx1 := hqs5 _ (List.getElem_mem hai)
      have hm1 := List.getElem_mem hai
      have hx2 := hqs5 _ (List.getElem_mem hdq)
      have v1 := hdatq i hlt hai
      have v2 := hnumq _ hdi hdq
      have v3 := hng i hlt
      have htk : lw.take (i + 1) = lw.take i ++ [lw[i]] := by rw [List.take_add_one, List.getElem?_eq_getElem hlt]; rfl
      have hwlt := hg.lt _ (List.getElem_mem hlt)
      generalize qs[a + i] = xd at *
      generalize qs[i / 16] = xn at *
      generalize lw[i] = w at *
      have d16 : (i / 16 : Nat) ≤ i := Nat.div_le_self _ _
      have r16 : i % 16 < 16 := Nat.mod_lt _ (by omega)
      generalize i / 16 = d at *
      generalize i % 16 = r at *
      rw [← v2] at v3
      have hw : IntKind.i64.wrap (w.1 : Int) = (w.1 : Int) := wrapI (by omega) (by omega)
      have hwd : IntKind.i64.wrap (d : Int) = (d : Int) := wrapI (by omega) (by omega)
      have hdq' : (d : Int) < (qs.length : Int) := by omega
      have hs8 : slcA 1 (some ((r : Int) * 8)) none none (.slice xn.1 0 128 1) = some (.slice xn.1 (8 * r) (128 - 8 * r) 1) := by
        have hb : Abs.bounds 128 (some ((r : Int) * 8)) none none = some (8 * r, 128) := by
          simp [Abs.bounds]
          omega
        simp only [slcA, if_true, hb, Option.map_some]
        rw [if_neg (by omega)]
        simp
      have hov1 : ∀ w, tm 11 = w → w.cells = [w] ∧ w.one = true := fun w e => by subst e; rcases ho with ⟨_, hh⟩ | ⟨q, hh, _⟩ <;> (rw [hh]; exact ⟨rfl, rfl⟩)
      generalize t11 : tm 11 = ov at *
      have hll2 : li.length = i := by have := congrArg List.length hlm5; simp at this; omega
      obtain ⟨v', H6, a1, p1, p2, p3, p4, _⟩ := appendOutG (bytes := 32) (x := rowI (w.1, xd)) ho (allI li) (by omega) n5 rfl rfl (by simp [rowsI]; omega) (by simp [rowsI]; omega)
      have p6 := appX ho p4
      have p3' : ∀ y o, y < H.next → H5.at_ y = some o → H6.at_ y = some o := p3
      simp only [rowI] at a1
      simp only [sl] at l1 l2
      simp (disch := first | omega | (simp; done) | assumption) [wr64, wrU8, wrU64, Nat.add_assoc, -getElem?_pos, List.getElem?_cons_zero, List.getElem?_cons_succ, t0, t7, t93, t94, t95, t11, hlt, hlt', hA5, l1, l2, e1, e2, hwd, hdq, hdq', hs8]
      refine CallW.val (Get (bs := xn.2) (o := 8 * r) (m := 128 - 8 * r) hx2.1.2 (by rw [hx2.1.1]; omega) (by omega)) ?_
      rw [v3]
      simp (disch := first | omega | (simp; done) | assumption) [wr64, wrU8, wrU64, Nat.add_assoc, -getElem?_pos, List.getElem?_cons_zero, List.getElem?_cons_succ, t0, t7, t93, t94, t95, t11, hw]
      refine Try.intro (by simpa [sl] using a1) ?_
      simp (disch := first | omega | (simp; done) | assumption) [wr64, wrU8, wrU64, Nat.add_assoc, -getElem?_pos, List.getElem?_cons_zero, List.getElem?_cons_succ, t0, t7, t93, t94, t95]
      have hk6 : H.keepsAll H6 := fun y o hh => p3' _ _ (hok _ _ hh) (k5 _ _ hh)
      refine ⟨lw.length - (i + 1), by omega, hk6, by omega, i + 1, li ++ [(w.1, xd)], rfl, by omega, by simpa [rowsI] using p1, fun x hx => ?_, fun x hx => ⟨⟨(hqs5 x hx).1.1, p6 _ _ _ (hqs5 x hx).2.1 (hqs5 x hx).1.2 (by decide)⟩, by have := (hqs5 x hx).2; omega, (hqs5 x hx).2.2⟩, p6 _ _ _ hA5n hA5 (by decide), by omega, ?_, by simp [t0], by simp [t7], by simp [t93], by simp [t94], by simp⟩
      · rcases List.mem_append.1 hx with hx | hx
        · exact hlq x hx
        · obtain rfl := List.mem_singleton.1 hx; exact hm1
      · rw [List.map_append, hlm5, htk]
        simp only [List.map_cons, List.map_nil, wr]
        rw [v1]
    · obtain rfl : i = lw.length := by omega
      rw [List.take_of_length_le (Nat.le_refl _)] at hlm5
      have hll2 : li.length = lw.length := by have := congrArg List.length hlm5; simpa using this
      have hBI : BI H5 (tm 11) li := by
        rcases ho with ⟨hh, _⟩ | ⟨b, e, hne, hb, _⟩
        · have : li.length = 0 := by have := congrArg List.length hh; simpa [rowsI] using this
          omega
        · exact ⟨b, by rw [e]; simp [rowsI], hb, fun x hx => (hqs5 _ (hlq x hx)).1⟩
      have hgd : gd at_ most s.ct.length [] (li.map grI) = true := by
        refine gd_of li [] (fun x hx => ?_) ?_
        · have hmx : wr x ∈ lw := by rw [← hlm5]; exact List.mem_map_of_mem hx
          exact ⟨hg.lt _ hmx, hg.own _ hmx, by simp⟩
        · rw [← wr_fst, hlm5]; exact hg.nodup
      have hJG := JGood (hdd k5) (show JO H5 jb p at_ most from k5 _ _ hj0) hm (by omega) hBI.bg (by simp; omega)
      rw [hgd] at hJG
      have hov1 : ∀ w, tm 11 = w → w.cells = [w] ∧ w.one = true := fun w e => by subst e; rcases ho with ⟨_, hh⟩ | ⟨q, hh, _⟩ <;> (rw [hh]; exact ⟨rfl, rfl⟩)
      generalize t11 : tm 11 = ov at *
      obtain ⟨o1, o2⟩ := hov1 ov rfl
      simp (disch := first | omega | (simp; done) | assumption) [wr64, wrU8, wrU64, Nat.add_assoc, -getElem?_pos, List.getElem?_cons_zero, List.getElem?_cons_succ, t0, t7, t93, t94, t95, t11]
      refine CallW.val hJG ?_
      simp (disch := first | omega | (simp; done) | assumption) [wr64, wrU8, wrU64, Nat.add_assoc, -getElem?_pos, List.getElem?_cons_zero, List.getElem?_cons_succ, t11, o1, o2]
      exact ⟨k5, n5, ov, li, rfl, hBI, hlm5⟩
end Go.Proofs.YtcgkadfgojmmlaaDoor.JN

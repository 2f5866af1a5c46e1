/- JournalPlays: what a round comes to. No condition. -/
import Derived.Test.YtcgkadfgojmmlaaDoorLPc
set_option linter.unusedVariables false
set_option linter.unusedSimpArgs false
set_option maxRecDepth 100000
set_option maxHeartbeats 4000000
namespace Go.Proofs.YtcgkadfgojmmlaaDoor.JN
open Go Go.RowKit Go.Proofs.YtcgkadfgojmmlaaDoor Go.Proofs.YtcgkadfgojmmlaaDoor.Abs Go.Proofs.YtcgkadfgojmmlaaDoor.Ic Go.Proofs.YtcgkadfgojmmlaaDoor.EAs Go.Proofs.YtcgkadfgojmmlaaDoor.EErr Go.Proofs.YtcgkadfgojmmlaaDoor.DFn
theorem aft_same {base : Nat → Bs} {l : List Wr} (h : ∀ x ∈ l, x.2 = base x.1) : aft base l = base := by
  funext i
  unfold aft
  cases hf : l.find? (fun x => x.1 == i) with
  | none => rfl
  | some x =>
    have h1 := List.mem_of_find?_eq_some hf
    have h2 : x.1 = i := by simpa using List.find?_some hf
    show x.2 = base i
    rw [h x h1, h2]
def P8I (v : AV) (p L jb O N i : Nat) (s : DK) (o : OpA) (va : AV) (li : List Zb) (bs : Nat → Bs) (nw : List Int) (H : AH) (kk : Nat) (tm : Tms) (H' : AH) : Prop := ∃ k : Nat, kk = li.length - k ∧ k ≤ li.length ∧ PM H H' p L jb O N s o nw ∧ GZ H.next H' va li ∧ (∀ j (hj : j < li.length), j < k → li[j].2.2 = bs li[j].1.toNat) ∧ TMr v p jb O N i tm ∧
  tm 9 = va ∧ tm 16 = .bool true ∧ tm 17 = .bool false ∧ tm 18 = .int .i64 (k : Int)
theorem Pl8 {v : AV} {p L jb O N i : Nat} {s : DK} {o : OpA} {va : AV} {li : List Zb} {bs : Nat → Bs} {nw : List Int} {H H1 : AH} {tm : Tms} (hok : H.ok) (hM : PM H H1 p L jb O N s o nw) (hg : GZ H.next H1 va li) (hl : li.length ≤ 100) (hct : s.ct.length = 40) (ha : s.dead = false) (hnw : Nw nw bs)
    (hst : St0 4 6 bs s.ct ∨ St0 4 6 (aft bs (lwZ li)) s.ct) (hno : ∀ x ∈ li, 22 ≤ x.1 ∧ x.1 < 40) (hnd : ((lwZ li).map (·.1)).Nodup) (hT : TMr v p jb O N i tm) (t9 : tm 9 = va) (t16 : tm 16 = .bool true) (t17 : tm 17 = .bool false) (Q : IPost)
    (hX : ∀ tm' H2 dn, PM H H2 p L jb O N s o nw → GZ H.next H2 va li → TMr v p jb O N i tm' → tm' 9 = va → tm' 17 = .bool dn → (dn = true → St0 4 6 (aft bs (lwZ li)) s.ct) → (dn = false → St0 4 6 bs s.ct) → Q .normal tm' H2) :
    IWP Tryd.prog (part_ [1, 1, 1, 1, 1, 1, 0, 1, 0, 0, 1, 0, 0, 1, 1, 1, 1, 1, 1, 1, 1, 1, 1, 1, 1, 1, 1, 0] PlC) Q tm H1 := by
  obtain ⟨t0, t3, t5, t6, t7, t8⟩ := id hT
  simp (disch := first | omega | (simp; done) | assumption) [wr64, wrU8, wrU64, Nat.add_assoc, -getElem?_pos, List.getElem?_cons_zero, List.getElem?_cons_succ, part_, PlC, ic6, t0, t3, t5, t6, t7, t8, t9, t16, t17]
  refine iwp_loop (P8I v p L jb O N i s o va li bs nw H) li.length ⟨0, rfl, by omega, hM, hg, fun j _ h => by omega, ⟨by simp [t0], by simp [t3], by simp [t5], by simp [t6], by simp [t7], by simp [t8]⟩, by simp [t9], by simp [t16], by simp [t17], by simp⟩ ?_
  clear t0 t3 t5 t6 t7 t8 t9 t16 t17 hT hM hg
  clear tm
  rintro kk tm H2 ⟨k, rfl, hk, hM, hg, hall, hT, t9, t16, t17, t18⟩
  obtain ⟨t0, t3, t5, t6, t7, t8⟩ := id hT
  obtain ⟨hv1, hv2, hv3⟩ := hg.one
  by_cases hlt : k < li.length
  · have hlt' : (k : Int) < (li.length : Int) := by omega
    have hxm := List.getElem_mem hlt
    obtain ⟨n1, n2⟩ := hno _ hxm
    have hwm : (li[k].1.toNat, li[k].2.2) ∈ lwZ li := List.mem_map.2 ⟨zI li[k], List.mem_map_of_mem hxm, rfl⟩
    have hstep : li[k].2.2 = bs li[k].1.toNat → ∀ j (hj : j < li.length), j < k + 1 → li[j].2.2 = bs li[j].1.toNat := fun h j hj hjk => by
      by_cases e : j = k
      · subst e; exact h
      · exact hall j hj (by omega)
    have hld := fun {H3 : AH} (hg3 : GZ H.next H3 va li) => hg3.ld hlt
    have hqx := fun {H3 : AH} (hg3 : GZ H.next H3 va li) => (hg3.2 _ hxm).1
    generalize li[k] = x at *
    obtain ⟨d, hd⟩ : ∃ d : Nat, x.1 = 22 + (d : Int) := ⟨(x.1 - 22).toNat, by omega⟩
    have hd18 : d < 18 := by omega
    have hd18' : (d : Int) < 18 := by omega
    have hd17 : d ≤ 17 := by omega
    have hxt : x.1.toNat = 22 + d := by omega
    rw [hxt] at hwm hstep
    have hdn : d < nw.length := by rw [hnw.len]; exact hd18
    obtain ⟨w0, w1, w2⟩ := hnw.val d hdn
    have hR := JRead (i := 22 + d) hM.js.ds hM.js.jo (by omega) ha
    rw [show ((22 + d : Nat) : Int) = 22 + (d : Int) by omega] at hR
    have hV : (vw s.ct (22 + d) = bs (22 + d) ∧ St0 4 6 bs s.ct) ∨ (vw s.ct (22 + d) = x.2.2 ∧ St0 4 6 (aft bs (lwZ li)) s.ct) := by
      rcases hst with h | h
      · exact .inl ⟨h.2 _ (notown (by omega)), h⟩
      · refine .inr ⟨?_, h⟩
        rw [h.2 _ (notown (by omega))]
        exact aft_mem (x := (22 + d, x.2.2)) hnd hwm
    have hsub : (22 : Int) + (d : Int) - 22 = (d : Int) := by omega
    have hnk : (nw.map (AV.int .i64))[d]? = some (.int .i64 nw[d]) := by simp [hdn]
    have hnl : (nw.map (AV.int .i64)).length = 18 := by simp [hnw.len]
    generalize nw[d] = wv at *
    generalize hXv : vw s.ct (22 + d) = X at *
    rw [w2] at hstep hV
    obtain ⟨b, hvb, l0, _⟩ := hld hg
    rw [hd] at l0
    simp (disch := first | omega | (simp; done) | assumption) [wr64, wrU8, wrU64, Nat.add_assoc, -getElem?_pos, List.getElem?_cons_zero, List.getElem?_cons_succ, t0, t3, t5, t6, t7, t8, t9, t16, t17, t18, hlt, hlt', hv3, hvb]
    refine Try.intro (by simpa using l0) ?_
    simp (disch := first | omega | (simp; done) | assumption) [wr64, wrU8, wrU64, Nat.add_assoc, -getElem?_pos, List.getElem?_cons_zero, List.getElem?_cons_succ, t0, t3, t5, t6, t7, t8, t9, t16, t17, t18, hvb]
    refine CallW.okof hR ?_
    rintro v4 H4 ⟨k4, n4, q, hq1, hq2, rfl, hQ⟩ hok4
    try simp only [newO_none] at k4 n4 hq1
    have b1 := b2s_q hQ
    simp only [sl] at b1
    have hM4 := hM.keeps k4 hok4 n4
    have hg4 := hg.keeps k4 n4
    obtain ⟨b4, hvb4, l04, l14⟩ := hld hg4
    obtain rfl : b4 = b := by rw [hvb] at hvb4; injection hvb4 with h; exact h.symm
    rw [hd] at l04
    have hqx4 := hqx hg4
    have bx := b2s_q hqx4
    have hnat := hM4.nat_
    simp only [sl] at bx l14
    simp (disch := first | omega | (simp; done) | assumption) [wr64, wrU8, wrU64, Nat.add_assoc, -getElem?_pos, List.getElem?_cons_zero, List.getElem?_cons_succ, t0, t3, t5, t6, t7, t8, t9, t16, t17, t18, hvb, hlt, hlt', b1]
    refine Try.intro (by simpa [Nat.add_assoc] using l14) ?_
    simp (disch := first | omega | (simp; done) | assumption) [wr64, wrU8, wrU64, Nat.add_assoc, -getElem?_pos, List.getElem?_cons_zero, List.getElem?_cons_succ, t0, t3, t5, t6, t7, t8, t9, t16, t17, t18, hvb, hlt, hlt', bx]
    refine Try.intro (by simpa using l04) ?_
    simp (disch := first | omega | (simp; done) | assumption) [wr64, wrU8, wrU64, Nat.add_assoc, -getElem?_pos, List.getElem?_cons_zero, List.getElem?_cons_succ, t0, t3, t5, t6, t7, t8, t9, t16, t17, t18, hvb, hsub, hd18, hd18', hd17, hnat, hnl, hnk]
    refine CallW.val (IsC wv w0 (by omega) _) ?_
    by_cases he : x.2.2 = isB wv
    · have hbx := bx
      rw [he] at hbx
      simp (disch := first | omega | (simp; done) | assumption) [wr64, wrU8, wrU64, Nat.add_assoc, -getElem?_pos, List.getElem?_cons_zero, List.getElem?_cons_succ, t0, t3, t5, t6, t7, t8, t9, t16, t17, t18, hvb, he]
      refine ⟨⟨by simpa using l14, hbx⟩, ?_⟩
      rw [← hvb]
      exact ⟨li.length - (k + 1), by omega, k + 1, rfl, by omega, hM4, hg4, hstep he, ⟨by simp [t0], by simp [t3], by simp [t5], by simp [t6], by simp [t7], by simp [t8]⟩, by simp [t9, hvb], by simp [t16], by simp [t17], by simp⟩
    · simp (disch := first | omega | (simp; done) | assumption) [wr64, wrU8, wrU64, Nat.add_assoc, -getElem?_pos, List.getElem?_cons_zero, List.getElem?_cons_succ, t0, t3, t5, t6, t7, t8, t9, t16, t17, t18, hvb, he, b1]
      refine ⟨⟨by simpa using l14, bx⟩, ?_⟩
      simp (disch := first | omega | (simp; done) | assumption) [wr64, wrU8, wrU64, Nat.add_assoc, -getElem?_pos, List.getElem?_cons_zero, List.getElem?_cons_succ, t0, t3, t5, t6, t7, t8, t9, t16, t17, t18, hvb, he, b1, hlt, hlt']
      refine Try.intro (by simpa [Nat.add_assoc] using l14) ?_
      simp (disch := first | omega | (simp; done) | assumption) [wr64, wrU8, wrU64, Nat.add_assoc, -getElem?_pos, List.getElem?_cons_zero, List.getElem?_cons_succ, t0, t3, t5, t6, t7, t8, t9, t16, t17, t18, hvb, he, b1, bx]
      rcases hV with ⟨h1, h2⟩ | ⟨h1, h2⟩
      · have hne : ¬ X = x.2.2 := fun e => he (by rw [← e, h1])
        exact hX _ H4 false hM4 hg4 ⟨by simp [t0], by simp [t3], by simp [t5], by simp [t6], by simp [t7], by simp [t8]⟩ (by simp [t9, hvb]) (by simp [hne]) (fun h => by cases h) fun _ => h2
      · exact hX _ H4 true hM4 hg4 ⟨by simp [t0], by simp [t3], by simp [t5], by simp [t6], by simp [t7], by simp [t8]⟩ (by simp [t9, hvb]) (by simp [h1]) (fun _ => h2) fun h => by cases h
  · have hlt' : ¬ (k : Int) < (li.length : Int) := by omega
    obtain rfl : k = li.length := by omega
    simp (disch := first | omega | (simp; done) | assumption) [wr64, wrU8, wrU64, Nat.add_assoc, -getElem?_pos, List.getElem?_cons_zero, List.getElem?_cons_succ, t0, t3, t5, t6, t7, t8, t9, t16, t17, t18, hlt, hlt', hv3]
    refine hX _ H2 false hM hg ⟨by simp [t0], by simp [t3], by simp [t5], by simp [t6], by simp [t7], by simp [t8]⟩ (by simp [t9]) (by simp [t17]) (fun h => by cases h) fun _ => ?_
    rcases hst with h | h
    · exact h
    · rw [aft_same] at h
      · exact h
      · intro y hy
        obtain ⟨z, hz, rfl⟩ := List.mem_map.1 hy
        obtain ⟨x, hx, rfl⟩ := List.mem_map.1 hz
        obtain ⟨j, hj, rfl⟩ := List.getElem_of_mem hx
        exact hall j hj hj
theorem Pl8f {v : AV} {p jb O N i n : Nat} {va : AV} {H1 : AH} {tm : Tms} (hv : lenS va = some n) (hT : TMr v p jb O N i tm) (t9 : tm 9 = va) (t16 : tm 16 = .bool false) (t17 : tm 17 = .bool true) (Q : IPost)
    (hX : ∀ tm', TMr v p jb O N i tm' → tm' 9 = va → tm' 17 = .bool true → Q .normal tm' H1) : IWP Tryd.prog (part_ [1, 1, 1, 1, 1, 1, 0, 1, 0, 0, 1, 0, 0, 1, 1, 1, 1, 1, 1, 1, 1, 1, 1, 1, 1, 1, 1, 0] PlC) Q tm H1 := by
  obtain ⟨t0, t3, t5, t6, t7, t8⟩ := id hT
  simp (disch := first | omega | (simp; done) | assumption) [wr64, wrU8, wrU64, Nat.add_assoc, -getElem?_pos, List.getElem?_cons_zero, List.getElem?_cons_succ, part_, PlC, ic6, t0, t3, t5, t6, t7, t8, t9, t16, t17]
  refine iwp_loop (fun kk tm' H' => H' = H1 ∧ TMr v p jb O N i tm' ∧ tm' 9 = va ∧ tm' 16 = .bool false ∧ tm' 17 = .bool true ∧ tm' 18 = .int .i64 0) 0 ⟨rfl, ⟨by simp [t0], by simp [t3], by simp [t5], by simp [t6], by simp [t7], by simp [t8]⟩, by simp [t9], by simp [t16], by simp [t17], by simp⟩ ?_
  clear t0 t3 t5 t6 t7 t8 t9 t16 t17 hT
  clear tm
  rintro kk tm H2 ⟨rfl, hT, t9, t16, t17, t18⟩
  obtain ⟨t0, t3, t5, t6, t7, t8⟩ := id hT
  by_cases hlt : 0 < n
  · simp (disch := first | omega | (simp; done) | assumption) [wr64, wrU8, wrU64, Nat.add_assoc, -getElem?_pos, List.getElem?_cons_zero, List.getElem?_cons_succ, t0, t3, t5, t6, t7, t8, t9, t16, t17, t18, hlt, hv]
    exact hX _ ⟨by simp [t0], by simp [t3], by simp [t5], by simp [t6], by simp [t7], by simp [t8]⟩ (by simp [t9]) (by simp [t17])
  · simp (disch := first | omega | (simp; done) | assumption) [wr64, wrU8, wrU64, Nat.add_assoc, -getElem?_pos, List.getElem?_cons_zero, List.getElem?_cons_succ, t0, t3, t5, t6, t7, t8, t9, t16, t17, t18, hlt, hv]
    exact hX _ ⟨by simp [t0], by simp [t3], by simp [t5], by simp [t6], by simp [t7], by simp [t8]⟩ (by simp [t9]) (by simp [t17])
theorem PCf {v : AV} {p jb O N i : Nat} {H1 : AH} {tm : Tms} (hT : TMr v p jb O N i tm) (t17 : tm 17 = .bool false) (Q : IPost) (hX : ∀ tm', TMr v p jb O N i tm' → Q .normal tm' H1) : IWP Tryd.prog (part_ [1, 1, 1, 1, 1, 1, 0, 1, 0, 0, 1, 0, 0, 1, 1, 1, 1, 1, 1, 1, 1, 1, 1, 1, 1, 1, 1, 1, 0] PlC) Q tm H1 := by
  obtain ⟨t0, t3, t5, t6, t7, t8⟩ := id hT
  simp (disch := first | omega | (simp; done) | assumption) [wr64, wrU8, wrU64, Nat.add_assoc, -getElem?_pos, List.getElem?_cons_zero, List.getElem?_cons_succ, part_, PlC, ic6, t0, t3, t5, t6, t7, t8, t17]
  exact hX _ ⟨by simp [t0], by simp [t3], by simp [t5], by simp [t6], by simp [t7], by simp [t8]⟩
theorem PCn {v : AV} {p jb O N i : Nat} {H1 : AH} {tm : Tms} (hT : TMr v p jb O N i tm) (t9 : tm 9 = .snil) (t17 : tm 17 = .bool true) (Q : IPost) (hX : ∀ tm', TMr v p jb O N i tm' → Q .normal tm' H1) : IWP Tryd.prog (part_ [1, 1, 1, 1, 1, 1, 0, 1, 0, 0, 1, 0, 0, 1, 1, 1, 1, 1, 1, 1, 1, 1, 1, 1, 1, 1, 1, 1, 0] PlC) Q tm H1 := by
  obtain ⟨t0, t3, t5, t6, t7, t8⟩ := id hT
  simp (disch := first | omega | (simp; done) | assumption) [wr64, wrU8, wrU64, Nat.add_assoc, -getElem?_pos, List.getElem?_cons_zero, List.getElem?_cons_succ, part_, PlC, ic6, t0, t3, t5, t6, t7, t8, t9, t17]
  refine iwp_loop (fun kk tm' H' => H' = H1 ∧ TMr v p jb O N i tm' ∧ tm' 9 = .snil ∧ tm' 21 = .int .i64 0) 0 ⟨rfl, ⟨by simp [t0], by simp [t3], by simp [t5], by simp [t6], by simp [t7], by simp [t8]⟩, by simp [t9], by simp⟩ ?_
  clear t0 t3 t5 t6 t7 t8 t9 t17 hT
  clear tm
  rintro kk tm H2 ⟨rfl, hT, t9, t21⟩
  obtain ⟨t0, t3, t5, t6, t7, t8⟩ := id hT
  simp (disch := first | omega | (simp; done) | assumption) [wr64, wrU8, wrU64, Nat.add_assoc, -getElem?_pos, List.getElem?_cons_zero, List.getElem?_cons_succ, t0, t3, t5, t6, t7, t8, t9, t21]
  exact hX _ ⟨by simp [t0], by simp [t3], by simp [t5], by simp [t6], by simp [t7], by simp [t8]⟩
/-- What a Commit, and the Opens behind a death, have come to. -/
inductive MidC (bs : Nat → Bs) (li : List Zb) (bad : Int) (dd : Bool) (ct : List (Option Bs)) : Prop
  | none (h1 : bad ≠ 0) (h2 : dd = false) (h3 : St0 4 6 bs ct)
  | done (h1 : bad = 0) (h2 : dd = false) (h3 : St0 4 6 (aft bs (lwZ li)) ct)
  | cut (h1 : bad = 0) (h2 : dd = true) (h3 : St0 4 6 bs ct ∨ St0 4 6 (aft bs (lwZ li)) ct)
theorem PEnd {v : AV} {p L jb O N i : Nat} {s : DK} {o : OpA} {va : AV} {li : List Zb} {bs : Nat → Bs} {nw : List Int} {bad : Int} {dd : Bool} {H H1 : AH} {tm : Tms} (hok : H.ok) (hlv : SF H o.lv 2 (o.rw.map rawRow)) (hM : PM H H1 p L jb O N s o nw) (hg : GZ H.next H1 va li) {K : Nat} (hz : Zof o K li) (hK : K ≤ o.rw.length) (hl : li.length ≤ 100)
    (hct : s.ct.length = 40) (ha : s.dead = false) (hnw : Nw nw bs) (hmid : MidC bs li bad dd s.ct) (hno : bad = 0 → ∀ x ∈ li, 22 ≤ x.1 ∧ x.1 < 40) (hnd : bad = 0 → ((lwZ li).map (·.1)).Nodup) (hT : TMr v p jb O N i tm) (t9 : tm 9 = va) (t10 : tm 10 = .int .i64 bad) (t16 : tm 16 = .bool dd) (Q : IPost)
    (hX : ∀ tm' H2 nw' bs', PM H H2 p L jb O N s o nw' → Nw nw' bs' → St0 4 6 bs' s.ct → TMr v p jb O N i tm' → Q .normal tm' H2) :
    IWP Tryd.prog (part_ [1, 1, 1, 1, 1, 1, 0, 1, 0, 0, 1, 0, 0, 1, 1, 1, 1, 1, 1, 1, 1, 1, 1, 1, 1] PlC) Q tm H1 := by
  have hcut : part_ [1, 1, 1, 1, 1, 1, 0, 1, 0, 0, 1, 0, 0, 1, 1, 1, 1, 1, 1, 1, 1, 1, 1, 1, 1] PlC = (.seq (part_ [1, 1, 1, 1, 1, 1, 0, 1, 0, 0, 1, 0, 0, 1, 1, 1, 1, 1, 1, 1, 1, 1, 1, 1, 1, 0] PlC) (.seq (part_ [1, 1, 1, 1, 1, 1, 0, 1, 0, 0, 1, 0, 0, 1, 1, 1, 1, 1, 1, 1, 1, 1, 1, 1, 1, 1, 0] PlC) (.seq (part_ [1, 1, 1, 1, 1, 1, 0, 1, 0, 0, 1, 0, 0, 1, 1, 1, 1, 1, 1, 1, 1, 1, 1, 1, 1, 1, 1, 0] PlC) (.seq (part_ [1, 1, 1, 1, 1, 1, 0, 1, 0, 0, 1, 0, 0, 1, 1, 1, 1, 1, 1, 1, 1, 1, 1, 1, 1, 1, 1, 1, 0] PlC) (part_ [1, 1, 1, 1, 1, 1, 0, 1, 0, 0, 1, 0, 0, 1, 1, 1, 1, 1, 1, 1, 1, 1, 1, 1, 1, 1, 1, 1, 1] PlC))))) := by kernel_rfl
  have h8 := fun H1 hM hg hst a b tm hT t9 t16 t17 Q hX => @Pl8 v p L jb O N i s o va li bs nw H H1 tm hok hM hg hl hct ha hnw hst a b hT t9 t16 t17 Q hX
  have h8f := fun n va H1 hv tm hT t9 t16 t17 Q hX => @Pl8f v p jb O N i n va H1 tm hv hT t9 t16 t17 Q hX
  have hcf := fun H1 tm hT t17 Q hX => @PCf v p jb O N i H1 tm hT t17 Q hX
  have hcn := fun H1 tm hT t9 t17 Q hX => @PCn v p jb O N i H1 tm hT t9 t17 Q hX
  have h10 := fun H1 hM hg a b tm hT t9 t17 Q hX => @Pl10 v p L jb O N i s o va li bs nw H H1 tm hok hlv hM hg K hz hK hl hnw a b hT t9 t17 Q hX
  have h12 := fun bs nw H1 hM hst hnw tm hT Q hX => @Pl12 v p L jb O N i s o bs nw H H1 tm hok hM hct ha hst hnw hT Q hX
  rw [hcut]
  clear hcut
  generalize part_ [1, 1, 1, 1, 1, 1, 0, 1, 0, 0, 1, 0, 0, 1, 1, 1, 1, 1, 1, 1, 1, 1, 1, 1, 1, 1, 1, 0] PlC = Z8 at *
  generalize part_ [1, 1, 1, 1, 1, 1, 0, 1, 0, 0, 1, 0, 0, 1, 1, 1, 1, 1, 1, 1, 1, 1, 1, 1, 1, 1, 1, 1, 0] PlC = ZC at *
  generalize part_ [1, 1, 1, 1, 1, 1, 0, 1, 0, 0, 1, 0, 0, 1, 1, 1, 1, 1, 1, 1, 1, 1, 1, 1, 1, 1, 1, 1, 1] PlC = Z12 at *
  obtain ⟨hv1, hv2, hv3⟩ := hg.one
  obtain ⟨t0, t3, t5, t6, t7, t8⟩ := id hT
  cases hmid with
  | none h1 h2 h3 =>
    subst h2
    simp (disch := first | omega | (simp; done) | assumption) [wr64, wrU8, wrU64, Nat.add_assoc, -getElem?_pos, List.getElem?_cons_zero, List.getElem?_cons_succ, part_, PlC, ic6, t0, t3, t5, t6, t7, t8, t9, t10, t16, h1]
    refine h8f 0 .snil _ rfl _ ⟨by simp [t0], by simp [t3], by simp [t5], by simp [t6], by simp [t7], by simp [t8]⟩ (by simp) (by simp [t16]) (by simp) _ fun tm1 e1 e2 e3 => ?_
    simp (disch := first | omega | (simp; done) | assumption) [wr64, wrU8, wrU64, Nat.add_assoc, -getElem?_pos, List.getElem?_cons_zero, List.getElem?_cons_succ, ]
    refine hcn _ _ e1 e2 e3 _ fun tm2 f1 => ?_
    simp (disch := first | omega | (simp; done) | assumption) [wr64, wrU8, wrU64, Nat.add_assoc, -getElem?_pos, List.getElem?_cons_zero, List.getElem?_cons_succ, ]
    exact h12 bs nw _ hM h3 hnw _ f1 _ fun tm3 H3 g1 g2 => hX _ _ _ _ g1 hnw h3 g2
  | done h1 h2 h3 =>
    subst h2
    subst h1
    simp (disch := first | omega | (simp; done) | assumption) [wr64, wrU8, wrU64, Nat.add_assoc, -getElem?_pos, List.getElem?_cons_zero, List.getElem?_cons_succ, part_, PlC, ic6, t0, t3, t5, t6, t7, t8, t9, t10, t16]
    refine h8f li.length va _ hv3 _ ⟨by simp [t0], by simp [t3], by simp [t5], by simp [t6], by simp [t7], by simp [t8]⟩ (by simp [t9]) (by simp [t16]) (by simp) _ fun tm1 e1 e2 e3 => ?_
    simp (disch := first | omega | (simp; done) | assumption) [wr64, wrU8, wrU64, Nat.add_assoc, -getElem?_pos, List.getElem?_cons_zero, List.getElem?_cons_succ, ]
    refine h10 _ hM hg (hno rfl) (hnd rfl) _ e1 e2 e3 _ fun tm2 H2 nw' f1 f2 f3 => ?_
    simp (disch := first | omega | (simp; done) | assumption) [wr64, wrU8, wrU64, Nat.add_assoc, -getElem?_pos, List.getElem?_cons_zero, List.getElem?_cons_succ, ]
    exact h12 _ nw' _ f1 h3 f2 _ f3 _ fun tm3 H3 g1 g2 => hX _ _ _ _ g1 f2 h3 g2
  | cut h1 h2 h3 =>
    subst h2
    subst h1
    simp (disch := first | omega | (simp; done) | assumption) [wr64, wrU8, wrU64, Nat.add_assoc, -getElem?_pos, List.getElem?_cons_zero, List.getElem?_cons_succ, part_, PlC, ic6, t0, t3, t5, t6, t7, t8, t9, t10, t16]
    refine h8 _ hM hg h3 (hno rfl) (hnd rfl) _ ⟨by simp [t0], by simp [t3], by simp [t5], by simp [t6], by simp [t7], by simp [t8]⟩ (by simp [t9]) (by simp [t16]) (by simp) _ fun tm1 H2 dn e1 e2 e3 e4 e5 e6 e7 => ?_
    cases dn with
    | true =>
      simp (disch := first | omega | (simp; done) | assumption) [wr64, wrU8, wrU64, Nat.add_assoc, -getElem?_pos, List.getElem?_cons_zero, List.getElem?_cons_succ, ]
      refine h10 _ e1 e2 (hno rfl) (hnd rfl) _ e3 e4 e5 _ fun tm2 H3 nw' f1 f2 f3 => ?_
      simp (disch := first | omega | (simp; done) | assumption) [wr64, wrU8, wrU64, Nat.add_assoc, -getElem?_pos, List.getElem?_cons_zero, List.getElem?_cons_succ, ]
      exact h12 _ nw' _ f1 (e6 rfl) f2 _ f3 _ fun tm3 H3 g1 g2 => hX _ _ _ _ g1 f2 (e6 rfl) g2
    | false =>
      simp (disch := first | omega | (simp; done) | assumption) [wr64, wrU8, wrU64, Nat.add_assoc, -getElem?_pos, List.getElem?_cons_zero, List.getElem?_cons_succ, ]
      refine hcf _ _ e3 e5 _ fun tm2 f1 => ?_
      simp (disch := first | omega | (simp; done) | assumption) [wr64, wrU8, wrU64, Nat.add_assoc, -getElem?_pos, List.getElem?_cons_zero, List.getElem?_cons_succ, ]
      exact h12 bs nw _ e1 (e7 rfl) hnw _ f1 _ fun tm3 H3 g1 g2 => hX _ _ _ _ g1 hnw (e7 rfl) g2
end Go.Proofs.YtcgkadfgojmmlaaDoor.JN

/- JournalPlays: the loops behind a Commit. No condition. -/
import Derived.Test.YtcgkadfgojmmlaaDoorLPb
set_option linter.unusedVariables false
set_option linter.unusedSimpArgs false
set_option maxRecDepth 100000
set_option maxHeartbeats 4000000
namespace Go.Proofs.YtcgkadfgojmmlaaDoor.JN
open Go Go.RowKit Go.Proofs.YtcgkadfgojmmlaaDoor Go.Proofs.YtcgkadfgojmmlaaDoor.Abs Go.Proofs.YtcgkadfgojmmlaaDoor.Ic Go.Proofs.YtcgkadfgojmmlaaDoor.EAs Go.Proofs.YtcgkadfgojmmlaaDoor.EErr Go.Proofs.YtcgkadfgojmmlaaDoor.DFn
theorem GZ.ld {B : Nat} {H : AH} {v : AV} {li : List Zb} (h : GZ B H v li) {k : Nat} (hk : k < li.length) : ∃ b, v = .slice b 0 li.length 2 ∧ loadC H b (k * 2) none = some (.int .i64 li[k].1) ∧ loadC H b (k * 2 + 1) none = some (sl li[k].2) := by
  rcases h.1 with ⟨hh, _⟩ | ⟨b, e, _, hb, _⟩
  · have : li = [] := by simpa [rowsZ] using hh
    rw [this] at hk; simp at hk
  · refine ⟨b, by rw [e]; simp [rowsZ], ?_, ?_⟩
    · have := load_flat1 hb (allZ li) (k := k) (i := 0) (by simpa [rowsZ] using hk) (by omega)
      rw [Nat.add_zero] at this
      rw [this]
      simp [rowsZ, rowZ]
    · have := load_flat1 hb (allZ li) (k := k) (i := 1) (by simpa [rowsZ] using hk) (by omega)
      rw [this]
      simp [rowsZ, rowZ]
theorem GZ.kx {B : Nat} {H H' : AH} {p L : Nat} {s : DK} {v : AV} {li : List Zb} (hd : DS H p L s) (hk : KX p L H H') (hn : H.next ≤ H'.next) (h : GZ B H v li) : GZ B H' v li := by
  refine ⟨?_, fun x hx => ?_⟩
  · rcases h.1 with hh | ⟨q, h1, h2, h3, h4, h5⟩
    · exact .inl hh
    · obtain ⟨n1, n2⟩ := ds_ne hd h3 (by decide) (by decide)
      exact .inr ⟨q, h1, h2, hk _ _ n1 n2 h3, h4, by omega⟩
  · obtain ⟨a1, a2, a3⟩ := h.2 x hx
    obtain ⟨n1, n2⟩ := ds_ne hd a1.2 (by decide) (by decide)
    exact ⟨⟨a1.1, hk _ _ n1 n2 a1.2⟩, by omega, a3⟩
theorem GZ.setW {B : Nat} {H : AH} {W : Nat} {v : AV} {li : List Zb} {t : TypeId} {cs o : List AV} (h : GZ B H v li) (hW : H.at_ W = some (.cells false t cs)) (h3 : t ≠ tU8) (h4 : t ≠ tBk) : GZ B (H.set W (some (.cells false t o))) v li := by
  refine ⟨?_, fun x hx => ?_⟩
  · rcases h.1 with hh | ⟨q, h1, h2, h3, h4', h5⟩
    · exact .inl hh
    · exact .inr ⟨q, h1, h2, set_ty hW _ _ _ h3 h4.symm, h4', h5⟩
  · obtain ⟨a1, a2, a3⟩ := h.2 x hx
    exact ⟨⟨a1.1, set_ty hW _ _ _ a1.2 h3.symm⟩, a2, a3⟩
/-! ### Beside what is looked at -/
def P5I (v : AV) (p jb O N i : Nat) (va : AV) (li : List Zb) (H1 : AH) (kk : Nat) (tm : Tms) (H' : AH) : Prop := H' = H1 ∧ TMr v p jb O N i tm ∧ ∃ k : Nat, kk = li.length - k ∧ k ≤ li.length ∧ (∀ j (hj : j < li.length), j < k → 22 ≤ li[j].1) ∧ tm 9 = va ∧ tm 10 = .int .i64 0 ∧ tm 14 = .int .i64 (k : Int)
theorem Pl5 {v : AV} {p jb O N i : Nat} {va : AV} {li : List Zb} {bad : Int} {B : Nat} {H1 : AH} {tm : Tms} (hg : GZ B H1 va li) (hl : li.length ≤ 100) (hT : TMr v p jb O N i tm) (t9 : tm 9 = va) (t10 : tm 10 = .int .i64 bad) (Q : IPost)
    (hN : ∀ tm', TMr v p jb O N i tm' → tm' 9 = va → tm' 10 = .int .i64 bad → (bad = 0 → ∀ x ∈ li, 22 ≤ x.1) → Q .normal tm' H1) (hR : ∀ tm', tm' 2 = .bool true → Q .ret tm' H1) :
    IWP Tryd.prog (part_ [1, 1, 1, 1, 1, 1, 0, 1, 0, 0, 1, 0, 0, 1, 1, 1, 1, 1, 0] PlC) Q tm H1 := by
  obtain ⟨hv1, hv2, hv3⟩ := hg.one
  obtain ⟨t0, t3, t5, t6, t7, t8⟩ := id hT
  by_cases hb : bad = 0
  · subst hb
    simp (disch := first | omega | (simp; done) | assumption) [wr64, wrU8, wrU64, Nat.add_assoc, -getElem?_pos, List.getElem?_cons_zero, List.getElem?_cons_succ, part_, PlC, ic6, t0, t3, t5, t6, t7, t8, t9, t10]
    refine iwp_loop (P5I v p jb O N i va li H1) li.length ⟨rfl, ⟨by simp [t0], by simp [t3], by simp [t5], by simp [t6], by simp [t7], by simp [t8]⟩, 0, rfl, by omega, fun j _ h => by omega, by simp [t9], by simp [t10], by simp⟩ ?_
    clear t0 t3 t5 t6 t7 t8 t9 t10 hT
    clear tm
    rintro kk tm H2 ⟨rfl, hT, k, rfl, hk, hall, t9, t10, t14⟩
    obtain ⟨t0, t3, t5, t6, t7, t8⟩ := id hT
    by_cases hlt : k < li.length
    · have hlt' : (k : Int) < (li.length : Int) := by omega
      obtain ⟨b, rfl, l0, _⟩ := hg.ld hlt
      have hstep : 22 ≤ li[k].1 → ∀ j (hj : j < li.length), j < k + 1 → 22 ≤ li[j].1 := fun h j hj hjk => by
        by_cases e : j = k
        · subst e; exact h
        · exact hall j hj (by omega)
      generalize li[k].1 = no at *
      simp (disch := first | omega | (simp; done) | assumption) [wr64, wrU8, wrU64, Nat.add_assoc, -getElem?_pos, List.getElem?_cons_zero, List.getElem?_cons_succ, t0, t3, t5, t6, t7, t8, t9, t10, t14, hlt, hlt', hv3]
      refine Try.intro (by simpa using l0) ?_
      by_cases hn : no < 22
      · simp (disch := first | omega | (simp; done) | assumption) [wr64, wrU8, wrU64, Nat.add_assoc, -getElem?_pos, List.getElem?_cons_zero, List.getElem?_cons_succ, t0, t3, t5, t6, t7, t8, t9, t10, t14, hn]
        refine CallW.val JAwake ?_
        simp (disch := first | omega | (simp; done) | assumption) [wr64, wrU8, wrU64, Nat.add_assoc, -getElem?_pos, List.getElem?_cons_zero, List.getElem?_cons_succ, ]
        exact hR _ (by simp)
      · simp (disch := first | omega | (simp; done) | assumption) [wr64, wrU8, wrU64, Nat.add_assoc, -getElem?_pos, List.getElem?_cons_zero, List.getElem?_cons_succ, t0, t3, t5, t6, t7, t8, t9, t10, t14, hn]
        exact ⟨li.length - (k + 1), by omega, rfl, ⟨by simp [t0], by simp [t3], by simp [t5], by simp [t6], by simp [t7], by simp [t8]⟩, k + 1, rfl, by omega, hstep (by omega), by simp [t9], by simp [t10], by simp⟩
    · have hlt' : ¬ (k : Int) < (li.length : Int) := by omega
      simp (disch := first | omega | (simp; done) | assumption) [wr64, wrU8, wrU64, Nat.add_assoc, -getElem?_pos, List.getElem?_cons_zero, List.getElem?_cons_succ, t0, t3, t5, t6, t7, t8, t9, t10, t14, hlt, hlt', hv3]
      exact hN _ ⟨by simp [t0], by simp [t3], by simp [t5], by simp [t6], by simp [t7], by simp [t8]⟩ (by simp [t9]) (by simp [t10]) fun _ x hx => by
        obtain ⟨j, hj, rfl⟩ := List.getElem_of_mem hx
        exact hall j hj (by omega)
  · simp (disch := first | omega | (simp; done) | assumption) [wr64, wrU8, wrU64, Nat.add_assoc, -getElem?_pos, List.getElem?_cons_zero, List.getElem?_cons_succ, part_, PlC, ic6, t0, t3, t5, t6, t7, t8, t9, t10]
    refine iwp_loop (fun kk tm' H' => H' = H1 ∧ TMr v p jb O N i tm' ∧ tm' 9 = va ∧ tm' 10 = .int .i64 bad ∧ tm' 14 = .int .i64 0) 0 ⟨rfl, ⟨by simp [t0], by simp [t3], by simp [t5], by simp [t6], by simp [t7], by simp [t8]⟩, by simp [t9], by simp [t10], by simp⟩ ?_
    clear t0 t3 t5 t6 t7 t8 t9 t10 hT
    clear tm
    rintro kk tm H2 ⟨rfl, hT, t9, t10, t14⟩
    obtain ⟨t0, t3, t5, t6, t7, t8⟩ := id hT
    by_cases hlt : 0 < li.length
    · have hlt2 : ¬ li = [] := fun e => by rw [e] at hlt; simp at hlt
      simp (disch := first | omega | (simp; done) | assumption) [wr64, wrU8, wrU64, Nat.add_assoc, -getElem?_pos, List.getElem?_cons_zero, List.getElem?_cons_succ, t0, t3, t5, t6, t7, t8, t9, t10, t14, hlt, hlt2, hv3, hb]
      exact hN _ ⟨by simp [t0], by simp [t3], by simp [t5], by simp [t6], by simp [t7], by simp [t8]⟩ (by simp [t9]) (by simp [t10]) fun h => absurd h hb
    · have hlt2 : li = [] := List.eq_nil_of_length_eq_zero (by omega)
      simp (disch := first | omega | (simp; done) | assumption) [wr64, wrU8, wrU64, Nat.add_assoc, -getElem?_pos, List.getElem?_cons_zero, List.getElem?_cons_succ, t0, t3, t5, t6, t7, t8, t9, t10, t14, hlt, hlt2, hv3, hb]
      exact hN _ ⟨by simp [t0], by simp [t3], by simp [t5], by simp [t6], by simp [t7], by simp [t8]⟩ (by simp [t9]) (by simp [t10]) fun h => absurd h hb
/-! ### What is kept in mind -/
structure Nw (nw : List Int) (bs : Nat → Bs) : Prop where
  len : nw.length = 18
  val : ∀ k (h : k < nw.length), 0 ≤ nw[k] ∧ nw[k] ≤ 2048 ∧ bs (22 + k) = isB nw[k]
theorem isB_len (n : Int) : (isB n).length = 128 := by unfold isB; split; exact zer_len; exact fill_len _
theorem PM.setN {H H1 : AH} {p L jb O N : Nat} {s : DK} {o : OpA} {nw nw' : List Int} (h : PM H H1 p L jb O N s o nw) (hok0 : H.ok) : PM H (H1.set N (some (.cells false t18I (nw'.map (AV.int .i64))))) p L jb O N s o nw' :=
  ⟨h.js.setW hok0 h.nat_ (by decide) (by decide) (by decide) (by decide) h.N0, h.O0, h.N0, set_ty h.nat_ _ _ _ h.oat (by decide), AH.set_same _ _ _⟩
abbrev lwZ (li : List Zb) : List Wr := (li.map zI).map wr
theorem lwZ_snoc (li : List Zb) {k : Nat} (hk : k < li.length) : lwZ (li.take (k + 1)) = lwZ (li.take k) ++ [(li[k].1.toNat, li[k].2.2)] := by
  unfold lwZ
  rw [List.take_add_one, List.getElem?_eq_getElem hk, List.map_append, List.map_append]
  rfl
theorem lwZ_not {li : List Zb} (hn : ((lwZ li).map (·.1)).Nodup) {k : Nat} (hk : k < li.length) : li[k].1.toNat ∉ (lwZ (li.take k)).map (·.1) := fun hm => by
  have h1 : lwZ li = lwZ (li.take (k + 1)) ++ lwZ (li.drop (k + 1)) := by
    unfold lwZ
    rw [← List.map_append, ← List.map_append, List.take_append_drop]
  rw [h1, lwZ_snoc li hk, List.map_append, List.map_append, List.nodup_append] at hn
  have h2 := hn.1
  rw [List.nodup_append] at h2
  exact h2.2.2 _ hm _ (by simp) rfl
def P10I (v : AV) (p L jb O N i : Nat) (s : DK) (o : OpA) (va : AV) (li : List Zb) (bs : Nat → Bs) (H : AH) (kk : Nat) (tm : Tms) (H' : AH) : Prop := ∃ (k : Nat) (nw : List Int), kk = li.length - k ∧ k ≤ li.length ∧ PM H H' p L jb O N s o nw ∧ GZ H.next H' va li ∧ Nw nw (aft bs (lwZ (li.take k))) ∧ TMr v p jb O N i tm ∧ tm 9 = va ∧ tm 21 = .int .i64 (k : Int)
theorem Pl10 {v : AV} {p L jb O N i : Nat} {s : DK} {o : OpA} {va : AV} {li : List Zb} {bs : Nat → Bs} {nw : List Int} {H H1 : AH} {tm : Tms} (hok : H.ok) (hlv : SF H o.lv 2 (o.rw.map rawRow)) (hM : PM H H1 p L jb O N s o nw) (hg : GZ H.next H1 va li) {K : Nat} (hz : Zof o K li) (hK : K ≤ o.rw.length) (hl : li.length ≤ 100) (hnw : Nw nw bs)
    (hno : ∀ x ∈ li, 22 ≤ x.1 ∧ x.1 < 40) (hnd : ((lwZ li).map (·.1)).Nodup) (hT : TMr v p jb O N i tm) (t9 : tm 9 = va) (t17 : tm 17 = .bool true) (Q : IPost)
    (hX : ∀ tm' H2 nw', PM H H2 p L jb O N s o nw' → Nw nw' (aft bs (lwZ li)) → TMr v p jb O N i tm' → Q .normal tm' H2) :
    IWP Tryd.prog (part_ [1, 1, 1, 1, 1, 1, 0, 1, 0, 0, 1, 0, 0, 1, 1, 1, 1, 1, 1, 1, 1, 1, 1, 1, 1, 1, 1, 1, 0] PlC) Q tm H1 := by
  obtain ⟨hl1, hl2, hl3⟩ := sfl hlv
  rw [List.length_map] at hl1
  have hlil := hz.len hK
  obtain ⟨t0, t3, t5, t6, t7, t8⟩ := id hT
  simp (disch := first | omega | (simp; done) | assumption) [wr64, wrU8, wrU64, Nat.add_assoc, -getElem?_pos, List.getElem?_cons_zero, List.getElem?_cons_succ, part_, PlC, ic6, t0, t3, t5, t6, t7, t8, t9, t17]
  refine iwp_loop (P10I v p L jb O N i s o va li bs H) li.length ⟨0, nw, rfl, by omega, hM, hg, hnw, ⟨by simp [t0], by simp [t3], by simp [t5], by simp [t6], by simp [t7], by simp [t8]⟩, by simp [t9], by simp⟩ ?_
  clear t0 t3 t5 t6 t7 t8 t9 t17 hT hM hg hnw
  clear tm nw
  rintro kk tm H2 ⟨k, nw, rfl, hk, hM, hg, hnw, hT, t9, t21⟩
  obtain ⟨t0, t3, t5, t6, t7, t8⟩ := id hT
  obtain ⟨hv1, hv2, hv3⟩ := hg.one
  by_cases hlt : k < li.length
  · have hlt' : (k : Int) < (li.length : Int) := by omega
    have hkr : k < o.rw.length := by omega
    have hkr' : (k : Int) < (o.rw.length : Int) := by omega
    obtain ⟨b, rfl, l0, _⟩ := hg.ld hlt
    obtain ⟨bo, oo, hlve, r0, r1⟩ := raw_at (hlv.keeps hM.js.keeps) hkr
    obtain ⟨z1, z2⟩ := hz.get hlt hkr
    obtain ⟨n1, n2⟩ := hno _ (List.getElem_mem hlt)
    have hsn := lwZ_snoc li hlt
    have hnt := lwZ_not hnd hlt
    obtain ⟨m, hm, hm2⟩ := mk_nat o.rw[k].2
    have hm' : bits .and .i64 o.rw[k].2 2047 = (m : Int) := hm
    rw [hm] at z2
    generalize o.rw[k] = r at *
    generalize li[k] = x at *
    obtain ⟨d, hd⟩ : ∃ d : Nat, x.1 = 22 + (d : Int) := ⟨(x.1 - 22).toNat, by omega⟩
    have hd18 : d < 18 := by omega
    have hd18' : (d : Int) < 18 := by omega
    have hd17 : d ≤ 17 := by omega
    have hxt : x.1.toNat = 22 + d := by omega
    rw [hxt] at hsn hnt
    rw [hd] at l0
    have hsub : (22 : Int) + (d : Int) - 22 = (d : Int) := by omega
    have hoat := hM.oat
    have hnat := hM.nat_
    unfold opRow at hoat
    have hset : (nw.map (AV.int .i64)).set d (.int .i64 ((m : Int) + 1)) = (nw.set d ((m : Int) + 1)).map (AV.int .i64) := by rw [List.map_set]
    have hPM : PM H (H2.set N (some (.cells false t18I ((nw.map (AV.int .i64)).set d (.int .i64 ((m : Int) + 1)))))) p L jb O N s o (nw.set d ((m : Int) + 1)) := by rw [hset]; exact hM.setN hok
    have hnl : (nw.map (AV.int .i64)).length = 18 := by simp [hnw.len]
    have hnl' := hnw.len
    have hnw' : Nw (nw.set d ((m : Int) + 1)) (aft bs (lwZ (li.take (k + 1)))) := by
      refine ⟨by simp [hnw.len], fun j hj => ?_⟩
      have hj' : j < nw.length := by simpa using hj
      rw [hsn, aft_snoc hnt, List.getElem_set]
      by_cases e : d = j
      · subst e
        rw [if_pos rfl, if_pos rfl]
        refine ⟨by omega, by omega, ?_⟩
        show x.2.2 = isB ((m : Int) + 1)
        rw [z2]
        unfold isB
        rw [if_neg (by omega)]
        congr 1
        omega
      · rw [if_neg e, if_neg (by dsimp only; omega)]
        exact hnw.val j hj'
    simp (disch := first | omega | (simp; done) | assumption) [wr64, wrU8, wrU64, Nat.add_assoc, -getElem?_pos, List.getElem?_cons_zero, List.getElem?_cons_succ, t0, t3, t5, t6, t7, t8, t9, t21, hlt, hlt', hv3]
    refine Try.intro (by simpa using l0) ?_
    simp (disch := first | omega | (simp; done) | assumption) [wr64, wrU8, wrU64, Nat.add_assoc, -getElem?_pos, List.getElem?_cons_zero, List.getElem?_cons_succ, t0, t3, t5, t6, t7, t8, t9, t21, hoat, hlve, hkr, hkr', hsub]
    refine Try.intro (by simpa [Nat.add_assoc] using r1) ?_
    simp (disch := first | omega | (simp; done) | assumption) [wr64, wrU8, wrU64, Nat.add_assoc, -getElem?_pos, List.getElem?_cons_zero, List.getElem?_cons_succ, t0, t3, t5, t6, t7, t8, t9, t21, hm', hsub, hd18, hd18', hd17, hnat, hnl, hnl']
    exact ⟨li.length - (k + 1), by omega, k + 1, _, rfl, by omega, hPM, hg.setW hnat (by decide) (by decide), hnw', ⟨by simp [t0], by simp [t3], by simp [t5], by simp [t6], by simp [t7], by simp [t8]⟩, by simp [t9], by simp⟩
  · have hlt' : ¬ (k : Int) < (li.length : Int) := by omega
    obtain rfl : k = li.length := by omega
    rw [List.take_of_length_le (Nat.le_refl _)] at hnw
    simp (disch := first | omega | (simp; done) | assumption) [wr64, wrU8, wrU64, Nat.add_assoc, -getElem?_pos, List.getElem?_cons_zero, List.getElem?_cons_succ, t0, t3, t5, t6, t7, t8, t9, t21, hlt, hlt', hv3]
    exact hX _ H2 nw hM hnw ⟨by simp [t0], by simp [t3], by simp [t5], by simp [t6], by simp [t7], by simp [t8]⟩
/-! ### What is there is what should be there -/
def P12I (v : AV) (p L jb O N i : Nat) (s : DK) (o : OpA) (nw : List Int) (H : AH) (kk : Nat) (tm : Tms) (H' : AH) : Prop := ∃ k : Nat, kk = 18 - k ∧ k ≤ 18 ∧ PM H H' p L jb O N s o nw ∧ TMr v p jb O N i tm ∧ tm 22 = .int .i64 (k : Int)
theorem Pl12 {v : AV} {p L jb O N i : Nat} {s : DK} {o : OpA} {bs : Nat → Bs} {nw : List Int} {H H1 : AH} {tm : Tms} (hok : H.ok) (hM : PM H H1 p L jb O N s o nw) (hl : s.ct.length = 40) (ha : s.dead = false) (hst : St0 4 6 bs s.ct) (hnw : Nw nw bs) (hT : TMr v p jb O N i tm) (Q : IPost)
    (hX : ∀ tm' H2, PM H H2 p L jb O N s o nw → TMr v p jb O N i tm' → Q .normal tm' H2) :
    IWP Tryd.prog (part_ [1, 1, 1, 1, 1, 1, 0, 1, 0, 0, 1, 0, 0, 1, 1, 1, 1, 1, 1, 1, 1, 1, 1, 1, 1, 1, 1, 1, 1] PlC) Q tm H1 := by
  obtain ⟨t0, t3, t5, t6, t7, t8⟩ := id hT
  simp (disch := first | omega | (simp; done) | assumption) [wr64, wrU8, wrU64, Nat.add_assoc, -getElem?_pos, List.getElem?_cons_zero, List.getElem?_cons_succ, part_, PlC, ic6, t0, t3, t5, t6, t7, t8]
  refine iwp_loop (P12I v p L jb O N i s o nw H) 18 ⟨0, rfl, by omega, hM, ⟨by simp [t0], by simp [t3], by simp [t5], by simp [t6], by simp [t7], by simp [t8]⟩, by simp⟩ ?_
  clear t0 t3 t5 t6 t7 t8 hT hM
  clear tm
  rintro kk tm H2 ⟨k, rfl, hk, hM, hT, t22⟩
  obtain ⟨t0, t3, t5, t6, t7, t8⟩ := id hT
  by_cases hlt : k < 18
  · have hlt' : (k : Int) < 18 := by omega
    have hlt7 : k ≤ 17 := by omega
    have hkn : k < nw.length := by rw [hnw.len]; exact hlt
    obtain ⟨w0, w1, w2⟩ := hnw.val k hkn
    have hR := JRead (i := 22 + k) hM.js.ds hM.js.jo (by omega) ha
    rw [show ((22 + k : Nat) : Int) = (k : Int) + 22 by omega, hst.2 (22 + k) (notown (by omega)), w2] at hR
    have hnk : (nw.map (AV.int .i64))[k]? = some (.int .i64 nw[k]) := by simp [hkn]
    have hnl : (nw.map (AV.int .i64)).length = 18 := by simp [hnw.len]
    generalize hwk : nw[k] = x at *
    simp (disch := first | omega | (simp; done) | assumption) [wr64, wrU8, wrU64, Nat.add_assoc, -getElem?_pos, List.getElem?_cons_zero, List.getElem?_cons_succ, t0, t3, t5, t6, t7, t8, t22, hlt, hlt']
    refine CallW.okof hR ?_
    rintro v4 H4 ⟨k4, n4, q, hq1, hq2, rfl, hQ⟩ hok4
    try simp only [newO_none] at k4 n4 hq1
    have b1 := b2s_q hQ
    simp only [sl] at b1
    have hM4 := hM.keeps k4 hok4 n4
    have hnat := hM4.nat_
    simp (disch := first | omega | (simp; done) | assumption) [wr64, wrU8, wrU64, Nat.add_assoc, -getElem?_pos, List.getElem?_cons_zero, List.getElem?_cons_succ, t0, t3, t5, t6, t7, t8, t22, hlt, hlt', hlt7, b1, hnat, hnl, hnk]
    refine CallW.val (IsC x w0 (by omega) _) ?_
    simp (disch := first | omega | (simp; done) | assumption) [wr64, wrU8, wrU64, Nat.add_assoc, -getElem?_pos, List.getElem?_cons_zero, List.getElem?_cons_succ, t0, t3, t5, t6, t7, t8, t22, b1]
    exact ⟨18 - (k + 1), by omega, k + 1, rfl, by omega, hM4, ⟨by simp [t0], by simp [t3], by simp [t5], by simp [t6], by simp [t7], by simp [t8]⟩, by simp⟩
  · have hlt' : ¬ (k : Int) < 18 := by omega
    simp (disch := first | omega | (simp; done) | assumption) [wr64, wrU8, wrU64, Nat.add_assoc, -getElem?_pos, List.getElem?_cons_zero, List.getElem?_cons_succ, t0, t3, t5, t6, t7, t8, t22, hlt, hlt']
    exact hX _ H2 hM ⟨by simp [t0], by simp [t3], by simp [t5], by simp [t6], by simp [t7], by simp [t8]⟩
end Go.Proofs.YtcgkadfgojmmlaaDoor.JN

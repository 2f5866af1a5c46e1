/- JournalAgain. No condition. -/
import Derived.Test.YtcgkadfgojmmlaaDoorLFull
import Derived.Test.YtcgkadfgojmmlaaDoorTLaid
set_option linter.unusedVariables false
set_option linter.unusedSimpArgs false
set_option maxRecDepth 100000
set_option maxHeartbeats 4000000
namespace Go.Proofs.YtcgkadfgojmmlaaDoor.JN
open Go Go.RowKit Go.Proofs.YtcgkadfgojmmlaaDoor Go.Proofs.YtcgkadfgojmmlaaDoor.Abs Go.Proofs.YtcgkadfgojmmlaaDoor.Ic Go.Proofs.YtcgkadfgojmmlaaDoor.EAs Go.Proofs.YtcgkadfgojmmlaaDoor.EErr Go.Proofs.YtcgkadfgojmmlaaDoor.DFn
abbrev AgC : ICode := ic3
abbrev AgQ (H : AH) : IPost := fnPost rs3 fun v H' => v = .bool true ∧ H.keepsAll H'
abbrev t8S : Nat := 37
/-! ### A block of the law's own that is written through -/
theorem DS.ty {H H' : AH} {p L : Nat} {s : DK} (hk : ∀ y t cs, H.at_ y = some (.cells false t cs) → (t = tD ∨ t = tBS ∨ t = tU8) → H'.at_ y = some (.cells false t cs)) (h : DS H p L s) : DS H' p L s := by
  obtain ⟨h0, h1, cs, h2, h3, h4⟩ := h
  refine ⟨h0, hk _ _ _ h1 (.inl rfl), cs, hk _ _ _ h2 (.inr (.inl rfl)), h3, fun i hi => ?_⟩
  obtain ⟨av, a1, a2⟩ := h4 i hi
  refine ⟨av, a1, ?_⟩
  cases hc : s.ct[i] with
  | none => rw [hc] at a2; exact a2
  | some bs =>
    rw [hc] at a2
    obtain ⟨b1, q, b2, b3, b4, b5⟩ := a2
    exact ⟨b1, q, b2, hk _ _ _ b3 (.inr (.inr rfl)), b4, b5⟩
theorem set_ty {H : AH} {W : Nat} {t : TypeId} {cs o : List AV} (hW : H.at_ W = some (.cells false t cs)) : ∀ y t' c', H.at_ y = some (.cells false t' c') → t' ≠ t → (H.set W (some (.cells false t o))).at_ y = some (.cells false t' c') := fun y t' c' h hne => by
  have : y ≠ W := fun e => by
    rw [e, hW] at h
    injection h with h
    injection h with _ h _
    exact hne h.symm
  rw [AH.set_ne _ _ this]
  exact h
theorem ok_setc {H : AH} {b : Nat} {o : AObj} (h : H.ok) (hb : b < H.next) : (H.set b (some o)).ok := fun c q hc => by
  by_cases e : c = b
  · subst e; exact hb
  · rw [AH.set_ne _ _ e] at hc; exact h c q hc
theorem JS.setW {H H1 : AH} {p L jb at_ most W : Nat} {s : DK} {t : TypeId} {cs o : List AV} (h : JS H H1 p L jb at_ most s) (hok0 : H.ok) (hW : H1.at_ W = some (.cells false t cs)) (h1 : t ≠ tD) (h2 : t ≠ tBS) (h3 : t ≠ tU8) (h4 : t ≠ tJ) (hB : H.next ≤ W) :
    JS H (H1.set W (some (.cells false t o))) p L jb at_ most s := by
  have hs := set_ty (o := o) hW
  refine ⟨fun y o hh => ?_, ok_setc h.ok (h.ok _ _ hW), h.next, h.p0, h.L0, DS.ty (fun y t' c' hy ht => hs y t' c' hy ?_) h.ds, hs _ _ _ h.jo h4.symm⟩
  · have := hok0 _ _ hh
    rw [AH.set_ne _ _ (by omega)]
    exact h.keeps _ _ hh
  · rcases ht with rfl | rfl | rfl
    · exact h1.symm
    · exact h2.symm
    · exact h3.symm
theorem BI.setW {H : AH} {W : Nat} {v : AV} {li : List Ib} {t : TypeId} {cs o : List AV} (h : BI H v li) (hW : H.at_ W = some (.cells false t cs)) (h3 : t ≠ tU8) (h4 : t ≠ tBk) : BI (H.set W (some (.cells false t o))) v li := by
  obtain ⟨b, h1, h2, hq⟩ := h
  exact ⟨b, h1, set_ty hW _ _ _ h2 h4.symm, fun x hx => ⟨(hq x hx).1, set_ty hW _ _ _ (hq x hx).2 h3.symm⟩⟩
theorem QOk.setW {H : AH} {W : Nat} {x : Qb} {t : TypeId} {cs o : List AV} (h : QOk H x) (hW : H.at_ W = some (.cells false t cs)) (h3 : t ≠ tU8) : QOk (H.set W (some (.cells false t o))) x := ⟨h.1, set_ty hW _ _ _ h.2 h3.symm⟩
/-! ### Eight texts -/
def wl (f : Nat → Bs) (i : Nat) : List AV := (List.range 8).map fun k => if k < i then .str (f (30 + k)) else .str []
theorem wl_len (f : Nat → Bs) (i : Nat) : (wl f i).length = 8 := by simp [wl]
theorem wl_set (f : Nat → Bs) (i : Nat) (hi : i < 8) : (wl f i).set i (.str (f (30 + i))) = wl f (i + 1) := by
  unfold wl
  apply List.ext_getElem (by simp)
  intro j h1 h2
  rw [List.getElem_set]
  simp only [List.getElem_map, List.getElem_range]
  by_cases e : i = j
  · subst e; rw [if_pos rfl, if_pos (by omega)]
  · rw [if_neg e]
    by_cases h : j < i
    · rw [if_pos h, if_pos (by omega)]
    · rw [if_neg h, if_neg (by omega)]
theorem wl_get (f : Nat → Bs) (k : Nat) (hk : k < 8) : (wl f 8)[k]? = some (.str (f (30 + k))) := by
  unfold wl
  rw [List.getElem?_map, List.getElem?_range hk]
  simp [hk]
theorem wl_upd (f g : Nat → Bs) (k : Nat) (x : Bs) (hk : k < 8) (h : ∀ j, j < 8 → g (30 + j) = if j = k then x else f (30 + j)) : (wl f 8).set k (.str x) = wl g 8 := by
  unfold wl
  apply List.ext_getElem (by simp)
  intro j h1 h2
  have hj : j < 8 := by simpa using h2
  rw [List.getElem_set]
  simp only [List.getElem_map, List.getElem_range, if_pos hj, h j hj]
  by_cases e : k = j
  · subst e; rw [if_pos rfl, if_pos rfl]
  · rw [if_neg e, if_neg (by omega)]
theorem aft_snoc {base : Nat → Bs} {l : List Wr} {x : Wr} (hx : x.1 ∉ l.map (·.1)) (j : Nat) : aft base (l ++ [x]) j = if x.1 = j then x.2 else aft base l j := by
  unfold aft
  rw [List.find?_append]
  by_cases e : x.1 = j
  · rw [if_pos e]
    have : l.find? (fun y => y.1 == j) = none := List.find?_eq_none.2 fun y hy hh => hx (by
      have : y.1 = j := by simpa using hh
      rw [e, ← this]
      exact List.mem_map_of_mem hy)
    simp [this, e]
  · rw [if_neg e]
    cases l.find? (fun y => y.1 == j) <;> simp [e]
/-! ### The second group -/
def rowR (h n : Nat) : List Wr := (List.range n).map fun k => (30 + (k + h) % 8, fill (900 + (k : Int)))
theorem rowR_len (h n : Nat) : (rowR h n).length = n := by simp [rowR]
theorem rowR_succ (h n : Nat) : rowR h (n + 1) = rowR h n ++ [(30 + (n + h) % 8, fill (900 + (n : Int)))] := by simp [rowR, List.range_succ]
theorem rowR_mem {h n : Nat} {x : Wr} (hx : x ∈ rowR h n) : ∃ k, k < n ∧ x = (30 + (k + h) % 8, fill (900 + (k : Int))) := by
  obtain ⟨k, hk, rfl⟩ := List.mem_map.1 hx
  exact ⟨k, by simpa using hk, rfl⟩
theorem rowR_not {h n : Nat} (hn : n < 8) : 30 + (n + h) % 8 ∉ (rowR h n).map (·.1) := fun hm => by
  obtain ⟨x, hx, e⟩ := List.mem_map.1 hm
  obtain ⟨k, hk, rfl⟩ := rowR_mem hx
  dsimp only at e
  omega
theorem rowR_nodup (h : Nat) : ∀ n, n ≤ 8 → ((rowR h n).map (·.1)).Nodup
  | 0, _ => by simp [rowR]
  | n + 1, hn => by
    rw [rowR_succ, List.map_append, List.nodup_append]
    refine ⟨rowR_nodup h n (by omega), by simp, fun a ha b hb => ?_⟩
    obtain rfl : b = 30 + (n + h) % 8 := by simpa using hb
    exact fun e => rowR_not (h := h) (n := n) (by omega) (e ▸ ha)
theorem agGeoA {n : Nat} (hn1 : 1 ≤ n) (hn : n ≤ 8) {nn : Nat} (hl : nn = 60) : Geo 0 8 nn (rowF 30 (fun k => (k : Int)) n) := by
  subst hl
  exact ⟨by omega, by omega, by decide, by omega, by rw [rowF_len]; omega, by rw [rowF_len]; omega, rowF_good (by omega) (by decide)⟩
theorem own08 {i : Nat} (h : 30 ≤ i) : ¬ own 0 8 i := fun h' => by have := h'.2; unfold need lists at this; omega
theorem agGeoB {n h : Nat} (hn1 : 1 ≤ n) (hn : n ≤ 8) {nn : Nat} (hl : nn = 60) : Geo 0 8 nn (rowR h n) := by
  subst hl
  refine ⟨by omega, by omega, by decide, by omega, by rw [rowR_len]; omega, by rw [rowR_len]; omega, rowR_nodup h n hn, fun x hx => ?_, fun x hx => ?_, fun x hx => ?_⟩
  · obtain ⟨k, hk, rfl⟩ := rowR_mem hx
    show 30 + (k + h) % 8 < 60
    omega
  · obtain ⟨k, hk, rfl⟩ := rowR_mem hx
    exact own08 (by dsimp only; omega)
  · obtain ⟨k, hk, rfl⟩ := rowR_mem hx
    exact fill_len _
/-! ### Building both groups -/
def AgI (n h : Nat) (at_ : Int) (vo : AV) (p L jb : Nat) (s : DK) (H : AH) (kk : Nat) (tm : Tms) (H' : AH) : Prop := JS H H' p L jb 0 8 s ∧ ∃ (i : Nat) (la lb : List Ib) (va vb : AV), kk = n - i ∧ i ≤ n ∧ GL H.next H' va la ∧ GL H.next H' vb lb ∧ Disj va vb ∧ la.map wr = rowF 30 (fun k => (k : Int)) i ∧ lb.map wr = rowR h i ∧
  tm 0 = .int .i64 at_ ∧ tm 1 = vo ∧ tm 2 = .int .i64 (n : Int) ∧ tm 7 = .ptr p 0 ∧ tm 9 = .ptr jb 0 ∧ tm 11 = va ∧ tm 12 = vb ∧ tm 13 = .int .i64 (i : Int)
theorem Ag1 {C : ICode} (hC : C = AgC) {n0 at_ : Int} {vo : AV} {H : AH} (hok : H.ok)
    (hX : ∀ (n : Nat), 1 ≤ n → n ≤ 8 → ∀ tm H2 p L jb va vb la lb, JS H H2 p L jb 0 8 ⟨List.replicate 60 none, 0, -1, false⟩ → BI H2 va la → BI H2 vb lb → la.map wr = rowF 30 (fun k => (k : Int)) n → lb.map wr = rowR (n / 2) n →
      tm 0 = .int .i64 at_ → tm 1 = vo → tm 2 = .int .i64 (n : Int) → tm 7 = .ptr p 0 → tm 9 = .ptr jb 0 → tm 11 = va → tm 12 = vb → IWP Tryd.prog (part_ [1, 1, 1, 1, 1, 1, 1, 1] C) (AgQ H) tm H2) :
    IWP Tryd.prog C (AgQ H) (tm0 [.int .i64 at_, vo, .int .i64 n0]) H := by
  have hcut : C = (.seq (part_ [0] AgC) (.seq (part_ [1, 0] AgC) (.seq (part_ [1, 1, 0] AgC) (.seq (part_ [1, 1, 1, 0] AgC) (.seq (part_ [1, 1, 1, 1, 0] AgC) (.seq (part_ [1, 1, 1, 1, 1, 0] AgC) (.seq (part_ [1, 1, 1, 1, 1, 1, 0] AgC) (.seq (part_ [1, 1, 1, 1, 1, 1, 1, 0] AgC) (part_ [1, 1, 1, 1, 1, 1, 1, 1] AgC))))))))) := by rw [hC]; kernel_rfl
  rw [show part_ [1, 1, 1, 1, 1, 1, 1, 1] C = part_ [1, 1, 1, 1, 1, 1, 1, 1] AgC by rw [hC]] at hX
  obtain ⟨n', hn0, hn8'⟩ := St.mask_small 3 (by omega) n0
  have hn' : bits .and .i64 n0 7 = (n' : Int) := hn0
  rw [hcut]
  clear hcut hC
  generalize part_ [1, 1, 1, 1, 1, 1, 1, 1] AgC = Y at *
  simp (disch := first | omega | (simp; done) | assumption) [wr64, wrU8, wrU64, Nat.add_assoc, -getElem?_pos, List.getElem?_cons_zero, List.getElem?_cons_succ, part_, AgC, ic3]
  refine CallW.okof (show ACall Tryd.prog _ [.int .i64 60] _ _ from New (n := 60) (by omega) (by omega) _) ?_
  rintro v H1 ⟨hk1, hn1, p, L, rfl, hp, hL, hp1, hL1, hd1⟩ hok1
  try simp only [newO_none] at hk1 hn1 hp hL
  simp (disch := first | omega | (simp; done) | assumption) [wr64, wrU8, wrU64, Nat.add_assoc, -getElem?_pos, List.getElem?_cons_zero, List.getElem?_cons_succ, ]
  refine CallW.okof (show ACall Tryd.prog _ [.ptr p 0, .int .i64 0, .int .i64 8] _ _ from Open0 (at_ := 0) (most := 8) hd1 (by omega) (by simp [need, lists]) (by simp) rfl (vw_fresh _ _)) ?_
  rintro v H2 ⟨k2, n2, jb, hjb, hjbn, rfl, hj2⟩ hok2
  try simp only [newO_none] at n2 k2 hjb
  have hJ : JS H H2 p L jb 0 8 ⟨List.replicate 60 none, 0, -1, false⟩ := ⟨fun y o h => k2 _ _ (hk1 _ _ h), hok2, by omega, hp, hL, hd1.keeps k2, hj2⟩
  simp (disch := first | omega | (simp; done) | assumption) [wr64, wrU8, wrU64, Nat.add_assoc, -getElem?_pos, List.getElem?_cons_zero, List.getElem?_cons_succ, hn']
  refine iwp_loop (AgI (n' + 1) ((n' + 1) / 2) at_ vo p L jb ⟨List.replicate 60 none, 0, -1, false⟩ H) (n' + 1) ⟨hJ, 0, [], [], .snil, .snil, rfl, by omega, GL.nil _ _, GL.nil _ _, Disj.nil_left _, rfl, rfl, by simp, by simp, by simp, by simp, by simp, by simp, by simp, by simp⟩ ?_
  clear hJ k2 n2 hok2 hd1 hk1 hn1 hok1 hj2 hjb hjbn
  rintro kk tm H3 ⟨hJ, i, la, lb, va, vb, rfl, hi, ga, gb, hdj, hla, hlb, t0, t1, t2, t7, t9, t11, t12, t13⟩
  have hlal : la.length = i := by have := congrArg List.length hla; simpa [rowF_len] using this
  have hlbl : lb.length = i := by have := congrArg List.length hlb; simpa [rowR_len] using this
  by_cases hlt : i < n' + 1
  · have hlt' : (i : Int) < (n' : Int) + 1 := by omega
    have e1 : ((n' : Int) + 1).tdiv 2 = (((n' + 1) / 2 : Nat) : Int) := by rw [Int.tdiv_eq_ediv_of_nonneg (by omega)]; omega
    have hh : (n' + 1) / 2 ≤ 4 := by omega
    generalize (n' + 1) / 2 = h at *
    obtain ⟨r, hrr⟩ : ∃ r, (i + h) % 8 = r := ⟨_, rfl⟩
    have e2 : ((i : Int) + (h : Int)).tmod 8 = (r : Int) := by rw [Int.tmod_eq_emod_of_nonneg (by omega), ← hrr]; omega
    have hwh : IntKind.i64.wrap (h : Int) = (h : Int) := wrapI (by omega) (by omega)
    have hr8 : r < 8 := by omega
    simp (disch := first | omega | (simp; done) | assumption) [wr64, wrU8, wrU64, Nat.add_assoc, -getElem?_pos, List.getElem?_cons_zero, List.getElem?_cons_succ, t0, t1, t2, t7, t9, t11, t12, t13, hlt, hlt']
    refine CallW.okof (Fill (i : Int) _) ?_
    rintro v H4 ⟨k4, n4, q4, hq4, hq4n, hr4⟩ hok4
    try simp only [newO_none] at k4 n4 hq4
    obtain ⟨rfl, hQ4⟩ := qok_of hr4
    have hnx := hJ.next
    have ga4 := ga.keeps k4 n4
    have gb4 := gb.keeps k4 n4
    obtain ⟨va', H5, a1, g1, n5, kb5, kt5, hok5, oth5⟩ := appI (x := (30 + i, (q4, fill (i : Int)))) ga4 ⟨hQ4, hq4n, by dsimp only; omega⟩ hok4 (by omega) (by omega)
    obtain ⟨gb5, hdj5⟩ := oth5 vb lb gb4 hdj
    simp only [rowI, sl] at a1
    rw [show ((30 + i : Nat) : Int) = 30 + (i : Int) by omega] at a1
    simp only [sl]
    simp (disch := first | omega | (simp; done) | assumption) [wr64, wrU8, wrU64, Nat.add_assoc, -getElem?_pos, List.getElem?_cons_zero, List.getElem?_cons_succ, t0, t1, t2, t7, t9, t11, t12, t13]
    refine Try.intro a1 ?_
    simp (disch := first | omega | (simp; done) | assumption) [wr64, wrU8, wrU64, Nat.add_assoc, -getElem?_pos, List.getElem?_cons_zero, List.getElem?_cons_succ, t0, t1, t2, t7, t9, t11, t12, t13, e1, e2, hwh]
    refine CallW.okof (Fill (900 + (i : Int)) _) ?_
    rintro v H6 ⟨k6, n6, q6, hq6, hq6n, hr6⟩ hok6
    try simp only [newO_none] at k6 n6 hq6
    obtain ⟨rfl, hQ6⟩ := qok_of hr6
    have g16 := g1.keeps k6 n6
    have gb6 := gb5.keeps k6 n6
    obtain ⟨vb', H7, a2, g2, n7, kb7, kt7, hok7, oth7⟩ := appI (x := (30 + r, (q6, fill (900 + (i : Int))))) gb6 ⟨hQ6, hq6n, by dsimp only; omega⟩ hok6 (by omega) (by omega)
    obtain ⟨ga7, hdj7⟩ := oth7 va' _ g16 hdj5.symm
    simp only [rowI, sl] at a2
    rw [show ((30 + r : Nat) : Int) = 30 + (r : Int) by omega] at a2
    simp only [sl]
    simp (disch := first | omega | (simp; done) | assumption) [wr64, wrU8, wrU64, Nat.add_assoc, -getElem?_pos, List.getElem?_cons_zero, List.getElem?_cons_succ, t0, t1, t2, t7, t9, t11, t12, t13, e1, e2, hwh]
    refine Try.intro a2 ?_
    simp (disch := first | omega | (simp; done) | assumption) [wr64, wrU8, wrU64, Nat.add_assoc, -getElem?_pos, List.getElem?_cons_zero, List.getElem?_cons_succ, t0, t1, t2, t7, t9, t11, t12, t13]
    have hJ4 := hJ.mono k4 hok4 n4
    have hJ5 := hJ4.kt hok kb5 kt5 hok5 (by omega)
    have hJ6 := hJ5.mono k6 hok6 n6
    have hJ7 := hJ6.kt hok kb7 kt7 hok7 (by omega)
    exact ⟨n' + 1 - (i + 1), by omega, hJ7, i + 1, la ++ [(30 + i, (q4, fill (i : Int)))], lb ++ [(30 + r, (q6, fill (900 + (i : Int))))], va', vb', rfl, by omega, ga7, g2, hdj7.symm, by rw [List.map_append, hla, rowF_succ]; rfl, by rw [List.map_append, hlb, rowR_succ, hrr]; rfl, by simp [t0], by simp [t1], by simp [t2], by simp [t7], by simp [t9], by simp, by simp, by simp⟩
  · have hlt' : ¬ (i : Int) < (n' : Int) + 1 := by omega
    obtain rfl : i = n' + 1 := by omega
    simp (disch := first | omega | (simp; done) | assumption) [wr64, wrU8, wrU64, Nat.add_assoc, -getElem?_pos, List.getElem?_cons_zero, List.getElem?_cons_succ, t0, t1, t2, t7, t9, t11, t12, t13, hlt, hlt']
    exact hX (n' + 1) (by omega) (by omega) _ H3 p L jb va vb la lb hJ (ga.bi (by omega)) (gb.bi (by omega)) hla hlb (by simp [t0]) (by simp [t1]) (by simp [t2]) (by simp [t7]) (by simp [t9]) (by simp [t11]) (by simp [t12])
/-! ### The first group stands; what is there is kept in mind -/
abbrev bs1 (n : Nat) : Nat → Bs := aft zz (rowF 30 (fun k => (k : Int)) n)
structure AgM (H H1 : AH) (p L jb W : Nat) (s : DK) (f : Nat → Bs) (vb : AV) (lb : List Ib) : Prop where
  js : JS H H1 p L jb 0 8 s
  W0 : H.next ≤ W
  at_ : H1.at_ W = some (.cells false t8S (wl f 8))
  bi : BI H1 vb lb
theorem AgM.kx {H H1 H2 : AH} {p L jb W : Nat} {s s' : DK} {f : Nat → Bs} {vb : AV} {lb : List Ib} (h : AgM H H1 p L jb W s f vb lb) (hok0 : H.ok) (hk : KX p L H1 H2) (hok : H2.ok) (hn : H1.next ≤ H2.next) (hd : DS H2 p L s') : AgM H H2 p L jb W s' f vb lb := by
  obtain ⟨n1, n2⟩ := ds_ne h.js.ds h.at_ (by decide) (by decide)
  exact ⟨h.js.kx hok0 hk hok hn hd, h.W0, hk _ _ n1 n2 h.at_, h.bi.kx h.js.ds hk⟩
theorem AgM.keeps {H H1 H2 : AH} {p L jb W : Nat} {s : DK} {f : Nat → Bs} {vb : AV} {lb : List Ib} (h : AgM H H1 p L jb W s f vb lb) (hk : H1.keepsAll H2) (hok : H2.ok) (hn : H1.next ≤ H2.next) : AgM H H2 p L jb W s f vb lb :=
  ⟨h.js.mono hk hok hn, h.W0, hk _ _ h.at_, h.bi.keeps hk⟩
def AgL (n : Nat) (at_ : Int) (vo vb : AV) (p L jb W : Nat) (s : DK) (f : Nat → Bs) (lb : List Ib) (H : AH) (kk : Nat) (tm : Tms) (H' : AH) : Prop := ∃ i : Nat, kk = 8 - i ∧ i ≤ 8 ∧ JS H H' p L jb 0 8 s ∧ H'.at_ W = some (.cells false t8S (wl f i)) ∧ BI H' vb lb ∧
  tm 0 = .int .i64 at_ ∧ tm 1 = vo ∧ tm 2 = .int .i64 (n : Int) ∧ tm 7 = .ptr p 0 ∧ tm 9 = .ptr jb 0 ∧ tm 12 = vb ∧ tm 14 = .ptr W 0 ∧ tm 15 = .int .i64 (i : Int)
theorem Ag2 {C : ICode} (hC : C = AgC) {n : Nat} {at_ : Int} {vo va vb : AV} (hn1 : 1 ≤ n) (hn8 : n ≤ 8) {H H1 : AH} (hok : H.ok) {p L jb : Nat} {la lb : List Ib} {tm : Tms} (hJ : JS H H1 p L jb 0 8 ⟨List.replicate 60 none, 0, -1, false⟩) (hA : BI H1 va la) (hB : BI H1 vb lb)
    (hla : la.map wr = rowF 30 (fun k => (k : Int)) n) (t0 : tm 0 = .int .i64 at_) (t1 : tm 1 = vo) (t2 : tm 2 = .int .i64 (n : Int)) (t7 : tm 7 = .ptr p 0) (t9 : tm 9 = .ptr jb 0) (t11 : tm 11 = va) (t12 : tm 12 = vb)
    (hX : ∀ tm' H2 s W, AgM H H2 p L jb W s (bs1 n) vb lb → s.ct.length = 60 → SOk s 1000 → s.dead = false → s.f < 0 → St0 0 8 (bs1 n) s.ct → tm' 0 = .int .i64 at_ → tm' 1 = vo → tm' 2 = .int .i64 (n : Int) → tm' 7 = .ptr p 0 → tm' 9 = .ptr jb 0 → tm' 12 = vb → tm' 14 = .ptr W 0 → IWP Tryd.prog (part_ [1, 1, 1, 1, 1, 1, 1, 1, 1, 1, 1] C) (AgQ H) tm' H2) :
    IWP Tryd.prog (part_ [1, 1, 1, 1, 1, 1, 1, 1] C) (AgQ H) tm H1 := by
  have hcut : part_ [1, 1, 1, 1, 1, 1, 1, 1] C = (.seq (part_ [1, 1, 1, 1, 1, 1, 1, 1, 0] AgC) (.seq (part_ [1, 1, 1, 1, 1, 1, 1, 1, 1, 0] AgC) (.seq (part_ [1, 1, 1, 1, 1, 1, 1, 1, 1, 1, 0] AgC) (part_ [1, 1, 1, 1, 1, 1, 1, 1, 1, 1, 1] AgC)))) := by rw [hC]; kernel_rfl
  rw [show part_ [1, 1, 1, 1, 1, 1, 1, 1, 1, 1, 1] C = part_ [1, 1, 1, 1, 1, 1, 1, 1, 1, 1, 1] AgC by rw [hC]] at hX
  rw [hcut]
  clear hcut hC
  generalize part_ [1, 1, 1, 1, 1, 1, 1, 1, 1, 1, 1] AgC = Y at *
  have hG : Geo 0 8 (List.replicate 60 (none : Option Bs)).length (la.map wr) := by rw [hla]; exact agGeoA hn1 hn8 (by simp)
  simp (disch := first | omega | (simp; done) | assumption) [wr64, wrU8, wrU64, Nat.add_assoc, -getElem?_pos, List.getElem?_cons_zero, List.getElem?_cons_succ, part_, AgC, ic3, t0, t1, t2, t7, t9, t11, t12]
  refine CallW.okof (Commit (base := zz) hJ.ds hJ.jo hG (sok_fresh 60) (by omega) (st0_fresh _ _ _) hA) ?_
  rintro v H2 ⟨n2, k2, s2, hd2, hC2, _⟩ hok2
  try simp only [newO_none] at n2 k2
  obtain ⟨rfl, ha2, hf2⟩ := hC2.all rfl (by show (-1 : Int) < 0; omega)
  have hst2 := hC2.good rfl
  rw [hla] at hst2
  have hl2 : s2.ct.length = 60 := by rw [hC2.ct]; simp
  have hs2 : SOk s2 1000 := hC2.sok.mono (by omega)
  have hJ2 := hJ.kx hok k2 hok2 n2 hd2
  have hB2 := hB.kx hJ.ds k2
  have hf2' : s2.f < 0 := by rw [hf2]; show (-1 : Int) < 0; omega
  change St0 0 8 (bs1 n) s2.ct at hst2
  generalize bs1 n = f0 at hst2 hX
  simp (disch := first | omega | (simp; done) | assumption) [wr64, wrU8, wrU64, Nat.add_assoc, -getElem?_pos, List.getElem?_cons_zero, List.getElem?_cons_succ, t0, t1, t2, t7, t9, t12]
  have hkW : H2.keepsAll (H2.new (.cells false t8S (wl f0 0))) := keeps_new hok2 (AH.keepsAll_refl _) (Nat.le_refl _)
  have hw0 : wl f0 0 = [.str [], .str [], .str [], .str [], .str [], .str [], .str [], .str []] := rfl
  have hnx2 := hJ2.next
  rw [← hw0]
  refine iwp_loop (AgL n at_ vo vb p L jb H2.next s2 f0 lb H) 8 ⟨0, rfl, by omega, hJ2.mono hkW (AH.ok_new hok2) (by simp), AH.new_same _ _, hB2.keeps hkW, by simp [t0], by simp [t1], by simp [t2], by simp [t7], by simp [t9], by simp [t12], by simp, by simp⟩ ?_
  clear hJ2 hB2 hkW hw0 t0 t1 t2 t7 t9 t11 t12 hd2
  rintro kk tm H3 ⟨i, rfl, hi, hJ3, hW3, hB3, t0, t1, t2, t7, t9, t12, t14, t15⟩
  generalize H2.next = W at *
  by_cases hlt : i < 8
  · have hlt' : (i : Int) < 8 := by omega
    have hR := JRead (i := 30 + i) hJ3.ds hJ3.jo (by omega) ha2
    rw [show ((30 + i : Nat) : Int) = 30 + (i : Int) by omega, hst2.2 (30 + i) (own08 (by omega))] at hR
    have hws := wl_set f0 i hlt
    have hwl := wl_len f0 i
    have hlt7 : i ≤ 7 := by omega
    simp (disch := first | omega | (simp; done) | assumption) [wr64, wrU8, wrU64, Nat.add_assoc, -getElem?_pos, List.getElem?_cons_zero, List.getElem?_cons_succ, t0, t1, t2, t7, t9, t12, t14, t15, hlt, hlt']
    refine CallW.okof hR ?_
    rintro v H4 ⟨k4, n4, q, hq1, hq2, rfl, hQ⟩ hok4
    try simp only [newO_none] at k4 n4 hq1
    have b1 := b2s_q hQ
    simp only [sl] at b1
    have hW4 := k4 _ _ hW3
    have hJ4 := hJ3.mono k4 hok4 n4
    have hB4 := hB3.keeps k4
    generalize hg : f0 (30 + i) = X at *
    simp (disch := first | omega | (simp; done) | assumption) [wr64, wrU8, wrU64, Nat.add_assoc, -getElem?_pos, List.getElem?_cons_zero, List.getElem?_cons_succ, t0, t1, t2, t7, t9, t12, t14, t15, b1, hW4, hwl, hlt, hlt', hlt7, hws]
    refine ⟨8 - (i + 1), by omega, i + 1, rfl, by omega, hJ4.setW hok hW4 (by decide) (by decide) (by decide) (by decide) (by omega), AH.set_same _ _ _, hB4.setW hW4 (by decide) (by decide), by simp [t0], by simp [t1], by simp [t2], by simp [t7], by simp [t9], by simp [t12], by simp [t14], by simp⟩
  · obtain rfl : i = 8 := by omega
    simp (disch := first | omega | (simp; done) | assumption) [wr64, wrU8, wrU64, Nat.add_assoc, -getElem?_pos, List.getElem?_cons_zero, List.getElem?_cons_succ, t0, t1, t2, t7, t9, t12, t14, t15]
    exact hX _ H3 s2 W ⟨hJ3, by omega, hW3, hB3⟩ hl2 hs2 ha2 hf2' hst2 (by simp [t0]) (by simp [t1]) (by simp [t2]) (by simp [t7]) (by simp [t9]) (by simp [t12]) (by simp [t14])
/-! ### The second group, and the Opens behind it -/
def AgO (n : Nat) (vo vb : AV) (dn : Bool) (p L jb W N : Nat) (f bX : Nat → Bs) (B : List Wr) (lb : List Ib) (H : AH) (kk : Nat) (tm : Tms) (H' : AH) : Prop := ∃ (i : Nat) (s : DK), kk = N - i ∧ i ≤ N ∧ AgM H H' p L jb W s f vb lb ∧ s.ct.length = 60 ∧ SOk s (2000 + 300 * i) ∧ SC 0 8 bX B s.ct ∧
  tm 1 = vo ∧ tm 2 = .int .i64 (n : Int) ∧ tm 7 = .ptr p 0 ∧ tm 12 = vb ∧ tm 14 = .ptr W 0 ∧ tm 18 = .bool dn ∧ tm 19 = .int .i64 (i : Int)
theorem Ag3k {C : ICode} (hC : C = AgC) {n : Nat} {vo vb : AV} {opens : List Int} (hn1 : 1 ≤ n) (hn8 : n ≤ 8) {H H3 : AH} (hok : H.ok) (ho : SL H vo (opens.map (AV.int .i64))) {p L jb W h : Nat} {s3 : DK} {lb : List Ib} {tm' : Tms} (hM3 : AgM H H3 p L jb W s3 (bs1 n) vb lb)
    (hl3 : s3.ct.length = 60) (hs3 : SOk s3 (2000 + 300 * 0)) (dn : Bool) (bX : Nat → Bs) (hsc : SC 0 8 bX (rowR h n) s3.ct) (hend : ∀ ct, St0 0 8 bX ct ∨ St0 0 8 (aft bX (rowR h n)) ct → (dn = false ∧ St0 0 8 (bs1 n) ct) ∨ St0 0 8 (aft (bs1 n) (rowR h n)) ct)
    (t1 : tm' 1 = vo) (t2 : tm' 2 = .int .i64 (n : Int)) (t7 : tm' 7 = .ptr p 0) (t12 : tm' 12 = vb) (t14 : tm' 14 = .ptr W 0) (t18 : tm' 18 = .bool dn)
    (hX : ∀ tm' H2 s2 jb2 dn, AgM H H2 p L jb2 W s2 (bs1 n) vb lb → s2.ct.length = 60 → s2.dead = false → ((dn = false ∧ St0 0 8 (bs1 n) s2.ct) ∨ St0 0 8 (aft (bs1 n) (rowR h n)) s2.ct) → tm' 2 = .int .i64 (n : Int) → tm' 9 = .ptr jb2 0 → tm' 12 = vb → tm' 14 = .ptr W 0 → tm' 18 = .bool dn → IWP Tryd.prog (part_ [1, 1, 1, 1, 1, 1, 1, 1, 1, 1, 1, 1, 1, 1, 1, 1, 1] C) (AgQ H) tm' H2) :
    IWP Tryd.prog (part_ [1, 1, 1, 1, 1, 1, 1, 1, 1, 1, 1, 1, 1] C) (AgQ H) tm' H3 := by
  have hcut : part_ [1, 1, 1, 1, 1, 1, 1, 1, 1, 1, 1, 1, 1] C = (.seq (part_ [1, 1, 1, 1, 1, 1, 1, 1, 1, 1, 1, 1, 1, 0] AgC) (.seq (part_ [1, 1, 1, 1, 1, 1, 1, 1, 1, 1, 1, 1, 1, 1, 0] AgC) (.seq (part_ [1, 1, 1, 1, 1, 1, 1, 1, 1, 1, 1, 1, 1, 1, 1, 0] AgC) (.seq (part_ [1, 1, 1, 1, 1, 1, 1, 1, 1, 1, 1, 1, 1, 1, 1, 1, 0] AgC) (part_ [1, 1, 1, 1, 1, 1, 1, 1, 1, 1, 1, 1, 1, 1, 1, 1, 1] AgC))))) := by rw [hC]; kernel_rfl
  rw [show part_ [1, 1, 1, 1, 1, 1, 1, 1, 1, 1, 1, 1, 1, 1, 1, 1, 1] C = part_ [1, 1, 1, 1, 1, 1, 1, 1, 1, 1, 1, 1, 1, 1, 1, 1, 1] AgC by rw [hC]] at hX
  rw [hcut]
  clear hcut hC
  generalize part_ [1, 1, 1, 1, 1, 1, 1, 1, 1, 1, 1, 1, 1, 1, 1, 1, 1] AgC = Y at *
  have hvl : lenS vo = some opens.length := by have := ho.lenS; simpa using this
  have hoget : ∀ i (hi : i < opens.length), ∃ b o, vo = .slice b o opens.length 1 ∧ loadC H b (o + i) none = some (.int .i64 opens[i]) := fun i hi => by
    obtain ⟨b, o, h1, h2⟩ := ho.get i (by simpa using hi)
    exact ⟨b, o, by simpa using h1, by simpa using h2⟩
  have hGB : ∀ {nn : Nat}, nn = 60 → Geo 0 8 nn (rowR h n) := fun e => agGeoB hn1 hn8 e
  have fin : ∀ (dn : Bool) (bX : Nat → Bs) (H4 : AH) (s4 : DK) (c4 : Nat) tm, c4 ≤ 10000 → AgM H H4 p L jb W s4 (bs1 n) vb lb → s4.ct.length = 60 → SOk s4 c4 → SC 0 8 bX (rowR h n) s4.ct → (∀ ct, St0 0 8 bX ct ∨ St0 0 8 (aft bX (rowR h n)) ct → (dn = false ∧ St0 0 8 (bs1 n) ct) ∨ St0 0 8 (aft (bs1 n) (rowR h n)) ct) → tm 2 = .int .i64 (n : Int) → tm 7 = .ptr p 0 → tm 12 = vb → tm 14 = .ptr W 0 → tm 18 = .bool dn → IWP Tryd.prog (.seq (part_ [1, 1, 1, 1, 1, 1, 1, 1, 1, 1, 1, 1, 1, 1, 0] AgC) (.seq (part_ [1, 1, 1, 1, 1, 1, 1, 1, 1, 1, 1, 1, 1, 1, 1, 0] AgC) (.seq (part_ [1, 1, 1, 1, 1, 1, 1, 1, 1, 1, 1, 1, 1, 1, 1, 1, 0] AgC) Y))) (AgQ H) tm H4 := by
    intro dn bX H4 s4 c4 tm hc4 hM4 hl4 hs4 hsc4 hend t2 t7 t12 t14 t18
    simp (disch := first | omega | (simp; done) | assumption) [wr64, wrU8, wrU64, Nat.add_assoc, -getElem?_pos, List.getElem?_cons_zero, List.getElem?_cons_succ, part_, AgC, ic3, t2, t7, t12, t14, t18]
    refine CallW.okof (Power hM4.js.ds) ?_
    rintro v H5 ⟨rfl, n5, k5, hd5⟩ hok5
    try simp only [newO_none] at n5 k5
    have hM5 := hM4.kx hok k5 hok5 (by omega) hd5
    have hs5 : SOk ⟨s4.ct, s4.w, -1, false⟩ 10000 := (hs4.mono (by omega)).fused (by omega) _ _ (by omega) (by omega)
    simp (disch := first | omega | (simp; done) | assumption) [wr64, wrU8, wrU64, Nat.add_assoc, -getElem?_pos, List.getElem?_cons_zero, List.getElem?_cons_succ, t2, t7, t12, t14, t18]
    refine CallW.okof (show ACall Tryd.prog _ [.ptr p 0, .int .i64 0, .int .i64 8] _ _ from OpenAny (at_ := 0) (most := 8) (base := bX) (lw := rowR h n) hM5.js.ds (hGB hl4) hs5 (by omega) hsc4 rfl (by show (-1 : Int) < 0; omega)) ?_
    rintro v H6 ⟨n6, k6, s6, jb6, hd6, hjb6, rfl, hj6, hl6, hs6, hst6, ha6, _⟩ hok6
    try simp only [newO_none] at n6 k6 hjb6
    have hM6a := hM5.kx hok k6 hok6 n6 hd6
    have hM6 : AgM H H6 p L jb6 W s6 (bs1 n) vb lb := ⟨⟨hM6a.js.keeps, hok6, hM6a.js.next, hM6a.js.p0, hM6a.js.L0, hd6, hj6⟩, hM6a.W0, hM6a.at_, hM6a.bi⟩
    simp (disch := first | omega | (simp; done) | assumption) [wr64, wrU8, wrU64, Nat.add_assoc, -getElem?_pos, List.getElem?_cons_zero, List.getElem?_cons_succ, t2, t7, t12, t14, t18]
    exact hX _ H6 s6 jb6 dn hM6 (by rw [hl6]; exact hl4) ha6 (hend _ hst6) (by simp [t2]) (by simp) (by simp [t12]) (by simp [t14]) (by simp [t18])
  generalize (ICode.seq (part_ [1, 1, 1, 1, 1, 1, 1, 1, 1, 1, 1, 1, 1, 1, 0] AgC) (.seq (part_ [1, 1, 1, 1, 1, 1, 1, 1, 1, 1, 1, 1, 1, 1, 1, 0] AgC) (.seq (part_ [1, 1, 1, 1, 1, 1, 1, 1, 1, 1, 1, 1, 1, 1, 1, 1, 0] AgC) Y))) = Z at fin ⊢
  simp (disch := first | omega | (simp; done) | assumption) [wr64, wrU8, wrU64, Nat.add_assoc, -getElem?_pos, List.getElem?_cons_zero, List.getElem?_cons_succ, part_, AgC, ic3, t1, t2, t7, t12, t14, t18]
  refine iwp_loop (AgO n vo vb dn p L jb W (min opens.length 8) (bs1 n) bX (rowR h n) lb H) (min opens.length 8) ⟨0, s3, rfl, by omega, hM3, hl3, hs3, hsc, by simp [t1], by simp [t2], by simp [t7], by simp [t12], by simp [t14], by simp [t18], by simp⟩ ?_
  clear t1 t2 t7 t12 t14 t18
  clear tm'
  rintro kk tm H4 ⟨i, s4, rfl, hi, hM4, hl4, hs4, hsc4, t1, t2, t7, t12, t14, t18, t19⟩
  by_cases hlt : i < min opens.length 8
  · have h1 : i < opens.length := by omega
    have h1' : (i : Int) < (opens.length : Int) := by omega
    have h2 : (i : Int) < 8 := by omega
    have h2' : i < 8 := by omega
    obtain ⟨bo, oo, rfl, hld⟩ := hoget i h1
    obtain ⟨m4, hm4, hm432⟩ := mask31 opens[i]
    generalize opens[i] = oi at *
    simp (disch := first | omega | (simp; done) | assumption) [wr64, wrU8, wrU64, Nat.add_assoc, -getElem?_pos, List.getElem?_cons_zero, List.getElem?_cons_succ, t1, t2, t7, t12, t14, t18, t19, h1, h1', h2, h2', hvl]
    refine CallW.okof (Power hM4.js.ds) ?_
    rintro v H5 ⟨rfl, n5, k5, hd5⟩ hok5
    try simp only [newO_none] at n5 k5
    have hM5 := hM4.kx hok k5 hok5 (by omega) hd5
    have hld5 := loadC_keeps hM5.js.keeps hld
    simp (disch := first | omega | (simp; done) | assumption) [wr64, wrU8, wrU64, Nat.add_assoc, -getElem?_pos, List.getElem?_cons_zero, List.getElem?_cons_succ, t1, t2, t7, t12, t14, t18, t19, h1, h1', h2, h2', hvl]
    refine Try.intro (by simpa using hld5) ?_
    simp (disch := first | omega | (simp; done) | assumption) [wr64, wrU8, wrU64, Nat.add_assoc, -getElem?_pos, List.getElem?_cons_zero, List.getElem?_cons_succ, t1, t2, t7, t12, t14, t18, t19, hm4]
    refine CallW.okof (Fuse (m4 : Int) hM5.js.ds) ?_
    rintro v H6 ⟨rfl, n6, k6, hd6⟩ hok6
    try simp only [newO_none] at n6 k6
    have hs6 : SOk ⟨s4.ct, s4.w, max (m4 : Int) (-1), false || decide ((m4 : Int) = 0)⟩ (2000 + 300 * i) := hs4.fused (by omega) _ _ (by omega) (by omega)
    have hM6 := hM5.kx hok k6 hok6 (by omega) hd6
    dsimp only at hM6
    generalize hs6d : (⟨s4.ct, s4.w, max (m4 : Int) (-1), false || decide ((m4 : Int) = 0)⟩ : DK) = s6 at *
    have hct6 : s6.ct = s4.ct := by rw [← hs6d]
    simp (disch := first | omega | (simp; done) | assumption) [wr64, wrU8, wrU64, Nat.add_assoc, -getElem?_pos, List.getElem?_cons_zero, List.getElem?_cons_succ, t1, t2, t7, t12, t14, t18, t19]
    refine CallW.okof (show ACall Tryd.prog _ [.ptr p 0, .int .i64 0, .int .i64 8] _ _ from Open (at_ := 0) (most := 8) (base := bX) (lw := rowR h n) hM6.js.ds (hGB (by rw [hct6]; exact hl4)) hs6 (by omega) (by rw [hct6]; exact hsc4)) ?_
    rintro v H7 ⟨n7, k7, s7, hd7, ok, hA7, hv7⟩ hok7
    try simp only [newO_none] at n7 k7
    have hM7 := hM6.kx hok k7 hok7 n7 hd7
    simp (disch := first | omega | (simp; done) | assumption) [wr64, wrU8, wrU64, Nat.add_assoc, -getElem?_pos, List.getElem?_cons_zero, List.getElem?_cons_succ, t1, t2, t7, t12, t14, t18, t19]
    exact ⟨min opens.length 8 - (i + 1), by omega, i + 1, s7, rfl, by omega, hM7, by rw [hA7.ct, hct6]; exact hl4, hA7.sok.mono (by omega), hA7.st, by simp [t1], by simp [t2], by simp [t7], by simp [t12], by simp [t14], by simp [t18], by simp⟩
  · have hnot : ¬ ((i : Int) < (opens.length : Int) ∧ (i : Int) < 8) := by omega
    have hi8 : i ≤ 8 := by omega
    by_cases h1 : (i : Int) < (opens.length : Int)
    · have h2 : ¬ (i : Int) < 8 := by omega
      have h1' : i < opens.length := by omega
      have h2' : ¬ i < 8 := by omega
      simp (disch := first | omega | (simp; done) | assumption) [wr64, wrU8, wrU64, Nat.add_assoc, -getElem?_pos, List.getElem?_cons_zero, List.getElem?_cons_succ, t1, t2, t7, t12, t14, t18, t19, h1, h1', h2, h2', hvl]
      exact fin dn bX H4 s4 _ _ (by omega) hM4 hl4 hs4 hsc4 hend (by simp [t2]) (by simp [t7]) (by simp [t12]) (by simp [t14]) (by simp [t18])
    · have h1' : ¬ i < opens.length := by omega
      simp (disch := first | omega | (simp; done) | assumption) [wr64, wrU8, wrU64, Nat.add_assoc, -getElem?_pos, List.getElem?_cons_zero, List.getElem?_cons_succ, t1, t2, t7, t12, t14, t18, t19, h1, h1', hvl]
      exact fin dn bX H4 s4 _ _ (by omega) hM4 hl4 hs4 hsc4 hend (by simp [t2]) (by simp [t7]) (by simp [t12]) (by simp [t14]) (by simp [t18])
theorem Ag3 {C : ICode} (hC : C = AgC) {n : Nat} {at_ : Int} {vo vb : AV} {opens : List Int} (hn1 : 1 ≤ n) (hn8 : n ≤ 8) {H H1 : AH} (hok : H.ok) (ho : SL H vo (opens.map (AV.int .i64))) {p L jb W h : Nat} {s : DK} {lb : List Ib} {tm : Tms} (hM : AgM H H1 p L jb W s (bs1 n) vb lb) (hlb : lb.map wr = rowR h n)
    (hl : s.ct.length = 60) (hs : SOk s 1000) (ha : s.dead = false) (hf : s.f < 0) (hst : St0 0 8 (bs1 n) s.ct) (t0 : tm 0 = .int .i64 at_) (t1 : tm 1 = vo) (t2 : tm 2 = .int .i64 (n : Int)) (t7 : tm 7 = .ptr p 0) (t9 : tm 9 = .ptr jb 0) (t12 : tm 12 = vb) (t14 : tm 14 = .ptr W 0)
    (hX : ∀ tm' H2 s2 jb2 dn, AgM H H2 p L jb2 W s2 (bs1 n) vb lb → s2.ct.length = 60 → s2.dead = false → ((dn = false ∧ St0 0 8 (bs1 n) s2.ct) ∨ St0 0 8 (aft (bs1 n) (rowR h n)) s2.ct) → tm' 2 = .int .i64 (n : Int) → tm' 9 = .ptr jb2 0 → tm' 12 = vb → tm' 14 = .ptr W 0 → tm' 18 = .bool dn → IWP Tryd.prog (part_ [1, 1, 1, 1, 1, 1, 1, 1, 1, 1, 1, 1, 1, 1, 1, 1, 1] C) (AgQ H) tm' H2) :
    IWP Tryd.prog (part_ [1, 1, 1, 1, 1, 1, 1, 1, 1, 1, 1] C) (AgQ H) tm H1 := by
  have hcut : part_ [1, 1, 1, 1, 1, 1, 1, 1, 1, 1, 1] C = (.seq (part_ [1, 1, 1, 1, 1, 1, 1, 1, 1, 1, 1, 0] AgC) (.seq (part_ [1, 1, 1, 1, 1, 1, 1, 1, 1, 1, 1, 1, 0] AgC) (part_ [1, 1, 1, 1, 1, 1, 1, 1, 1, 1, 1, 1, 1] AgC))) := by rw [hC]; kernel_rfl
  have key := fun (H3 : AH) (s3 : DK) (tm' : Tms) (hM3 : AgM H H3 p L jb W s3 (bs1 n) vb lb) hl3 hs3 dn bX hsc hend t1 t2 t7 t12 t14 t18 => Ag3k (C := C) (vo := vo) (h := h) hC hn1 hn8 hok ho hM3 hl3 hs3 dn bX hsc hend (tm' := tm') t1 t2 t7 t12 t14 t18 hX
  rw [show part_ [1, 1, 1, 1, 1, 1, 1, 1, 1, 1, 1, 1, 1] C = part_ [1, 1, 1, 1, 1, 1, 1, 1, 1, 1, 1, 1, 1] AgC by rw [hC]] at key
  rw [hcut]
  clear hcut hC hX
  generalize part_ [1, 1, 1, 1, 1, 1, 1, 1, 1, 1, 1, 1, 1] AgC = Y at *
  obtain ⟨m, hm, hm32⟩ := mask31 at_
  have hvl : lenS vo = some opens.length := by have := ho.lenS; simpa using this
  have hoget : ∀ i (hi : i < opens.length), ∃ b o, vo = .slice b o opens.length 1 ∧ loadC H b (o + i) none = some (.int .i64 opens[i]) := fun i hi => by
    obtain ⟨b, o, h1, h2⟩ := ho.get i (by simpa using hi)
    exact ⟨b, o, by simpa using h1, by simpa using h2⟩
  have hGB : ∀ {nn : Nat}, nn = 60 → Geo 0 8 nn (rowR h n) := fun e => agGeoB hn1 hn8 e
  simp (disch := first | omega | (simp; done) | assumption) [wr64, wrU8, wrU64, Nat.add_assoc, -getElem?_pos, List.getElem?_cons_zero, List.getElem?_cons_succ, part_, AgC, ic3, t0, t1, t2, t7, t9, t12, t14, hm]
  refine CallW.okof (Fuse (m : Int) hM.js.ds) ?_
  rintro v H2 ⟨rfl, n2, k2, hd2⟩ hok2
  try simp only [newO_none] at n2 k2
  have hs2 : SOk ⟨s.ct, s.w, max (m : Int) (-1), s.dead || decide ((m : Int) = 0)⟩ 1000 := hs.fused (by omega) _ _ (by omega) (by omega)
  generalize hs2d : (⟨s.ct, s.w, max (m : Int) (-1), s.dead || decide ((m : Int) = 0)⟩ : DK) = s2 at *
  have hct2 : s2.ct = s.ct := by rw [← hs2d]
  have hM2 := hM.kx hok k2 hok2 (by omega) hd2
  simp (disch := first | omega | (simp; done) | assumption) [wr64, wrU8, wrU64, Nat.add_assoc, -getElem?_pos, List.getElem?_cons_zero, List.getElem?_cons_succ, t0, t1, t2, t7, t9, t12, t14]
  refine CallW.okof (Commit hM2.js.ds hM2.js.jo (by rw [hlb]; exact hGB (by rw [hct2]; exact hl)) hs2 (by omega) (by rw [hct2]; exact hst) hM2.bi) ?_
  rintro fv H3 ⟨n3, k3, s3, hd3, hC3, hv3⟩ hok3
  try simp only [newO_none] at n3 k3
  have hM3 := hM2.kx hok k3 hok3 n3 hd3
  have hl3 : s3.ct.length = 60 := by rw [hC3.ct, hct2]; exact hl
  have hst3 := hC3.st
  have hgd3 := hC3.good
  rw [hlb] at hst3 hgd3
  have hs3 : SOk s3 (2000 + 300 * 0) := hC3.sok.mono (by omega)
  rcases hv3 with rfl | ⟨bT, _, _, rfl, _⟩
  · simp (disch := first | omega | (simp; done) | assumption) [wr64, wrU8, wrU64, Nat.add_assoc, -getElem?_pos, List.getElem?_cons_zero, List.getElem?_cons_succ, t0, t1, t2, t7, t9, t12, t14]
    exact key H3 s3 _ hM3 hl3 hs3 true (aft (bs1 n) (rowR h n)) (.inl (hgd3 rfl)) (fun ct hh => by rw [aft_aft, or_self] at hh; exact .inr hh) (by simp [t1]) (by simp [t2]) (by simp [t7]) (by simp [t12]) (by simp [t14]) (by simp)
  · simp (disch := first | omega | (simp; done) | assumption) [wr64, wrU8, wrU64, Nat.add_assoc, -getElem?_pos, List.getElem?_cons_zero, List.getElem?_cons_succ, t0, t1, t2, t7, t9, t12, t14]
    exact key H3 s3 _ hM3 hl3 hs3 false (bs1 n) hst3 (fun ct hh => hh.elim (fun a => .inl ⟨rfl, a⟩) .inr) (by simp [t1]) (by simp [t2]) (by simp [t7]) (by simp [t12]) (by simp [t14]) (by simp)
/-! ### What is there now -/
theorem BI.num {H : AH} {b : Nat} {l : List Ib} (h : H.at_ b = some (.cells false tBk (rowsI l).flatten)) {i : Nat} (hi : i < l.length) : loadC H b (i * 2) none = some (.int .i64 (l[i].1 : Int)) := by
  have := load_flat1 h (allI l) (k := i) (i := 0) (by simpa [rowsI] using hi) (by omega)
  rw [Nat.add_zero] at this
  rw [this]
  simp [rowsI, rowI]
def AgN (n : Nat) (vb : AV) (dn : Bool) (p L jb W N h : Nat) (s : DK) (f : Nat → Bs) (lb : List Ib) (H : AH) (kk : Nat) (tm : Tms) (H' : AH) : Prop := ∃ i : Nat, kk = n - i ∧ i ≤ n ∧ AgM H H' p L jb W s f vb lb ∧ H'.at_ N = some (.cells false t8S (wl (aft f (rowR h i)) 8)) ∧
  tm 2 = .int .i64 (n : Int) ∧ tm 9 = .ptr jb 0 ∧ tm 12 = vb ∧ tm 14 = .ptr W 0 ∧ tm 18 = .bool dn ∧ tm 20 = .ptr N 0 ∧ tm 21 = .int .i64 (i : Int)
def AgP (F dn : Bool) (jb W N : Nat) (H1 : AH) (kk : Nat) (tm : Tms) (H' : AH) : Prop := H1.keepsAll H' ∧ H1.next ≤ H'.next ∧ ∃ (i : Nat) (a b : Bool), kk = 8 - i ∧ i ≤ 8 ∧ (F = true → a = true) ∧ (F = false → b = true) ∧
  tm 9 = .ptr jb 0 ∧ tm 14 = .ptr W 0 ∧ tm 18 = .bool dn ∧ tm 20 = .ptr N 0 ∧ tm 22 = .bool a ∧ tm 23 = .bool b ∧ tm 24 = .int .i64 (i : Int)
theorem AgM.setN {H H1 : AH} {p L jb W N : Nat} {s : DK} {f : Nat → Bs} {vb : AV} {lb : List Ib} {cs o : List AV} (h : AgM H H1 p L jb W s f vb lb) (hok0 : H.ok) (hN : H1.at_ N = some (.cells false t8S cs)) (hNB : H.next ≤ N) (hne : N ≠ W) : AgM H (H1.set N (some (.cells false t8S o))) p L jb W s f vb lb :=
  ⟨h.js.setW hok0 hN (by decide) (by decide) (by decide) (by decide) hNB, h.W0, by rw [AH.set_ne _ _ (fun e => hne e.symm)]; exact h.at_, h.bi.setW hN (by decide) (by decide)⟩
theorem Ag4 {C : ICode} (hC : C = AgC) {n h : Nat} {vb : AV} {dn : Bool} (hn8 : n ≤ 8) {H H1 : AH} (hok : H.ok) {p L jb W : Nat} {s : DK} {f : Nat → Bs} {lb : List Ib} {tm : Tms} (hM : AgM H H1 p L jb W s f vb lb) (hlb : lb.map wr = rowR h n) (hl : s.ct.length = 60) (ha : s.dead = false)
    (hst : (dn = false ∧ St0 0 8 f s.ct) ∨ St0 0 8 (aft f (rowR h n)) s.ct) (t2 : tm 2 = .int .i64 (n : Int)) (t9 : tm 9 = .ptr jb 0) (t12 : tm 12 = vb) (t14 : tm 14 = .ptr W 0) (t18 : tm 18 = .bool dn) :
    IWP Tryd.prog (part_ [1, 1, 1, 1, 1, 1, 1, 1, 1, 1, 1, 1, 1, 1, 1, 1, 1] C) (AgQ H) tm H1 := by
  rw [hC]
  have hlbl : lb.length = n := by have := congrArg List.length hlb; simpa [rowR_len] using this
  have hget : ∀ i (hi : i < lb.length), lb[i].1 = 30 + (i + h) % 8 ∧ lb[i].2.2 = fill (900 + (i : Int)) := fun i hi => by
    have h9 : (lb.map wr)[i]? = (rowR h n)[i]? := by rw [hlb]
    rw [List.getElem?_map, List.getElem?_eq_getElem hi, List.getElem?_eq_getElem (by rw [rowR_len]; omega)] at h9
    have := Option.some.inj h9
    simp only [rowR, List.getElem_map, List.getElem_range, wr] at this
    exact ⟨(Prod.mk.inj this).1, (Prod.mk.inj this).2⟩
  have hW1 := hM.at_
  have hWn : W < H1.next := hM.js.ok _ _ hW1
  have hnx := hM.js.next
  obtain ⟨x0, x1, x2, x3, x4, x5, x6, x7, hx⟩ : ∃ x0 x1 x2 x3 x4 x5 x6 x7 : Bs, wl f 8 = [.str x0, .str x1, .str x2, .str x3, .str x4, .str x5, .str x6, .str x7] := ⟨_, _, _, _, _, _, _, _, rfl⟩
  rw [hx] at hW1
  simp (disch := first | omega | (simp; done) | assumption) [wr64, wrU8, wrU64, Nat.add_assoc, -getElem?_pos, List.getElem?_cons_zero, List.getElem?_cons_succ, part_, AgC, ic3, t2, t9, t12, t14, t18, hW1]
  rw [← hx]
  have hkN : ∀ o, H1.keepsAll (H1.new o) := fun o => keeps_new hM.js.ok (AH.keepsAll_refl _) (Nat.le_refl _)
  have hM2 := (hM.keeps (hkN (.cells false t8S [.str [], .str [], .str [], .str [], .str [], .str [], .str [], .str []])) (AH.ok_new hM.js.ok) (by simp)).setN (N := H1.next) (o := wl f 8) hok (AH.new_same _ _) hnx (by omega)
  have hN2 : ((H1.new (.cells false t8S [.str [], .str [], .str [], .str [], .str [], .str [], .str [], .str []])).set H1.next (some (.cells false t8S (wl f 8)))).at_ H1.next = some (.cells false t8S (wl (aft f (rowR h 0)) 8)) := AH.set_same _ _ _
  refine iwp_loop (AgN n vb dn p L jb W H1.next h s f lb H) n ⟨0, rfl, by omega, hM2, hN2, by simp [t2], by simp [t9], by simp [t12], by simp [t14], by simp [t18], by simp, by simp⟩ ?_
  clear hM2 hN2 hkN t2 t9 t12 t14 t18 hW1 hM
  clear tm
  have hWN : ¬ W = H1.next := by omega
  generalize H1.next = N at *
  rintro kk tm H2 ⟨i, rfl, hi, hM, hN, t2, t9, t12, t14, t18, t20, t21⟩
  by_cases hlt : i < n
  · have hlt' : (i : Int) < (n : Int) := by omega
    have hil : i < lb.length := by omega
    have hil' : (i : Int) < (lb.length : Int) := by omega
    obtain ⟨b, hvb, hbb, hq⟩ := hM.bi
    obtain ⟨e1, e2⟩ := hget i hil
    have l0 := BI.num hbb hil
    have l1 := BI.dat hbb hil
    have hqx := hq _ (List.getElem_mem hil)
    have b1 := b2s_q hqx
    generalize lb[i] = x at *
    rw [e2] at b1
    rw [e1] at l0
    obtain ⟨r, hr⟩ : ∃ r, (i + h) % 8 = r := ⟨_, rfl⟩
    have hr8 : r < 8 := by omega
    have hr8' : (r : Int) < 8 := by omega
    have hr7 : r ≤ 7 := by omega
    rw [hr] at l0
    rw [show ((30 + r : Nat) : Int) = 30 + (r : Int) by omega] at l0
    have hupd : (wl (aft f (rowR h i)) 8).set r (.str (fill (900 + (i : Int)))) = wl (aft f (rowR h (i + 1))) 8 := by
      refine wl_upd _ _ r _ hr8 fun j hj => ?_
      rw [rowR_succ, aft_snoc (rowR_not (by omega))]
      dsimp only
      rw [hr]
      by_cases e : j = r
      · rw [if_pos e, if_pos (by omega)]
      · rw [if_neg e, if_neg (by omega)]
    have hwl := wl_len (aft f (rowR h i)) 8
    have h30 : (30 : Int) + (r : Int) - 30 = (r : Int) := by omega
    simp only [sl] at l1 b1
    subst hvb
    generalize fill (900 + (i : Int)) = FX at *
    simp (disch := first | omega | (simp; done) | assumption) [wr64, wrU8, wrU64, Nat.add_assoc, -getElem?_pos, List.getElem?_cons_zero, List.getElem?_cons_succ, t2, t9, t12, t14, t18, t20, t21, hlt, hlt', hil, hil']
    refine Try.intro (by simpa using l0) ?_
    simp (disch := first | omega | (simp; done) | assumption) [wr64, wrU8, wrU64, Nat.add_assoc, -getElem?_pos, List.getElem?_cons_zero, List.getElem?_cons_succ, t2, t9, t12, t14, t18, t20, t21, hlt, hlt', hil, hil', h30]
    refine Try.intro (by simpa using l1) ?_
    simp (disch := first | omega | (simp; done) | assumption) [wr64, wrU8, wrU64, Nat.add_assoc, -getElem?_pos, List.getElem?_cons_zero, List.getElem?_cons_succ, t2, t9, t12, t14, t18, t20, t21, b1, h30, hr8, hr8', hr7, hN, hwl, hupd]
    have hNB : H.next ≤ N := hnx
    exact ⟨n - (i + 1), by omega, i + 1, rfl, by omega, hM.setN hok hN hNB (fun e => hWN e.symm), AH.set_same _ _ _, by simp [t2], by simp [t9], by simp [t12], by simp [t14], by simp [t18], by simp [t20], by simp⟩
  · have hlt' : ¬ (i : Int) < (n : Int) := by omega
    obtain rfl : i = n := by omega
    obtain ⟨F, hF1, hF2, hvx⟩ : ∃ F : Bool, (F = false → dn = false) ∧ (F = true → ∀ k, k < 8 → vw s.ct (30 + k) = aft f (rowR h i) (30 + k)) ∧ (F = false → ∀ k, k < 8 → vw s.ct (30 + k) = f (30 + k)) := by
      rcases hst with ⟨h1, h2⟩ | h2
      · exact ⟨false, fun _ => h1, fun e => (by cases e), fun _ k _ => h2.2 _ (own08 (by omega))⟩
      · exact ⟨true, fun e => (by cases e), fun _ k _ => h2.2 _ (own08 (by omega)), fun e => (by cases e)⟩
    simp (disch := first | omega | (simp; done) | assumption) [wr64, wrU8, wrU64, Nat.add_assoc, -getElem?_pos, List.getElem?_cons_zero, List.getElem?_cons_succ, t2, t9, t12, t14, t18, t20, t21, hlt, hlt']
    refine iwp_loop (AgP F dn jb W N H2) 8 ⟨fun _ _ h => h, Nat.le_refl _, 0, true, true, rfl, by omega, fun _ => rfl, fun _ => rfl, by simp [t9], by simp [t14], by simp [t18], by simp [t20], by simp, by simp, by simp⟩ ?_
    clear t2 t9 t12 t14 t18 t20 t21
    clear tm
    rintro kk tm H3 ⟨k3, n3, j, a, b, rfl, hj, haF, hbF, t9, t14, t18, t20, t22, t23, t24⟩
    by_cases hjt : j < 8
    · have hjt' : (j : Int) < 8 := by omega
      have hj7 : j ≤ 7 := by omega
      have hR := JRead (i := 30 + j) (hM.js.ds.keeps k3) (show JO H3 jb p 0 8 from k3 _ _ hM.js.jo) (by omega) ha
      rw [show ((30 + j : Nat) : Int) = 30 + (j : Int) by omega] at hR
      have gN := wl_get (aft f (rowR h i)) j hjt
      have gW := wl_get f j hjt
      have lN := wl_len (aft f (rowR h i)) 8
      have lW := wl_len f 8
      have v1 := fun e => hF2 e j hjt
      have v2 := fun e => hvx e j hjt
      have hW3 := k3 _ _ hM.at_
      have hN3 := k3 _ _ hN
      generalize wl (aft f (rowR h i)) 8 = LN at *
      generalize wl f 8 = LW at *
      generalize aft f (rowR h i) (30 + j) = XN at *
      generalize f (30 + j) = XW at *
      generalize vw s.ct (30 + j) = X at *
      simp (disch := first | omega | (simp; done) | assumption) [wr64, wrU8, wrU64, Nat.add_assoc, -getElem?_pos, List.getElem?_cons_zero, List.getElem?_cons_succ, t9, t14, t18, t20, t22, t23, t24, hjt, hjt']
      refine CallW.okof hR ?_
      rintro v H4 ⟨k4, n4, q, hq1, hq2, rfl, hQ⟩ hok4
      try simp only [newO_none] at k4 n4 hq1
      have b1 := b2s_q hQ
      have hW4 := k4 _ _ hW3
      have hN4 := k4 _ _ hN3
      simp only [sl] at b1
      have fin : ∀ (a' b' : Bool) tm', (F = true → a' = true) → (F = false → b' = true) → tm' 9 = .ptr jb 0 → tm' 14 = .ptr W 0 → tm' 18 = .bool dn → tm' 20 = .ptr N 0 → tm' 22 = .bool a' → tm' 23 = .bool b' → tm' 24 = .int .i64 ((j : Int) + 1) → ∃ m, m < 8 - j ∧ AgP F dn jb W N H2 m tm' H4 :=
        fun a' b' tm' h1 h2 e9 e14 e18 e20 e22 e23 e24 => ⟨8 - (j + 1), by omega, fun y o hh => k4 _ _ (k3 _ _ hh), by omega, j + 1, a', b', rfl, by omega, h1, h2, e9, e14, e18, e20, e22, e23, by rw [e24]; simp⟩
      cases F with
      | true =>
        obtain rfl := haF rfl
        obtain rfl := v1 rfl
        cases b
        · simp (disch := first | omega | (simp; done) | assumption) [wr64, wrU8, wrU64, Nat.add_assoc, -getElem?_pos, List.getElem?_cons_zero, List.getElem?_cons_succ, t9, t14, t18, t20, t22, t23, t24, b1, hW4, hN4, gN, gW, lN, lW, hjt, hjt', hj7]
          exact fin true false _ (fun _ => rfl) (fun e => (by cases e)) (by simp [t9]) (by simp [t14]) (by simp [t18]) (by simp [t20]) (by simp) (by simp [t23]) (by simp)
        · simp (disch := first | omega | (simp; done) | assumption) [wr64, wrU8, wrU64, Nat.add_assoc, -getElem?_pos, List.getElem?_cons_zero, List.getElem?_cons_succ, t9, t14, t18, t20, t22, t23, t24, b1, hW4, hN4, gN, gW, lN, lW, hjt, hjt', hj7]
          exact fin true _ _ (fun _ => rfl) (fun e => (by cases e)) (by simp [t9]) (by simp [t14]) (by simp [t18]) (by simp [t20]) (by simp) (by simp; rfl) (by simp)
      | false =>
        obtain rfl := hbF rfl
        obtain rfl := v2 rfl
        cases a
        · simp (disch := first | omega | (simp; done) | assumption) [wr64, wrU8, wrU64, Nat.add_assoc, -getElem?_pos, List.getElem?_cons_zero, List.getElem?_cons_succ, t9, t14, t18, t20, t22, t23, t24, b1, hW4, hN4, gN, gW, lN, lW, hjt, hjt', hj7]
          exact fin false true _ (fun e => (by cases e)) (fun _ => rfl) (by simp [t9]) (by simp [t14]) (by simp [t18]) (by simp [t20]) (by simp [t22]) (by simp) (by simp)
        · simp (disch := first | omega | (simp; done) | assumption) [wr64, wrU8, wrU64, Nat.add_assoc, -getElem?_pos, List.getElem?_cons_zero, List.getElem?_cons_succ, t9, t14, t18, t20, t22, t23, t24, b1, hW4, hN4, gN, gW, lN, lW, hjt, hjt', hj7]
          exact fin _ true _ (fun e => (by cases e)) (fun _ => rfl) (by simp [t9]) (by simp [t14]) (by simp [t18]) (by simp [t20]) (by simp; rfl) (by simp) (by simp)
    · have hjt' : ¬ (j : Int) < 8 := by omega
      have hkF : H.keepsAll H3 := fun y o hh => k3 _ _ (hM.js.keeps _ _ hh)
      cases a with
      | true =>
        simp (disch := first | omega | (simp; done) | assumption) [wr64, wrU8, wrU64, Nat.add_assoc, -getElem?_pos, List.getElem?_cons_zero, List.getElem?_cons_succ, t9, t14, t18, t20, t22, t23, t24, hjt, hjt']
        refine CallW.val JAwake ?_
        simp (disch := first | omega | (simp; done) | assumption) [wr64, wrU8, wrU64, Nat.add_assoc, -getElem?_pos, List.getElem?_cons_zero, List.getElem?_cons_succ, rs3]
        exact hkF
      | false =>
        have hF : F = false := by cases F; rfl; exact absurd (haF rfl) (by simp)
        obtain rfl := hbF hF
        obtain rfl := hF1 hF
        simp (disch := first | omega | (simp; done) | assumption) [wr64, wrU8, wrU64, Nat.add_assoc, -getElem?_pos, List.getElem?_cons_zero, List.getElem?_cons_succ, t9, t14, t18, t20, t22, t23, t24, hjt, hjt']
        refine CallW.val JAwake ?_
        simp (disch := first | omega | (simp; done) | assumption) [wr64, wrU8, wrU64, Nat.add_assoc, -getElem?_pos, List.getElem?_cons_zero, List.getElem?_cons_succ, rs3]
        exact hkF
theorem AgainC {C : ICode} (hC : C = AgC) {fn : Func} (hF : Fits Tryd.prog 3 fn C rs3) (hnt : 3 ≤ fn.ntmps) {n at_ : Int} {vo : AV} {opens : List Int} {H : AH} (ho : SL H vo (opens.map (AV.int .i64))) :
    ACall Tryd.prog 3 [.int .i64 at_, vo, .int .i64 n] H (fun v H' => v = .bool true ∧ H' = H) :=
  acall_enter hF hnt (by simp) fun hok => Ag1 hC hok fun n h1 h8 tm H2 p L jb va vb la lb hJ hA hB hla hlb t0 t1 t2 t7 t9 t11 t12 => Ag2 hC h1 h8 hok hJ hA hB hla t0 t1 t2 t7 t9 t11 t12 fun tm' H3 s W hM hl hs ha hf hst e0 e1 e2 e7 e9 e12 e14 =>
    Ag3 hC h1 h8 hok ho hM hlb hl hs ha hf hst e0 e1 e2 e7 e9 e12 e14 fun tm'' H4 s2 jb2 dn hM2 hl2 ha2 hst2 g2 g9 g12 g14 g18 => Ag4 hC h8 hok hM2 hlb hl2 ha2 hst2 g2 g9 g12 g14 g18
theorem tt_ok {W : World} (hsh : W.ShapedOpen Tryd.prog) (hG : TLaid.Tab W) : ∀ a o, TLaid.tabs a = some o → ∃ t cs x, o = .cells true t cs ∧ W.heap[a]? = some x ∧ ORel (j0 Tryd.prog) o x ∧ csize x = cs.length := fun a o h => by
  unfold TLaid.tabs at h
  split at h
  · rename_i e
    subst e
    cases h
    obtain ⟨x, h1, h2, h3⟩ := TLaid.pow_at hsh hG (j := j0 Tryd.prog)
    exact ⟨_, _, x, rfl, h1, h2, by rw [h3]; decide +kernel⟩
  · cases h
theorem JournalAgain.walk (a0 : Int) (a1 : Option Addr) (l1 c1 : Nat) (z1 : List Int) (a2 : Int) (W : World) (hsh : W.ShapedOpen Tryd.prog) (hG : TLaid.Tab W) (_ : (Lit.int .i64 a0).wf = true) (h1 : Abs.IsRow .i64 W a1 l1 c1 z1) (_ : (Lit.int .i64 a2).wf = true) :
    Calls Tryd.prog 3 #[.int .i64 a0, .slice a1 l1 c1, .int .i64 a2] W fun e W' => e = .returned (.bool true) ∧ Below W.heap.size W W' := by
  obtain ⟨v, hs, hv⟩ := SL.ints (tt_ok hsh hG) h1
  exact TLaid.walk hsh hG (AgainC rfl fits3 (by simp) hs) (.cons (.int ..) (.cons hv (.cons (.int ..) .nil)))
end Go.Proofs.YtcgkadfgojmmlaaDoor.JN

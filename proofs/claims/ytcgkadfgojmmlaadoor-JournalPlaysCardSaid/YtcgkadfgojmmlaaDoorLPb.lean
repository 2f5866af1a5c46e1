/- JournalPlays: the loops that build a group. No condition. -/
import Derived.Test.YtcgkadfgojmmlaaDoorLPa
set_option linter.unusedVariables false
set_option linter.unusedSimpArgs false
set_option maxRecDepth 100000
set_option maxHeartbeats 4000000
namespace Go.Proofs.YtcgkadfgojmmlaaDoor.JN
open Go Go.RowKit Go.Proofs.YtcgkadfgojmmlaaDoor Go.Proofs.YtcgkadfgojmmlaaDoor.Abs Go.Proofs.YtcgkadfgojmmlaaDoor.Ic Go.Proofs.YtcgkadfgojmmlaaDoor.EAs Go.Proofs.YtcgkadfgojmmlaaDoor.EErr Go.Proofs.YtcgkadfgojmmlaaDoor.DFn
/-- Within a round: the disk, the step's block, the row of numbers. -/
structure PM (H H1 : AH) (p L jb O N : Nat) (s : DK) (o : OpA) (nw : List Int) : Prop where
  js : JS H H1 p L jb 4 6 s
  O0 : H.next ≤ O
  N0 : H.next ≤ N
  oat : H1.at_ O = some (.cells false tOp (opRow o))
  nat_ : H1.at_ N = some (.cells false t18I (nw.map (AV.int .i64)))
theorem PM.keeps {H H1 H2 : AH} {p L jb O N : Nat} {s : DK} {o : OpA} {nw : List Int} (h : PM H H1 p L jb O N s o nw) (hk : H1.keepsAll H2) (hok : H2.ok) (hn : H1.next ≤ H2.next) : PM H H2 p L jb O N s o nw :=
  ⟨h.js.mono hk hok hn, h.O0, h.N0, hk _ _ h.oat, hk _ _ h.nat_⟩
theorem PM.kt {H H1 H2 : AH} {p L jb O N : Nat} {s : DK} {o : OpA} {nw : List Int} (h : PM H H1 p L jb O N s o nw) (hok0 : H.ok) (hk : KBel H.next H1 H2) (ht : KT H1 H2) (hok : H2.ok) (hn : H1.next ≤ H2.next) : PM H H2 p L jb O N s o nw :=
  ⟨h.js.kt hok0 hk ht hok hn, h.O0, h.N0, ht _ _ _ h.oat (by decide), ht _ _ _ h.nat_ (by decide)⟩
theorem PM.kx {H H1 H2 : AH} {p L jb O N : Nat} {s s' : DK} {o : OpA} {nw : List Int} (h : PM H H1 p L jb O N s o nw) (hok0 : H.ok) (hk : KX p L H1 H2) (hok : H2.ok) (hn : H1.next ≤ H2.next) (hd : DS H2 p L s') : PM H H2 p L jb O N s' o nw := by
  obtain ⟨n1, n2⟩ := ds_ne h.js.ds h.oat (by decide) (by decide)
  obtain ⟨m1, m2⟩ := ds_ne h.js.ds h.nat_ (by decide) (by decide)
  exact ⟨h.js.kx hok0 hk hok hn hd, h.O0, h.N0, hk _ _ n1 n2 h.oat, hk _ _ m1 m2 h.nat_⟩
/-- What is under way in all of a round. -/
structure TMr (v : AV) (p jb O N i : Nat) (tm : Tms) : Prop where
  t0 : tm 0 = v
  t3 : tm 3 = .ptr p 0
  t5 : tm 5 = .ptr jb 0
  t6 : tm 6 = .ptr N 0
  t7 : tm 7 = .int .i64 (i : Int)
  t8 : tm 8 = .ptr O 0
def mk (n : Int) : Int := bits .and .i64 n 2047
theorem mk_nat (n : Int) : ∃ m : Nat, mk n = (m : Int) ∧ m < 2048 := St.mask_small 11 (by omega) n
/-- The group that k of a step's blocks are. -/
def Zof (o : OpA) (k : Nat) (li : List Zb) : Prop := li.map (fun x => (x.1, x.2.2)) = (o.rw.take k).map fun r => (r.1, fill (mk r.2))
theorem Zof.len {o : OpA} {k : Nat} {li : List Zb} (h : Zof o k li) (hk : k ≤ o.rw.length) : li.length = k := by
  have := congrArg List.length h
  simp at this
  omega
theorem Zof.nos {o : OpA} {k : Nat} {li : List Zb} (h : Zof o k li) : li.map (·.1) = (o.rw.take k).map (·.1) := by
  have := congrArg (List.map Prod.fst) h
  rw [List.map_map, List.map_map] at this
  exact this
theorem Zof.get {o : OpA} {k : Nat} {li : List Zb} (h : Zof o k li) {i : Nat} (hi : i < li.length) (hr : i < o.rw.length) : li[i].1 = o.rw[i].1 ∧ li[i].2.2 = fill (mk o.rw[i].2) := by
  have h9 : (li.map (fun x => (x.1, x.2.2)))[i]? = ((o.rw.take k).map fun r => (r.1, fill (mk r.2)))[i]? := by rw [h]
  have hk : i < (o.rw.take k).length := by
    have := congrArg List.length h
    rw [List.length_map, List.length_map] at this
    omega
  rw [List.getElem?_map, List.getElem?_eq_getElem hi, List.getElem?_map, List.getElem?_eq_getElem hk, List.getElem_take] at h9
  have := Option.some.inj h9
  exact ⟨(Prod.mk.inj this).1, (Prod.mk.inj this).2⟩
def bdV (b : Bool) : Int := if b = true then 0 else 1
def P3I (v : AV) (p L jb O N i : Nat) (s : DK) (o : OpA) (nw : List Int) (H : AH) (kk : Nat) (tm : Tms) (H' : AH) : Prop := PM H H' p L jb O N s o nw ∧ TMr v p jb O N i tm ∧ ∃ (k : Nat) (li : List Zb) (va : AV), kk = min o.rw.length 10 - k ∧ k ≤ min o.rw.length 10 ∧ GZ H.next H' va li ∧ Zof o k li ∧
  tm 9 = va ∧ tm 10 = .int .i64 (bdV (gd 4 6 40 [] (li.map grZ))) ∧ tm 11 = .int .i64 (k : Int)
def P4I (v : AV) (p jb O N i k : Nat) (o : OpA) (va : AV) (no : Int) (c0 : Bool) (H1 : AH) (kk : Nat) (tm : Tms) (H' : AH) : Prop := H' = H1 ∧ TMr v p jb O N i tm ∧ ∃ m : Nat, kk = k - m ∧ m ≤ k ∧ tm 9 = va ∧ tm 10 = .int .i64 (bdV (c0 && !((o.rw.take m).map (·.1)).contains no)) ∧ tm 11 = .int .i64 (k : Int) ∧ tm 12 = .int .i64 no ∧ tm 13 = .int .i64 (m : Int)
theorem bdV_set (c0 b : Bool) (h : b = true) : bdV (c0 && !b) = 1 := by subst h; simp [bdV]
theorem Pl4 {v : AV} {p jb O N i k : Nat} {o : OpA} {va : AV} {no : Int} {c0 : Bool} {H1 : AH} {tm : Tms} (hoat : H1.at_ O = some (.cells false tOp (opRow o))) (hlv : SF H1 o.lv 2 (o.rw.map rawRow)) (hk : k < o.rw.length) (hk2 : k ≤ 100) (hT : TMr v p jb O N i tm) (t9 : tm 9 = va) (t10 : tm 10 = .int .i64 (bdV c0)) (t11 : tm 11 = .int .i64 (k : Int)) (t12 : tm 12 = .int .i64 no) (Q : IPost)
    (hX : ∀ tm', TMr v p jb O N i tm' → tm' 9 = va → tm' 10 = .int .i64 (bdV (c0 && !((o.rw.take k).map (·.1)).contains no)) → tm' 11 = .int .i64 (k : Int) → Q .normal tm' H1) :
    IWP Tryd.prog (part_ [1, 1, 1, 1, 1, 1, 0, 1, 0, 0, 1, 0, 0, 1, 1, 1, 0, 1, 0, 0, 1, 0, 0, 1, 1, 1] PlC) Q tm H1 := by
  obtain ⟨t0, t3, t5, t6, t7, t8⟩ := id hT
  unfold opRow at hoat
  simp (disch := first | omega | (simp; done) | assumption) [wr64, wrU8, wrU64, Nat.add_assoc, -getElem?_pos, List.getElem?_cons_zero, List.getElem?_cons_succ, part_, PlC, ic6, t0, t3, t5, t6, t7, t8, t9, t10, t11, t12]
  refine iwp_loop (P4I v p jb O N i k o va no c0 H1) k ⟨rfl, ⟨by simp [t0], by simp [t3], by simp [t5], by simp [t6], by simp [t7], by simp [t8]⟩, 0, rfl, by omega, by simp [t9], by simp [t10], by simp [t11], by simp [t12], by simp⟩ ?_
  clear t0 t3 t5 t6 t7 t8 t9 t10 t11 t12 hT
  clear tm
  rintro kk tm H2 ⟨rfl, hT, m, rfl, hm, t9, t10, t11, t12, t13⟩
  obtain ⟨t0, t3, t5, t6, t7, t8⟩ := id hT
  by_cases hlt : m < k
  · have hlt' : (m : Int) < (k : Int) := by omega
    have hmr : m < o.rw.length := by omega
    have hmr' : (m : Int) < (o.rw.length : Int) := by omega
    obtain ⟨bo, oo, hlve, l0, l1⟩ := raw_at hlv hmr
    have htk : (o.rw.take (m + 1)).map (·.1) = (o.rw.take m).map (·.1) ++ [o.rw[m].1] := by rw [List.take_add_one, List.getElem?_eq_getElem hmr, List.map_append]; rfl
    generalize o.rw[m] = r at *
    simp (disch := first | omega | (simp; done) | assumption) [wr64, wrU8, wrU64, Nat.add_assoc, -getElem?_pos, List.getElem?_cons_zero, List.getElem?_cons_succ, t0, t3, t5, t6, t7, t8, t9, t10, t11, t12, t13, hoat, hlt, hlt', hmr, hmr', hlve]
    refine Try.intro (by simpa using l0) ?_
    by_cases he : r.1 = no
    · simp (disch := first | omega | (simp; done) | assumption) [wr64, wrU8, wrU64, Nat.add_assoc, -getElem?_pos, List.getElem?_cons_zero, List.getElem?_cons_succ, t0, t3, t5, t6, t7, t8, t9, t10, t11, t12, t13, he]
      refine ⟨k - (m + 1), by omega, rfl, ⟨by simp [t0], by simp [t3], by simp [t5], by simp [t6], by simp [t7], by simp [t8]⟩, m + 1, rfl, by omega, by simp [t9], ?_, by simp [t11], by simp [t12], by simp⟩
      have hc : ((o.rw.take (m + 1)).map (·.1)).contains no = true := by rw [htk]; simp [he]
      rw [hc]
      simp [bdV]
    · simp (disch := first | omega | (simp; done) | assumption) [wr64, wrU8, wrU64, Nat.add_assoc, -getElem?_pos, List.getElem?_cons_zero, List.getElem?_cons_succ, t0, t3, t5, t6, t7, t8, t9, t10, t11, t12, t13, he]
      refine ⟨k - (m + 1), by omega, rfl, ⟨by simp [t0], by simp [t3], by simp [t5], by simp [t6], by simp [t7], by simp [t8]⟩, m + 1, rfl, by omega, by simp [t9], ?_, by simp [t11], by simp [t12], by simp⟩
      have hc : ((o.rw.take (m + 1)).map (·.1)).contains no = ((o.rw.take m).map (·.1)).contains no := by
        rw [htk]
        have : ¬ no = r.1 := fun e => he e.symm
        simp [this]
      rw [hc]
      simp [t10]
  · have hlt' : ¬ (m : Int) < (k : Int) := by omega
    obtain rfl : m = k := by omega
    simp (disch := first | omega | (simp; done) | assumption) [wr64, wrU8, wrU64, Nat.add_assoc, -getElem?_pos, List.getElem?_cons_zero, List.getElem?_cons_succ, t0, t3, t5, t6, t7, t8, t9, t10, t11, t12, t13, hlt, hlt']
    exact hX _ ⟨by simp [t0], by simp [t3], by simp [t5], by simp [t6], by simp [t7], by simp [t8]⟩ (by simp [t9]) (by simp [t10]) (by simp [t11])
theorem Pl3 {v : AV} {p L jb O N i : Nat} {s : DK} {o : OpA} {nw : List Int} {H H1 : AH} {tm : Tms} (hok : H.ok) (hlv : SF H o.lv 2 (o.rw.map rawRow)) (hM : PM H H1 p L jb O N s o nw) (hT : TMr v p jb O N i tm) (t9 : tm 9 = .snil) (t10 : tm 10 = .int .i64 0) (Q : IPost)
    (hX : ∀ tm' H2 li va, PM H H2 p L jb O N s o nw → TMr v p jb O N i tm' → GZ H.next H2 va li → Zof o (min o.rw.length 10) li → tm' 9 = va → tm' 10 = .int .i64 (bdV (gd 4 6 40 [] (li.map grZ))) → Q .normal tm' H2) :
    IWP Tryd.prog (part_ [1, 1, 1, 1, 1, 1, 0, 1, 0, 0, 1, 0, 0, 1, 1, 1, 0] PlC) Q tm H1 := by
  obtain ⟨hl1, hl2, hl3⟩ := sfl hlv
  rw [List.length_map] at hl1
  obtain ⟨t0, t3, t5, t6, t7, t8⟩ := id hT
  have hcut : part_ [1, 1, 1, 1, 1, 1, 0, 1, 0, 0, 1, 0, 0, 1, 1, 1, 0] PlC = (.seq (part_ [1, 1, 1, 1, 1, 1, 0, 1, 0, 0, 1, 0, 0, 1, 1, 1, 0, 0] PlC) (.block 2 (.loop (.seq (part_ [1, 1, 1, 1, 1, 1, 0, 1, 0, 0, 1, 0, 0, 1, 1, 1, 0, 1, 0, 0, 0] PlC) (.seq (.block 3 (.seq (part_ [1, 1, 1, 1, 1, 1, 0, 1, 0, 0, 1, 0, 0, 1, 1, 1, 0, 1, 0, 0, 1, 0, 0, 0] PlC) (.seq (part_ [1, 1, 1, 1, 1, 1, 0, 1, 0, 0, 1, 0, 0, 1, 1, 1, 0, 1, 0, 0, 1, 0, 0, 1, 0] PlC) (.seq (part_ [1, 1, 1, 1, 1, 1, 0, 1, 0, 0, 1, 0, 0, 1, 1, 1, 0, 1, 0, 0, 1, 0, 0, 1, 1, 0] PlC) (part_ [1, 1, 1, 1, 1, 1, 0, 1, 0, 0, 1, 0, 0, 1, 1, 1, 0, 1, 0, 0, 1, 0, 0, 1, 1, 1] PlC))))) (part_ [1, 1, 1, 1, 1, 1, 0, 1, 0, 0, 1, 0, 0, 1, 1, 1, 0, 1, 0, 0, 1, 1] PlC)))))) := by kernel_rfl
  have hP4 := fun {k : Nat} {va : AV} {no : Int} {c0 : Bool} {H1 : AH} {tm : Tms} a1 a2 a3 a4 a5 a6 a7 a8 a9 Q hX => Pl4 (v := v) (p := p) (jb := jb) (O := O) (N := N) (i := i) (k := k) (o := o) (va := va) (no := no) (c0 := c0) (H1 := H1) (tm := tm) a1 a2 a3 a4 a5 a6 a7 a8 a9 Q hX
  rw [hcut]
  clear hcut
  generalize part_ [1, 1, 1, 1, 1, 1, 0, 1, 0, 0, 1, 0, 0, 1, 1, 1, 0, 1, 0, 0, 1, 0, 0, 1, 1, 1] PlC = Z4 at *
  simp (disch := first | omega | (simp; done) | assumption) [wr64, wrU8, wrU64, Nat.add_assoc, -getElem?_pos, List.getElem?_cons_zero, List.getElem?_cons_succ, part_, PlC, ic6, t0, t3, t5, t6, t7, t8, t9, t10]
  refine iwp_loop (P3I v p L jb O N i s o nw H) (min o.rw.length 10) ⟨hM, ⟨by simp [t0], by simp [t3], by simp [t5], by simp [t6], by simp [t7], by simp [t8]⟩, 0, [], .snil, rfl, by omega, GZ.nil _ _, rfl, by simp [t9], by simp [t10, gd, bdV], by simp⟩ ?_
  clear t0 t3 t5 t6 t7 t8 t9 t10 hT hM
  clear tm
  rintro kk tm H2 ⟨hM, hT, k, li, va, rfl, hk, hg, hz, t9, t10, t11⟩
  obtain ⟨t0, t3, t5, t6, t7, t8⟩ := id hT
  have hoat := hM.oat
  unfold opRow at hoat
  have hlil := hz.len (by omega)
  by_cases hlt : k < min o.rw.length 10
  · have h1 : k < o.rw.length := by omega
    have h1' : (k : Int) < (o.rw.length : Int) := by omega
    have h2 : (k : Int) < 10 := by omega
    have h2' : k < 10 := by omega
    obtain ⟨bo, oo, hlve, l0, l1⟩ := raw_at (hlv.keeps hM.js.keeps) h1
    have hrk : o.rw.take (k + 1) = o.rw.take k ++ [o.rw[k]] := by rw [List.take_add_one, List.getElem?_eq_getElem h1]; rfl
    generalize hr : o.rw[k] = r at *
    obtain ⟨m, hm, hm2⟩ := mk_nat r.2
    have hm' : bits .and .i64 r.2 2047 = (m : Int) := hm
    simp (disch := first | omega | (simp; done) | assumption) [wr64, wrU8, wrU64, Nat.add_assoc, -getElem?_pos, List.getElem?_cons_zero, List.getElem?_cons_succ, t0, t3, t5, t6, t7, t8, t9, t10, t11, hoat, hl1, h1, h1', h2, h2', hlve]
    refine Try.intro (by simpa using l0) ?_
    simp (disch := first | omega | (simp; done) | assumption) [wr64, wrU8, wrU64, Nat.add_assoc, -getElem?_pos, List.getElem?_cons_zero, List.getElem?_cons_succ, t0, t3, t5, t6, t7, t8, t9, t10, t11, hoat, h1, h1', hlve]
    refine Try.intro (by simpa [Nat.add_assoc] using l1) ?_
    simp (disch := first | omega | (simp; done) | assumption) [wr64, wrU8, wrU64, Nat.add_assoc, -getElem?_pos, List.getElem?_cons_zero, List.getElem?_cons_succ, t0, t3, t5, t6, t7, t8, t9, t10, t11, hm']
    refine CallW.okof (Fill (m : Int) _) ?_
    rintro v4 H4 ⟨k4, n4, q4, hq4, hq4n, hr4⟩ hok4
    try simp only [newO_none] at k4 n4 hq4
    obtain ⟨rfl, hQ4⟩ := qok_of hr4
    have hnx := hM.js.next
    have hM4 := hM.keeps k4 hok4 n4
    have hg4 := hg.keeps k4 n4
    obtain ⟨va', H5, a1, g5, n5, kb5, kt5, hok5⟩ := appZ (x := (r.1, (q4, fill (m : Int)))) hg4 ⟨hQ4, hq4n, by dsimp only; omega⟩ hok4 (by omega) (by omega)
    have hM5 := hM4.kt hok kb5 kt5 hok5 (by omega)
    have hz5 : Zof o (k + 1) (li ++ [(r.1, (q4, fill (m : Int)))]) := by
      unfold Zof at hz ⊢
      rw [List.map_append, hz, hrk, List.map_append]
      simp [mk, hm']
    have hno := hz.nos
    have hgd5 : gd 4 6 40 [] ((li ++ [(r.1, (q4, fill (m : Int)))]).map grZ) = ((gd 4 6 40 [] (li.map grZ) && !decide (r.1 < 0 ∨ 40 ≤ r.1 ∨ (4 ≤ r.1 ∧ r.1 < 13))) && !((o.rw.take k).map (·.1)).contains r.1) := by
      rw [List.map_append, List.map_cons, List.map_nil, gd_snoc, Bool.and_assoc]
      congr 1
      have hb : badG 4 6 40 ([] ++ (li.map grZ).map (·.no)) (grZ (r.1, (q4, fill (m : Int)))) ↔ ((r.1 < 0 ∨ 40 ≤ r.1 ∨ (4 ≤ r.1 ∧ r.1 < 13)) ∨ r.1 ∈ (o.rw.take k).map (·.1)) := by
        have e : (li.map grZ).map (·.no) = (o.rw.take k).map (·.1) := by rw [← hno]; simp [grZ]
        unfold badG
        rw [List.nil_append, e]
        simp only [grZ, need, lists]
        constructor
        · rintro (h | h | h | h | h)
          · exact .inl (.inl h)
          · exact .inl (.inr (.inl (by omega)))
          · exact .inl (.inr (.inr (by omega)))
          · exact .inr h
          · exact absurd rfl h
        · rintro ((h | h | h) | h)
          · exact .inl h
          · exact .inr (.inl (by omega))
          · exact .inr (.inr (.inl (by omega)))
          · exact .inr (.inr (.inr (.inl h)))
      have hdd : decide (badG 4 6 40 ([] ++ (li.map grZ).map (·.no)) (grZ (r.1, (q4, fill (m : Int))))) = decide ((r.1 < 0 ∨ 40 ≤ r.1 ∨ (4 ≤ r.1 ∧ r.1 < 13)) ∨ r.1 ∈ (o.rw.take k).map (·.1)) := decide_eq_decide.2 hb
      rw [hdd]
      by_cases h1 : (r.1 < 0 ∨ 40 ≤ r.1 ∨ (4 ≤ r.1 ∧ r.1 < 13)) <;> by_cases h2 : r.1 ∈ (o.rw.take k).map (·.1) <;> simp [h1, h2]
    obtain ⟨G5, hG5⟩ : ∃ G, gd 4 6 40 [] ((li ++ [(r.1, (q4, fill (m : Int)))]).map grZ) = G := ⟨_, rfl⟩
    rw [hG5] at hgd5
    generalize gd 4 6 40 [] (li.map grZ) = G4 at *
    have fin : ∀ tm' c0, TMr v p jb O N i tm' → tm' 9 = va' → tm' 10 = .int .i64 (bdV c0) → tm' 11 = .int .i64 (k : Int) → tm' 12 = .int .i64 r.1 → c0 = (G4 && !decide (r.1 < 0 ∨ 40 ≤ r.1 ∨ (4 ≤ r.1 ∧ r.1 < 13))) → ∀ Q', (∀ tm', TMr v p jb O N i tm' → tm' 9 = va' → tm' 10 = .int .i64 (bdV G5) → tm' 11 = .int .i64 (k : Int) → Q' .normal tm' H5) → IWP Tryd.prog Z4 Q' tm' H5 := fun tm' c0 e1 e2 e3 e4 e5 e6 Q' hQ' =>
      hP4 hM5.oat (hlv.keeps hM5.js.keeps) h1 (by omega) e1 e2 e3 e4 e5 Q' fun tm'' f1 f2 f3 f4 => hQ' tm'' f1 f2 (by rw [f3, e6, ← hgd5]) f4
    clear hP4 hgd5
    have fin2 : ∀ tm', TMr v p jb O N i tm' → tm' 9 = va' → tm' 10 = .int .i64 (bdV G5) → tm' 11 = .int .i64 ((k : Int) + 1) → ∃ m, m < min o.rw.length 10 - k ∧ P3I v p L jb O N i s o nw H m tm' H5 := fun tm' e1 e2 e3 e4 => ⟨min o.rw.length 10 - (k + 1), by omega, hM5, e1, k + 1, _, va', rfl, by omega, g5, hz5, e2, by rw [e3, hG5], by rw [e4]; simp⟩
    simp only [rowZ, sl] at a1
    simp only [sl]
    simp (disch := first | omega | (simp; done) | assumption) [wr64, wrU8, wrU64, Nat.add_assoc, -getElem?_pos, List.getElem?_cons_zero, List.getElem?_cons_succ, t0, t3, t5, t6, t7, t8, t9, t10, t11]
    refine Try.intro a1 ?_
    by_cases c3 : r.1 < 0
    · simp (disch := first | omega | (simp; done) | assumption) [wr64, wrU8, wrU64, Nat.add_assoc, -getElem?_pos, List.getElem?_cons_zero, List.getElem?_cons_succ, t0, t3, t5, t6, t7, t8, t9, t10, t11, c3]
      refine fin _ (false) ⟨by simp [t0], by simp [t3], by simp [t5], by simp [t6], by simp [t7], by simp [t8]⟩ (by simp) (by simp [bdV]) (by simp [t11]) (by simp) (by simp [c3]) _ fun tm' f1 f2 f3 f4 => ?_
      simp (disch := first | omega | (simp; done) | assumption) [wr64, wrU8, wrU64, Nat.add_assoc, -getElem?_pos, List.getElem?_cons_zero, List.getElem?_cons_succ, f4]
      exact fin2 _ ⟨by simp [f1.t0], by simp [f1.t3], by simp [f1.t5], by simp [f1.t6], by simp [f1.t7], by simp [f1.t8]⟩ (by simp [f2]) (by simp [f3]) (by simp)
    by_cases c4 : 40 ≤ r.1
    · simp (disch := first | omega | (simp; done) | assumption) [wr64, wrU8, wrU64, Nat.add_assoc, -getElem?_pos, List.getElem?_cons_zero, List.getElem?_cons_succ, t0, t3, t5, t6, t7, t8, t9, t10, t11, c3, c4]
      refine fin _ (false) ⟨by simp [t0], by simp [t3], by simp [t5], by simp [t6], by simp [t7], by simp [t8]⟩ (by simp) (by simp [bdV]) (by simp [t11]) (by simp) (by simp [c4]) _ fun tm' f1 f2 f3 f4 => ?_
      simp (disch := first | omega | (simp; done) | assumption) [wr64, wrU8, wrU64, Nat.add_assoc, -getElem?_pos, List.getElem?_cons_zero, List.getElem?_cons_succ, f4]
      exact fin2 _ ⟨by simp [f1.t0], by simp [f1.t3], by simp [f1.t5], by simp [f1.t6], by simp [f1.t7], by simp [f1.t8]⟩ (by simp [f2]) (by simp [f3]) (by simp)
    by_cases c5 : 4 ≤ r.1
    · simp (disch := first | omega | (simp; done) | assumption) [wr64, wrU8, wrU64, Nat.add_assoc, -getElem?_pos, List.getElem?_cons_zero, List.getElem?_cons_succ, t0, t3, t5, t6, t7, t8, t9, t10, t11, c3, c4, c5]
      refine CallW.val (Need (m := 6) (k := 6) (by decide) (by omega) _) ?_
      by_cases c6 : r.1 < 13
      · simp (disch := first | omega | (simp; done) | assumption) [wr64, wrU8, wrU64, Nat.add_assoc, -getElem?_pos, List.getElem?_cons_zero, List.getElem?_cons_succ, t0, t3, t5, t6, t7, t8, t9, t10, t11, c3, c4, c5, c6, need, lists]
        refine fin _ (false) ⟨by simp [t0], by simp [t3], by simp [t5], by simp [t6], by simp [t7], by simp [t8]⟩ (by simp) (by simp [bdV]) (by simp [t11]) (by simp) (by simp [c5, c6]) _ fun tm' f1 f2 f3 f4 => ?_
        simp (disch := first | omega | (simp; done) | assumption) [wr64, wrU8, wrU64, Nat.add_assoc, -getElem?_pos, List.getElem?_cons_zero, List.getElem?_cons_succ, f4]
        exact fin2 _ ⟨by simp [f1.t0], by simp [f1.t3], by simp [f1.t5], by simp [f1.t6], by simp [f1.t7], by simp [f1.t8]⟩ (by simp [f2]) (by simp [f3]) (by simp)
      · simp (disch := first | omega | (simp; done) | assumption) [wr64, wrU8, wrU64, Nat.add_assoc, -getElem?_pos, List.getElem?_cons_zero, List.getElem?_cons_succ, t0, t3, t5, t6, t7, t8, t9, t10, t11, c3, c4, c5, c6, need, lists]
        refine fin _ G4 ⟨by simp [t0], by simp [t3], by simp [t5], by simp [t6], by simp [t7], by simp [t8]⟩ (by simp) (by simp [t10]) (by simp [t11]) (by simp) (by simp [c3, c4, c6]) _ fun tm' f1 f2 f3 f4 => ?_
        simp (disch := first | omega | (simp; done) | assumption) [wr64, wrU8, wrU64, Nat.add_assoc, -getElem?_pos, List.getElem?_cons_zero, List.getElem?_cons_succ, f4]
        exact fin2 _ ⟨by simp [f1.t0], by simp [f1.t3], by simp [f1.t5], by simp [f1.t6], by simp [f1.t7], by simp [f1.t8]⟩ (by simp [f2]) (by simp [f3]) (by simp)
    · simp (disch := first | omega | (simp; done) | assumption) [wr64, wrU8, wrU64, Nat.add_assoc, -getElem?_pos, List.getElem?_cons_zero, List.getElem?_cons_succ, t0, t3, t5, t6, t7, t8, t9, t10, t11, c3, c4, c5]
      refine fin _ G4 ⟨by simp [t0], by simp [t3], by simp [t5], by simp [t6], by simp [t7], by simp [t8]⟩ (by simp) (by simp [t10]) (by simp [t11]) (by simp) (by simp [c3, c4, c5]) _ fun tm' f1 f2 f3 f4 => ?_
      simp (disch := first | omega | (simp; done) | assumption) [wr64, wrU8, wrU64, Nat.add_assoc, -getElem?_pos, List.getElem?_cons_zero, List.getElem?_cons_succ, f4]
      exact fin2 _ ⟨by simp [f1.t0], by simp [f1.t3], by simp [f1.t5], by simp [f1.t6], by simp [f1.t7], by simp [f1.t8]⟩ (by simp [f2]) (by simp [f3]) (by simp)
  · have hk : k = min o.rw.length 10 := by omega
    have fin : ∀ tm', TMr v p jb O N i tm' → tm' 9 = va → tm' 10 = .int .i64 (bdV (gd 4 6 40 [] (li.map grZ))) → Q .normal tm' H2 := fun tm' e1 e2 e3 => hX tm' H2 li va hM e1 hg (by rw [← hk]; exact hz) e2 e3
    by_cases h1 : k < o.rw.length
    · have h1' : (k : Int) < (o.rw.length : Int) := by omega
      have h2 : ¬ (k : Int) < 10 := by omega
      have h2' : ¬ k < 10 := by omega
      simp (disch := first | omega | (simp; done) | assumption) [wr64, wrU8, wrU64, Nat.add_assoc, -getElem?_pos, List.getElem?_cons_zero, List.getElem?_cons_succ, t0, t3, t5, t6, t7, t8, t9, t10, t11, hoat, hl1, h1, h1', h2, h2']
      exact fin _ ⟨by simp [t0], by simp [t3], by simp [t5], by simp [t6], by simp [t7], by simp [t8]⟩ (by simp [t9]) (by simp [t10])
    · have h1' : ¬ (k : Int) < (o.rw.length : Int) := by omega
      simp (disch := first | omega | (simp; done) | assumption) [wr64, wrU8, wrU64, Nat.add_assoc, -getElem?_pos, List.getElem?_cons_zero, List.getElem?_cons_succ, t0, t3, t5, t6, t7, t8, t9, t10, t11, hoat, hl1, h1, h1']
      exact fin _ ⟨by simp [t0], by simp [t3], by simp [t5], by simp [t6], by simp [t7], by simp [t8]⟩ (by simp [t9]) (by simp [t10])
end Go.Proofs.YtcgkadfgojmmlaaDoor.JN

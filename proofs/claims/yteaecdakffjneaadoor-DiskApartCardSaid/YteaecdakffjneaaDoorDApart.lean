/- DiskApart, worked out. -/
import Derived.Test.YteaecdakffjneaaDoorDFn
import Derived.Test.YteaecdakffjneaaDoorDLaid
import Derived.Test.YteaecdakffjneaaDoorSt
set_option linter.unusedVariables false
set_option linter.unusedSimpArgs false
set_option maxRecDepth 10000
set_option maxHeartbeats 4000000
namespace Go.Proofs.YteaecdakffjneaaDoor.DApart
open Go Go.RowKit Go.Proofs.YteaecdakffjneaaDoor Go.Proofs.YteaecdakffjneaaDoor.Abs Go.Proofs.YteaecdakffjneaaDoor.Ic Go.Proofs.YteaecdakffjneaaDoor.EAs Go.Proofs.YteaecdakffjneaaDoor.EErr Go.Proofs.YteaecdakffjneaaDoor.DFn
/-- Write, with the place that the new row takes. -/
def WriteA (p L i : Nat) (s : DK) (H : AH) (v : AV) (H' : AH) : Prop := WriteP p L s H v H' ∧ ∀ cs : List AV, H.at_ L = some (.cells false tBS cs) → ∃ q1, H.next ≤ q1 ∧ H'.at_ L = some (.cells false tBS (cs.set i (.slice q1 0 128 1)))
theorem Write_at {H : AH} {p L q : Nat} {s : DK} {i : Nat} {v : AV} {bs : List UInt8} (h : DS H p L s) (hv : Row H v q bs) (hqp : q ≠ p) (hqL : q ≠ L) (hi : i < s.ct.length) (hd : s.dead = false) (hw : 0 ≤ s.w ∧ s.w ≤ 1000000) (hf : -1 ≤ s.f ∧ s.f ≤ 1000000) :
    ACall Tryd.prog 10 [.ptr p 0, .int .i64 (i : Int), v] H (WriteA p L i (s.write i bs) H) := by
  have hv' := hv
  obtain ⟨rfl, hl, hq⟩ := hv'
  have h' := h
  obtain ⟨hpL, hp, cs, hL, hcl, hsl⟩ := h'
  refine acall_ok (bodyP_of fits10) fun hok => acall_of fits10 (by simp) ?_
  have hpn := hok _ _ hp
  have hLn := hok _ _ hL
  simp (disch := first | omega | (simp; done) | assumption) [wr64, wrU8, wrU64, Nat.add_assoc, -getElem?_pos, List.getElem?_cons_zero, List.getElem?_cons_succ, ic10, rs10]
  refine CallW.val (May_ok h hi hd) ?_
  simp (disch := first | omega | (simp; done) | assumption) [wr64, wrU8, wrU64, Nat.add_assoc, -getElem?_pos, List.getElem?_cons_zero, List.getElem?_cons_succ, hp]
  refine CallW.ofk (Clone (by simpa using hv)) ?_
  rintro v1 H1 ⟨hk1, hn1, q1, hq1, hq1n, rfl, _, hq1at⟩ hok1
  simp only [newO_none] at hk1 hn1 hq1
  have hp1 := hk1 _ _ hp
  have hL1 := hk1 _ _ hL
  simp (disch := first | omega | (simp; done) | assumption) [wr64, wrU8, wrU64, Nat.add_assoc, -getElem?_pos, List.getElem?_cons_zero, List.getElem?_cons_succ, hp, hp1]
  refine CallW.val Clip ?_
  have r1 : (i : Int) < (s.ct.length : Int) := by omega
  have r2 : i + 1 ≤ cs.length := by omega
  have hLp : L ≠ p := fun e => hpL e.symm
  simp (disch := first | omega | (simp; done) | assumption) [wr64, wrU8, wrU64, Nat.add_assoc, -getElem?_pos, List.getElem?_cons_zero, List.getElem?_cons_succ, hp, hp1, r1, hL1, r2, hpL, hLp]
  have hsl1 : ∀ j (h : j < s.ct.length), ∃ av, cs[j]? = some av ∧ Slot H1 p L av s.ct[j] := fun j hj => by obtain ⟨av, a1, a2⟩ := hsl j hj; exact ⟨av, a1, a2.keeps fun x o _ _ ho => hk1 x o ho⟩
  have n1 : q1 ≠ p := by omega
  have n2 : q1 ≠ L := by omega
  by_cases hf0 : 0 < s.f
  · simp (disch := first | omega | (simp; done) | assumption) [wr64, wrU8, wrU64, Nat.add_assoc, -getElem?_pos, List.getElem?_cons_zero, List.getElem?_cons_succ, hf0, hp1, hpL, hLp]
    refine ⟨⟨rfl, by simpa using hn1, fun x o hxp hxL ho => by simp [hxp, hxL]; exact hk1 x o ho, ?_⟩, fun cs2 hc2 => (by rw [hL] at hc2; cases hc2; exact ⟨q1, hq1, by simp [hLp]⟩)⟩
    have hsw : s.write i bs = ⟨s.ct.set i (some bs), s.w + 1, s.f - 1, decide (s.f - 1 = 0)⟩ := by simp [DK.write, hf0]
    rw [hsw]
    exact DS.put (cs := cs) hpL hcl hsl1 hl hq1at n1 n2 (by simp) (by simp [hLp]) (fun x o hxp hxL ho => by simp [hxp, hxL]; exact ho)
  · simp (disch := first | omega | (simp; done) | assumption) [wr64, wrU8, wrU64, Nat.add_assoc, -getElem?_pos, List.getElem?_cons_zero, List.getElem?_cons_succ, hf0, hp1, hpL, hLp]
    refine ⟨⟨rfl, by simpa using hn1, fun x o hxp hxL ho => by simp [hxp, hxL]; exact hk1 x o ho, ?_⟩, fun cs2 hc2 => (by rw [hL] at hc2; cases hc2; exact ⟨q1, hq1, by simp [hLp]⟩)⟩
    have hsw : s.write i bs = ⟨s.ct.set i (some bs), s.w + 1, s.f, s.dead⟩ := by simp [DK.write, hf0]
    rw [hsw]
    exact DS.put (cs := cs) hpL hcl hsl1 hl hq1at n1 n2 (by simp) (by simp [hLp]) (fun x o hxp hxL ho => by simp [hxp, hxL]; exact ho)
/-- No block of the disk is this one. -/
def Off (H : AH) (L qa : Nat) : Prop := ∀ cs : List AV, H.at_ L = some (.cells false tBS cs) → ∀ j q : Nat, cs[j]? = some (.slice q 0 128 1) → q ≠ qa
theorem Off.write {H H' : AH} {p L i qa : Nat} {s s' : DK} {v : AV} (hd : DS H p L s) (h : Off H L qa) (hqa : qa < H.next) (hw : WriteA p L i s' H v H') : Off H' L qa := fun cs2 hc2 j q hj => by
  obtain ⟨_, hp, cs, hL, _⟩ := hd
  obtain ⟨q1, hq1, hL'⟩ := hw.2 cs hL
  rw [hL'] at hc2
  cases hc2
  by_cases e : i = j
  · subst e
    rw [List.getElem?_set] at hj
    rw [if_pos rfl] at hj
    split at hj
    · cases hj; omega
    · cases hj
  · rw [List.getElem?_set_ne e] at hj
    exact h _ hL j q hj
theorem Off.keeps {H H' : AH} {p L qa : Nat} {s : DK} (hd : DS H p L s) (h : Off H L qa) (hk : H.keepsAll H') : Off H' L qa := fun cs2 hc2 j q hj => by
  obtain ⟨_, hp, cs, hL, _⟩ := hd
  rw [hk _ _ hL] at hc2
  cases hc2
  exact h _ hL j q hj
theorem DS.off {H H' : AH} {p L qa : Nat} {s : DK} (hd : DS H p L s) (h : Off H L qa) (hp : qa ≠ p) (hL : qa ≠ L) (hk : ∀ x o, x ≠ qa → H.at_ x = some o → H'.at_ x = some o) : DS H' p L s := by
  obtain ⟨h0, h1, cs, h2, h3, h4⟩ := hd
  refine ⟨h0, hk _ _ (fun e => hp e.symm) h1, cs, hk _ _ (fun e => hL e.symm) h2, h3, fun i hi => ?_⟩
  obtain ⟨av, a1, a2⟩ := h4 i hi
  refine ⟨av, a1, ?_⟩
  cases hc : s.ct[i] with
  | none => rw [hc] at a2; exact a2
  | some bs =>
    rw [hc] at a2
    obtain ⟨b1, q, rfl, b3, b4, b5⟩ := a2
    exact ⟨b1, q, rfl, hk _ _ (h cs h2 i q a1) b3, b4, b5⟩
theorem Off.new {H : AH} {p L qa n : Nat} {w f : Int} {dead : Bool} (hd : DS H p L ⟨List.replicate n none, w, f, dead⟩) : Off H L qa := fun cs2 hc2 j q hj => by
  obtain ⟨h0, h1, cs, h2, h3, h4⟩ := hd
  rw [h2] at hc2
  cases hc2
  have hlt := (List.getElem?_eq_some_iff.1 hj).1
  obtain ⟨av, a1, a2⟩ := h4 j (by rw [← h3]; exact hlt)
  rw [hj] at a1
  cases a1
  simp [Slot] at a2
theorem ok_set' {H : AH} {b : Nat} {o : AObj} (h : H.ok) (hb : b < H.next) : (H.set b (some o)).ok := fun c q hc => by
  by_cases e : c = b
  · subst e; simpa using hb
  · rw [AH.set_ne H _ e] at hc; simpa using h c q hc
theorem rowCell {H : AH} {v : AV} {q : Nat} {bs : List UInt8} (h : Row H v q bs) (k : Nat) (hk : k < 128) : ∃ z : Int, ((bs.map byteV)[k]? = some (.int .u8 z)) := by
  obtain ⟨_, hl, _⟩ := h
  have hk' : k < bs.length := by omega
  exact ⟨(bs[k].toNat : Int), by rw [List.getElem?_map, List.getElem?_eq_getElem hk']; rfl⟩
theorem Law (i k n m : Int) (H : AH) (hE : loadC H 0 0 none = some (rt tErr)) : ACall Tryd.prog 3 [.int .i64 i, .int .i64 k, .int .i64 n, .int .i64 m] H (fun v H' => v = .bool true ∧ H' = H) := by
  refine acall_enter fits3 (by simp) (by simp) fun hok => ?_
  obtain ⟨u, hu, hu9⟩ : ∃ x : Nat, bits .and .i64 i 255 = (x : Int) ∧ x < 256 := ⟨(i % 256).toNat, by have := St.mask_i64 8 (by omega) i; simp at this; rw [this]; omega, by omega⟩
  obtain ⟨w, hw, hw9⟩ : ∃ x : Nat, bits .and .i64 k 255 = (x : Int) ∧ x < 256 := ⟨(k % 256).toNat, by have := St.mask_i64 8 (by omega) k; simp at this; rw [this]; omega, by omega⟩
  have hum : ((u : Int).tmod 40) = ((u % 40 : Nat) : Int) := rfl
  have hwm : ((w : Int).tmod 40) = ((w % 40 : Nat) : Int) := rfl
  obtain ⟨r, hr⟩ : ∃ r : Nat, r = u % 40 := ⟨_, rfl⟩
  obtain ⟨t, ht⟩ : ∃ t : Nat, t = w % 40 := ⟨_, rfl⟩
  rw [← hr] at hum
  rw [← ht] at hwm
  have htm : ((t : Int) + 1).tmod 40 = (((t + 1) % 40 : Nat) : Int) := rfl
  obtain ⟨nn, hnn⟩ : ∃ x : Int, bits .and .i64 n 2047 = x := ⟨_, rfl⟩
  obtain ⟨mm, hmm⟩ : ∃ x : Int, bits .and .i64 m 2047 = x := ⟨_, rfl⟩
  simp (disch := first | omega | (simp; done) | assumption) [wr64, wrU8, wrU64, Nat.add_assoc, -getElem?_pos, List.getElem?_cons_zero, List.getElem?_cons_succ, ic3, rs3]
  refine CallW.ofk (show ACall Tryd.prog _ [.int .i64 40] _ _ from New (n := 40) (by omega) (by omega) _) ?_
  rintro v H1 ⟨hk1, hn1, p, L, rfl, hp, hL, hp1, hL1, hd1⟩ hok1
  try simp only [newO_none] at hk1 hn1 hp hL
  obtain ⟨r2, hr2, hr2lt, hne⟩ : ∃ r2 : Nat, r2 = (if r = t then (t + 1) % 40 else t) ∧ r2 < 40 ∧ r ≠ r2 := ⟨_, rfl, by split <;> omega, by split <;> omega⟩
  by_cases hrt : r = t
  all_goals (first
    | (subst hrt; rw [if_pos rfl] at hr2; rw [← hr2] at htm; simp (disch := first | omega | (simp; done) | assumption) [wr64, wrU8, wrU64, Nat.add_assoc, -getElem?_pos, List.getElem?_cons_zero, List.getElem?_cons_succ, hu, hw, hum, hwm, htm, hnn, hmm])
    | (rw [if_neg hrt] at hr2; subst hr2; have hrt' : ¬ ((r : Int) = (r2 : Int)) := by omega
       simp (disch := first | omega | (simp; done) | assumption) [wr64, wrU8, wrU64, Nat.add_assoc, -getElem?_pos, List.getElem?_cons_zero, List.getElem?_cons_succ, hu, hw, hum, hwm, hrt', hnn, hmm]))
  all_goals
    refine CallW.ofk (Fill nn _) ?_
    rintro v2 H2 ⟨hk2, hn2, qa, hqa, hqan, hra⟩ hok2
    try simp only [newO_none] at hk2 hn2 hqa
    have hk02 : H.keepsAll H2 := fun x o hx => hk2 x o (hk1 x o hx)
    simp (disch := first | omega | (simp; done) | assumption) [wr64, wrU8, wrU64, Nat.add_assoc, -getElem?_pos, List.getElem?_cons_zero, List.getElem?_cons_succ, hnn, hmm]
    refine CallW.ofk (Fill mm _) ?_
    rintro v3 H3 ⟨hk3, hn3, qb, hqb, hqbn, hrb⟩ hok3
    try simp only [newO_none] at hk3 hn3 hqb
    have hk03 : H.keepsAll H3 := fun x o hx => hk3 x o (hk02 x o hx)
    have hd3 := (hd1.keeps hk2).keeps hk3
    have ho3 : Off H3 L qa := Off.new hd3
    have hra3 := hra.keeps hk3
    simp (disch := first | omega | (simp; done) | assumption) [wr64, wrU8, wrU64, Nat.add_assoc, -getElem?_pos, List.getElem?_cons_zero, List.getElem?_cons_succ, hnn, hmm]
    refine CallW.ofk (show ACall Tryd.prog _ [.ptr p 0, .int .i64 (r : Int), v2] _ _ from Write_at (i := r) hd3 hra3 (by omega) (by omega) (by simp; omega) rfl (by simp) (by simp)) ?_
    rintro v4 H4 hw4 hok4
    have ho4 := ho3.write hd3 (by omega) hw4
    obtain ⟨⟨rfl, hn4, hx4, hd4⟩, _⟩ := hw4
    try simp only [newO_none] at hx4 hn4
    have hk4 := hx4.keepsAll hk03 hok hp hL
    replace hd4 : DS H4 p L ⟨(List.replicate 40 none).set r (some (fill nn)), 1, -1, false⟩ := by simpa [DK.write] using hd4
    have hra4 := hra3.kx hx4 (by omega) (by omega)
    have hrb4 := hrb.kx hx4 (by omega) (by omega)
    simp (disch := first | omega | (simp; done) | assumption) [wr64, wrU8, wrU64, Nat.add_assoc, -getElem?_pos, List.getElem?_cons_zero, List.getElem?_cons_succ, ]
    refine CallW.ofk (show ACall Tryd.prog _ [.ptr p 0, .int .i64 (r2 : Int), v3] _ _ from Write_at (i := r2) hd4 hrb4 (by omega) (by omega) (by simp; omega) rfl (by simp) (by simp)) ?_
    rintro v5 H5 hw5 hok5
    have ho5 := ho4.write hd4 (by omega) hw5
    obtain ⟨⟨rfl, hn5, hx5, hd5⟩, _⟩ := hw5
    try simp only [newO_none] at hx5 hn5
    have hk5 := hx5.keepsAll hk4 hok hp hL
    replace hd5 : DS H5 p L ⟨((List.replicate 40 none).set r (some (fill nn))).set r2 (some (fill mm)), 2, -1, false⟩ := by simpa [DK.write] using hd5
    have hra5 := hra4.kx hx5 (by omega) (by omega)
    have hrb5 := hrb4.kx hx5 (by omega) (by omega)
    obtain ⟨z0, hz0⟩ := rowCell hra5 0 (by omega)
    have hla := fill_len nn
    obtain ⟨rfl, _, hqa5⟩ := hra5
    simp (disch := first | omega | (simp; done) | assumption) [wr64, wrU8, wrU64, Nat.add_assoc, -getElem?_pos, List.getElem?_cons_zero, List.getElem?_cons_succ, hqa5, hz0, hla]
    have hk6 : H.keepsAll (H5.set qa (some (.cells false tU8 ((List.map byteV (fill nn)).set 0 (.int .u8 (IntKind.u8.wrap (z0 + 1))))))) := keeps_set hok hk5 (by omega)
    have hd6 := DS.off hd5 ho5 (H' := H5.set qa (some (.cells false tU8 ((List.map byteV (fill nn)).set 0 (.int .u8 (IntKind.u8.wrap (z0 + 1))))))) (by omega) (by omega) (fun x o hx ho => by simp [hx]; exact ho)
    have hok6 := ok_set' (o := .cells false tU8 ((List.map byteV (fill nn)).set 0 (.int .u8 (IntKind.u8.wrap (z0 + 1))))) (b := qa) hok5 (by omega)
    have hn6 : (H5.set qa (some (.cells false tU8 ((List.map byteV (fill nn)).set 0 (.int .u8 (IntKind.u8.wrap (z0 + 1))))))).next = H5.next := by simp
    have hrb6 : Row (H5.set qa (some (.cells false tU8 ((List.map byteV (fill nn)).set 0 (.int .u8 (IntKind.u8.wrap (z0 + 1))))))) v3 qb (fill mm) := ⟨hrb5.1, hrb5.2.1, by rw [AH.set_ne _ _ (by omega)]; exact hrb5.2.2⟩
    generalize (H5.set qa (some (.cells false tU8 ((List.map byteV (fill nn)).set 0 (.int .u8 (IntKind.u8.wrap (z0 + 1))))))) = H6 at *
    refine CallW.ofk (show ACall Tryd.prog _ [.ptr p 0, .int .i64 (r : Int)] _ _ from Read_ok (i := r) hd6 (by simp; omega) rfl) ?_
    rintro v7 H7 ⟨r7, rfl, hk7, hn7, q7, hq7, hq7n, hr7⟩ hok7
    try simp only [newO_none] at hk7 hn7 hq7
    have hk07 : H.keepsAll H7 := fun x o hx => hk7 x o (hk6 x o hx)
    replace hr7 : Row H7 r7 q7 (fill nn) := by simpa [bytesOf, List.getElem_set, hne, hne.symm] using hr7
    have hb7 := b2s_row hr7
    simp (disch := first | omega | (simp; done) | assumption) [wr64, wrU8, wrU64, Nat.add_assoc, -getElem?_pos, List.getElem?_cons_zero, List.getElem?_cons_succ, hnn, hmm, hb7]
    refine CallW.ofk (Fill nn _) ?_
    rintro v8 H8 ⟨hk8, hn8, q8, hq8, hq8n, hr8⟩ hok8
    try simp only [newO_none] at hk8 hn8 hq8
    have hk08 : H.keepsAll H8 := fun x o hx => hk8 x o (hk07 x o hx)
    have hk68 : H6.keepsAll H8 := fun x o hx => hk8 x o (hk7 x o hx)
    have hb8 := b2s_row hr8
    have hb78 := b2s_row (hr7.keeps hk8)
    obtain ⟨z5, hz5⟩ := rowCell hr7 5 (by omega)
    have hr78 := hr7.keeps hk8
    obtain ⟨rfl, _, hq78⟩ := hr78
    simp (disch := first | omega | (simp; done) | assumption) [wr64, wrU8, wrU64, Nat.add_assoc, -getElem?_pos, List.getElem?_cons_zero, List.getElem?_cons_succ, hnn, hmm, hb8, hb78, hq78, hz5, hla]
    have hk9 : H.keepsAll (H8.set q7 (some (.cells false tU8 ((List.map byteV (fill nn)).set 5 (.int .u8 (IntKind.u8.wrap (z5 + 1))))))) := keeps_set hok hk08 (by omega)
    have hk69 : H6.keepsAll (H8.set q7 (some (.cells false tU8 ((List.map byteV (fill nn)).set 5 (.int .u8 (IntKind.u8.wrap (z5 + 1))))))) := keeps_set hok6 hk68 (by omega)
    have hn9 : (H8.set q7 (some (.cells false tU8 ((List.map byteV (fill nn)).set 5 (.int .u8 (IntKind.u8.wrap (z5 + 1))))))).next = H8.next := by simp
    generalize (H8.set q7 (some (.cells false tU8 ((List.map byteV (fill nn)).set 5 (.int .u8 (IntKind.u8.wrap (z5 + 1))))))) = H9 at *
    have hd9 := hd6.keeps hk69
    have hrb9 := hrb6.keeps hk69
    refine CallW.ofk (show ACall Tryd.prog _ [.ptr p 0, .int .i64 (r : Int)] _ _ from Read_ok (i := r) hd9 (by simp; omega) rfl) ?_
    rintro v10 H10 ⟨r10, rfl, hk10, hn10, q10, hq10, hq10n, hr10⟩ hok10
    try simp only [newO_none] at hk10 hn10 hq10
    replace hr10 : Row H10 r10 q10 (fill nn) := by simpa [bytesOf, List.getElem_set, hne, hne.symm] using hr10
    have hk010 : H.keepsAll H10 := fun x o hx => hk10 x o (hk9 x o hx)
    simp (disch := first | omega | (simp; done) | assumption) [wr64, wrU8, wrU64, Nat.add_assoc, -getElem?_pos, List.getElem?_cons_zero, List.getElem?_cons_succ, hnn, hmm]
    refine CallW.ofk (show ACall Tryd.prog _ [.ptr p 0, .int .i64 (r2 : Int)] _ _ from Read_ok (i := r2) (hd9.keeps hk10) (by simp; omega) rfl) ?_
    rintro v11 H11 ⟨r11, rfl, hk11, hn11, q11, hq11, hq11n, hr11⟩ hok11
    try simp only [newO_none] at hk11 hn11 hq11
    replace hr11 : Row H11 r11 q11 (fill mm) := by simpa [bytesOf, List.getElem_set, hne, hne.symm] using hr11
    have hk011 : H.keepsAll H11 := fun x o hx => hk11 x o (hk010 x o hx)
    have hb11 := b2s_row (hr10.keeps hk11)
    simp (disch := first | omega | (simp; done) | assumption) [wr64, wrU8, wrU64, Nat.add_assoc, -getElem?_pos, List.getElem?_cons_zero, List.getElem?_cons_succ, hnn, hmm, hb11]
    refine CallW.ofk (Fill nn _) ?_
    rintro v12 H12 ⟨hk12, hn12, q12, hq12, hq12n, hr12⟩ hok12
    try simp only [newO_none] at hk12 hn12 hq12
    have hk012 : H.keepsAll H12 := fun x o hx => hk12 x o (hk011 x o hx)
    have hk912 : H9.keepsAll H12 := fun x o hx => hk12 x o (hk11 x o (hk10 x o hx))
    have hb12 := b2s_row hr12
    have hb1012 := b2s_row ((hr10.keeps hk11).keeps hk12)
    have hb1112 := b2s_row (hr11.keeps hk12)
    have hbb12 := b2s_row (hrb9.keeps hk912)
    have hd12 := hd9.keeps hk912
    simp (disch := first | omega | (simp; done) | assumption) [wr64, wrU8, wrU64, Nat.add_assoc, -getElem?_pos, List.getElem?_cons_zero, List.getElem?_cons_succ, hb12, hb1012, hb1112, hbb12]
    refine CallW.val (Writes hd12) ?_
    simp (disch := first | omega | (simp; done) | assumption) [wr64, wrU8, wrU64, Nat.add_assoc, -getElem?_pos, List.getElem?_cons_zero, List.getElem?_cons_succ, ]
    refine CallW.val (Awake (loadC_keeps hk012 hE)) ?_
    simp (disch := first | omega | (simp; done) | assumption) [wr64, wrU8, wrU64, Nat.add_assoc, -getElem?_pos, List.getElem?_cons_zero, List.getElem?_cons_succ, ]
    exact hk012
theorem DiskApart.walk (a0 a1 a2 a3 : Int) (W : World) (hsh : W.ShapedOpen Tryd.prog) (hG : DLaid.G W) (_ : (Lit.int .i64 a0).wf = true) (_ : (Lit.int .i64 a1).wf = true) (_ : (Lit.int .i64 a2).wf = true) (_ : (Lit.int .i64 a3).wf = true) :
    Calls Tryd.prog 3 #[.int .i64 a0, .int .i64 a1, .int .i64 a2, .int .i64 a3] W fun e W' => e = .returned (.bool true) ∧ Below W.heap.size W W' :=
  DLaid.walk hsh hG (Law a0 a1 a2 a3 _ (DLaid.H1_err W)) (.cons (.int ..) (.cons (.int ..) (.cons (.int ..) (.cons (.int ..) .nil))))
end Go.Proofs.YteaecdakffjneaaDoor.DApart

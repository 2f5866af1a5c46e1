/- DiskPlays, first part: errors about any number, the calls of a script. -/
import Derived.Test.YteaecdakffjneaaDoorDCuts
import Derived.Test.YteaecdakffjneaaDoorDCopies
import Derived.Test.YteaecdakffjneaaDoorDNum
import Derived.Test.YteaecdakffjneaaDoorELaid
import Derived.Test.YteaecdakffjneaaDoorA23
set_option linter.unusedVariables false
set_option linter.unusedSimpArgs false
set_option maxRecDepth 10000
set_option maxHeartbeats 8000000
namespace Go.Proofs.YteaecdakffjneaaDoor.DPl1
open Go Go.RowKit Go.Proofs.YteaecdakffjneaaDoor Go.Proofs.YteaecdakffjneaaDoor.Abs Go.Proofs.YteaecdakffjneaaDoor.Ic Go.Proofs.YteaecdakffjneaaDoor.EAs Go.Proofs.YteaecdakffjneaaDoor.EErr Go.Proofs.YteaecdakffjneaaDoor.DFn Go.Proofs.YteaecdakffjneaaDoor.DCuts Go.Proofs.YteaecdakffjneaaDoor.DCopies Go.Proofs.YteaecdakffjneaaDoor.CNum
abbrev tOp : Nat := 46
abbrev tI : Nat := 3
def disk_ : List UInt8 := [100, 105, 115, 107]
/-! ### Errors about any number -/
def ErrQ (i : Int) (n : Int) (H : AH) (v : AV) (H' : AH) : Prop := H.keepsAll H' ∧ H.next ≤ H'.next ∧ ∃ f : Fl, f.op = [100, 105, 115, 107] ∧ f.name = Lib.itoa i ∧ v = .iface 59 (.ptr f.b 0) ∧ Chain H' v [f] (some n)
theorem WrongQ {i n : Int} (hn : n ≠ 0) {H : AH} (hi : ItoaOk H i) : ACall Tryd.prog 23 [.int .i64 i, .int .i64 n] H (ErrQ i n H) := by
  refine acall_ok (bodyP_of fits23) fun hok => acall_of fits23 (by simp) ?_
  simp (disch := first | omega | (simp; done) | assumption) [wr64, wrU8, wrU64, Nat.add_assoc, -getElem?_pos, List.getElem?_cons_zero, List.getElem?_cons_succ, ic23, rs23]
  refine CallW.val (itoaAny i _ (by simpa using hi)) ?_
  simp (disch := first | omega | (simp; done) | assumption) [wr64, wrU8, wrU64, Nat.add_assoc, -getElem?_pos, List.getElem?_cons_zero, List.getElem?_cons_succ, ]
  refine CallW.of (ENewC _ _ hn _) ?_
  rintro v H1 ⟨hk, hn1, f, h1, h2, rfl, hc⟩
  simp only [newO_none] at hk hn1
  simp (disch := first | omega | (simp; done) | assumption) [wr64, wrU8, wrU64, Nat.add_assoc, -getElem?_pos, List.getElem?_cons_zero, List.getElem?_cons_succ, ]
  exact ⟨hk, hn1, f, h1, h2, rfl, hc⟩
theorem May_bad {H : AH} {p L : Nat} {s : DK} {i : Int} {good : Bool} (h : DS H p L s) (hb : i < 0 ∨ (s.ct.length : Int) ≤ i ∨ good = false) (hi : ItoaOk H i) : ACall Tryd.prog 24 [.ptr p 0, .int .i64 i, .bool good] H (ErrQ i 1 H) := by
  obtain ⟨_, hp, _⟩ := h
  refine acall_of fits24 (by simp) ?_
  by_cases q1 : i < 0
  · simp (disch := first | omega | (simp; done) | assumption) [wr64, wrU8, wrU64, Nat.add_assoc, -getElem?_pos, List.getElem?_cons_zero, List.getElem?_cons_succ, ic24, rs24, hp, q1]
    refine CallW.of (WrongQ (by decide) (by simpa using hi)) ?_
    rintro v H1 hh
    simp only [newO_none] at hh
    simp (disch := first | omega | (simp; done) | assumption) [wr64, wrU8, wrU64, Nat.add_assoc, -getElem?_pos, List.getElem?_cons_zero, List.getElem?_cons_succ, ]
    exact hh
  · by_cases q2 : (s.ct.length : Int) ≤ i
    · simp (disch := first | omega | (simp; done) | assumption) [wr64, wrU8, wrU64, Nat.add_assoc, -getElem?_pos, List.getElem?_cons_zero, List.getElem?_cons_succ, ic24, rs24, hp, q1, q2]
      refine CallW.of (WrongQ (by decide) (by simpa using hi)) ?_
      rintro v H1 hh
      simp only [newO_none] at hh
      simp (disch := first | omega | (simp; done) | assumption) [wr64, wrU8, wrU64, Nat.add_assoc, -getElem?_pos, List.getElem?_cons_zero, List.getElem?_cons_succ, ]
      exact hh
    · obtain rfl : good = false := by rcases hb with h | h | h; exact absurd h q1; exact absurd h q2; exact h
      simp (disch := first | omega | (simp; done) | assumption) [wr64, wrU8, wrU64, Nat.add_assoc, -getElem?_pos, List.getElem?_cons_zero, List.getElem?_cons_succ, ic24, rs24, hp, q1, q2]
      refine CallW.of (WrongQ (by decide) (by simpa using hi)) ?_
      rintro v H1 hh
      simp only [newO_none] at hh
      simp (disch := first | omega | (simp; done) | assumption) [wr64, wrU8, wrU64, Nat.add_assoc, -getElem?_pos, List.getElem?_cons_zero, List.getElem?_cons_succ, ]
      exact hh
theorem Write_bad {H : AH} {p L q o m : Nat} {s : DK} {i : Int} (h : DS H p L s) (hb : i < 0 ∨ (s.ct.length : Int) ≤ i ∨ m ≠ 128) (hi : ItoaOk H i) :
    ACall Tryd.prog 10 [.ptr p 0, .int .i64 i, .slice q o m 1] H (ErrQ i 1 H) := by
  refine acall_of fits10 (by simp) ?_
  simp (disch := first | omega | (simp; done) | assumption) [wr64, wrU8, wrU64, Nat.add_assoc, -getElem?_pos, List.getElem?_cons_zero, List.getElem?_cons_succ, ic10, rs10]
  refine CallW.of (May_bad (by simpa using h) (by rcases hb with h | h | h; exact .inl h; exact .inr (.inl h); exact .inr (.inr (by simp; omega))) (by simpa using hi)) ?_
  rintro v1 H1 hh
  simp only [newO_none] at hh
  obtain ⟨h1, h2, f, h3, h4, rfl, h5⟩ := hh
  simp (disch := first | omega | (simp; done) | assumption) [wr64, wrU8, wrU64, Nat.add_assoc, -getElem?_pos, List.getElem?_cons_zero, List.getElem?_cons_succ, ]
  exact ⟨h1, h2, f, h3, h4, rfl, h5⟩
def ErrR (i : Int) (n : Int) (H : AH) (v : AV) (H' : AH) : Prop := ∃ e, v = .tuple [.snil, e] ∧ ErrQ i n H e H'
theorem Read_bad {H : AH} {p L : Nat} {s : DK} {i : Int} (h : DS H p L s) (hb : i < 0 ∨ (s.ct.length : Int) ≤ i) (hi : ItoaOk H i) :
    ACall Tryd.prog 11 [.ptr p 0, .int .i64 i] H (ErrR i 1 H) := by
  refine acall_of fits11 (by simp) ?_
  simp (disch := first | omega | (simp; done) | assumption) [wr64, wrU8, wrU64, Nat.add_assoc, -getElem?_pos, List.getElem?_cons_zero, List.getElem?_cons_succ, ic11, rs11]
  refine CallW.of (May_bad (good := true) (by simpa using h) (by rcases hb with h | h; exact .inl h; exact .inr (.inl h)) (by simpa using hi)) ?_
  rintro v1 H1 hh
  simp only [newO_none] at hh
  obtain ⟨h1, h2, f, h3, h4, rfl, h5⟩ := hh
  simp (disch := first | omega | (simp; done) | assumption) [wr64, wrU8, wrU64, Nat.add_assoc, -getElem?_pos, List.getElem?_cons_zero, List.getElem?_cons_succ, ]
  exact ⟨_, rfl, h1, h2, f, h3, h4, rfl, h5⟩
theorem Read_dead {H : AH} {p L : Nat} {s : DK} {i : Nat} (h : DS H p L s) (hi : i < s.ct.length) (hi2 : i < 100) (hd : s.dead = true) :
    ACall Tryd.prog 11 [.ptr p 0, .int .i64 (i : Int)] H (ErrR (i : Int) 50 H) := by
  refine acall_of fits11 (by simp) ?_
  simp (disch := first | omega | (simp; done) | assumption) [wr64, wrU8, wrU64, Nat.add_assoc, -getElem?_pos, List.getElem?_cons_zero, List.getElem?_cons_succ, ic11, rs11]
  refine CallW.of (May_dead (by simpa using h) hi hi2 hd) ?_
  rintro v1 H1 hh
  simp only [newO_none] at hh
  obtain ⟨h1, h2, f, h3, h4, rfl, h5⟩ := hh
  simp (disch := first | omega | (simp; done) | assumption) [wr64, wrU8, wrU64, Nat.add_assoc, -getElem?_pos, List.getElem?_cons_zero, List.getElem?_cons_succ, ]
  exact ⟨_, rfl, h1, h2, f, h3, h4, rfl, h5⟩
theorem New_bad {n : Int} (hn : n < 16 ∨ 2048 < n) {H : AH} (hi : ItoaOk H n) : ACall Tryd.prog 8 [.int .i64 n] H (fun v H' => ∃ e, v = .tuple [.pnil, e] ∧ ErrQ n 1 H e H') := by
  refine acall_of fits8 (by simp) ?_
  by_cases q1 : n < 16
  · simp (disch := first | omega | (simp; done) | assumption) [wr64, wrU8, wrU64, Nat.add_assoc, -getElem?_pos, List.getElem?_cons_zero, List.getElem?_cons_succ, ic8, rs8, q1]
    refine CallW.of (WrongQ (by decide) (by simpa using hi)) ?_
    rintro v H1 hh
    simp only [newO_none] at hh
    simp (disch := first | omega | (simp; done) | assumption) [wr64, wrU8, wrU64, Nat.add_assoc, -getElem?_pos, List.getElem?_cons_zero, List.getElem?_cons_succ, ]
    exact hh
  · have q2 : 2048 < n := by omega
    simp (disch := first | omega | (simp; done) | assumption) [wr64, wrU8, wrU64, Nat.add_assoc, -getElem?_pos, List.getElem?_cons_zero, List.getElem?_cons_succ, ic8, rs8, q1, q2]
    refine CallW.of (WrongQ (by decide) (by simpa using hi)) ?_
    rintro v H1 hh
    simp only [newO_none] at hh
    simp (disch := first | omega | (simp; done) | assumption) [wr64, wrU8, wrU64, Nat.add_assoc, -getElem?_pos, List.getElem?_cons_zero, List.getElem?_cons_succ, ]
    exact hh
/-! ### The script -/
structure OpV where
  k : Int
  i : Int
  n : Int
  sh : Bool
def OpV.cells (o : OpV) : List AV := [.int .i64 o.k, .int .i64 o.i, .int .i64 o.n, .bool o.sh]
def SLs (H : AH) (v : AV) (l : List OpV) : Prop :=
  l = [] ∧ (v = .snil ∨ v = .sempty) ∨ ∃ b o, v = .slice b o l.length 4 ∧ ∀ i (h : i < l.length), loadC H b (o + i * 4) (some 4) = some (.agg l[i].cells)
theorem slot_plus {z : Int} (h : 0 ≤ z) : slotOf (z + 1) = some (fill z) := by unfold slotOf; rw [if_neg (by omega)]; simp
theorem set_slot' {now : List Int} (k : Nat) {z : Int} (h : 0 ≤ z) : (now.map slotOf).set k (some (fill z)) = (now.set k (z + 1)).map slotOf := by rw [List.map_set, slot_plus h]
theorem all_set' {now : List Int} (h : ∀ z ∈ now, 0 ≤ z ∧ z ≤ 5000) (k : Nat) {y : Int} (hy : 0 ≤ y ∧ y ≤ 5000) : ∀ z ∈ now.set k y, 0 ≤ z ∧ z ≤ 5000 := fun z hz => by
  rcases List.mem_or_eq_of_mem_set hz with hz | rfl
  · exact h z hz
  · exact hy
theorem isErr {i n : Int} {f : Fl} (h1 : f.op = [100, 105, 115, 107]) (h2 : f.name = Lib.itoa i) (hn : n ≠ 0) : isV (.iface 59 (.ptr f.b 0)) [f] (some n) [100, 105, 115, 107] (Lib.itoa i) n = true := by simp [isV, h1, h2, hn]
def Fr (v : AV) (nb p A i : Nat) (w f : Int) (dead : Bool) (tm : Tms) : Prop := tm 0 = .int .i64 (nb : Int) ∧ tm 1 = v ∧ tm 5 = .ptr p 0 ∧ tm 7 = .slice A 0 nb 1 ∧ tm 8 = .int .i64 w ∧ tm 9 = .int .i64 f ∧ tm 10 = .bool dead ∧ tm 11 = .int .i64 (i : Int)
def Sx (v : AV) (nb p L A i : Nat) (wb : Int) (H : AH) (tm : Tms) (H' : AH) : Prop := H.keepsAll H' ∧ H'.ok ∧ p < H'.next ∧ L < H'.next ∧ A < H'.next ∧ ∃ (now : List Int) (w f : Int) (dead : Bool), now.length = nb ∧ (∀ z ∈ now, 0 ≤ z ∧ z ≤ 5000) ∧ 0 ≤ w ∧ w ≤ wb ∧ -1 ≤ f ∧ f ≤ 9223372036854775807 ∧
    DS H' p L ⟨now.map slotOf, w, f, dead⟩ ∧ H'.at_ A = some (.cells false tI (now.map (AV.int .i64))) ∧ Fr v nb p A i w f dead tm
structure Env (H : AH) (nb p L A : Nat) : Prop where
  ok : H.ok
  hp : H.next ≤ p
  hL : H.next ≤ L
  hA : H.next ≤ A
  pA : p ≠ A
  LA : L ≠ A
  n1 : 16 ≤ nb
  n2 : nb ≤ 60
  hP : H.at_ 1 = some powTab
  hE : loadC H 0 0 none = some (rt tErr)
abbrev PS : List Nat := [1,1,1,1,1,1,1,0,1,0,0,1,0,0,1,1,0]
abbrev PT : List Nat := [1,1,1,1,1,1,1,0,1,0,0,1,0,0,1,1,1]
def Nx (v : AV) (nb p L A i : Nat) (wb : Int) (H : AH) : IPost := fun e tm H' => e = .normal ∧ Sx v nb p L A i wb H tm H'
@[simp] theorem Nx_normal (v : AV) (nb p L A i : Nat) (wb : Int) (H : AH) (tm : Tms) (H' : AH) : Nx v nb p L A i wb H .normal tm H' = Sx v nb p L A i wb H tm H' := by simp [Nx]
theorem SwW {H H4 : AH} {v : AV} {nb p L A i q : Nat} {on_ : Int} {tm : Tms} (E : Env H nb p L A) (hi : i < 60) {ii : Nat} (hii : ii < nb) (hO : H4.at_ q = some (.cells false tOp [.int .i64 0, .int .i64 (ii : Int), .int .i64 on_, .bool false])) (qn : H.next ≤ q) (qp : q ≠ p) (qL : q ≠ L) (qA : q ≠ A) (q4 : q < H4.next)
    (hb0 : -9223372036854775808 ≤ (ii : Int)) (hb1 : (ii : Int) ≤ 9223372036854775807) (hn0 : -9223372036854775808 ≤ on_) (hn1 : on_ ≤ 9223372036854775807) (t12 : tm 12 = .ptr q 0) (t13 : tm 13 = .bool true) (h : Sx v nb p L A i i H tm H4) : IWP Tryd.prog (part_ PS ic7) (Nx v nb p L A i (i + 1) H) tm H4 := by
  obtain ⟨hk, hok4, hp4, hL4, hA4, now, w, f, dead, hnow, hall, hw0, hw1, hf0, hf1, hd, hA, t0, t1, t5, t7, t8, t9, t10, t11⟩ := h
  have hpL := hd.1
  have hqp : ¬ (p = q) := fun e => qp e.symm
  have n1 := E.n1
  have n2 := E.n2
  have hiiI : (ii : Int) < (nb : Int) := by omega
  cases dead
  · obtain ⟨z, hz, hz0, hz1⟩ : ∃ z : Int, bits .and .i64 on_ 2047 = z ∧ 0 ≤ z ∧ z < 2048 := ⟨on_ % 2048, by have := St.mask_i64 11 (by omega) on_; simpa using this, by omega, by omega⟩
    simp (disch := first | omega | (simp; done) | assumption) [wr64, wrU8, wrU64, Nat.add_assoc, -getElem?_pos, List.getElem?_cons_zero, List.getElem?_cons_succ, part_, ic7, t0, t1, t5, t7, t8, t9, t10, t11, t12, hO, hii, hiiI, t13, hz]
    refine CallW.ofk (Fill z _) ?_
    rintro v5 H5 ⟨hk5, hn5, q5, hq5, hq5n, hr5⟩ hok5
    try simp only [newO_none] at hk5 hn5 hq5
    have hd5 := hd.keeps hk5
    have hO5 := hk5 _ _ hO
    have hA5 := hk5 _ _ hA
    have hk05 : H.keepsAll H5 := fun x o hx => hk5 x o (hk x o hx)
    obtain ⟨rfl, hrl, hrq⟩ := hr5
    simp (disch := first | omega | (simp; done) | assumption) [wr64, wrU8, wrU64, Nat.add_assoc, -getElem?_pos, List.getElem?_cons_zero, List.getElem?_cons_succ, t0, t1, t5, t7, t8, t9, t10, t11, t12, hO5, hii, hiiI, t13, slcA, Abs.bounds]
    refine CallW.ofk (Write_ok (i := ii) hd5 ⟨rfl, hrl, hrq⟩ (by omega) (by omega) (by simp [hnow]; omega) rfl ⟨hw0, by simp; omega⟩ ⟨hf0, hf1⟩) ?_
    rintro v6 H6 ⟨rfl, hn6, hx6, hd6⟩ hok6
    try simp only [newO_none] at hx6 hn6
    have hk06 := hx6.keepsAll hk05 E.ok E.hp E.hL
    have hO6 := hx6 _ _ (by omega) (by omega) hO5
    have hA6 := hx6 _ _ (fun e => E.pA e.symm) (fun e => E.LA e.symm) hA5
    have hAl : (now.map (AV.int .i64)).length = nb := by simp [hnow]
    simp (disch := first | omega | (simp; done) | assumption) [wr64, wrU8, wrU64, Nat.add_assoc, -getElem?_pos, List.getElem?_cons_zero, List.getElem?_cons_succ, t0, t1, t5, t7, t8, t9, t10, t11, t12, hO6, hii, hiiI, t13]
    refine CallW.val (CNum.Num (ii : Int) hb0 hb1 _) ?_
    simp (disch := first | omega | (simp; done) | assumption) [wr64, wrU8, wrU64, Nat.add_assoc, -getElem?_pos, List.getElem?_cons_zero, List.getElem?_cons_succ, t0, t1, t5, t7, t8, t9, t10, t11, t12, hO6, hii, hiiI, t13]
    refine CallW.val (ELawIs _ _ 0 (loadC_keeps hk06 E.hE) .nil) ?_
    have hAe : ¬ (A = q) := fun e => qA e.symm
    simp only [DK.write, set_slot' ii hz0] at hd6
    have hdx := DS.other hd6 hA6 (by decide) (by decide) (by decide) (H' := H6.set A (some (.cells false tI ((now.map (AV.int .i64)).set ii (.int .i64 (z + 1)))))) (fun x o hx ho => by simp [hx]; exact ho)
    have hkx : H.keepsAll (H6.set A (some (.cells false tI ((now.map (AV.int .i64)).set ii (.int .i64 (z + 1)))))) := keeps_set E.ok hk06 E.hA
    have hok7 := ok_set' (o := .cells false tI ((now.map (AV.int .i64)).set ii (.int .i64 (z + 1)))) (b := A) hok6 (by omega)
    have hii1 : ii + 1 ≤ nb := hii
    by_cases g1 : 0 < f
    · have g2 : f - 1 = 0 ∨ ¬ (f - 1 = 0) := by omega
      simp only [if_pos g1] at hdx
      simp (disch := first | omega | (simp; done) | assumption) [wr64, wrU8, wrU64, Nat.add_assoc, -getElem?_pos, List.getElem?_cons_zero, List.getElem?_cons_succ, t0, t1, t5, t7, t8, t9, t10, t11, t12, hO6, hii, hiiI, t13, hz, hA6, hAl, isV, g1, hii1]
      exact ⟨hkx, hok7, (by first | omega | (simp; omega)), (by first | omega | (simp; omega)), (by first | omega | (simp; omega)), now.set ii (z + 1), w + 1, f - 1, decide (f - 1 = 0), by simp [hnow], all_set' hall ii (by omega), by omega, by omega, by omega, by omega, hdx, by simp, by simp [t0], by simp [t1], by simp [t5], by simp [t7], by simp [t8], by simp [t9], by simp [t10], by simp [t11]⟩
    · simp only [if_neg g1] at hdx
      simp (disch := first | omega | (simp; done) | assumption) [wr64, wrU8, wrU64, Nat.add_assoc, -getElem?_pos, List.getElem?_cons_zero, List.getElem?_cons_succ, t0, t1, t5, t7, t8, t9, t10, t11, t12, hO6, hii, hiiI, t13, hz, hA6, hAl, isV, g1, hii1]
      exact ⟨hkx, hok7, (by first | omega | (simp; omega)), (by first | omega | (simp; omega)), (by first | omega | (simp; omega)), now.set ii (z + 1), w + 1, f, false, by simp [hnow], all_set' hall ii (by omega), by omega, by omega, hf0, hf1, hdx, by simp, by simp [t0], by simp [t1], by simp [t5], by simp [t7], by simp [t8], by simp [t9], by simp [t10], by simp [t11]⟩
  · obtain ⟨z, hz, hz0, hz1⟩ : ∃ z : Int, bits .and .i64 on_ 2047 = z ∧ 0 ≤ z ∧ z < 2048 := ⟨on_ % 2048, by have := St.mask_i64 11 (by omega) on_; simpa using this, by omega, by omega⟩
    simp (disch := first | omega | (simp; done) | assumption) [wr64, wrU8, wrU64, Nat.add_assoc, -getElem?_pos, List.getElem?_cons_zero, List.getElem?_cons_succ, part_, ic7, t0, t1, t5, t7, t8, t9, t10, t11, t12, hO, hii, hiiI, t13, hz]
    refine CallW.ofk (Fill z _) ?_
    rintro v5 H5 ⟨hk5, hn5, q5, hq5, hq5n, hr5⟩ hok5
    try simp only [newO_none] at hk5 hn5 hq5
    have hd5 := hd.keeps hk5
    have hO5 := hk5 _ _ hO
    have hA5 := hk5 _ _ hA
    have hk05 : H.keepsAll H5 := fun x o hx => hk5 x o (hk x o hx)
    obtain ⟨rfl, hrl, hrq⟩ := hr5
    simp (disch := first | omega | (simp; done) | assumption) [wr64, wrU8, wrU64, Nat.add_assoc, -getElem?_pos, List.getElem?_cons_zero, List.getElem?_cons_succ, t0, t1, t5, t7, t8, t9, t10, t11, t12, hO5, hii, hiiI, t13, slcA, Abs.bounds]
    refine CallW.ofk (Write_dead (i := ii) hd5 ⟨rfl, hrl, hrq⟩ (by simp [hnow]; omega) (by omega) rfl) ?_
    rintro v6 H6 ⟨hk6, hn6, f6, ho6, hm6, rfl, hc6⟩ hok6
    try simp only [newO_none] at hk6 hn6
    have hkx : H.keepsAll H6 := fun x o hx => hk6 x o (hk05 x o hx)
    have hO6 := hk6 _ _ hO5
    simp (disch := first | omega | (simp; done) | assumption) [wr64, wrU8, wrU64, Nat.add_assoc, -getElem?_pos, List.getElem?_cons_zero, List.getElem?_cons_succ, t0, t1, t5, t7, t8, t9, t10, t11, t12, hO6, hii, hiiI, t13]
    refine CallW.val (CNum.Num (ii : Int) hb0 hb1 _) ?_
    simp (disch := first | omega | (simp; done) | assumption) [wr64, wrU8, wrU64, Nat.add_assoc, -getElem?_pos, List.getElem?_cons_zero, List.getElem?_cons_succ, t0, t1, t5, t7, t8, t9, t10, t11, t12, hO6, hii, hiiI, t13]
    refine CallW.val (ELawIs _ _ 50 (loadC_keeps hkx E.hE) hc6) ?_
    have his := isErr ho6 hm6 (show (50 : Int) ≠ 0 by decide)
    have hdx := hd5.keeps hk6
    have hAx := hk6 _ _ hA5
    simp (disch := first | omega | (simp; done) | assumption) [wr64, wrU8, wrU64, Nat.add_assoc, -getElem?_pos, List.getElem?_cons_zero, List.getElem?_cons_succ, t0, t1, t5, t7, t8, t9, t10, t11, t12, his, hO6, hii, hiiI, t13]
    exact ⟨hkx, hok6, (by first | omega | (simp; omega)), (by first | omega | (simp; omega)), (by first | omega | (simp; omega)), now, w, f, true, hnow, hall, by omega, by omega, hf0, hf1, hdx, hAx, by simp [t0], by simp [t1], by simp [t5], by simp [t7], by simp [t8], by simp [t9], by simp [t10], by simp [t11]⟩
theorem SwWs {H H4 : AH} {v : AV} {nb p L A i q : Nat} {on_ : Int} {tm : Tms} (E : Env H nb p L A) (hi : i < 60) {ii : Nat} (hii : ii < nb) (hO : H4.at_ q = some (.cells false tOp [.int .i64 0, .int .i64 (ii : Int), .int .i64 on_, .bool true])) (qn : H.next ≤ q) (qp : q ≠ p) (qL : q ≠ L) (qA : q ≠ A) (q4 : q < H4.next)
    (hb0 : -9223372036854775808 ≤ (ii : Int)) (hb1 : (ii : Int) ≤ 9223372036854775807) (hn0 : -9223372036854775808 ≤ on_) (hn1 : on_ ≤ 9223372036854775807) (t12 : tm 12 = .ptr q 0) (t13 : tm 13 = .bool true) (h : Sx v nb p L A i i H tm H4) : IWP Tryd.prog (part_ PS ic7) (Nx v nb p L A i (i + 1) H) tm H4 := by
  obtain ⟨hk, hok4, hp4, hL4, hA4, now, w, f, dead, hnow, hall, hw0, hw1, hf0, hf1, hd, hA, t0, t1, t5, t7, t8, t9, t10, t11⟩ := h
  have hpL := hd.1
  have hqp : ¬ (p = q) := fun e => qp e.symm
  have n1 := E.n1
  have n2 := E.n2
  have hiiI : (ii : Int) < (nb : Int) := by omega
  obtain ⟨z, hz, hz0, hz1⟩ : ∃ z : Int, bits .and .i64 on_ 2047 = z ∧ 0 ≤ z ∧ z < 2048 := ⟨on_ % 2048, by have := St.mask_i64 11 (by omega) on_; simpa using this, by omega, by omega⟩
  simp (disch := first | omega | (simp; done) | assumption) [wr64, wrU8, wrU64, Nat.add_assoc, -getElem?_pos, List.getElem?_cons_zero, List.getElem?_cons_succ, part_, ic7, t0, t1, t5, t7, t8, t9, t10, t11, t12, hO, hii, hiiI, t13, hz]
  refine CallW.ofk (Fill z _) ?_
  rintro v5 H5 ⟨hk5, hn5, q5, hq5, hq5n, hr5⟩ hok5
  try simp only [newO_none] at hk5 hn5 hq5
  have hd5 := hd.keeps hk5
  have hO5 := hk5 _ _ hO
  have hA5 := hk5 _ _ hA
  have hk05 : H.keepsAll H5 := fun x o hx => hk5 x o (hk x o hx)
  obtain ⟨rfl, hrl, hrq⟩ := hr5
  simp (disch := first | omega | (simp; done) | assumption) [wr64, wrU8, wrU64, Nat.add_assoc, -getElem?_pos, List.getElem?_cons_zero, List.getElem?_cons_succ, t0, t1, t5, t7, t8, t9, t10, t11, t12, hO5, hii, hiiI, t13, slcA, Abs.bounds]
  refine CallW.ofk (Write_bad (q := q5) (o := 1) (m := 127) (i := (ii : Int)) hd5 (by first | (simp [hnow]; done) | (simp [hnow]; omega)) (.inr ⟨hk05 _ _ E.hP, hb0, hb1⟩)) ?_
  rintro v6 H6 ⟨hk6, hn6, f6, ho6, hm6, rfl, hc6⟩ hok6
  try simp only [newO_none] at hk6 hn6
  have hkx : H.keepsAll H6 := fun x o hx => hk6 x o (hk05 x o hx)
  have hO6 := hk6 _ _ hO5
  simp (disch := first | omega | (simp; done) | assumption) [wr64, wrU8, wrU64, Nat.add_assoc, -getElem?_pos, List.getElem?_cons_zero, List.getElem?_cons_succ, t0, t1, t5, t7, t8, t9, t10, t11, t12, hO6, hii, hiiI, t13]
  refine CallW.val (CNum.Num (ii : Int) hb0 hb1 _) ?_
  simp (disch := first | omega | (simp; done) | assumption) [wr64, wrU8, wrU64, Nat.add_assoc, -getElem?_pos, List.getElem?_cons_zero, List.getElem?_cons_succ, t0, t1, t5, t7, t8, t9, t10, t11, t12, hO6, hii, hiiI, t13]
  refine CallW.val (ELawIs _ _ 1 (loadC_keeps hkx E.hE) hc6) ?_
  have his := isErr ho6 hm6 (show (1 : Int) ≠ 0 by decide)
  have hdx := hd5.keeps hk6
  have hAx := hk6 _ _ hA5
  simp (disch := first | omega | (simp; done) | assumption) [wr64, wrU8, wrU64, Nat.add_assoc, -getElem?_pos, List.getElem?_cons_zero, List.getElem?_cons_succ, t0, t1, t5, t7, t8, t9, t10, t11, t12, his, hO6, hii, hiiI, t13]
  exact ⟨hkx, hok6, (by first | omega | (simp; omega)), (by first | omega | (simp; omega)), (by first | omega | (simp; omega)), now, w, f, dead, hnow, hall, by omega, by omega, hf0, hf1, hdx, hAx, by simp [t0], by simp [t1], by simp [t5], by simp [t7], by simp [t8], by simp [t9], by simp [t10], by simp [t11]⟩
theorem SwWo {H H4 : AH} {v : AV} {nb p L A i q : Nat} {oi on_ : Int} {tm : Tms} (E : Env H nb p L A) (hi : i < 60) (hO : H4.at_ q = some (.cells false tOp [.int .i64 0, .int .i64 oi, .int .i64 on_, .bool false])) (qn : H.next ≤ q) (qp : q ≠ p) (qL : q ≠ L) (qA : q ≠ A) (q4 : q < H4.next)
    (hb0 : -9223372036854775808 ≤ oi) (hb1 : oi ≤ 9223372036854775807) (hn0 : -9223372036854775808 ≤ on_) (hn1 : on_ ≤ 9223372036854775807) (hin : oi < 0 ∨ (nb : Int) ≤ oi) (t12 : tm 12 = .ptr q 0) (t13 : tm 13 = .bool false) (h : Sx v nb p L A i i H tm H4) : IWP Tryd.prog (part_ PS ic7) (Nx v nb p L A i (i + 1) H) tm H4 := by
  obtain ⟨hk, hok4, hp4, hL4, hA4, now, w, f, dead, hnow, hall, hw0, hw1, hf0, hf1, hd, hA, t0, t1, t5, t7, t8, t9, t10, t11⟩ := h
  have hpL := hd.1
  have hqp : ¬ (p = q) := fun e => qp e.symm
  have n1 := E.n1
  have n2 := E.n2
  obtain ⟨z, hz, hz0, hz1⟩ : ∃ z : Int, bits .and .i64 on_ 2047 = z ∧ 0 ≤ z ∧ z < 2048 := ⟨on_ % 2048, by have := St.mask_i64 11 (by omega) on_; simpa using this, by omega, by omega⟩
  simp (disch := first | omega | (simp; done) | assumption) [wr64, wrU8, wrU64, Nat.add_assoc, -getElem?_pos, List.getElem?_cons_zero, List.getElem?_cons_succ, part_, ic7, t0, t1, t5, t7, t8, t9, t10, t11, t12, hO, t13, hnow, t13, hz]
  refine CallW.ofk (Fill z _) ?_
  rintro v5 H5 ⟨hk5, hn5, q5, hq5, hq5n, hr5⟩ hok5
  try simp only [newO_none] at hk5 hn5 hq5
  have hd5 := hd.keeps hk5
  have hO5 := hk5 _ _ hO
  have hA5 := hk5 _ _ hA
  have hk05 : H.keepsAll H5 := fun x o hx => hk5 x o (hk x o hx)
  obtain ⟨rfl, hrl, hrq⟩ := hr5
  simp (disch := first | omega | (simp; done) | assumption) [wr64, wrU8, wrU64, Nat.add_assoc, -getElem?_pos, List.getElem?_cons_zero, List.getElem?_cons_succ, t0, t1, t5, t7, t8, t9, t10, t11, t12, hO5, t13, hnow, t13, slcA, Abs.bounds]
  refine CallW.ofk (Write_bad (q := q5) (o := 0) (m := 128) (i := oi) hd5 (by first | (simp [hnow]; done) | (simp [hnow]; omega)) (.inr ⟨hk05 _ _ E.hP, hb0, hb1⟩)) ?_
  rintro v6 H6 ⟨hk6, hn6, f6, ho6, hm6, rfl, hc6⟩ hok6
  try simp only [newO_none] at hk6 hn6
  have hkx : H.keepsAll H6 := fun x o hx => hk6 x o (hk05 x o hx)
  have hO6 := hk6 _ _ hO5
  simp (disch := first | omega | (simp; done) | assumption) [wr64, wrU8, wrU64, Nat.add_assoc, -getElem?_pos, List.getElem?_cons_zero, List.getElem?_cons_succ, t0, t1, t5, t7, t8, t9, t10, t11, t12, hO6, t13, hnow, t13]
  refine CallW.val (CNum.Num oi hb0 hb1 _) ?_
  simp (disch := first | omega | (simp; done) | assumption) [wr64, wrU8, wrU64, Nat.add_assoc, -getElem?_pos, List.getElem?_cons_zero, List.getElem?_cons_succ, t0, t1, t5, t7, t8, t9, t10, t11, t12, hO6, t13, hnow, t13]
  refine CallW.val (ELawIs _ _ 1 (loadC_keeps hkx E.hE) hc6) ?_
  have his := isErr ho6 hm6 (show (1 : Int) ≠ 0 by decide)
  have hdx := hd5.keeps hk6
  have hAx := hk6 _ _ hA5
  simp (disch := first | omega | (simp; done) | assumption) [wr64, wrU8, wrU64, Nat.add_assoc, -getElem?_pos, List.getElem?_cons_zero, List.getElem?_cons_succ, t0, t1, t5, t7, t8, t9, t10, t11, t12, his, hO6, t13, hnow, t13]
  exact ⟨hkx, hok6, (by first | omega | (simp; omega)), (by first | omega | (simp; omega)), (by first | omega | (simp; omega)), now, w, f, dead, hnow, hall, by omega, by omega, hf0, hf1, hdx, hAx, by simp [t0], by simp [t1], by simp [t5], by simp [t7], by simp [t8], by simp [t9], by simp [t10], by simp [t11]⟩
theorem SwWos {H H4 : AH} {v : AV} {nb p L A i q : Nat} {oi on_ : Int} {tm : Tms} (E : Env H nb p L A) (hi : i < 60) (hO : H4.at_ q = some (.cells false tOp [.int .i64 0, .int .i64 oi, .int .i64 on_, .bool true])) (qn : H.next ≤ q) (qp : q ≠ p) (qL : q ≠ L) (qA : q ≠ A) (q4 : q < H4.next)
    (hb0 : -9223372036854775808 ≤ oi) (hb1 : oi ≤ 9223372036854775807) (hn0 : -9223372036854775808 ≤ on_) (hn1 : on_ ≤ 9223372036854775807) (hin : oi < 0 ∨ (nb : Int) ≤ oi) (t12 : tm 12 = .ptr q 0) (t13 : tm 13 = .bool false) (h : Sx v nb p L A i i H tm H4) : IWP Tryd.prog (part_ PS ic7) (Nx v nb p L A i (i + 1) H) tm H4 := by
  obtain ⟨hk, hok4, hp4, hL4, hA4, now, w, f, dead, hnow, hall, hw0, hw1, hf0, hf1, hd, hA, t0, t1, t5, t7, t8, t9, t10, t11⟩ := h
  have hpL := hd.1
  have hqp : ¬ (p = q) := fun e => qp e.symm
  have n1 := E.n1
  have n2 := E.n2
  obtain ⟨z, hz, hz0, hz1⟩ : ∃ z : Int, bits .and .i64 on_ 2047 = z ∧ 0 ≤ z ∧ z < 2048 := ⟨on_ % 2048, by have := St.mask_i64 11 (by omega) on_; simpa using this, by omega, by omega⟩
  simp (disch := first | omega | (simp; done) | assumption) [wr64, wrU8, wrU64, Nat.add_assoc, -getElem?_pos, List.getElem?_cons_zero, List.getElem?_cons_succ, part_, ic7, t0, t1, t5, t7, t8, t9, t10, t11, t12, hO, t13, hnow, t13, hz]
  refine CallW.ofk (Fill z _) ?_
  rintro v5 H5 ⟨hk5, hn5, q5, hq5, hq5n, hr5⟩ hok5
  try simp only [newO_none] at hk5 hn5 hq5
  have hd5 := hd.keeps hk5
  have hO5 := hk5 _ _ hO
  have hA5 := hk5 _ _ hA
  have hk05 : H.keepsAll H5 := fun x o hx => hk5 x o (hk x o hx)
  obtain ⟨rfl, hrl, hrq⟩ := hr5
  simp (disch := first | omega | (simp; done) | assumption) [wr64, wrU8, wrU64, Nat.add_assoc, -getElem?_pos, List.getElem?_cons_zero, List.getElem?_cons_succ, t0, t1, t5, t7, t8, t9, t10, t11, t12, hO5, t13, hnow, t13, slcA, Abs.bounds]
  refine CallW.ofk (Write_bad (q := q5) (o := 1) (m := 127) (i := oi) hd5 (by first | (simp [hnow]; done) | (simp [hnow]; omega)) (.inr ⟨hk05 _ _ E.hP, hb0, hb1⟩)) ?_
  rintro v6 H6 ⟨hk6, hn6, f6, ho6, hm6, rfl, hc6⟩ hok6
  try simp only [newO_none] at hk6 hn6
  have hkx : H.keepsAll H6 := fun x o hx => hk6 x o (hk05 x o hx)
  have hO6 := hk6 _ _ hO5
  simp (disch := first | omega | (simp; done) | assumption) [wr64, wrU8, wrU64, Nat.add_assoc, -getElem?_pos, List.getElem?_cons_zero, List.getElem?_cons_succ, t0, t1, t5, t7, t8, t9, t10, t11, t12, hO6, t13, hnow, t13]
  refine CallW.val (CNum.Num oi hb0 hb1 _) ?_
  simp (disch := first | omega | (simp; done) | assumption) [wr64, wrU8, wrU64, Nat.add_assoc, -getElem?_pos, List.getElem?_cons_zero, List.getElem?_cons_succ, t0, t1, t5, t7, t8, t9, t10, t11, t12, hO6, t13, hnow, t13]
  refine CallW.val (ELawIs _ _ 1 (loadC_keeps hkx E.hE) hc6) ?_
  have his := isErr ho6 hm6 (show (1 : Int) ≠ 0 by decide)
  have hdx := hd5.keeps hk6
  have hAx := hk6 _ _ hA5
  simp (disch := first | omega | (simp; done) | assumption) [wr64, wrU8, wrU64, Nat.add_assoc, -getElem?_pos, List.getElem?_cons_zero, List.getElem?_cons_succ, t0, t1, t5, t7, t8, t9, t10, t11, t12, his, hO6, t13, hnow, t13]
  exact ⟨hkx, hok6, (by first | omega | (simp; omega)), (by first | omega | (simp; omega)), (by first | omega | (simp; omega)), now, w, f, dead, hnow, hall, by omega, by omega, hf0, hf1, hdx, hAx, by simp [t0], by simp [t1], by simp [t5], by simp [t7], by simp [t8], by simp [t9], by simp [t10], by simp [t11]⟩
theorem SwR {sh : Bool} {H H4 : AH} {v : AV} {nb p L A i q : Nat} {on_ : Int} {tm : Tms} (E : Env H nb p L A) (hi : i < 60) {ii : Nat} (hii : ii < nb) (hO : H4.at_ q = some (.cells false tOp [.int .i64 1, .int .i64 (ii : Int), .int .i64 on_, .bool sh])) (qn : H.next ≤ q) (qp : q ≠ p) (qL : q ≠ L) (qA : q ≠ A) (q4 : q < H4.next)
    (hb0 : -9223372036854775808 ≤ (ii : Int)) (hb1 : (ii : Int) ≤ 9223372036854775807) (hn0 : -9223372036854775808 ≤ on_) (hn1 : on_ ≤ 9223372036854775807) (t12 : tm 12 = .ptr q 0) (t13 : tm 13 = .bool true) (h : Sx v nb p L A i i H tm H4) : IWP Tryd.prog (part_ PS ic7) (Nx v nb p L A i (i + 1) H) tm H4 := by
  obtain ⟨hk, hok4, hp4, hL4, hA4, now, w, f, dead, hnow, hall, hw0, hw1, hf0, hf1, hd, hA, t0, t1, t5, t7, t8, t9, t10, t11⟩ := h
  have hpL := hd.1
  have hqp : ¬ (p = q) := fun e => qp e.symm
  have n1 := E.n1
  have n2 := E.n2
  have hiiI : (ii : Int) < (nb : Int) := by omega
  cases dead
  · simp (disch := first | omega | (simp; done) | assumption) [wr64, wrU8, wrU64, Nat.add_assoc, -getElem?_pos, List.getElem?_cons_zero, List.getElem?_cons_succ, part_, ic7, t0, t1, t5, t7, t8, t9, t10, t11, t12, hO, hii, hiiI, t13]
    refine CallW.ofk (Read_ok (i := ii) hd (by simp [hnow]; omega) rfl) ?_
    rintro v5 H5 ⟨r5, rfl, hk5, hn5, q5, hq5, hq5n, hr5⟩ hok5
    try simp only [newO_none] at hk5 hn5 hq5
    have hk05 : H.keepsAll H5 := fun x o hx => hk5 x o (hk x o hx)
    have hO5 := hk5 _ _ hO
    have hA5 := hk5 _ _ hA
    replace hr5 : Row H5 r5 q5 (isB (now[ii]'(by omega))) := by simpa [bytes_slot] using hr5
    have hb5 := b2s_row hr5
    simp (disch := first | omega | (simp; done) | assumption) [wr64, wrU8, wrU64, Nat.add_assoc, -getElem?_pos, List.getElem?_cons_zero, List.getElem?_cons_succ, t0, t1, t5, t7, t8, t9, t10, t11, t12, hO5, hii, hiiI, t13]
    refine CallW.val (CNum.Num (ii : Int) hb0 hb1 _) ?_
    simp (disch := first | omega | (simp; done) | assumption) [wr64, wrU8, wrU64, Nat.add_assoc, -getElem?_pos, List.getElem?_cons_zero, List.getElem?_cons_succ, t0, t1, t5, t7, t8, t9, t10, t11, t12, hO5, hii, hiiI, t13]
    refine CallW.val (ELawIs _ _ 0 (loadC_keeps hk05 E.hE) .nil) ?_
    have hcell : (now.map (AV.int .i64))[ii]? = some (.int .i64 (now[ii]'(by omega))) := by rw [List.getElem?_map, List.getElem?_eq_getElem (by omega)]; rfl
    have hAl : (now.map (AV.int .i64)).length = nb := by simp [hnow]
    simp (disch := first | omega | (simp; done) | assumption) [wr64, wrU8, wrU64, Nat.add_assoc, -getElem?_pos, List.getElem?_cons_zero, List.getElem?_cons_succ, t0, t1, t5, t7, t8, t9, t10, t11, t12, hO5, hii, hiiI, t13, isV, hb5, hA5, hcell, hAl]
    have hzz := hall _ (List.getElem_mem (show ii < now.length by omega))
    refine CallW.ofk (Is_ hzz.1 (by omega) _) ?_
    rintro v6 H6 ⟨hk6, hn6, q6, hq6, hq6n, hr6⟩ hok6
    try simp only [newO_none] at hk6 hn6 hq6
    have hkx : H.keepsAll H6 := fun x o hx => hk6 x o (hk05 x o hx)
    have hb6 := b2s_row hr6
    have hb56 := b2s_row (hr5.keeps hk6)
    have hdx := (hd.keeps hk5).keeps hk6
    have hAx := hk6 _ _ hA5
    simp (disch := first | omega | (simp; done) | assumption) [wr64, wrU8, wrU64, Nat.add_assoc, -getElem?_pos, List.getElem?_cons_zero, List.getElem?_cons_succ, t0, t1, t5, t7, t8, t9, t10, t11, t12, hii, hiiI, t13, hb6, hb56]
    exact ⟨hkx, hok6, (by first | omega | (simp; omega)), (by first | omega | (simp; omega)), (by first | omega | (simp; omega)), now, w, f, false, hnow, hall, by omega, by omega, hf0, hf1, hdx, hAx, by simp [t0], by simp [t1], by simp [t5], by simp [t7], by simp [t8], by simp [t9], by simp [t10], by simp [t11]⟩
  · simp (disch := first | omega | (simp; done) | assumption) [wr64, wrU8, wrU64, Nat.add_assoc, -getElem?_pos, List.getElem?_cons_zero, List.getElem?_cons_succ, part_, ic7, t0, t1, t5, t7, t8, t9, t10, t11, t12, hO, hii, hiiI, t13]
    refine CallW.ofk (Read_dead (i := ii) hd (by simp [hnow]; omega) (by omega) rfl) ?_
    rintro v5 H5 ⟨e5, rfl, hk5, hn5, f5, ho5, hm5, rfl, hc5⟩ hok5
    try simp only [newO_none] at hk5 hn5
    have hkx : H.keepsAll H5 := fun x o hx => hk5 x o (hk x o hx)
    have hO5 := hk5 _ _ hO
    simp (disch := first | omega | (simp; done) | assumption) [wr64, wrU8, wrU64, Nat.add_assoc, -getElem?_pos, List.getElem?_cons_zero, List.getElem?_cons_succ, t0, t1, t5, t7, t8, t9, t10, t11, t12, hO5, hii, hiiI, t13]
    refine CallW.val (CNum.Num (ii : Int) hb0 hb1 _) ?_
    simp (disch := first | omega | (simp; done) | assumption) [wr64, wrU8, wrU64, Nat.add_assoc, -getElem?_pos, List.getElem?_cons_zero, List.getElem?_cons_succ, t0, t1, t5, t7, t8, t9, t10, t11, t12, hO5, hii, hiiI, t13]
    refine CallW.val (ELawIs _ _ 50 (loadC_keeps hkx E.hE) hc5) ?_
    have his := isErr ho5 hm5 (show (50 : Int) ≠ 0 by decide)
    have hdx := hd.keeps hk5
    have hAx := hk5 _ _ hA
    simp (disch := first | omega | (simp; done) | assumption) [wr64, wrU8, wrU64, Nat.add_assoc, -getElem?_pos, List.getElem?_cons_zero, List.getElem?_cons_succ, t0, t1, t5, t7, t8, t9, t10, t11, t12, his, hO5, hii, hiiI, t13]
    exact ⟨hkx, hok5, (by first | omega | (simp; omega)), (by first | omega | (simp; omega)), (by first | omega | (simp; omega)), now, w, f, true, hnow, hall, by omega, by omega, hf0, hf1, hdx, hAx, by simp [t0], by simp [t1], by simp [t5], by simp [t7], by simp [t8], by simp [t9], by simp [t10], by simp [t11]⟩
theorem SwRo {sh : Bool} {H H4 : AH} {v : AV} {nb p L A i q : Nat} {oi on_ : Int} {tm : Tms} (E : Env H nb p L A) (hi : i < 60) (hO : H4.at_ q = some (.cells false tOp [.int .i64 1, .int .i64 oi, .int .i64 on_, .bool sh])) (qn : H.next ≤ q) (qp : q ≠ p) (qL : q ≠ L) (qA : q ≠ A) (q4 : q < H4.next)
    (hb0 : -9223372036854775808 ≤ oi) (hb1 : oi ≤ 9223372036854775807) (hn0 : -9223372036854775808 ≤ on_) (hn1 : on_ ≤ 9223372036854775807) (hin : oi < 0 ∨ (nb : Int) ≤ oi) (t12 : tm 12 = .ptr q 0) (t13 : tm 13 = .bool false) (h : Sx v nb p L A i i H tm H4) : IWP Tryd.prog (part_ PS ic7) (Nx v nb p L A i (i + 1) H) tm H4 := by
  obtain ⟨hk, hok4, hp4, hL4, hA4, now, w, f, dead, hnow, hall, hw0, hw1, hf0, hf1, hd, hA, t0, t1, t5, t7, t8, t9, t10, t11⟩ := h
  have hpL := hd.1
  have hqp : ¬ (p = q) := fun e => qp e.symm
  have n1 := E.n1
  have n2 := E.n2
  simp (disch := first | omega | (simp; done) | assumption) [wr64, wrU8, wrU64, Nat.add_assoc, -getElem?_pos, List.getElem?_cons_zero, List.getElem?_cons_succ, part_, ic7, t0, t1, t5, t7, t8, t9, t10, t11, t12, hO, t13, hnow, t13]
  refine CallW.ofk (Read_bad (i := oi) hd (by first | (simp [hnow]; done) | (simp [hnow]; omega)) (.inr ⟨hk _ _ E.hP, hb0, hb1⟩)) ?_
  rintro v5 H5 ⟨e5, rfl, hk5, hn5, f5, ho5, hm5, rfl, hc5⟩ hok5
  try simp only [newO_none] at hk5 hn5
  have hkx : H.keepsAll H5 := fun x o hx => hk5 x o (hk x o hx)
  have hO5 := hk5 _ _ hO
  simp (disch := first | omega | (simp; done) | assumption) [wr64, wrU8, wrU64, Nat.add_assoc, -getElem?_pos, List.getElem?_cons_zero, List.getElem?_cons_succ, t0, t1, t5, t7, t8, t9, t10, t11, t12, hO5, t13, hnow, t13]
  refine CallW.val (CNum.Num oi hb0 hb1 _) ?_
  simp (disch := first | omega | (simp; done) | assumption) [wr64, wrU8, wrU64, Nat.add_assoc, -getElem?_pos, List.getElem?_cons_zero, List.getElem?_cons_succ, t0, t1, t5, t7, t8, t9, t10, t11, t12, hO5, t13, hnow, t13]
  refine CallW.val (ELawIs _ _ 1 (loadC_keeps hkx E.hE) hc5) ?_
  have his := isErr ho5 hm5 (show (1 : Int) ≠ 0 by decide)
  have hdx := hd.keeps hk5
  have hAx := hk5 _ _ hA
  simp (disch := first | omega | (simp; done) | assumption) [wr64, wrU8, wrU64, Nat.add_assoc, -getElem?_pos, List.getElem?_cons_zero, List.getElem?_cons_succ, t0, t1, t5, t7, t8, t9, t10, t11, t12, his, hO5, t13, hnow, t13]
  exact ⟨hkx, hok5, (by first | omega | (simp; omega)), (by first | omega | (simp; omega)), (by first | omega | (simp; omega)), now, w, f, dead, hnow, hall, by omega, by omega, hf0, hf1, hdx, hAx, by simp [t0], by simp [t1], by simp [t5], by simp [t7], by simp [t8], by simp [t9], by simp [t10], by simp [t11]⟩
theorem SwF {sh : Bool} {H H4 : AH} {v : AV} {nb p L A i q : Nat} {on_ : Int} {tm : Tms} (E : Env H nb p L A) (hi : i < 60) {ii : Nat} (hii : ii < nb) (hO : H4.at_ q = some (.cells false tOp [.int .i64 2, .int .i64 (ii : Int), .int .i64 on_, .bool sh])) (qn : H.next ≤ q) (qp : q ≠ p) (qL : q ≠ L) (qA : q ≠ A) (q4 : q < H4.next)
    (hb0 : -9223372036854775808 ≤ (ii : Int)) (hb1 : (ii : Int) ≤ 9223372036854775807) (hn0 : -9223372036854775808 ≤ on_) (hn1 : on_ ≤ 9223372036854775807) (t12 : tm 12 = .ptr q 0) (t13 : tm 13 = .bool true) (h : Sx v nb p L A i i H tm H4) : IWP Tryd.prog (part_ PS ic7) (Nx v nb p L A i (i + 1) H) tm H4 := by
  obtain ⟨hk, hok4, hp4, hL4, hA4, now, w, f, dead, hnow, hall, hw0, hw1, hf0, hf1, hd, hA, t0, t1, t5, t7, t8, t9, t10, t11⟩ := h
  have hpL := hd.1
  have hqp : ¬ (p = q) := fun e => qp e.symm
  have n1 := E.n1
  have n2 := E.n2
  have hiiI : (ii : Int) < (nb : Int) := by omega
  simp (disch := first | omega | (simp; done) | assumption) [wr64, wrU8, wrU64, Nat.add_assoc, -getElem?_pos, List.getElem?_cons_zero, List.getElem?_cons_succ, part_, ic7, t0, t1, t5, t7, t8, t9, t10, t11, t12, hO, hii, hiiI, t13]
  refine CallW.ofk (Fuse on_ hd) ?_
  rintro v5 H5 ⟨rfl, hn5, hx5, hd5⟩ hok5
  try simp only [newO_none] at hx5 hn5
  have hkx := hx5.keepsAll hk E.ok E.hp E.hL
  have hO5 := hx5 _ _ (by omega) (by omega) hO
  have hAx := hx5 _ _ (fun e => E.pA e.symm) (fun e => E.LA e.symm) hA
  obtain ⟨fm, hfm⟩ : ∃ fm : Int, max on_ (-1) = fm := ⟨_, rfl⟩
  have hfz : decide (on_ = 0) = decide (fm = 0) := by rw [decide_eq_decide]; omega
  rw [hfz, hfm] at hd5
  cases dead
  · simp (disch := first | omega | (simp; done) | assumption) [wr64, wrU8, wrU64, Nat.add_assoc, -getElem?_pos, List.getElem?_cons_zero, List.getElem?_cons_succ, t0, t1, t5, t7, t8, t9, t10, t11, t12, hO5, hii, hiiI, t13, hfm]
    exact ⟨hkx, hok5, (by first | omega | (simp; omega)), (by first | omega | (simp; omega)), (by first | omega | (simp; omega)), now, w, fm, decide (fm = 0), hnow, hall, by omega, by omega, by omega, by omega, by simpa using hd5, hAx, by simp [t0], by simp [t1], by simp [t5], by simp [t7], by simp [t8], by simp [t9], by simp [t10], by simp [t11]⟩
  · simp (disch := first | omega | (simp; done) | assumption) [wr64, wrU8, wrU64, Nat.add_assoc, -getElem?_pos, List.getElem?_cons_zero, List.getElem?_cons_succ, t0, t1, t5, t7, t8, t9, t10, t11, t12, hO5, hii, hiiI, t13, hfm]
    exact ⟨hkx, hok5, (by first | omega | (simp; omega)), (by first | omega | (simp; omega)), (by first | omega | (simp; omega)), now, w, fm, true, hnow, hall, by omega, by omega, by omega, by omega, by simpa using hd5, hAx, by simp [t0], by simp [t1], by simp [t5], by simp [t7], by simp [t8], by simp [t9], by simp [t10], by simp [t11]⟩
theorem SwFo {sh : Bool} {H H4 : AH} {v : AV} {nb p L A i q : Nat} {oi on_ : Int} {tm : Tms} (E : Env H nb p L A) (hi : i < 60) (hO : H4.at_ q = some (.cells false tOp [.int .i64 2, .int .i64 oi, .int .i64 on_, .bool sh])) (qn : H.next ≤ q) (qp : q ≠ p) (qL : q ≠ L) (qA : q ≠ A) (q4 : q < H4.next)
    (hb0 : -9223372036854775808 ≤ oi) (hb1 : oi ≤ 9223372036854775807) (hn0 : -9223372036854775808 ≤ on_) (hn1 : on_ ≤ 9223372036854775807) (hin : oi < 0 ∨ (nb : Int) ≤ oi) (t12 : tm 12 = .ptr q 0) (t13 : tm 13 = .bool false) (h : Sx v nb p L A i i H tm H4) : IWP Tryd.prog (part_ PS ic7) (Nx v nb p L A i (i + 1) H) tm H4 := by
  obtain ⟨hk, hok4, hp4, hL4, hA4, now, w, f, dead, hnow, hall, hw0, hw1, hf0, hf1, hd, hA, t0, t1, t5, t7, t8, t9, t10, t11⟩ := h
  have hpL := hd.1
  have hqp : ¬ (p = q) := fun e => qp e.symm
  have n1 := E.n1
  have n2 := E.n2
  simp (disch := first | omega | (simp; done) | assumption) [wr64, wrU8, wrU64, Nat.add_assoc, -getElem?_pos, List.getElem?_cons_zero, List.getElem?_cons_succ, part_, ic7, t0, t1, t5, t7, t8, t9, t10, t11, t12, hO, t13, hnow, t13]
  refine CallW.ofk (Fuse on_ hd) ?_
  rintro v5 H5 ⟨rfl, hn5, hx5, hd5⟩ hok5
  try simp only [newO_none] at hx5 hn5
  have hkx := hx5.keepsAll hk E.ok E.hp E.hL
  have hO5 := hx5 _ _ (by omega) (by omega) hO
  have hAx := hx5 _ _ (fun e => E.pA e.symm) (fun e => E.LA e.symm) hA
  obtain ⟨fm, hfm⟩ : ∃ fm : Int, max on_ (-1) = fm := ⟨_, rfl⟩
  have hfz : decide (on_ = 0) = decide (fm = 0) := by rw [decide_eq_decide]; omega
  rw [hfz, hfm] at hd5
  cases dead
  · simp (disch := first | omega | (simp; done) | assumption) [wr64, wrU8, wrU64, Nat.add_assoc, -getElem?_pos, List.getElem?_cons_zero, List.getElem?_cons_succ, t0, t1, t5, t7, t8, t9, t10, t11, t12, hO5, t13, hnow, t13, hfm]
    exact ⟨hkx, hok5, (by first | omega | (simp; omega)), (by first | omega | (simp; omega)), (by first | omega | (simp; omega)), now, w, fm, decide (fm = 0), hnow, hall, by omega, by omega, by omega, by omega, by simpa using hd5, hAx, by simp [t0], by simp [t1], by simp [t5], by simp [t7], by simp [t8], by simp [t9], by simp [t10], by simp [t11]⟩
  · simp (disch := first | omega | (simp; done) | assumption) [wr64, wrU8, wrU64, Nat.add_assoc, -getElem?_pos, List.getElem?_cons_zero, List.getElem?_cons_succ, t0, t1, t5, t7, t8, t9, t10, t11, t12, hO5, t13, hnow, t13, hfm]
    exact ⟨hkx, hok5, (by first | omega | (simp; omega)), (by first | omega | (simp; omega)), (by first | omega | (simp; omega)), now, w, fm, true, hnow, hall, by omega, by omega, by omega, by omega, by simpa using hd5, hAx, by simp [t0], by simp [t1], by simp [t5], by simp [t7], by simp [t8], by simp [t9], by simp [t10], by simp [t11]⟩
theorem SwP {sh : Bool} {H H4 : AH} {v : AV} {nb p L A i q : Nat} {on_ : Int} {tm : Tms} (E : Env H nb p L A) (hi : i < 60) {ii : Nat} (hii : ii < nb) (hO : H4.at_ q = some (.cells false tOp [.int .i64 3, .int .i64 (ii : Int), .int .i64 on_, .bool sh])) (qn : H.next ≤ q) (qp : q ≠ p) (qL : q ≠ L) (qA : q ≠ A) (q4 : q < H4.next)
    (hb0 : -9223372036854775808 ≤ (ii : Int)) (hb1 : (ii : Int) ≤ 9223372036854775807) (hn0 : -9223372036854775808 ≤ on_) (hn1 : on_ ≤ 9223372036854775807) (t12 : tm 12 = .ptr q 0) (t13 : tm 13 = .bool true) (h : Sx v nb p L A i i H tm H4) : IWP Tryd.prog (part_ PS ic7) (Nx v nb p L A i (i + 1) H) tm H4 := by
  obtain ⟨hk, hok4, hp4, hL4, hA4, now, w, f, dead, hnow, hall, hw0, hw1, hf0, hf1, hd, hA, t0, t1, t5, t7, t8, t9, t10, t11⟩ := h
  have hpL := hd.1
  have hqp : ¬ (p = q) := fun e => qp e.symm
  have n1 := E.n1
  have n2 := E.n2
  have hiiI : (ii : Int) < (nb : Int) := by omega
  simp (disch := first | omega | (simp; done) | assumption) [wr64, wrU8, wrU64, Nat.add_assoc, -getElem?_pos, List.getElem?_cons_zero, List.getElem?_cons_succ, part_, ic7, t0, t1, t5, t7, t8, t9, t10, t11, t12, hO, hii, hiiI, t13]
  refine CallW.ofk (Power hd) ?_
  rintro v5 H5 ⟨rfl, hn5, hx5, hdx⟩ hok5
  try simp only [newO_none] at hx5 hn5
  have hkx := hx5.keepsAll hk E.ok E.hp E.hL
  have hAx := hx5 _ _ (fun e => E.pA e.symm) (fun e => E.LA e.symm) hA
  simp (disch := first | omega | (simp; done) | assumption) [wr64, wrU8, wrU64, Nat.add_assoc, -getElem?_pos, List.getElem?_cons_zero, List.getElem?_cons_succ, t0, t1, t5, t7, t8, t9, t10, t11, t12, hii, hiiI, t13]
  exact ⟨hkx, hok5, (by first | omega | (simp; omega)), (by first | omega | (simp; omega)), (by first | omega | (simp; omega)), now, w, -1, false, hnow, hall, by omega, by omega, by omega, by omega, hdx, hAx, by simp [t0], by simp [t1], by simp [t5], by simp [t7], by simp [t8], by simp [t9], by simp [t10], by simp [t11]⟩
theorem SwPo {sh : Bool} {H H4 : AH} {v : AV} {nb p L A i q : Nat} {oi on_ : Int} {tm : Tms} (E : Env H nb p L A) (hi : i < 60) (hO : H4.at_ q = some (.cells false tOp [.int .i64 3, .int .i64 oi, .int .i64 on_, .bool sh])) (qn : H.next ≤ q) (qp : q ≠ p) (qL : q ≠ L) (qA : q ≠ A) (q4 : q < H4.next)
    (hb0 : -9223372036854775808 ≤ oi) (hb1 : oi ≤ 9223372036854775807) (hn0 : -9223372036854775808 ≤ on_) (hn1 : on_ ≤ 9223372036854775807) (hin : oi < 0 ∨ (nb : Int) ≤ oi) (t12 : tm 12 = .ptr q 0) (t13 : tm 13 = .bool false) (h : Sx v nb p L A i i H tm H4) : IWP Tryd.prog (part_ PS ic7) (Nx v nb p L A i (i + 1) H) tm H4 := by
  obtain ⟨hk, hok4, hp4, hL4, hA4, now, w, f, dead, hnow, hall, hw0, hw1, hf0, hf1, hd, hA, t0, t1, t5, t7, t8, t9, t10, t11⟩ := h
  have hpL := hd.1
  have hqp : ¬ (p = q) := fun e => qp e.symm
  have n1 := E.n1
  have n2 := E.n2
  simp (disch := first | omega | (simp; done) | assumption) [wr64, wrU8, wrU64, Nat.add_assoc, -getElem?_pos, List.getElem?_cons_zero, List.getElem?_cons_succ, part_, ic7, t0, t1, t5, t7, t8, t9, t10, t11, t12, hO, t13, hnow, t13]
  refine CallW.ofk (Power hd) ?_
  rintro v5 H5 ⟨rfl, hn5, hx5, hdx⟩ hok5
  try simp only [newO_none] at hx5 hn5
  have hkx := hx5.keepsAll hk E.ok E.hp E.hL
  have hAx := hx5 _ _ (fun e => E.pA e.symm) (fun e => E.LA e.symm) hA
  simp (disch := first | omega | (simp; done) | assumption) [wr64, wrU8, wrU64, Nat.add_assoc, -getElem?_pos, List.getElem?_cons_zero, List.getElem?_cons_succ, t0, t1, t5, t7, t8, t9, t10, t11, t12, t13, hnow, t13]
  exact ⟨hkx, hok5, (by first | omega | (simp; omega)), (by first | omega | (simp; omega)), (by first | omega | (simp; omega)), now, w, -1, false, hnow, hall, by omega, by omega, by omega, by omega, hdx, hAx, by simp [t0], by simp [t1], by simp [t5], by simp [t7], by simp [t8], by simp [t9], by simp [t10], by simp [t11]⟩
theorem SwC {ok_ : Int} {sh : Bool} {H H4 : AH} {v : AV} {nb p L A i q : Nat} {on_ : Int} {tm : Tms} (E : Env H nb p L A) (hi : i < 60) {ii : Nat} (hii : ii < nb) (hO : H4.at_ q = some (.cells false tOp [.int .i64 ok_, .int .i64 (ii : Int), .int .i64 on_, .bool sh])) (qn : H.next ≤ q) (qp : q ≠ p) (qL : q ≠ L) (qA : q ≠ A) (q4 : q < H4.next)
    (hb0 : -9223372036854775808 ≤ (ii : Int)) (hb1 : (ii : Int) ≤ 9223372036854775807) (hn0 : -9223372036854775808 ≤ on_) (hn1 : on_ ≤ 9223372036854775807) (k0 : ¬ ok_ = 0) (k1 : ¬ ok_ = 1) (k2 : ¬ ok_ = 2) (k3 : ¬ ok_ = 3) (t12 : tm 12 = .ptr q 0) (t13 : tm 13 = .bool true) (h : Sx v nb p L A i i H tm H4) : IWP Tryd.prog (part_ PS ic7) (Nx v nb p L A i (i + 1) H) tm H4 := by
  obtain ⟨hk, hok4, hp4, hL4, hA4, now, w, f, dead, hnow, hall, hw0, hw1, hf0, hf1, hd, hA, t0, t1, t5, t7, t8, t9, t10, t11⟩ := h
  have hpL := hd.1
  have hqp : ¬ (p = q) := fun e => qp e.symm
  have n1 := E.n1
  have n2 := E.n2
  have hiiI : (ii : Int) < (nb : Int) := by omega
  simp (disch := first | omega | (simp; done) | assumption) [wr64, wrU8, wrU64, Nat.add_assoc, -getElem?_pos, List.getElem?_cons_zero, List.getElem?_cons_succ, part_, ic7, t0, t1, t5, t7, t8, t9, t10, t11, t12, hO, hii, hiiI, t13, k0, k1, k2, k3]
  refine CallW.ofk (Copy hd (by simp [hnow]; omega) (by simp [hnow]; omega)) ?_
  rintro v5 H5 ⟨hk5, hn5, p2, L2, rfl, hp2, hL2, hp25, hL25, hd5⟩ hok5
  try simp only [newO_none] at hk5 hn5 hp2 hL2
  simp (disch := first | omega | (simp; done) | assumption) [wr64, wrU8, wrU64, Nat.add_assoc, -getElem?_pos, List.getElem?_cons_zero, List.getElem?_cons_succ, t0, t1, t5, t7, t8, t9, t10, t11, t12, hii, hiiI, t13, k0, k1, k2, k3]
  refine CallW.val (Dead hd5) ?_
  simp (disch := first | omega | (simp; done) | assumption) [wr64, wrU8, wrU64, Nat.add_assoc, -getElem?_pos, List.getElem?_cons_zero, List.getElem?_cons_succ, t0, t1, t5, t7, t8, t9, t10, t11, t12, hii, hiiI, t13, k0, k1, k2, k3]
  refine CallW.val (Blocks hd5) ?_
  simp (disch := first | omega | (simp; done) | assumption) [wr64, wrU8, wrU64, Nat.add_assoc, -getElem?_pos, List.getElem?_cons_zero, List.getElem?_cons_succ, t0, t1, t5, t7, t8, t9, t10, t11, t12, hii, hiiI, t13, k0, k1, k2, k3, hnow]
  refine CallW.ofk (Power hd5) ?_
  rintro v6 H6 ⟨rfl, hn6, hx6, hd6⟩ hok6
  try simp only [newO_none] at hx6 hn6
  have hk46 := hx6.keepsAll hk5 hok4 hp2 hL2
  simp (disch := first | omega | (simp; done) | assumption) [wr64, wrU8, wrU64, Nat.add_assoc, -getElem?_pos, List.getElem?_cons_zero, List.getElem?_cons_succ, t0, t1, t5, t7, t8, t9, t10, t11, t12, hii, hiiI, t13, k0, k1, k2, k3]
  refine CallW.ofk (Fill 77 _) ?_
  rintro v7 H7 ⟨hk7, hn7, q7, hq7, hq7n, hr7⟩ hok7
  try simp only [newO_none] at hk7 hn7 hq7
  have hk47 : H4.keepsAll H7 := fun x o hx => hk7 x o (hk46 x o hx)
  simp (disch := first | omega | (simp; done) | assumption) [wr64, wrU8, wrU64, Nat.add_assoc, -getElem?_pos, List.getElem?_cons_zero, List.getElem?_cons_succ, t0, t1, t5, t7, t8, t9, t10, t11, t12, hii, hiiI, t13, k0, k1, k2, k3]
  refine CallW.ofk (show ACall Tryd.prog _ [.ptr p2 0, .int .i64 0, v7] _ _ from Write_ok (i := 0) (hd6.keeps hk7) hr7 (by omega) (by omega) (by simp [hnow]; omega) rfl ⟨hw0, by simp; omega⟩ (by simp)) ?_
  rintro v8 H8 ⟨rfl, hn8, hx8, hd8⟩ hok8
  try simp only [newO_none] at hx8 hn8
  have hk48 := hx8.keepsAll hk47 hok4 hp2 hL2
  have hkx : H.keepsAll H8 := fun x o hx => hk48 x o (hk x o hx)
  have hdx := hd.keeps hk48
  have hAx := hk48 _ _ hA
  simp (disch := first | omega | (simp; done) | assumption) [wr64, wrU8, wrU64, Nat.add_assoc, -getElem?_pos, List.getElem?_cons_zero, List.getElem?_cons_succ, t0, t1, t5, t7, t8, t9, t10, t11, t12, hii, hiiI, t13, k0, k1, k2, k3]
  exact ⟨hkx, hok8, (by first | omega | (simp; omega)), (by first | omega | (simp; omega)), (by first | omega | (simp; omega)), now, w, f, dead, hnow, hall, by omega, by omega, hf0, hf1, hdx, hAx, by simp [t0], by simp [t1], by simp [t5], by simp [t7], by simp [t8], by simp [t9], by simp [t10], by simp [t11]⟩
theorem SwCo {ok_ : Int} {sh : Bool} {H H4 : AH} {v : AV} {nb p L A i q : Nat} {oi on_ : Int} {tm : Tms} (E : Env H nb p L A) (hi : i < 60) (hO : H4.at_ q = some (.cells false tOp [.int .i64 ok_, .int .i64 oi, .int .i64 on_, .bool sh])) (qn : H.next ≤ q) (qp : q ≠ p) (qL : q ≠ L) (qA : q ≠ A) (q4 : q < H4.next)
    (hb0 : -9223372036854775808 ≤ oi) (hb1 : oi ≤ 9223372036854775807) (hn0 : -9223372036854775808 ≤ on_) (hn1 : on_ ≤ 9223372036854775807) (hin : oi < 0 ∨ (nb : Int) ≤ oi) (k0 : ¬ ok_ = 0) (k1 : ¬ ok_ = 1) (k2 : ¬ ok_ = 2) (k3 : ¬ ok_ = 3) (t12 : tm 12 = .ptr q 0) (t13 : tm 13 = .bool false) (h : Sx v nb p L A i i H tm H4) : IWP Tryd.prog (part_ PS ic7) (Nx v nb p L A i (i + 1) H) tm H4 := by
  obtain ⟨hk, hok4, hp4, hL4, hA4, now, w, f, dead, hnow, hall, hw0, hw1, hf0, hf1, hd, hA, t0, t1, t5, t7, t8, t9, t10, t11⟩ := h
  have hpL := hd.1
  have hqp : ¬ (p = q) := fun e => qp e.symm
  have n1 := E.n1
  have n2 := E.n2
  simp (disch := first | omega | (simp; done) | assumption) [wr64, wrU8, wrU64, Nat.add_assoc, -getElem?_pos, List.getElem?_cons_zero, List.getElem?_cons_succ, part_, ic7, t0, t1, t5, t7, t8, t9, t10, t11, t12, hO, t13, hnow, t13, k0, k1, k2, k3]
  refine CallW.ofk (Copy hd (by simp [hnow]; omega) (by simp [hnow]; omega)) ?_
  rintro v5 H5 ⟨hk5, hn5, p2, L2, rfl, hp2, hL2, hp25, hL25, hd5⟩ hok5
  try simp only [newO_none] at hk5 hn5 hp2 hL2
  simp (disch := first | omega | (simp; done) | assumption) [wr64, wrU8, wrU64, Nat.add_assoc, -getElem?_pos, List.getElem?_cons_zero, List.getElem?_cons_succ, t0, t1, t5, t7, t8, t9, t10, t11, t12, t13, hnow, t13, k0, k1, k2, k3]
  refine CallW.val (Dead hd5) ?_
  simp (disch := first | omega | (simp; done) | assumption) [wr64, wrU8, wrU64, Nat.add_assoc, -getElem?_pos, List.getElem?_cons_zero, List.getElem?_cons_succ, t0, t1, t5, t7, t8, t9, t10, t11, t12, t13, hnow, t13, k0, k1, k2, k3]
  refine CallW.val (Blocks hd5) ?_
  simp (disch := first | omega | (simp; done) | assumption) [wr64, wrU8, wrU64, Nat.add_assoc, -getElem?_pos, List.getElem?_cons_zero, List.getElem?_cons_succ, t0, t1, t5, t7, t8, t9, t10, t11, t12, t13, hnow, t13, k0, k1, k2, k3, hnow]
  refine CallW.ofk (Power hd5) ?_
  rintro v6 H6 ⟨rfl, hn6, hx6, hd6⟩ hok6
  try simp only [newO_none] at hx6 hn6
  have hk46 := hx6.keepsAll hk5 hok4 hp2 hL2
  simp (disch := first | omega | (simp; done) | assumption) [wr64, wrU8, wrU64, Nat.add_assoc, -getElem?_pos, List.getElem?_cons_zero, List.getElem?_cons_succ, t0, t1, t5, t7, t8, t9, t10, t11, t12, t13, hnow, t13, k0, k1, k2, k3]
  refine CallW.ofk (Fill 77 _) ?_
  rintro v7 H7 ⟨hk7, hn7, q7, hq7, hq7n, hr7⟩ hok7
  try simp only [newO_none] at hk7 hn7 hq7
  have hk47 : H4.keepsAll H7 := fun x o hx => hk7 x o (hk46 x o hx)
  simp (disch := first | omega | (simp; done) | assumption) [wr64, wrU8, wrU64, Nat.add_assoc, -getElem?_pos, List.getElem?_cons_zero, List.getElem?_cons_succ, t0, t1, t5, t7, t8, t9, t10, t11, t12, t13, hnow, t13, k0, k1, k2, k3]
  refine CallW.ofk (show ACall Tryd.prog _ [.ptr p2 0, .int .i64 0, v7] _ _ from Write_ok (i := 0) (hd6.keeps hk7) hr7 (by omega) (by omega) (by simp [hnow]; omega) rfl ⟨hw0, by simp; omega⟩ (by simp)) ?_
  rintro v8 H8 ⟨rfl, hn8, hx8, hd8⟩ hok8
  try simp only [newO_none] at hx8 hn8
  have hk48 := hx8.keepsAll hk47 hok4 hp2 hL2
  have hkx : H.keepsAll H8 := fun x o hx => hk48 x o (hk x o hx)
  have hdx := hd.keeps hk48
  have hAx := hk48 _ _ hA
  simp (disch := first | omega | (simp; done) | assumption) [wr64, wrU8, wrU64, Nat.add_assoc, -getElem?_pos, List.getElem?_cons_zero, List.getElem?_cons_succ, t0, t1, t5, t7, t8, t9, t10, t11, t12, t13, hnow, t13, k0, k1, k2, k3]
  exact ⟨hkx, hok8, (by first | omega | (simp; omega)), (by first | omega | (simp; omega)), (by first | omega | (simp; omega)), now, w, f, dead, hnow, hall, by omega, by omega, hf0, hf1, hdx, hAx, by simp [t0], by simp [t1], by simp [t5], by simp [t7], by simp [t8], by simp [t9], by simp [t10], by simp [t11]⟩
end Go.Proofs.YteaecdakffjneaaDoor.DPl1

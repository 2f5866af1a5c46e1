/- strings.Join by blanks. -/
import Derived.Test.YtfimhkijacamoaaDoorBld
import Derived.Test.YtfimhkijacamoaaDoorLPcs
set_option linter.unusedVariables false
set_option linter.unusedSimpArgs false
set_option maxRecDepth 10000
set_option maxHeartbeats 4000000
namespace Go.Proofs.YtfimhkijacamoaaDoor.EErr
open Go Go.RowKit Go.Proofs.YtfimhkijacamoaaDoor Go.Proofs.YtfimhkijacamoaaDoor.Abs Go.Proofs.YtfimhkijacamoaaDoor.Ic Go.Proofs.YtfimhkijacamoaaDoor.EAs Go.Proofs.YtfimhkijacamoaaDoor.LPcs
def tot (l : List (List UInt8)) : Nat := (l.map List.length).sum
theorem tot_take_le (l : List (List UInt8)) (i : Nat) : tot (l.take i) ≤ tot l := by
  unfold tot
  conv => rhs; rw [← List.take_append_drop i l, List.map_append, List.sum_append]
  omega
theorem tot_take_succ {l : List (List UInt8)} {i : Nat} (h : i < l.length) : tot (l.take (i + 1)) = tot (l.take i) + l[i].length := by
  unfold tot
  rw [← List.take_append_getElem h, List.map_append, List.sum_append]
  simp
theorem join_take_succ {s : List UInt8} {l : List (List UInt8)} {i : Nat} (h : i < l.length) (h0 : 0 < i) : joinW s (l.take (i + 1)) = joinW s (l.take i) ++ (s ++ l[i]) := by
  rw [← List.take_append_getElem h, joinW_snoc]
  intro e
  rcases List.take_eq_nil_iff.1 e with e | e
  · omega
  · rw [e] at h; simp at h
theorem join_len (s : List UInt8) : ∀ (l : List (List UInt8)), l ≠ [] → (joinW s l).length + s.length = tot l + s.length * l.length
  | [], h => absurd rfl h
  | [a], _ => by simp [joinW, tot]
  | a :: b :: l, _ => by
    have := join_len s (b :: l) (by simp)
    rw [joinW_cons s a (l := b :: l) (by simp)]
    simp only [List.length_append, tot, List.map_cons, List.sum_cons, List.length_cons, Nat.mul_add, Nat.mul_one] at this ⊢
    omega
def J1 (v : AV) (l : List (List UInt8)) (H : AH) (k : Nat) (tm : Tms) (H' : AH) : Prop := H' = H ∧ ∃ i : Nat, k = l.length - i ∧ i ≤ l.length ∧ tm 0 = v ∧ tm 1 = .str [32] ∧ tm 5 = .int .i64 ((l.length : Int) - 1 + (tot (l.take i) : Int)) ∧ tm 39 = v ∧ tm 40 = .int .i64 (l.length : Int) ∧ tm 41 = .int .i64 (i : Int)
def J2 (b o : Nat) (l : List (List UInt8)) (bb : Nat) (H : AH) (k : Nat) (tm : Tms) (H' : AH) : Prop := ∃ i : Nat, k = l.length - 1 - i ∧ i + 1 ≤ l.length ∧ KB (bb + 1) bb H H' ∧ BS (bb + 1) H' bb (joinW [32] (l.take (i + 1))) ∧ tm 1 = .str [32] ∧ tm 8 = .ptr bb 0 ∧ tm 63 = .slice b (o + 1) (l.length - 1) 1 ∧ tm 64 = .int .i64 ((l.length - 1 : Nat) : Int) ∧ tm 65 = .int .i64 (i : Int)
theorem Join {v : AV} {l : List (List UInt8)} {H : AH} (h : SL H v (l.map AV.str)) (hT : tot l ≤ 1000000000000) (hl : l.length ≤ 1000000000) :
    ACall Tryd.prog 39 [v, .str [32]] H (fun w H' => w = .str (joinW [32] l) ∧ H' = H) := by
  refine acall_enter fits39 (by simp) (by simp) fun hok => ?_
  have hls := SL.lenS h
  rw [List.length_map] at hls
  match l, h, hls, hT, hl with
  | [], h, hls, _, _ =>
    simp (disch := first | omega | (simp; done) | assumption) [wr64, wrU8, wrU64, Nat.add_assoc, -getElem?_pos, List.getElem?_cons_zero, List.getElem?_cons_succ, ic39, rs39, hls]
    exact ⟨rfl, AH.keepsAll_refl _⟩
  | [x], h, hls, _, _ =>
    obtain ⟨b, o, rfl, hld⟩ := SL.get h 0 (by simp)
    simp (disch := first | omega | (simp; done) | assumption) [wr64, wrU8, wrU64, Nat.add_assoc, -getElem?_pos, List.getElem?_cons_zero, List.getElem?_cons_succ, ic39, rs39, hls]
    refine Try.intro (by simpa using hld) ?_
    simp (disch := first | omega | (simp; done) | assumption) [wr64, wrU8, wrU64, Nat.add_assoc, -getElem?_pos, List.getElem?_cons_zero, List.getElem?_cons_succ, ]
    exact ⟨rfl, AH.keepsAll_refl _⟩
  | x :: y :: r, h, hls, hT, hl =>
    generalize hL : x :: y :: r = l at *
    have h2 : 2 ≤ l.length := by rw [← hL]; simp
    have hx : l[0]? = some x := by rw [← hL]; rfl
    clear hL
    have hxb : l[0]'(by omega) = x := by
      have := List.getElem?_eq_getElem (l := l) (i := 0) (by omega)
      rw [hx] at this
      exact (Option.some.inj this).symm
    have hsl : ∀ i (hi : i < l.length), ∃ b o, v = .slice b o l.length 1 ∧ loadC H b (o + i) none = some (.str l[i]) := fun i hi => by
      obtain ⟨b, o, e1, e2⟩ := SL.get h i (by simpa using hi)
      exact ⟨b, o, by simpa using e1, by simpa using e2⟩
    obtain ⟨b, o, rfl, hld0⟩ := hsl 0 (by omega)
    have hsl : ∀ i (hi : i < l.length), loadC H b (o + i) none = some (.str l[i]) := fun i hi => by
      obtain ⟨b', o', e1, e2⟩ := hsl i hi
      cases e1
      exact e2
    have q1 : ¬ ((l.length : Int) = 0) := by omega
    have q2 : ¬ ((l.length : Int) = 1) := by omega
    have q1' : ¬ (l.length = 0) := by omega
    have q2' : ¬ (l.length = 1) := by omega
    have q3 : ¬ ((l.length : Int) - 1 = 0) := by omega
    obtain ⟨z, hz, hz1⟩ : ∃ z : Int, (9223372036854775807 : Int).tdiv ((l.length : Int) - 1) = z ∧ 1 < z ∧ z ≤ 9223372036854775807 := by
      refine ⟨_, rfl, ?_⟩
      rw [Int.tdiv_eq_ediv_of_nonneg (by omega)]
      refine ⟨?_, ?_⟩
      · have : 2 ≤ (9223372036854775807 : Int) / ((l.length : Int) - 1) := (Int.le_ediv_iff_mul_le (by omega)).2 (by omega)
        omega
      · exact Int.ediv_le_self _ (by omega)
    have q4 : ¬ (z ≤ 1) := by omega
    simp (disch := first | omega | (simp; done) | assumption) [wr64, wrU8, wrU64, Nat.add_assoc, -getElem?_pos, List.getElem?_cons_zero, List.getElem?_cons_succ, ic39, rs39, q1, q2, q1', q2', q3, hz, q4]
    refine iwp_loop (J1 (.slice b o l.length 1) l H) l.length ⟨rfl, 0, rfl, by omega, by simp, by simp, by simp [tot], by simp, by simp, by simp⟩ ?_
    rintro k tm H ⟨rfl, i, rfl, hi, t0, t1, t5, t39, t40, t41⟩
    have hti := tot_take_le l i
    by_cases hlt : i < l.length
    · have hlt' : (i : Int) < (l.length : Int) := by omega
      have hts := tot_take_succ hlt
      have hti2 := tot_take_le l (i + 1)
      have hld := hsl i hlt
      generalize l[i] = xi at hld hts
      have q5 : ¬ (9223372036854775807 - ((l.length : Int) - 1 + (tot (l.take i) : Int)) < (xi.length : Int)) := by omega
      simp (disch := first | omega | (simp; done) | assumption) [wr64, wrU8, wrU64, Nat.add_assoc, -getElem?_pos, List.getElem?_cons_zero, List.getElem?_cons_succ, t0, t1, t5, t39, t40, t41, hlt', hlt]
      refine Try.intro hld ?_
      simp (disch := first | omega | (simp; done) | assumption) [wr64, wrU8, wrU64, Nat.add_assoc, -getElem?_pos, List.getElem?_cons_zero, List.getElem?_cons_succ, t0, t1, t5, t39, t40, t41, hlt', hlt, q5]
      exact ⟨l.length - (i + 1), by omega, rfl, i + 1, rfl, by omega, by simp [t0], by simp [t1], by simp [hts]; omega, by simp [t39], by simp [t40], by simp⟩
    · obtain rfl : i = l.length := by omega
      rw [List.take_length] at t5
      have hjl := join_len [32] l (fun e => by rw [e] at h2; simp at h2)
      simp only [List.length_cons, List.length_nil] at hjl
      have hnn : (l.length : Int) - 1 + (tot l : Int) = ((l.length - 1 + tot l : Nat) : Int) := by omega
      rw [hnn] at t5
      simp (disch := first | omega | (simp; done) | assumption) [wr64, wrU8, wrU64, Nat.add_assoc, -getElem?_pos, List.getElem?_cons_zero, List.getElem?_cons_succ, t0, t1, t5, t39, t40, t41]
      refine CallW.ofk (Grow (B := H.next + 1) (b := H.next) (by simp) (by omega) (by simp) (by omega)) ?_
      rintro v1 H1 ⟨rfl, hb1, hkb1, hn1⟩ hok1
      try simp only [newO_some, newO_none] at hkb1 hn1
      have hkk : ∀ H' : AH, KB (H.next + 1) H.next (H.new (.cells false tB [.pnil, .snil])) H' → H.keepsAll H' := fun H' hkb x o hx => hkb x o (by have := hok _ _ hx; omega) (by have := hok _ _ hx; omega) (by rw [AH.new_ne _ _ (by have := hok _ _ hx; omega)]; exact hx)
      have hk1 := hkk H1 hkb1
      have hld1 := loadC_keeps hk1 (hsl 0 (by omega))
      have q6 : 0 < l.length := by omega
      simp (disch := first | omega | (simp; done) | assumption) [wr64, wrU8, wrU64, Nat.add_assoc, -getElem?_pos, List.getElem?_cons_zero, List.getElem?_cons_succ, t0, t1, q6]
      refine Try.intro (by simpa using hld1) ?_
      simp (disch := first | omega | (simp; done) | assumption) [wr64, wrU8, wrU64, Nat.add_assoc, -getElem?_pos, List.getElem?_cons_zero, List.getElem?_cons_succ, t0, t1, hxb]
      refine CallW.ofk (WriteString hb1 (by
        have := tot_take_succ (l := l) (i := 0) (by omega)
        have := tot_take_le l 1
        simp [tot, hxb] at *
        omega)) ?_
      rintro v2 H2 ⟨hb2, hkb2, hn2⟩ hok2
      have q7 : ¬ (l.length ≤ 1) := by omega
      have q8 : (1 : Int) ≤ (l.length : Int) := by omega
      have q9 : ¬ (l.length = 1) := by omega
      simp (disch := first | omega | (simp; done) | assumption) [wr64, wrU8, wrU64, Nat.add_assoc, -getElem?_pos, List.getElem?_cons_zero, List.getElem?_cons_succ, t0, t1, slcA, Abs.bounds, q6, q7, q8, q9]
      have hj1 : joinW [32] (l.take 1) = x := by
        rw [show l.take 1 = [x] from by
          have := List.take_append_getElem (l := l) (i := 0) (by omega)
          simp only [List.take_zero, List.nil_append] at this
          rw [← this, hxb]]
        rfl
      have hjm : ∀ i, 0 < i → (h : i < l.length) → (joinW [32] (l.take i)).length + 1 + l[i].length ≤ 2000000000000 := fun i h0 hi => by
        have h3 := join_len [32] (l.take i) (fun e => by
          rcases List.take_eq_nil_iff.1 e with e | e
          · omega
          · rw [e] at hi; simp at hi)
        have h4 := tot_take_succ hi
        have h5 := tot_take_le l (i + 1)
        simp at h3
        omega
      simp only [List.nil_append] at hb2
      rw [← hj1] at hb2
      refine iwp_loop (J2 b o l H.next (H.new (.cells false tB [.pnil, .snil]))) (l.length - 1) ⟨0, rfl, by omega, hkb1.trans hkb2, hb2, by simp [t1], by simp, by simp, by simp, by simp⟩ ?_
      clear t0 t1 t5 t39 t40 t41
      rintro k tm2 H3 ⟨i, rfl, hi3, hkb3, hb3, t1, t8, t63, t64, t65⟩
      by_cases hlt2 : i + 1 < l.length
      · have q10 : (i : Int) < ((l.length - 1 : Nat) : Int) := by omega
        have q10' : i < l.length - 1 := by omega
        have hld3 := loadC_keeps (hkk H3 hkb3) (hsl (i + 1) hlt2)
        have q11 : o + 1 + i = o + (i + 1) := by omega
        have hts := join_take_succ (s := [32]) hlt2 (by omega)
        have hjm2 := hjm (i + 1) (by omega) hlt2
        generalize l[i + 1] = xi at hld3 hts hjm2
        simp (disch := first | omega | (simp; done) | assumption) [wr64, wrU8, wrU64, Nat.add_assoc, -getElem?_pos, List.getElem?_cons_zero, List.getElem?_cons_succ, t1, t8, t63, t64, t65, q10, q10']
        rw [show o + (1 + i) = o + (i + 1) by omega]
        refine Try.intro hld3 ?_
        simp (disch := first | omega | (simp; done) | assumption) [wr64, wrU8, wrU64, Nat.add_assoc, -getElem?_pos, List.getElem?_cons_zero, List.getElem?_cons_succ, t1, t8, t63, t64, t65]
        refine CallW.ofk (WriteString (s := [32]) hb3 (by simp; omega)) ?_
        rintro v4 H4 ⟨hb4, hkb4, hn4⟩ hok4
        simp (disch := first | omega | (simp; done) | assumption) [wr64, wrU8, wrU64, Nat.add_assoc, -getElem?_pos, List.getElem?_cons_zero, List.getElem?_cons_succ, t1, t8, t63, t64, t65]
        refine CallW.ofk (WriteString hb4 (by simp; omega)) ?_
        rintro v5 H5 ⟨hb5, hkb5, hn5⟩ hok5
        simp (disch := first | omega | (simp; done) | assumption) [wr64, wrU8, wrU64, Nat.add_assoc, -getElem?_pos, List.getElem?_cons_zero, List.getElem?_cons_succ, t1, t8, t63, t64, t65]
        rw [List.append_assoc, ← hts] at hb5
        exact ⟨l.length - 1 - (i + 1), by omega, i + 1, rfl, by omega, (hkb3.trans hkb4).trans hkb5, hb5, by simp [t1], by simp [t8], by simp [t63], by simp [t64], by simp⟩
      · have hii : i + 1 = l.length := by omega
        have q10 : ¬ (i : Int) < ((l.length - 1 : Nat) : Int) := by omega
        have q10' : ¬ i < l.length - 1 := by omega
        rw [hii, List.take_length] at hb3
        simp (disch := first | omega | (simp; done) | assumption) [wr64, wrU8, wrU64, Nat.add_assoc, -getElem?_pos, List.getElem?_cons_zero, List.getElem?_cons_succ, t1, t8, t63, t64, t65, q10, q10']
        refine CallW.of (BString hb3 (fun e => by rw [e] at hjl; simp at hjl; omega) (by simp at hjl; omega)) ?_
        rintro v4 H4 ⟨rfl, hkb4, hn4⟩
        simp (disch := first | omega | (simp; done) | assumption) [wr64, wrU8, wrU64, Nat.add_assoc, -getElem?_pos, List.getElem?_cons_zero, List.getElem?_cons_succ, ]
        exact hkk H4 (hkb3.trans hkb4)
end Go.Proofs.YtfimhkijacamoaaDoor.EErr

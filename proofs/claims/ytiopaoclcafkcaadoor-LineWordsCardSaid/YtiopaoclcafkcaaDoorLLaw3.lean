/- LineWords. -/
import Derived.Test.YtiopaoclcafkcaaDoorLLaw1
import Derived.Test.YtiopaoclcafkcaaDoorTLaid
set_option linter.unusedVariables false
set_option linter.unusedSimpArgs false
set_option maxRecDepth 10000
set_option maxHeartbeats 4000000
namespace Go.Proofs.YtiopaoclcafkcaaDoor.LLaw3
open Go Go.RowKit Go.Proofs.YtiopaoclcafkcaaDoor Go.Proofs.YtiopaoclcafkcaaDoor.Abs Go.Proofs.YtiopaoclcafkcaaDoor.Ic Go.Proofs.YtiopaoclcafkcaaDoor.EAs Go.Proofs.YtiopaoclcafkcaaDoor.EErr Go.Proofs.YtiopaoclcafkcaaDoor.LPcs Go.Proofs.YtiopaoclcafkcaaDoor.LLib Go.Proofs.YtiopaoclcafkcaaDoor.LWords Go.Proofs.YtiopaoclcafkcaaDoor.LBuild Go.Proofs.YtiopaoclcafkcaaDoor.LRef Go.Proofs.YtiopaoclcafkcaaDoor.LLaw1
abbrev C : ICode := ic3
abbrev nb (l : List UInt8) : List UInt8 := l.filter (· ≠ 32)
theorem nb_succ {l : List UInt8} {i : Nat} (h : i < l.length) : nb (l.take (i + 1)) = nb (l.take i) ++ (if l[i] = 32 then [] else [l[i]]) := by
  unfold nb
  rw [← List.take_append_getElem h, List.filter_append]
  by_cases e : l[i] = 32 <;> simp [List.filter_cons, e]
theorem one_of {l : List UInt8} {i : Nat} (h : i < l.length) : (l.take (i + 1)).drop i = [l[i]] := by
  rw [← List.take_append_getElem h, List.drop_append_of_le_length (by simp; omega)]
  simp [List.drop_take]
theorem c32 (c : UInt8) : ((c.toNat : Int) = 32) = (c = 32) := by
  refine propext ⟨fun h => ?_, fun h => by rw [h]; rfl⟩
  have : c.toNat = (32 : UInt8).toNat := by have : (32 : UInt8).toNat = 32 := rfl; omega
  exact UInt8.toNat_inj.1 this
theorem nb_le (l : List UInt8) : (nb l).length ≤ l.length := List.length_filter_le _ _
theorem tot_flat (l : List (List UInt8)) : tot l = l.flatten.length := by simp [tot, List.length_flatten]
def W1 (W : List (List UInt8)) (s : List UInt8) (v : AV) (H : AH) (k : Nat) (tm : Tms) (H' : AH) : Prop := H' = H ∧ ∃ i : Nat, k = W.length - i ∧ i ≤ W.length ∧ tm 0 = .str s ∧ tm 3 = v ∧ tm 4 = .str (joinW [32] (W.take i)) ∧ tm 5 = .int .i64 (i : Int)
def W1b (W : List (List UInt8)) (s : List UInt8) (v : AV) (i n : Nat) (H : AH) (k : Nat) (tm : Tms) (H' : AH) : Prop := H' = H ∧ ∃ x : Nat, k = n - x ∧ x ≤ n ∧ tm 0 = .str s ∧ tm 3 = v ∧ tm 4 = .str (joinW [32] (W.take i)) ∧ tm 5 = .int .i64 (i : Int) ∧ tm 6 = .int .i64 (x : Int)
def W2 (s T : List UInt8) (v : AV) (H : AH) (k : Nat) (tm : Tms) (H' : AH) : Prop := H' = H ∧ ∃ i : Nat, k = s.length - i ∧ i ≤ s.length ∧ tm 0 = .str s ∧ tm 3 = v ∧ tm 4 = .str T ∧ tm 7 = .str (nb (s.take i)) ∧ tm 8 = .str [] ∧ tm 9 = .int .i64 (i : Int)
def W3 (s T : List UInt8) (v : AV) (H : AH) (k : Nat) (tm : Tms) (H' : AH) : Prop := H' = H ∧ ∃ i : Nat, k = T.length - i ∧ i ≤ T.length ∧ tm 0 = .str s ∧ tm 3 = v ∧ tm 4 = .str T ∧ tm 7 = .str (nb s) ∧ tm 8 = .str (nb (T.take i)) ∧ tm 10 = .int .i64 (i : Int)
def M1 (s T : List UInt8) (v : AV) (H : AH) (tm : Tms) (H' : AH) : Prop := H' = H ∧ tm 0 = .str s ∧ tm 3 = v ∧ tm 4 = .str T
def M2 (s T : List UInt8) (v : AV) (H : AH) (tm : Tms) (H' : AH) : Prop := H' = H ∧ tm 0 = .str s ∧ tm 3 = v ∧ tm 4 = .str T ∧ tm 7 = .str (nb s) ∧ tm 8 = .str []
def M3 (s T : List UInt8) (v : AV) (H : AH) (tm : Tms) (H' : AH) : Prop := H' = H ∧ tm 0 = .str s ∧ tm 3 = v ∧ tm 4 = .str T ∧ tm 7 = .str (nb s) ∧ tm 8 = .str (nb T)
theorem Part1 {s : List UInt8} {v : AV} {H : AH} {tm : Tms} {Q : IPost} (hs : s.length ≤ 500) (hWl : (wds 32 s).length ≤ 600) (hv : SZ H v ((wds 32 s).map AV.str)) (hj : ∀ i, (joinW [32] ((wds 32 s).take i)).length ≤ 100000) (hw : ∀ i (h : i < (wds 32 s).length), ((wds 32 s)[i]).length ≤ 500)
    (hQ : ∀ tm' H', M1 s (joinW [32] (wds 32 s)) v H tm' H' → Q .normal tm' H') (t0 : tm 0 = .str s) (t3 : tm 3 = v) (t4 : tm 4 = .str []) : IWP Tryd.prog (part_ [1, 1, 1, 1, 0] C) Q tm H := by
  have hlv := SZ.lenS hv
  have hno := wds_no (q := 32) (l := s)
  rw [List.length_map] at hlv
  generalize wds 32 s = W at *
  simp (disch := first | omega | (simp; done) | assumption) [wr64, wrU8, wrU64, Nat.add_assoc, -getElem?_pos, List.getElem?_cons_zero, List.getElem?_cons_succ, part_, C, ic3]
  refine iwp_loop (W1 W s v H) W.length ⟨rfl, 0, rfl, by omega, by simp [t0], by simp [t3], by simp [t4, joinW], by simp⟩ ?_
  clear t0 t3 t4
  rintro k tm1 H ⟨rfl, i, rfl, hi, t0, t3, t4, t5⟩
  by_cases hlt : i < W.length
  · have hlt' : (i : Int) < (W.length : Int) := by omega
    obtain ⟨b, o, rfl, hld⟩ := SZ.get hv i (by simpa using hlt)
    rw [List.getElem_map] at hld
    obtain ⟨hne, hnq⟩ := hno W[i] (List.getElem_mem hlt)
    have hwi := hw i hlt
    have hji := hj i
    have hsnoc : joinW [32] (W.take (i + 1)) = if i = 0 then W[i] else joinW [32] (W.take i) ++ ([32] ++ W[i]) := by
      by_cases h0 : i = 0
      · subst h0
        rw [if_pos rfl, show W.take 1 = [W[0]] from by
          have := List.take_append_getElem (l := W) (i := 0) hlt
          simpa using this.symm]
        rfl
      · rw [if_neg h0]
        exact join_take_succ hlt (by omega)
    have hj0 : i = 0 → joinW [32] (W.take i) = [] := fun h => by subst h; rfl
    generalize W[i] = w at *
    simp (disch := first | omega | (simp; done) | assumption) [wr64, wrU8, wrU64, Nat.add_assoc, -getElem?_pos, List.getElem?_cons_zero, List.getElem?_cons_succ, t0, t3, t4, t5, hlt, hlt']
    refine Try.intro hld ?_
    simp (disch := first | omega | (simp; done) | assumption) [wr64, wrU8, wrU64, Nat.add_assoc, -getElem?_pos, List.getElem?_cons_zero, List.getElem?_cons_succ, t0, t3, t4, t5, hlt, hlt', hne]
    refine iwp_loop (W1b W s (.slice b o (W.map AV.str).length 1) i w.length H) w.length ⟨rfl, 0, rfl, by omega, by simp [t0], by simp [t3], by simp [t4], by simp [t5], by simp⟩ ?_
    clear t0 t3 t4 t5
    rintro k2 tm2 H ⟨rfl, x, rfl, hx, t0, t3, t4, t5, t6⟩
    by_cases hxl : x < w.length
    · have hxl' : (x : Int) < (w.length : Int) := by omega
      have hc : w[x]? = some w[x] := List.getElem?_eq_getElem hxl
      have hc32 : ¬ (w[x] = 32) := fun e => hnq (by rw [← e]; exact List.getElem_mem hxl)
      generalize w[x] = c at hc hc32
      simp (disch := first | omega | (simp; done) | assumption) [wr64, wrU8, wrU64, Nat.add_assoc, -getElem?_pos, List.getElem?_cons_zero, List.getElem?_cons_succ, t0, t3, t4, t5, t6, hlt, hlt']
      refine Try.intro hld ?_
      simp (disch := first | omega | (simp; done) | assumption) [wr64, wrU8, wrU64, Nat.add_assoc, -getElem?_pos, List.getElem?_cons_zero, List.getElem?_cons_succ, t0, t3, t4, t5, t6, hlt, hlt', hxl, hxl']
      refine Try.intro hld ?_
      simp (disch := first | omega | (simp; done) | assumption) [wr64, wrU8, wrU64, Nat.add_assoc, -getElem?_pos, List.getElem?_cons_zero, List.getElem?_cons_succ, t0, t3, t4, t5, t6, hxl, hxl', hc, c32, hc32]
      exact ⟨w.length - (x + 1), by omega, rfl, x + 1, rfl, by omega, by simp [t0], by simp [t3], by simp [t4], by simp [t5], by simp⟩
    · have hxl' : ¬ (x : Int) < (w.length : Int) := by omega
      simp (disch := first | omega | (simp; done) | assumption) [wr64, wrU8, wrU64, Nat.add_assoc, -getElem?_pos, List.getElem?_cons_zero, List.getElem?_cons_succ, t0, t3, t4, t5, t6, hlt, hlt']
      refine Try.intro hld ?_
      by_cases h0 : 0 < i
      · have h0' : (0 : Int) < (i : Int) := by omega
        rw [if_neg (by omega)] at hsnoc
        simp (disch := first | omega | (simp; done) | assumption) [wr64, wrU8, wrU64, Nat.add_assoc, -getElem?_pos, List.getElem?_cons_zero, List.getElem?_cons_succ, t0, t3, t4, t5, t6, hlt, hlt', hxl, hxl', h0, h0']
        refine Try.guard (by omega) ?_
        simp (disch := first | omega | (simp; done) | assumption) [wr64, wrU8, wrU64, Nat.add_assoc, -getElem?_pos, List.getElem?_cons_zero, List.getElem?_cons_succ, t0, t3, t4, t5, t6, hlt, hlt']
        refine Try.intro hld ?_
        simp (disch := first | omega | (simp; done) | assumption) [wr64, wrU8, wrU64, Nat.add_assoc, -getElem?_pos, List.getElem?_cons_zero, List.getElem?_cons_succ, t0, t3, t4, t5, t6]
        refine Try.guard (by omega) ?_
        simp (disch := first | omega | (simp; done) | assumption) [wr64, wrU8, wrU64, Nat.add_assoc, -getElem?_pos, List.getElem?_cons_zero, List.getElem?_cons_succ, t0, t3, t4, t5, t6]
        exact ⟨W.length - (i + 1), by omega, rfl, i + 1, rfl, by omega, by simp [t0], by simp [t3], by simp [hsnoc], by simp⟩
      · obtain rfl : i = 0 := by omega
        rw [hj0 rfl] at t4
        rw [if_pos rfl] at hsnoc
        simp (disch := first | omega | (simp; done) | assumption) [wr64, wrU8, wrU64, Nat.add_assoc, -getElem?_pos, List.getElem?_cons_zero, List.getElem?_cons_succ, t0, t3, t4, t5, t6, hlt, hlt', hxl, hxl']
        refine Try.intro (by simpa using hld) ?_
        simp (disch := first | omega | (simp; done) | assumption) [wr64, wrU8, wrU64, Nat.add_assoc, -getElem?_pos, List.getElem?_cons_zero, List.getElem?_cons_succ, t0, t3, t4, t5, t6]
        refine Try.guard (by omega) ?_
        simp (disch := first | omega | (simp; done) | assumption) [wr64, wrU8, wrU64, Nat.add_assoc, -getElem?_pos, List.getElem?_cons_zero, List.getElem?_cons_succ, t0, t3, t4, t5, t6]
        exact ⟨W.length - 1, by omega, rfl, 1, rfl, by omega, by simp [t0], by simp [t3], by simp [hsnoc], by simp⟩
  · have hlt' : ¬ (i : Int) < (W.length : Int) := by omega
    rw [List.take_of_length_le (by omega)] at t4
    simp (disch := first | omega | (simp; done) | assumption) [wr64, wrU8, wrU64, Nat.add_assoc, -getElem?_pos, List.getElem?_cons_zero, List.getElem?_cons_succ, t0, t3, t4, t5, hlv, hlt, hlt']
    exact hQ _ _ ⟨rfl, by simp [t0], by simp [t3], by simp [t4]⟩
theorem Part2 {s T : List UInt8} {v : AV} {H : AH} {tm : Tms} {Q : IPost} (hs : s.length ≤ 500) (hQ : ∀ tm' H', M2 s T v H tm' H' → Q .normal tm' H') (h : M1 s T v H tm H) (t7 : tm 7 = .str []) (t8 : tm 8 = .str []) : IWP Tryd.prog (part_ [1, 1, 1, 1, 1, 1, 0] C) Q tm H := by
  obtain ⟨_, t0, t3, t4⟩ := h
  simp (disch := first | omega | (simp; done) | assumption) [wr64, wrU8, wrU64, Nat.add_assoc, -getElem?_pos, List.getElem?_cons_zero, List.getElem?_cons_succ, part_, C, ic3]
  refine iwp_loop (W2 s T v H) s.length ⟨rfl, 0, rfl, by omega, by simp [t0], by simp [t3], by simp [t4], by simp [t7], by simp [t8], by simp⟩ ?_
  clear t0 t3 t4 t7 t8
  rintro k tm1 H ⟨rfl, i, rfl, hi, t0, t3, t4, t7, t8, t9⟩
  by_cases hlt : i < s.length
  · have hlt' : (i : Int) < (s.length : Int) := by omega
    have hc : s[i]? = some s[i] := List.getElem?_eq_getElem hlt
    have hn := nb_succ hlt
    have ho := one_of hlt
    have hb := nb_le (s.take i)
    rw [List.length_take] at hb
    generalize s[i] = c at *
    have g1 : i + 1 ≤ s.length := hlt
    have g2 : (i : Int) + 1 ≤ (s.length : Int) := by omega
    by_cases hcc : c = 32
    · rw [if_pos hcc, List.append_nil] at hn
      simp (disch := first | omega | (simp; done) | assumption) [wr64, wrU8, wrU64, Nat.add_assoc, -getElem?_pos, List.getElem?_cons_zero, List.getElem?_cons_succ, t0, t3, t4, t7, t8, t9, hlt, hlt', hc, c32, hcc]
      exact ⟨s.length - (i + 1), by omega, rfl, i + 1, rfl, by omega, by simp [t0], by simp [t3], by simp [t4], by simp [t7, hn], by simp [t8], by simp⟩
    · rw [if_neg hcc] at hn
      simp (disch := first | omega | (simp; done) | assumption) [wr64, wrU8, wrU64, Nat.add_assoc, -getElem?_pos, List.getElem?_cons_zero, List.getElem?_cons_succ, t0, t3, t4, t7, t8, t9, hlt, hlt', hc, c32, hcc, g1, g2, ho]
      refine Try.guard (by omega) ?_
      simp (disch := first | omega | (simp; done) | assumption) [wr64, wrU8, wrU64, Nat.add_assoc, -getElem?_pos, List.getElem?_cons_zero, List.getElem?_cons_succ, t0, t3, t4, t7, t8, t9, ho]
      refine Try.guard (by omega) ?_
      simp (disch := first | omega | (simp; done) | assumption) [wr64, wrU8, wrU64, Nat.add_assoc, -getElem?_pos, List.getElem?_cons_zero, List.getElem?_cons_succ, t0, t3, t4, t7, t8, t9]
      exact ⟨s.length - (i + 1), by omega, rfl, i + 1, rfl, by omega, by simp [t0], by simp [t3], by simp [t4], by simp [hn], by simp [t8], by simp⟩
  · have hlt' : ¬ (i : Int) < (s.length : Int) := by omega
    rw [List.take_of_length_le (by omega)] at t7
    simp (disch := first | omega | (simp; done) | assumption) [wr64, wrU8, wrU64, Nat.add_assoc, -getElem?_pos, List.getElem?_cons_zero, List.getElem?_cons_succ, t0, t3, t4, t7, t8, t9, hlt, hlt']
    exact hQ _ _ ⟨rfl, by simp [t0], by simp [t3], by simp [t4], by simp [t7], by simp [t8]⟩
theorem Part3 {s T : List UInt8} {v : AV} {H : AH} {tm : Tms} {Q : IPost} (hT : T.length ≤ 100000) (hQ : ∀ tm' H', M3 s T v H tm' H' → Q .normal tm' H') (h : M2 s T v H tm H) : IWP Tryd.prog (part_ [1, 1, 1, 1, 1, 1, 1, 0] C) Q tm H := by
  obtain ⟨_, t0, t3, t4, t7, t8⟩ := h
  simp (disch := first | omega | (simp; done) | assumption) [wr64, wrU8, wrU64, Nat.add_assoc, -getElem?_pos, List.getElem?_cons_zero, List.getElem?_cons_succ, part_, C, ic3]
  refine iwp_loop (W3 s T v H) T.length ⟨rfl, 0, rfl, by omega, by simp [t0], by simp [t3], by simp [t4], by simp [t7], by simp [t8], by simp⟩ ?_
  clear t0 t3 t4 t7 t8
  rintro k tm1 H ⟨rfl, i, rfl, hi, t0, t3, t4, t7, t8, t10⟩
  by_cases hlt : i < T.length
  · have hlt' : (i : Int) < (T.length : Int) := by omega
    have hc : T[i]? = some T[i] := List.getElem?_eq_getElem hlt
    have hn := nb_succ hlt
    have ho := one_of hlt
    have hb := nb_le (T.take i)
    rw [List.length_take] at hb
    generalize T[i] = c at *
    have g1 : i + 1 ≤ T.length := hlt
    have g2 : (i : Int) + 1 ≤ (T.length : Int) := by omega
    by_cases hcc : c = 32
    · rw [if_pos hcc, List.append_nil] at hn
      simp (disch := first | omega | (simp; done) | assumption) [wr64, wrU8, wrU64, Nat.add_assoc, -getElem?_pos, List.getElem?_cons_zero, List.getElem?_cons_succ, t0, t3, t4, t7, t8, t10, hlt, hlt', hc, c32, hcc]
      exact ⟨T.length - (i + 1), by omega, rfl, i + 1, rfl, by omega, by simp [t0], by simp [t3], by simp [t4], by simp [t7], by simp [t8, hn], by simp⟩
    · rw [if_neg hcc] at hn
      simp (disch := first | omega | (simp; done) | assumption) [wr64, wrU8, wrU64, Nat.add_assoc, -getElem?_pos, List.getElem?_cons_zero, List.getElem?_cons_succ, t0, t3, t4, t7, t8, t10, hlt, hlt', hc, c32, hcc, g1, g2, ho]
      refine Try.guard (by omega) ?_
      simp (disch := first | omega | (simp; done) | assumption) [wr64, wrU8, wrU64, Nat.add_assoc, -getElem?_pos, List.getElem?_cons_zero, List.getElem?_cons_succ, t0, t3, t4, t7, t8, t10, ho]
      refine Try.guard (by omega) ?_
      simp (disch := first | omega | (simp; done) | assumption) [wr64, wrU8, wrU64, Nat.add_assoc, -getElem?_pos, List.getElem?_cons_zero, List.getElem?_cons_succ, t0, t3, t4, t7, t8, t10]
      exact ⟨T.length - (i + 1), by omega, rfl, i + 1, rfl, by omega, by simp [t0], by simp [t3], by simp [t4], by simp [t7], by simp [hn], by simp⟩
  · have hlt' : ¬ (i : Int) < (T.length : Int) := by omega
    rw [List.take_of_length_le (by omega)] at t8
    simp (disch := first | omega | (simp; done) | assumption) [wr64, wrU8, wrU64, Nat.add_assoc, -getElem?_pos, List.getElem?_cons_zero, List.getElem?_cons_succ, t0, t3, t4, t7, t8, t10, hlt, hlt']
    exact hQ _ _ ⟨rfl, by simp [t0], by simp [t3], by simp [t4], by simp [t7], by simp [t8]⟩
def M4 (s : List UInt8) (W : List (List UInt8)) (H0 : AH) (tm : Tms) (H' : AH) : Prop := H0.keepsAll H' ∧ H0.next ≤ H'.next ∧ ∃ v, SZ H' v (W.map AV.str) ∧ tm 0 = .str s ∧ tm 3 = v ∧ tm 4 = .str []
def M5 (s T : List UInt8) (v : AV) (H : AH) (tm : Tms) (H' : AH) : Prop := H' = H ∧ tm 0 = .str s ∧ tm 3 = v ∧ tm 4 = .str T ∧ tm 7 = .str [] ∧ tm 8 = .str []
theorem Law (s : List UInt8) (H : AH) (hP : H.at_ 2 = some powTab) : ACall Tryd.prog 3 [.str s] H (fun v H' => v = .bool true ∧ H' = H) := by
  refine acall_enter fits3 (by simp) (by simp) fun hok => ?_
  change IWP Tryd.prog (.seq (part_ [0] C) (.seq (part_ [1, 0] C) (.seq (part_ [1, 1, 0] C) (.seq (part_ [1, 1, 1, 0] C) (part_ [1, 1, 1, 1] C))))) _ _ _
  generalize hX : part_ [1, 1, 1, 1] C = X
  by_cases q1 : 500 < s.length
  · have q1' : (500 : Int) < (s.length : Int) := by omega
    simp (disch := first | omega | (simp; done) | assumption) [wr64, wrU8, wrU64, Nat.add_assoc, -getElem?_pos, List.getElem?_cons_zero, List.getElem?_cons_succ, part_, C, ic3, rs3, q1, q1']
    refine CallW.val (Awake hP) ?_
    simp (disch := first | omega | (simp; done) | assumption) [wr64, wrU8, wrU64, Nat.add_assoc, -getElem?_pos, List.getElem?_cons_zero, List.getElem?_cons_succ, ]
    exact AH.keepsAll_refl _
  have q1' : ¬ (500 : Int) < (s.length : Int) := by omega
  have hs : s.length ≤ 500 := by omega
  have hc := count_pcs (q := 32) s
  have hle : s.count 32 ≤ s.length := List.count_le_length
  have hWl : (wds 32 s).length ≤ 600 := Nat.le_trans (List.length_filter_le _ _) (by omega)
  have htot : tot (wds 32 s) ≤ 500 := by rw [tot_flat, wds_flat]; exact Nat.le_trans (nb_le s) hs
  have hjW : ∀ l : List (List UInt8), tot l ≤ 500 → l.length ≤ 600 → (joinW [32] l).length ≤ 100000 := fun l h1 h2 => by
    by_cases h0 : l = []
    · subst h0; simp [joinW]
    · have := join_len [32] l h0
      rw [show ([32] : List UInt8).length = 1 from rfl, Nat.one_mul] at this
      omega
  have hj : ∀ i, (joinW [32] ((wds 32 s).take i)).length ≤ 100000 := fun i => hjW _ (Nat.le_trans (tot_take_le _ i) htot) (by simp; omega)
  have hjT : (joinW [32] (wds 32 s)).length ≤ 100000 := hjW _ htot hWl
  have hw : ∀ i (h : i < (wds 32 s).length), ((wds 32 s)[i]).length ≤ 500 := fun i h => by
    have h1 := tot_take_succ h
    have h2 := tot_take_le (wds 32 s) (i + 1)
    omega
  simp (disch := first | omega | (simp; done) | assumption) [wr64, wrU8, wrU64, Nat.add_assoc, -getElem?_pos, List.getElem?_cons_zero, List.getElem?_cons_succ, part_, C, ic3, q1, q1']
  refine CallW.ofk (Words s (by omega) _) ?_
  rintro v1 H1 ⟨hk1, hn1, hv1⟩ hok1
  try simp only [newO_none] at hk1 hn1
  simp (disch := first | omega | (simp; done) | assumption) [wr64, wrU8, wrU64, Nat.add_assoc, -getElem?_pos, List.getElem?_cons_zero, List.getElem?_cons_succ, ]
  rw [← hX]
  change IWP Tryd.prog (.seq (part_ [1, 1, 1, 1, 0] C) (.seq (part_ [1, 1, 1, 1, 1, 0] C) (.seq (part_ [1, 1, 1, 1, 1, 1, 0] C) (.seq (part_ [1, 1, 1, 1, 1, 1, 1, 0] C) (part_ [1, 1, 1, 1, 1, 1, 1, 1] C))))) _ _ _
  refine iwp_cut2 (M5 s (joinW [32] (wds 32 s)) v1 H1) ?_ ?_
  · refine iwp_cut (M1 s (joinW [32] (wds 32 s)) v1 H1) (Part1 hs hWl hv1 hj hw (fun tm' H' h => h) (by simp) (by simp) (by simp)) ?_
    rintro tm2 H2 ⟨rfl, t0, t3, t4⟩
    simp (disch := first | omega | (simp; done) | assumption) [wr64, wrU8, wrU64, Nat.add_assoc, -getElem?_pos, List.getElem?_cons_zero, List.getElem?_cons_succ, part_, C, ic3]
    exact ⟨rfl, by simp [t0], by simp [t3], by simp [t4], by simp, by simp⟩
  rintro tm2 H1 ⟨rfl, t0, t3, t4, t7, t8⟩
  refine iwp_cut (M2 s (joinW [32] (wds 32 s)) v1 H1) (Part2 hs (fun tm' H' h => h) ⟨rfl, t0, t3, t4⟩ t7 t8) ?_
  clear t0 t3 t4 t7 t8
  rintro tm2 H1 ⟨rfl, h2⟩
  refine iwp_cut (M3 s (joinW [32] (wds 32 s)) v1 H1) (Part3 hjT (fun tm' H' h => h) ⟨rfl, h2⟩) ?_
  clear h2
  rintro tm2 H1 ⟨rfl, t0, t3, t4, t7, t8⟩
  have hfin : nb s = nb (joinW [32] (wds 32 s)) := by
    unfold nb
    rw [filter_join]
    exact (filter_bytes s).symm
  simp (disch := first | omega | (simp; done) | assumption) [wr64, wrU8, wrU64, Nat.add_assoc, -getElem?_pos, List.getElem?_cons_zero, List.getElem?_cons_succ, part_, C, ic3, rs3, t0, t3, t4, t7, t8, hfin]
  refine CallW.ofk (Words _ (by omega) _) ?_
  rintro v2 H2 ⟨hk2, hn2, hv2⟩ hok2
  try simp only [newO_none] at hk2 hn2
  rw [wds_join] at hv2
  simp (disch := first | omega | (simp; done) | assumption) [wr64, wrU8, wrU64, Nat.add_assoc, -getElem?_pos, List.getElem?_cons_zero, List.getElem?_cons_succ, t0, t3, t4, t7, t8]
  refine CallW.val (SameTexts hv2 (hv1.keeps hk2) (by omega)) ?_
  simp (disch := first | omega | (simp; done) | assumption) [wr64, wrU8, wrU64, Nat.add_assoc, -getElem?_pos, List.getElem?_cons_zero, List.getElem?_cons_succ, t0, t3, t4, t7, t8]
  refine Try.guard (by omega) ?_
  simp (disch := first | omega | (simp; done) | assumption) [wr64, wrU8, wrU64, Nat.add_assoc, -getElem?_pos, List.getElem?_cons_zero, List.getElem?_cons_succ, t0, t3, t4, t7, t8]
  refine Try.guard (by omega) ?_
  simp (disch := first | omega | (simp; done) | assumption) [wr64, wrU8, wrU64, Nat.add_assoc, -getElem?_pos, List.getElem?_cons_zero, List.getElem?_cons_succ, t0, t3, t4, t7, t8]
  have hpad : wds 32 ([32, 32] ++ s ++ [32]) = wds 32 s := wds_pad s
  refine CallW.ofk (Words ([32, 32] ++ s ++ [32]) (by simp; omega) _) ?_
  rintro v3 H3 ⟨hk3, hn3, hv3⟩ hok3
  try simp only [newO_none] at hk3 hn3
  rw [hpad] at hv3
  have hk13 : H1.keepsAll H3 := fun x o hx => hk3 x o (hk2 x o hx)
  simp (disch := first | omega | (simp; done) | assumption) [wr64, wrU8, wrU64, Nat.add_assoc, -getElem?_pos, List.getElem?_cons_zero, List.getElem?_cons_succ, t0, t3, t4, t7, t8]
  refine CallW.val (SameTexts hv3 (hv1.keeps hk13) (by omega)) ?_
  simp (disch := first | omega | (simp; done) | assumption) [wr64, wrU8, wrU64, Nat.add_assoc, -getElem?_pos, List.getElem?_cons_zero, List.getElem?_cons_succ, t0, t3, t4, t7, t8]
  have hk03 : H.keepsAll H3 := fun x o hx => hk13 x o (hk1 x o hx)
  refine CallW.val (Awake (hk03 _ _ hP)) ?_
  simp (disch := first | omega | (simp; done) | assumption) [wr64, wrU8, wrU64, Nat.add_assoc, -getElem?_pos, List.getElem?_cons_zero, List.getElem?_cons_succ, ]
  exact hk03
theorem LineWords.walk (a0 : ByteArray) (W : World) (hsh : W.ShapedOpen Tryd.prog) (hG : TLaid.Tab W) (_ : a0.size ≤ 140737488351232) :
    Calls Tryd.prog 3 #[.string a0] W fun e W' => e = .returned (.bool true) ∧ Below W.heap.size W W' :=
  TLaid.walk hsh hG (Law _ _ (TLaid.H1_pow W)) (.cons (.str _) .nil)
end Go.Proofs.YtiopaoclcafkcaaDoor.LLaw3

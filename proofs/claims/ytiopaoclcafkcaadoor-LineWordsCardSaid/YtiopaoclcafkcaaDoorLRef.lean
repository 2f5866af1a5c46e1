/- What the document's Build answers: the same; what is fixed. -/
import Derived.Test.YtiopaoclcafkcaaDoorLBuild
import Derived.Test.YtiopaoclcafkcaaDoorELaid
set_option linter.unusedVariables false
set_option linter.unusedSimpArgs false
set_option maxRecDepth 10000
set_option maxHeartbeats 4000000
namespace Go.Proofs.YtiopaoclcafkcaaDoor.LRef
open Go Go.RowKit Go.Proofs.YtiopaoclcafkcaaDoor Go.Proofs.YtiopaoclcafkcaaDoor.Abs Go.Proofs.YtiopaoclcafkcaaDoor.Ic Go.Proofs.YtiopaoclcafkcaaDoor.EAs Go.Proofs.YtiopaoclcafkcaaDoor.EErr Go.Proofs.YtiopaoclcafkcaaDoor.LPcs Go.Proofs.YtiopaoclcafkcaaDoor.LLib Go.Proofs.YtiopaoclcafkcaaDoor.LWords Go.Proofs.YtiopaoclcafkcaaDoor.LBuild
abbrev C : ICode := ic13
def negAny (a : List Int) : Bool := a.any fun n => decide (n < 0)
def R1 (a s : List Int) (o f : List UInt8) (t : Bool) (v w : AV) (H : AH) (k : Nat) (tm : Tms) (H' : AH) : Prop := H' = H ∧ ∃ i : Nat, k = a.length - i ∧ i ≤ a.length ∧ negAny (a.take i) = false ∧ negAny (s.take i) = false ∧ tm 0 = .str o ∧ tm 1 = .str f ∧ tm 2 = .bool t ∧ tm 3 = v ∧ tm 4 = w ∧ tm 12 = .int .i64 (i : Int)
def Fm (o f : List UInt8) (t : Bool) (v w : AV) (H : AH) (tm : Tms) (H' : AH) : Prop := H' = H ∧ tm 0 = .str o ∧ tm 1 = .str f ∧ tm 2 = .bool t ∧ tm 3 = v ∧ tm 4 = w
theorem neg_take {a : List Int} {i : Nat} (h : i < a.length) (h1 : negAny (a.take i) = false) (h2 : ¬ a[i] < 0) : negAny (a.take (i + 1)) = false := by
  unfold negAny at *
  rw [← List.take_append_getElem h, List.any_append, h1]
  simp [h2]
theorem neg_at {a : List Int} {i : Nat} (h : i < a.length) (h2 : a[i] < 0) : negAny a = true := List.any_eq_true.2 ⟨a[i], List.getElem_mem h, by simpa using h2⟩
abbrev post (o f : List UInt8) (t : Bool) (a s : List Int) (H : AH) : IPost := fnPost rs13 fun x H' => x = .tuple [.str (if codeOf o f t a s = 0 then lineOf o f t a s else []), .int .i64 (codeOf o f t a s)] ∧ H.keepsAll H'
/-- The first loop: no place and no size is below nought. -/
theorem Check {o f : List UInt8} {t : Bool} {a s : List Int} {v w : AV} {H : AH} (hv : SL H v (a.map (AV.int .i64))) (hw : SL H w (s.map (AV.int .i64))) (hll : a.length = s.length) (ha : a.length ≤ 1000000) {tm : Tms} (h : Fm o f t v w H tm H) :
    IWP Tryd.prog (part_ [1, 1, 0] C) (IPost.then (fun tm' H' => Fm o f t v w H tm' H' ∧ negAny a = false ∧ negAny s = false) (post o f t a s H)) tm H := by
  obtain ⟨_, t0, t1, t2, t3, t4⟩ := h
  have hl1 := SL.lenS hv
  rw [List.length_map] at hl1
  simp (disch := first | omega | (simp; done) | assumption) [wr64, wrU8, wrU64, Nat.add_assoc, -getElem?_pos, List.getElem?_cons_zero, List.getElem?_cons_succ, part_, C, ic13, rs13]
  refine iwp_loop (R1 a s o f t v w H) a.length ⟨rfl, 0, rfl, by omega, by simp [negAny], by simp [negAny], by simp [t0], by simp [t1], by simp [t2], by simp [t3], by simp [t4], by simp⟩ ?_
  clear t0 t1 t2 t3 t4
  rintro k tm1 H ⟨rfl, i, rfl, hi, n1, n2, t0, t1, t2, t3, t4, t12⟩
  by_cases hlt : i < a.length
  · have hlt' : (i : Int) < (a.length : Int) := by omega
    have hlts : i < s.length := by omega
    have hlts' : (i : Int) < (s.length : Int) := by omega
    obtain ⟨b1, o1, rfl, hld1⟩ := SL.get hv i (by simpa using hlt)
    obtain ⟨b2, o2, rfl, hld2⟩ := SL.get hw i (by simpa using hlts)
    rw [List.getElem_map] at hld1 hld2
    have hc1 : negAny a = true → codeOf o f t a s = 1 := fun h => by unfold codeOf; rw [if_pos (.inr (.inl h))]
    have hc2 : negAny s = true → codeOf o f t a s = 1 := fun h => by unfold codeOf; rw [if_pos (.inr (.inr h))]
    by_cases x1 : a[i] < 0
    · have hc := hc1 (neg_at hlt x1)
      simp (disch := first | omega | (simp; done) | assumption) [wr64, wrU8, wrU64, Nat.add_assoc, -getElem?_pos, List.getElem?_cons_zero, List.getElem?_cons_succ, t0, t1, t2, t3, t4, t12, hlt, hlt', hlts, hlts']
      refine Try.intro hld1 ?_
      simp (disch := first | omega | (simp; done) | assumption) [wr64, wrU8, wrU64, Nat.add_assoc, -getElem?_pos, List.getElem?_cons_zero, List.getElem?_cons_succ, t0, t1, t2, t3, t4, t12, x1, hc, rs13]
      exact AH.keepsAll_refl _
    · by_cases x2 : s[i] < 0
      · have hc := hc2 (neg_at hlts x2)
        simp (disch := first | omega | (simp; done) | assumption) [wr64, wrU8, wrU64, Nat.add_assoc, -getElem?_pos, List.getElem?_cons_zero, List.getElem?_cons_succ, t0, t1, t2, t3, t4, t12, hlt, hlt', hlts, hlts']
        refine Try.intro hld1 ?_
        simp (disch := first | omega | (simp; done) | assumption) [wr64, wrU8, wrU64, Nat.add_assoc, -getElem?_pos, List.getElem?_cons_zero, List.getElem?_cons_succ, t0, t1, t2, t3, t4, t12, x1, hlts, hlts']
        refine Try.intro hld2 ?_
        simp (disch := first | omega | (simp; done) | assumption) [wr64, wrU8, wrU64, Nat.add_assoc, -getElem?_pos, List.getElem?_cons_zero, List.getElem?_cons_succ, t0, t1, t2, t3, t4, t12, x2, hc, rs13]
        exact AH.keepsAll_refl _
      · simp (disch := first | omega | (simp; done) | assumption) [wr64, wrU8, wrU64, Nat.add_assoc, -getElem?_pos, List.getElem?_cons_zero, List.getElem?_cons_succ, t0, t1, t2, t3, t4, t12, hlt, hlt', hlts, hlts']
        refine Try.intro hld1 ?_
        simp (disch := first | omega | (simp; done) | assumption) [wr64, wrU8, wrU64, Nat.add_assoc, -getElem?_pos, List.getElem?_cons_zero, List.getElem?_cons_succ, t0, t1, t2, t3, t4, t12, x1, hlts, hlts']
        refine Try.intro hld2 ?_
        simp (disch := first | omega | (simp; done) | assumption) [wr64, wrU8, wrU64, Nat.add_assoc, -getElem?_pos, List.getElem?_cons_zero, List.getElem?_cons_succ, t0, t1, t2, t3, t4, t12, x2]
        exact ⟨a.length - (i + 1), by omega, rfl, i + 1, rfl, by omega, neg_take hlt n1 x1, neg_take hlts n2 x2, by simp [t0], by simp [t1], by simp [t2], by simp [t3], by simp [t4], by simp⟩
  · have hlt' : ¬ (i : Int) < (a.length : Int) := by omega
    rw [List.take_of_length_le (by omega)] at n1 n2
    simp (disch := first | omega | (simp; done) | assumption) [wr64, wrU8, wrU64, Nat.add_assoc, -getElem?_pos, List.getElem?_cons_zero, List.getElem?_cons_succ, t0, t1, t2, t3, t4, t12, hl1, hlt, hlt']
    exact ⟨⟨rfl, by simp [t0], by simp [t1], by simp [t2], by simp [t3], by simp [t4]⟩, n1, n2⟩
theorem words_join (o f : List UInt8) (t : Bool) : joinW [32] (wordsL o f t) = (if o = [] then [] else o ++ [32]) ++ (entryB ++ f) ++ (if t then 32 :: tryingB else []) := by
  unfold wordsL
  by_cases h : o = [] <;> cases t <;> simp [h, joinW]
theorem words_ne (o f : List UInt8) (t : Bool) : wordsL o f t ≠ [] := by
  unfold wordsL
  by_cases h : o = [] <;> cases t <;> simp [h]
def R2 (o f : List UInt8) (t : Bool) (a s : List Int) (v w : AV) (H : AH) (k : Nat) (tm : Tms) (H' : AH) : Prop := H' = H ∧ ∃ i : Nat, k = a.length - i ∧ 1 ≤ i ∧ (i ≤ a.length ∨ i = 1) ∧ tm 13 = .str (joinW [32] (wordsL o f t ++ ((List.zipWith ext a s).take i).drop 1)) ∧ tm 3 = v ∧ tm 4 = w ∧ tm 14 = .int .i64 (i : Int)
def R3 (z : List UInt8) (v w : AV) (H : AH) (tm : Tms) (H' : AH) : Prop := H' = H ∧ tm 13 = .str z ∧ tm 3 = v ∧ tm 4 = w
def R4 (z : List UInt8) (H : AH) (tm : Tms) (H' : AH) : Prop := H' = H ∧ tm 13 = .str z
theorem RBuild {o f : List UInt8} {t : Bool} {a s : List Int} {v w : AV} {H : AH} (hv : SL H v (a.map (AV.int .i64))) (hw : SL H w (s.map (AV.int .i64))) (ho : o.length ≤ 1000000) (hf : f.length ≤ 1000000) (ha : a.length ≤ 1000000) (hs : s.length ≤ 1000000)
    (hra : ∀ x ∈ a, -9223372036854775808 ≤ x ∧ x ≤ 9223372036854775807) (hrs : ∀ x ∈ s, -9223372036854775808 ≤ x ∧ x ≤ 9223372036854775807) :
    ACall Tryd.prog 13 [.str o, .str f, .bool t, v, w] H (fun x H' => x = .tuple [.str (if codeOf o f t a s = 0 then lineOf o f t a s else []), .int .i64 (codeOf o f t a s)] ∧ H' = H) := by
  refine acall_enter fits13 (by simp) (by simp) fun hok => ?_
  have hl1 := SL.lenS hv
  have hl2 := SL.lenS hw
  rw [List.length_map] at hl1 hl2
  change IWP Tryd.prog (.seq (part_ [0] C) (.seq (part_ [1, 0] C) (.seq (part_ [1, 1, 0] C) (part_ [1, 1, 1] C)))) (post o f t a s H) _ _
  by_cases hll : a.length = s.length
  · have hll' : (a.length : Int) = (s.length : Int) := by omega
    refine iwp_cut2 (Fm o f t v w H) ?_ ?_
    · simp (disch := first | omega | (simp; done) | assumption) [wr64, wrU8, wrU64, Nat.add_assoc, -getElem?_pos, List.getElem?_cons_zero, List.getElem?_cons_succ, part_, C, ic13, hl1, hl2, hll, hll']
      exact ⟨rfl, by simp, by simp, by simp, by simp, by simp⟩
    rintro tm1 H ⟨rfl, h1⟩
    refine iwp_cut _ (Check hv hw hll ha ⟨rfl, h1⟩) ?_
    clear h1
    rintro tm2 H ⟨⟨rfl, t0, t1, t2, t3, t4⟩, n1, n2⟩
    have hca : codeOf o f t a s = if 400 < (lineOf o f t a s).length then 5 else 0 := by
      unfold codeOf
      rw [if_neg]
      show ¬ (a.length ≠ s.length ∨ negAny a = true ∨ negAny s = true)
      rw [n1, n2]; simp [hll]
    have hpa : ∀ x ∈ a, 0 ≤ x ∧ x ≤ 9223372036854775807 := fun x hx => ⟨by have := List.any_eq_false.1 n1 x hx; simpa using this, (hra x hx).2⟩
    have hps : ∀ x ∈ s, 0 ≤ x ∧ x ≤ 9223372036854775807 := fun x hx => ⟨by have := List.any_eq_false.1 n2 x hx; simpa using this, (hrs x hx).2⟩
    have wj := words_join o f t
    have wl := congrArg List.length wj
    change IWP Tryd.prog (.seq (part_ [1, 1, 1, 0] C) (.seq (part_ [1, 1, 1, 1, 0] C) (.seq (part_ [1, 1, 1, 1, 1, 0] C) (.seq (part_ [1, 1, 1, 1, 1, 1, 0] C) (part_ [1, 1, 1, 1, 1, 1, 1] C))))) _ _ _
    refine iwp_cut3 (R3 (joinW [32] (wordsL o f t)) v w H) ?_ ?_
    · by_cases h0 : o = []
      · subst h0
        rw [if_pos rfl] at wj wl
        cases t
        · simp [entryB] at wl
          simp (disch := first | omega | (simp; done) | assumption) [wr64, wrU8, wrU64, Nat.add_assoc, -getElem?_pos, List.getElem?_cons_zero, List.getElem?_cons_succ, part_, C, ic13, t0, t1, t2, t3, t4]
          refine Try.guard (by omega) ?_
          simp (disch := first | omega | (simp; done) | assumption) [wr64, wrU8, wrU64, Nat.add_assoc, -getElem?_pos, List.getElem?_cons_zero, List.getElem?_cons_succ, t0, t1, t2, t3, t4]
          exact ⟨rfl, by simp [wj, entryB], by simp [t3], by simp [t4]⟩
        · simp [entryB, tryingB] at wl
          simp (disch := first | omega | (simp; done) | assumption) [wr64, wrU8, wrU64, Nat.add_assoc, -getElem?_pos, List.getElem?_cons_zero, List.getElem?_cons_succ, part_, C, ic13, t0, t1, t2, t3, t4]
          refine Try.guard (by omega) ?_
          simp (disch := first | omega | (simp; done) | assumption) [wr64, wrU8, wrU64, Nat.add_assoc, -getElem?_pos, List.getElem?_cons_zero, List.getElem?_cons_succ, t0, t1, t2, t3, t4]
          refine Try.guard (by omega) ?_
          simp (disch := first | omega | (simp; done) | assumption) [wr64, wrU8, wrU64, Nat.add_assoc, -getElem?_pos, List.getElem?_cons_zero, List.getElem?_cons_succ, t0, t1, t2, t3, t4]
          exact ⟨rfl, by simp [wj, entryB, tryingB], by simp [t3], by simp [t4]⟩
      · rw [if_neg h0] at wj wl
        simp [entryB, tryingB] at wl
        cases t
        · simp (disch := first | omega | (simp; done) | assumption) [wr64, wrU8, wrU64, Nat.add_assoc, -getElem?_pos, List.getElem?_cons_zero, List.getElem?_cons_succ, part_, C, ic13, t0, t1, t2, t3, t4, h0]
          refine Try.guard (by omega) ?_
          simp (disch := first | omega | (simp; done) | assumption) [wr64, wrU8, wrU64, Nat.add_assoc, -getElem?_pos, List.getElem?_cons_zero, List.getElem?_cons_succ, t0, t1, t2, t3, t4, h0]
          refine Try.guard (by omega) ?_
          simp (disch := first | omega | (simp; done) | assumption) [wr64, wrU8, wrU64, Nat.add_assoc, -getElem?_pos, List.getElem?_cons_zero, List.getElem?_cons_succ, t0, t1, t2, t3, t4, h0]
          refine Try.guard (by omega) ?_
          simp (disch := first | omega | (simp; done) | assumption) [wr64, wrU8, wrU64, Nat.add_assoc, -getElem?_pos, List.getElem?_cons_zero, List.getElem?_cons_succ, t0, t1, t2, t3, t4, h0]
          exact ⟨rfl, by simp [wj, entryB], by simp [t3], by simp [t4]⟩
        · simp (disch := first | omega | (simp; done) | assumption) [wr64, wrU8, wrU64, Nat.add_assoc, -getElem?_pos, List.getElem?_cons_zero, List.getElem?_cons_succ, part_, C, ic13, t0, t1, t2, t3, t4, h0]
          refine Try.guard (by omega) ?_
          simp (disch := first | omega | (simp; done) | assumption) [wr64, wrU8, wrU64, Nat.add_assoc, -getElem?_pos, List.getElem?_cons_zero, List.getElem?_cons_succ, t0, t1, t2, t3, t4, h0]
          refine Try.guard (by omega) ?_
          simp (disch := first | omega | (simp; done) | assumption) [wr64, wrU8, wrU64, Nat.add_assoc, -getElem?_pos, List.getElem?_cons_zero, List.getElem?_cons_succ, t0, t1, t2, t3, t4, h0]
          refine Try.guard (by omega) ?_
          simp (disch := first | omega | (simp; done) | assumption) [wr64, wrU8, wrU64, Nat.add_assoc, -getElem?_pos, List.getElem?_cons_zero, List.getElem?_cons_succ, t0, t1, t2, t3, t4, h0]
          refine Try.guard (by omega) ?_
          simp (disch := first | omega | (simp; done) | assumption) [wr64, wrU8, wrU64, Nat.add_assoc, -getElem?_pos, List.getElem?_cons_zero, List.getElem?_cons_succ, t0, t1, t2, t3, t4, h0]
          exact ⟨rfl, by simp [wj, entryB, tryingB], by simp [t3], by simp [t4]⟩
    clear t0 t1 t2 t3 t4
    rintro tm3 H ⟨rfl, t13, t3, t4⟩
    have ht1 := fun i => exts_tot hpa hps i
    have ht2 := words_tot o f t
    have hz0 : ((List.zipWith ext a s).take 1).drop 1 = [] := List.drop_eq_nil_of_le (by simp; omega)
    have hjl : ∀ i, (joinW [32] (wordsL o f t ++ ((List.zipWith ext a s).take i).drop 1)).length ≤ 1000000000 := fun i => by
      have h1 := join_len [32] (wordsL o f t ++ ((List.zipWith ext a s).take i).drop 1) (by have := words_ne o f t; simp [this])
      rw [tot_append] at h1
      have h2 := ht1 i
      have h3 := words_len o f t
      have h4 : (wordsL o f t ++ ((List.zipWith ext a s).take i).drop 1).length ≤ 3 + a.length := by simp; omega
      rw [show ([32] : List UInt8).length = 1 from rfl, Nat.one_mul] at h1
      omega
    refine iwp_cut (R4 (lineOf o f t a s) H) ?_ ?_
    · simp (disch := first | omega | (simp; done) | assumption) [wr64, wrU8, wrU64, Nat.add_assoc, -getElem?_pos, List.getElem?_cons_zero, List.getElem?_cons_succ, part_, C, ic13]
      refine iwp_loop (R2 o f t a s v w H) (a.length - 1) ⟨rfl, 1, rfl, Nat.le_refl _, .inr rfl, by rw [hz0, List.append_nil]; simpa using t13, by simp [t3], by simp [t4], by simp⟩ ?_
      clear t13 t3 t4
      rintro k tm4 H ⟨rfl, i, rfl, hi1, hi2, t13, t3, t4, t14⟩
      by_cases hlt : i < a.length
      · have hlt' : (i : Int) < (a.length : Int) := by omega
        have hlts : i < s.length := by omega
        have hlts' : (i : Int) < (s.length : Int) := by omega
        obtain ⟨b1, o1, rfl, hld1⟩ := SL.get hv i (by simpa using hlt)
        obtain ⟨b2, o2, rfl, hld2⟩ := SL.get hw i (by simpa using hlts)
        rw [List.getElem_map] at hld1 hld2
        have hzt := zip_take hlt hlts
        have hx := hpa a[i] (List.getElem_mem _)
        have hy := hps s[i] (List.getElem_mem _)
        have hj := hjl i
        have hd : joinW [32] (wordsL o f t ++ ((List.zipWith ext a s).take (i + 1)).drop 1) = joinW [32] (wordsL o f t ++ ((List.zipWith ext a s).take i).drop 1) ++ ([32] ++ ext a[i] s[i]) := by
          rw [hzt, List.drop_append_of_le_length (by simp; omega), ← List.append_assoc, joinW_snoc _ _ _ (by have := words_ne o f t; simp [this])]
        generalize a[i] = x at hld1 hd hx
        generalize s[i] = y at hld2 hd hy
        clear hjl ht1
        generalize joinW [32] (wordsL o f t ++ ((List.zipWith ext a s).take i).drop 1) = z at t13 hd hj
        have lx := Lib.itoa_length_le x (by omega) (by omega)
        have ly := Lib.itoa_length_le y (by omega) (by omega)
        simp (disch := first | omega | (simp; done) | assumption) [wr64, wrU8, wrU64, Nat.add_assoc, -getElem?_pos, List.getElem?_cons_zero, List.getElem?_cons_succ, t13, t3, t4, t14, hlt, hlt', hlts, hlts']
        refine Try.guard (by omega) ?_
        simp (disch := first | omega | (simp; done) | assumption) [wr64, wrU8, wrU64, Nat.add_assoc, -getElem?_pos, List.getElem?_cons_zero, List.getElem?_cons_succ, t13, t3, t4, t14, hlt, hlt', hlts, hlts']
        refine Try.intro (by simpa using hld1) ?_
        simp (disch := first | omega | (simp; done) | assumption) [wr64, wrU8, wrU64, Nat.add_assoc, -getElem?_pos, List.getElem?_cons_zero, List.getElem?_cons_succ, t13, t3, t4, t14, hlt, hlt', hlts, hlts']
        refine Try.intro (by simpa using hld2) ?_
        simp (disch := first | omega | (simp; done) | assumption) [wr64, wrU8, wrU64, Nat.add_assoc, -getElem?_pos, List.getElem?_cons_zero, List.getElem?_cons_succ, t13, t3, t4, t14, hlt, hlt', hlts, hlts']
        refine CallW.val (CNum.Num x (by omega) (by omega) _) ?_
        refine ⟨?_, ?_⟩
        · intro r hr
          obtain rfl := List.mem_singleton.1 hr
          simp (disch := first | omega | (simp; done) | assumption) [wr64, wrU8, wrU64, Nat.add_assoc, -getElem?_pos, List.getElem?_cons_zero, List.getElem?_cons_succ, ]
          simpa using hld2
        simp (disch := first | omega | (simp; done) | assumption) [wr64, wrU8, wrU64, Nat.add_assoc, -getElem?_pos, List.getElem?_cons_zero, List.getElem?_cons_succ, t13, t3, t4, t14, hlt, hlt', hlts, hlts']
        refine Try.guard (by omega) ?_
        simp (disch := first | omega | (simp; done) | assumption) [wr64, wrU8, wrU64, Nat.add_assoc, -getElem?_pos, List.getElem?_cons_zero, List.getElem?_cons_succ, t13, t3, t4, t14, hlt, hlt', hlts, hlts']
        refine Try.guard (by omega) ?_
        simp (disch := first | omega | (simp; done) | assumption) [wr64, wrU8, wrU64, Nat.add_assoc, -getElem?_pos, List.getElem?_cons_zero, List.getElem?_cons_succ, t13, t3, t4, t14, hlt, hlt', hlts, hlts']
        refine CallW.val (CNum.Num y (by omega) (by omega) _) ?_
        simp (disch := first | omega | (simp; done) | assumption) [wr64, wrU8, wrU64, Nat.add_assoc, -getElem?_pos, List.getElem?_cons_zero, List.getElem?_cons_succ, t13, t3, t4, t14, hlt, hlt', hlts, hlts']
        refine Try.guard (by omega) ?_
        simp (disch := first | omega | (simp; done) | assumption) [wr64, wrU8, wrU64, Nat.add_assoc, -getElem?_pos, List.getElem?_cons_zero, List.getElem?_cons_succ, t13, t3, t4, t14, hlt, hlt', hlts, hlts']
        exact ⟨a.length - (i + 1), by omega, rfl, i + 1, rfl, by omega, .inl (by omega), by rw [hd]; simp [ext, extraB], by simp [t3], by simp [t4], by simp⟩
      · have hlt' : ¬ (i : Int) < (a.length : Int) := by omega
        have hz : ((List.zipWith ext a s).take i).drop 1 = exts a s := by
          rw [List.take_of_length_le (by simp; omega)]
          rfl
        rw [hz] at t13
        simp (disch := first | omega | (simp; done) | assumption) [wr64, wrU8, wrU64, Nat.add_assoc, -getElem?_pos, List.getElem?_cons_zero, List.getElem?_cons_succ, t13, t3, t4, t14, hl1, hlt, hlt']
        exact ⟨rfl, by simp [t13, lineOf, allL]⟩
    · clear t13 t3 t4
      rintro tm4 H ⟨rfl, t13⟩
      by_cases h400 : 400 < (lineOf o f t a s).length
      · have h400' : (400 : Int) < ((lineOf o f t a s).length : Int) := by omega
        have hc5 : codeOf o f t a s = 5 := by rw [hca, if_pos h400]
        simp (disch := first | omega | (simp; done) | assumption) [wr64, wrU8, wrU64, Nat.add_assoc, -getElem?_pos, List.getElem?_cons_zero, List.getElem?_cons_succ, part_, C, ic13, rs13, t13, h400, h400', hc5]
        exact AH.keepsAll_refl _
      · have h400' : ¬ (400 : Int) < ((lineOf o f t a s).length : Int) := by omega
        have hc0 : codeOf o f t a s = 0 := by rw [hca, if_neg h400]
        simp (disch := first | omega | (simp; done) | assumption) [wr64, wrU8, wrU64, Nat.add_assoc, -getElem?_pos, List.getElem?_cons_zero, List.getElem?_cons_succ, part_, C, ic13, rs13, t13, h400, h400', hc0]
        exact AH.keepsAll_refl _
  · have hll' : ¬ (a.length : Int) = (s.length : Int) := by omega
    have hc : codeOf o f t a s = 1 := by unfold codeOf; rw [if_pos (.inl hll)]
    simp (disch := first | omega | (simp; done) | assumption) [wr64, wrU8, wrU64, Nat.add_assoc, -getElem?_pos, List.getElem?_cons_zero, List.getElem?_cons_succ, part_, C, ic13, rs13, hl1, hl2, hll, hll', hc]
    exact AH.keepsAll_refl _
end Go.Proofs.YtiopaoclcafkcaaDoor.LRef

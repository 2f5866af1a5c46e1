/- What line.Build answers. -/
import Derived.Test.YtiopaoclcafkcaaDoorLWords
import Derived.Test.YtiopaoclcafkcaaDoorJoin
import Derived.Test.YtiopaoclcafkcaaDoorDItoa
import Derived.Test.YtiopaoclcafkcaaDoorDNum
set_option linter.unusedVariables false
set_option linter.unusedSimpArgs false
set_option maxRecDepth 10000
set_option maxHeartbeats 4000000
namespace Go.Proofs.YtiopaoclcafkcaaDoor.LBuild
open Go Go.RowKit Go.Proofs.YtiopaoclcafkcaaDoor Go.Proofs.YtiopaoclcafkcaaDoor.Abs Go.Proofs.YtiopaoclcafkcaaDoor.Ic Go.Proofs.YtiopaoclcafkcaaDoor.EAs Go.Proofs.YtiopaoclcafkcaaDoor.EErr Go.Proofs.YtiopaoclcafkcaaDoor.LPcs Go.Proofs.YtiopaoclcafkcaaDoor.LLib Go.Proofs.YtiopaoclcafkcaaDoor.LWords
theorem Below0 (n : Int) (H : AH) : ACall Tryd.prog 19 [.int .i64 n] H (fun v H' => v = .bool (decide (n < 0)) ∧ H' = H) := by
  refine acall_of fits19 (by simp) ?_
  simp (disch := first | omega | (simp; done) | assumption) [wr64, wrU8, wrU64, Nat.add_assoc, -getElem?_pos, List.getElem?_cons_zero, List.getElem?_cons_succ, ic19, rs19]
def negA : AV → Bool
  | .int _ n => decide (n < 0)
  | _ => false
theorem Contains {v : AV} {a : List Int} {H : AH} (h : SL H v (a.map (AV.int .i64))) (hl : a.length ≤ 1000000000000) : ACall Tryd.prog 20 [v, .func (.func 19) [] []] H (fun v H' => v = .bool (a.any fun n => decide (n < 0)) ∧ H' = H) := by
  have hix := IndexFuncI (p := negA) (.inl h) (by simpa using hl) fun x hx => by
    obtain ⟨y, _, rfl⟩ := List.mem_map.1 hx
    exact Below0 y H
  refine acall_of fits20 (by simp) ?_
  have key : decide (0 ≤ fidx negA (a.map (AV.int .i64))) = a.any fun n => decide (n < 0) := by
    cases hany : a.any fun n => decide (n < 0) with
    | false =>
      rw [fidx_none fun j hj => by
        simp at hj
        have := List.any_eq_false.1 hany a[j] (List.getElem_mem hj)
        simpa [negA] using this]
      rfl
    | true =>
      obtain ⟨x, hx, h2⟩ := List.any_eq_true.1 hany
      unfold fidx
      cases hf : (a.map (AV.int .i64)).findIdx? negA with
      | none =>
        rw [List.findIdx?_eq_none_iff] at hf
        have := hf (.int .i64 x) (List.mem_map.2 ⟨x, hx, rfl⟩)
        simp [negA] at this
        simp at h2
        omega
      | some i => simp
  simp (disch := first | omega | (simp; done) | assumption) [wr64, wrU8, wrU64, Nat.add_assoc, -getElem?_pos, List.getElem?_cons_zero, List.getElem?_cons_succ, ic20, rs20]
  refine CallW.val hix ?_
  simp (disch := first | omega | (simp; done) | assumption) [wr64, wrU8, wrU64, Nat.add_assoc, -getElem?_pos, List.getElem?_cons_zero, List.getElem?_cons_succ, key]
/-! ### The words ahead of the places -/
def entryB : List UInt8 := [101, 110, 116, 114, 121, 61]
def tryingB : List UInt8 := [116, 114, 121, 105, 110, 103]
def extraB : List UInt8 := [101, 120, 116, 114, 97, 61]
def wordsL (o f : List UInt8) (t : Bool) : List (List UInt8) := (if o = [] then [] else [o]) ++ [entryB ++ f] ++ (if t then [tryingB] else [])
def TextsP (l : List (List UInt8)) (H : AH) (v : AV) (H' : AH) : Prop := H.keepsAll H' ∧ H.next ≤ H'.next ∧ OutS H.next H' 9 v (l.map AV.str)
theorem Words_ (o f : List UInt8) (t : Bool) (hf : f.length ≤ 1000000000) (H : AH) : ACall Tryd.prog 22 [.str o, .str f, .bool t] H (TextsP (wordsL o f t) H) := by
  refine acall_ok (bodyP_of fits22) fun hok => acall_of fits22 (by simp) ?_
  have e : [(101 : UInt8), 110, 116, 114, 121, 61] ++ f = entryB ++ f := rfl
  by_cases ho : o = []
  · subst ho
    obtain ⟨v1, H1, a1, o1, n1, k1⟩ := appendOut (B := H.next) (H := H) (t := 9) (bytes := 16) (x := .str (entryB ++ f)) (.inl ⟨rfl, rfl⟩) (Nat.le_refl _) rfl (by simp) (by simp)
    simp (disch := first | omega | (simp; done) | assumption) [wr64, wrU8, wrU64, Nat.add_assoc, -getElem?_pos, List.getElem?_cons_zero, List.getElem?_cons_succ, ic22, rs22]
    refine Try.guard (by omega) ?_
    simp (disch := first | omega | (simp; done) | assumption) [wr64, wrU8, wrU64, Nat.add_assoc, -getElem?_pos, List.getElem?_cons_zero, List.getElem?_cons_succ, ]
    refine Try.intro a1 ?_
    cases t
    · simp (disch := first | omega | (simp; done) | assumption) [wr64, wrU8, wrU64, Nat.add_assoc, -getElem?_pos, List.getElem?_cons_zero, List.getElem?_cons_succ, ]
      exact ⟨k1.keepsAll (AH.keepsAll_refl _) hok, by omega, by simpa [wordsL] using o1⟩
    · obtain ⟨v2, H2, a2, o2, n2, k2⟩ := appendOut (bytes := 16) (x := .str tryingB) o1 (by omega) rfl (by simp) (by simp)
      simp (disch := first | omega | (simp; done) | assumption) [wr64, wrU8, wrU64, Nat.add_assoc, -getElem?_pos, List.getElem?_cons_zero, List.getElem?_cons_succ, ]
      refine Try.intro a2 ?_
      simp (disch := first | omega | (simp; done) | assumption) [wr64, wrU8, wrU64, Nat.add_assoc, -getElem?_pos, List.getElem?_cons_zero, List.getElem?_cons_succ, ]
      exact ⟨(k1.trans k2).keepsAll (AH.keepsAll_refl _) hok, by omega, by simpa [wordsL] using o2⟩
  · obtain ⟨v0, H0, a0, o0, n0, k0⟩ := appendOut (B := H.next) (H := H) (t := 9) (bytes := 16) (x := .str o) (.inl ⟨rfl, rfl⟩) (Nat.le_refl _) rfl (by simp) (by simp)
    obtain ⟨v1, H1, a1, o1, n1, k1⟩ := appendOut (bytes := 16) (x := .str (entryB ++ f)) o0 (by omega) rfl (by simp) (by simp)
    simp (disch := first | omega | (simp; done) | assumption) [wr64, wrU8, wrU64, Nat.add_assoc, -getElem?_pos, List.getElem?_cons_zero, List.getElem?_cons_succ, ic22, rs22, ho]
    refine Try.intro a0 ?_
    simp (disch := first | omega | (simp; done) | assumption) [wr64, wrU8, wrU64, Nat.add_assoc, -getElem?_pos, List.getElem?_cons_zero, List.getElem?_cons_succ, ]
    refine Try.guard (by omega) ?_
    simp (disch := first | omega | (simp; done) | assumption) [wr64, wrU8, wrU64, Nat.add_assoc, -getElem?_pos, List.getElem?_cons_zero, List.getElem?_cons_succ, ]
    refine Try.intro a1 ?_
    cases t
    · simp (disch := first | omega | (simp; done) | assumption) [wr64, wrU8, wrU64, Nat.add_assoc, -getElem?_pos, List.getElem?_cons_zero, List.getElem?_cons_succ, ]
      exact ⟨(k0.trans k1).keepsAll (AH.keepsAll_refl _) hok, by omega, by simpa [wordsL, ho] using o1⟩
    · obtain ⟨v2, H2, a2, o2, n2, k2⟩ := appendOut (bytes := 16) (x := .str tryingB) o1 (by omega) rfl (by simp) (by simp)
      simp (disch := first | omega | (simp; done) | assumption) [wr64, wrU8, wrU64, Nat.add_assoc, -getElem?_pos, List.getElem?_cons_zero, List.getElem?_cons_succ, ]
      refine Try.intro a2 ?_
      simp (disch := first | omega | (simp; done) | assumption) [wr64, wrU8, wrU64, Nat.add_assoc, -getElem?_pos, List.getElem?_cons_zero, List.getElem?_cons_succ, ]
      exact ⟨((k0.trans k1).trans k2).keepsAll (AH.keepsAll_refl _) hok, by omega, by simpa [wordsL, ho] using o2⟩
/-! ### The line -/
def ext (x y : Int) : List UInt8 := extraB ++ (Lib.itoa x ++ ([58] ++ Lib.itoa y))
def exts (a s : List Int) : List (List UInt8) := (List.zipWith ext a s).drop 1
def allL (o f : List UInt8) (t : Bool) (a s : List Int) : List (List UInt8) := wordsL o f t ++ exts a s
def lineOf (o f : List UInt8) (t : Bool) (a s : List Int) : List UInt8 := joinW [32] (allL o f t a s)
def codeOf (o f : List UInt8) (t : Bool) (a s : List Int) : Int := if a.length ≠ s.length ∨ (a.any fun n => decide (n < 0)) = true ∨ (s.any fun n => decide (n < 0)) = true then 1 else if 400 < (lineOf o f t a s).length then 5 else 0
def lineB : List UInt8 := [108, 105, 110, 101]
def BuildP (o f : List UInt8) (t : Bool) (a s : List Int) (H : AH) (v : AV) (H' : AH) : Prop := H.keepsAll H' ∧ H.next ≤ H'.next ∧ ∃ e l r, v = .tuple [.str (if codeOf o f t a s = 0 then lineOf o f t a s else []), e] ∧ Chain H' e l r ∧ isV e l r lineB [] (codeOf o f t a s) = true ∧ (e = .nilIface ↔ codeOf o f t a s = 0) ∧ (∀ n, r = some n → n = codeOf o f t a s) ∧ (r = none → codeOf o f t a s = 0) ∧ l.length ≤ 1
theorem zip_take {a s : List Int} {i : Nat} (h1 : i < a.length) (h2 : i < s.length) : (List.zipWith ext a s).take (i + 1) = (List.zipWith ext a s).take i ++ [ext a[i] s[i]] := by
  have h : i < (List.zipWith ext a s).length := by simp; omega
  rw [← List.take_append_getElem h, List.getElem_zipWith]
def BlI (o f : List UInt8) (t : Bool) (a s : List Int) (v w : AV) (H : AH) (k : Nat) (tm : Tms) (H' : AH) : Prop :=
  H.keepsAll H' ∧ H.next ≤ H'.next ∧ ∃ i : Nat, k = a.length - i ∧ 1 ≤ i ∧ (i ≤ a.length ∨ i = 1) ∧ OutS H.next H' 9 (tm 13) ((wordsL o f t ++ ((List.zipWith ext a s).take i).drop 1).map AV.str) ∧ tm 3 = v ∧ tm 4 = w ∧ tm 14 = .int .i64 (i : Int)
theorem words_len (o f : List UInt8) (t : Bool) : (wordsL o f t).length ≤ 3 := by
  unfold wordsL
  by_cases h : o = [] <;> cases t <;> simp [h]
theorem words_tot (o f : List UInt8) (t : Bool) : tot (wordsL o f t) ≤ o.length + f.length + 12 := by
  unfold wordsL tot
  by_cases h : o = [] <;> cases t <;> simp [h, entryB, tryingB] <;> omega
theorem tot_append (l m : List (List UInt8)) : tot (l ++ m) = tot l + tot m := by simp [tot]
theorem exts_tot {a s : List Int} (ha : ∀ x ∈ a, 0 ≤ x ∧ x ≤ 9223372036854775807) (hs : ∀ x ∈ s, 0 ≤ x ∧ x ≤ 9223372036854775807) (n : Nat) : tot (((List.zipWith ext a s).take n).drop 1) ≤ 100 * a.length := by
  have h1 : ∀ (l : List (List UInt8)) (m : Nat), (∀ x ∈ l, x.length ≤ 100) → l.length ≤ m → tot l ≤ 100 * m := by
    intro l
    induction l with
    | nil => intro m _ _; simp [tot]
    | cons x l ih =>
      intro m hx hm
      have e1 := hx x (List.mem_cons_self ..)
      have e2 := ih (m - 1) (fun y hy => hx y (List.mem_cons_of_mem _ hy)) (by simp at hm; omega)
      simp at hm
      have e3 : tot (x :: l) = x.length + tot l := by simp [tot]
      omega
  refine h1 _ _ (fun x hx => ?_) (by simp; omega)
  have hx' := List.mem_of_mem_take (List.mem_of_mem_drop hx)
  obtain ⟨i, hi, rfl⟩ := List.mem_iff_getElem.1 hx'
  simp at hi
  rw [List.getElem_zipWith]
  have e1 := ha a[i] (List.getElem_mem _)
  have e2 := hs s[i] (List.getElem_mem _)
  have e3 := Lib.itoa_length_le a[i] (by omega) (by omega)
  have e4 := Lib.itoa_length_le s[i] (by omega) (by omega)
  simp [ext, extraB]
  omega
theorem Build {o f : List UInt8} {t : Bool} {a s : List Int} {v w : AV} {H : AH} (hv : SL H v (a.map (AV.int .i64))) (hw : SL H w (s.map (AV.int .i64))) (ho : o.length ≤ 1000000) (hf : f.length ≤ 1000000) (ha : a.length ≤ 1000000) (hs : s.length ≤ 1000000)
    (hra : ∀ x ∈ a, -9223372036854775808 ≤ x ∧ x ≤ 9223372036854775807) (hrs : ∀ x ∈ s, -9223372036854775808 ≤ x ∧ x ≤ 9223372036854775807) (hP : H.at_ 2 = some powTab) :
    ACall Tryd.prog 10 [.str o, .str f, .bool t, v, w] H (BuildP o f t a s H) := by
  have hl1 := SL.lenS hv
  have hl2 := SL.lenS hw
  rw [List.length_map] at hl1 hl2
  refine acall_ok (bodyP_of fits10) fun hok => acall_of fits10 (by simp) ?_
  have bad : codeOf o f t a s = 1 → ∀ (v : AV) (H' : AH), (H.keepsAll H' ∧ H.next ≤ H'.next ∧ ∃ g : Fl, g.op = lineB ∧ g.name = [] ∧ v = .iface 50 (.ptr g.b 0) ∧ Chain H' v [g] (some 1)) → BuildP o f t a s H (.tuple [.str [], v]) H' := by
    rintro hc v H' ⟨h1, h2, g, h3, h4, rfl, h5⟩
    refine ⟨h1, h2, _, [g], some 1, by rw [hc]; rfl, h5, ?_, ?_, ?_, ?_, by simp⟩
    · rw [hc]; simp [isV, h3, h4]
    · rw [hc]; simp
    · rw [hc]; intro n hn; cases hn; rfl
    · intro h; cases h
  by_cases hll : a.length = s.length
  · have hll' : (a.length : Int) = (s.length : Int) := by omega
    cases hna : a.any fun n => decide (n < 0) with
    | true =>
      have hc : codeOf o f t a s = 1 := by unfold codeOf; rw [if_pos (.inr (.inl hna))]
      simp (disch := first | omega | (simp; done) | assumption) [wr64, wrU8, wrU64, Nat.add_assoc, -getElem?_pos, List.getElem?_cons_zero, List.getElem?_cons_succ, ic10, rs10, hl1, hl2, hll, hll']
      refine CallW.val (Contains hv (by omega)) ?_
      simp (disch := first | omega | (simp; done) | assumption) [wr64, wrU8, wrU64, Nat.add_assoc, -getElem?_pos, List.getElem?_cons_zero, List.getElem?_cons_succ, hna]
      refine CallW.of (ENewC _ _ (by decide) _) ?_
      rintro v1 H1 h1
      try simp only [newO_none] at h1
      simp (disch := first | omega | (simp; done) | assumption) [wr64, wrU8, wrU64, Nat.add_assoc, -getElem?_pos, List.getElem?_cons_zero, List.getElem?_cons_succ, ]
      exact bad hc v1 H1 h1
    | false =>
      cases hns : s.any fun n => decide (n < 0) with
      | true =>
        have hc : codeOf o f t a s = 1 := by unfold codeOf; rw [if_pos (.inr (.inr hns))]
        simp (disch := first | omega | (simp; done) | assumption) [wr64, wrU8, wrU64, Nat.add_assoc, -getElem?_pos, List.getElem?_cons_zero, List.getElem?_cons_succ, ic10, rs10, hl1, hl2, hll, hll']
        refine CallW.val (Contains hv (by omega)) ?_
        simp (disch := first | omega | (simp; done) | assumption) [wr64, wrU8, wrU64, Nat.add_assoc, -getElem?_pos, List.getElem?_cons_zero, List.getElem?_cons_succ, hna]
        refine CallW.val (Contains hw (by omega)) ?_
        simp (disch := first | omega | (simp; done) | assumption) [wr64, wrU8, wrU64, Nat.add_assoc, -getElem?_pos, List.getElem?_cons_zero, List.getElem?_cons_succ, hns]
        refine CallW.of (ENewC _ _ (by decide) _) ?_
        rintro v1 H1 h1
        try simp only [newO_none] at h1
        simp (disch := first | omega | (simp; done) | assumption) [wr64, wrU8, wrU64, Nat.add_assoc, -getElem?_pos, List.getElem?_cons_zero, List.getElem?_cons_succ, ]
        exact bad hc v1 H1 h1
      | false =>
        have hca : codeOf o f t a s = if 400 < (lineOf o f t a s).length then 5 else 0 := by unfold codeOf; rw [if_neg (by rw [hna, hns]; simp [hll])]
        have hpa : ∀ x ∈ a, 0 ≤ x ∧ x ≤ 9223372036854775807 := fun x hx => ⟨by have := List.any_eq_false.1 hna x hx; simpa using this, (hra x hx).2⟩
        have hps : ∀ x ∈ s, 0 ≤ x ∧ x ≤ 9223372036854775807 := fun x hx => ⟨by have := List.any_eq_false.1 hns x hx; simpa using this, (hrs x hx).2⟩
        simp (disch := first | omega | (simp; done) | assumption) [wr64, wrU8, wrU64, Nat.add_assoc, -getElem?_pos, List.getElem?_cons_zero, List.getElem?_cons_succ, ic10, rs10, hl1, hl2, hll, hll']
        refine CallW.val (Contains hv (by omega)) ?_
        simp (disch := first | omega | (simp; done) | assumption) [wr64, wrU8, wrU64, Nat.add_assoc, -getElem?_pos, List.getElem?_cons_zero, List.getElem?_cons_succ, hna]
        refine CallW.val (Contains hw (by omega)) ?_
        simp (disch := first | omega | (simp; done) | assumption) [wr64, wrU8, wrU64, Nat.add_assoc, -getElem?_pos, List.getElem?_cons_zero, List.getElem?_cons_succ, hns]
        refine CallW.ofk (Words_ o f t (by omega) _) ?_
        rintro v1 H1 ⟨hk1, hn1, ho1⟩ hok1
        try simp only [newO_none] at hk1 hn1 ho1
        simp (disch := first | omega | (simp; done) | assumption) [wr64, wrU8, wrU64, Nat.add_assoc, -getElem?_pos, List.getElem?_cons_zero, List.getElem?_cons_succ, ]
        have hz0 : ((List.zipWith ext a s).take 1).drop 1 = [] := List.drop_eq_nil_of_le (by simp; omega)
        refine iwp_loop (BlI o f t a s v w H) (a.length - 1) ⟨hk1, hn1, 1, rfl, Nat.le_refl _, .inr rfl, by rw [hz0, List.append_nil]; simpa using ho1, by simp, by simp, by simp⟩ ?_
        rintro k tm H2 ⟨hk2, hn2, i, rfl, hi1, hi2, ho2, t3, t4, t14⟩
        generalize t13 : tm 13 = out at ho2
        have hP2 := hk2 _ _ hP
        have hwl := words_len o f t
        by_cases hlt : i < a.length
        · have hlt' : (i : Int) < (a.length : Int) := by omega
          have hlts : i < s.length := by omega
          have hlts' : (i : Int) < (s.length : Int) := by omega
          obtain ⟨b1, o1, rfl, hld1⟩ := SL.get hv i (by simpa using hlt)
          obtain ⟨b2, o2, rfl, hld2⟩ := SL.get hw i (by simpa using hlts)
          rw [List.getElem_map] at hld1 hld2
          replace hld1 := loadC_keeps hk2 hld1
          replace hld2 := loadC_keeps hk2 hld2
          have hzt := zip_take hlt hlts
          have hx := hpa a[i] (List.getElem_mem _)
          have hy := hps s[i] (List.getElem_mem _)
          generalize a[i] = x at hld1 hzt hx
          generalize s[i] = y at hld2 hzt hy
          have lx := Lib.itoa_length_le x (by omega) (by omega)
          have ly := Lib.itoa_length_le y (by omega) (by omega)
          have hlen : ((wordsL o f t ++ ((List.zipWith ext a s).take i).drop 1).map AV.str).length ≤ 1000010 := by simp; omega
          have hd : wordsL o f t ++ ((List.zipWith ext a s).take (i + 1)).drop 1 = (wordsL o f t ++ ((List.zipWith ext a s).take i).drop 1) ++ [ext x y] := by
            rw [hzt, List.drop_append_of_le_length (by simp; omega), List.append_assoc]
          obtain ⟨v3, H3, a3, o3, n3, k3⟩ := appendOut (bytes := 16) (x := .str (ext x y)) ho2 hn2 rfl (by omega) (by omega)
          simp (disch := first | omega | (simp; done) | assumption) [wr64, wrU8, wrU64, Nat.add_assoc, -getElem?_pos, List.getElem?_cons_zero, List.getElem?_cons_succ, t13, t3, t4, t14, hlt, hlt', hlts, hlts']
          refine Try.intro (by simpa using hld1) ?_
          simp (disch := first | omega | (simp; done) | assumption) [wr64, wrU8, wrU64, Nat.add_assoc, -getElem?_pos, List.getElem?_cons_zero, List.getElem?_cons_succ, t13, t3, t4, t14, hlt, hlt', hlts, hlts']
          refine Try.intro (by simpa using hld2) ?_
          simp (disch := first | omega | (simp; done) | assumption) [wr64, wrU8, wrU64, Nat.add_assoc, -getElem?_pos, List.getElem?_cons_zero, List.getElem?_cons_succ, t13, t3, t4, t14, hlt, hlt', hlts, hlts']
          refine CallW.val (itoaAny x _ (.inr ⟨by simpa using hP2, by omega, by omega⟩)) ?_
          refine ⟨?_, ?_⟩
          · intro r hr
            obtain rfl := List.mem_singleton.1 hr
            simp (disch := first | omega | (simp; done) | assumption) [wr64, wrU8, wrU64, Nat.add_assoc, -getElem?_pos, List.getElem?_cons_zero, List.getElem?_cons_succ, ]
            simpa using hld2
          simp (disch := first | omega | (simp; done) | assumption) [wr64, wrU8, wrU64, Nat.add_assoc, -getElem?_pos, List.getElem?_cons_zero, List.getElem?_cons_succ, t13, t3, t4, t14, hlt, hlt', hlts, hlts']
          refine Try.guard (by omega) ?_
          simp (disch := first | omega | (simp; done) | assumption) [wr64, wrU8, wrU64, Nat.add_assoc, -getElem?_pos, List.getElem?_cons_zero, List.getElem?_cons_succ, t13, t3, t4, t14, hlt, hlt', hlts, hlts']
          refine Try.guard (by omega) ?_
          simp (disch := first | omega | (simp; done) | assumption) [wr64, wrU8, wrU64, Nat.add_assoc, -getElem?_pos, List.getElem?_cons_zero, List.getElem?_cons_succ, t13, t3, t4, t14, hlt, hlt', hlts, hlts']
          refine CallW.val (itoaAny y _ (.inr ⟨by simpa using hP2, by omega, by omega⟩)) ?_
          simp (disch := first | omega | (simp; done) | assumption) [wr64, wrU8, wrU64, Nat.add_assoc, -getElem?_pos, List.getElem?_cons_zero, List.getElem?_cons_succ, t13, t3, t4, t14, hlt, hlt', hlts, hlts']
          refine Try.guard (by omega) ?_
          simp (disch := first | omega | (simp; done) | assumption) [wr64, wrU8, wrU64, Nat.add_assoc, -getElem?_pos, List.getElem?_cons_zero, List.getElem?_cons_succ, t13, t3, t4, t14, hlt, hlt', hlts, hlts']
          refine Try.intro a3 ?_
          simp (disch := first | omega | (simp; done) | assumption) [wr64, wrU8, wrU64, Nat.add_assoc, -getElem?_pos, List.getElem?_cons_zero, List.getElem?_cons_succ, t13, t3, t4, t14, hlt, hlt', hlts, hlts']
          refine ⟨a.length - (i + 1), by omega, (KBel.trans (B := H.next) (fun b o _ ho => ho) k3).keepsAll hk2 hok, by omega, i + 1, rfl, by omega, .inl (by omega), ?_, by simp [t3], by simp [t4], by simp⟩
          rw [hd, List.map_append]
          simpa using o3
        · have hlt' : ¬ (i : Int) < (a.length : Int) := by omega
          have hz : ((List.zipWith ext a s).take i).drop 1 = exts a s := by
            rw [List.take_of_length_le (by simp; omega)]
            rfl
          rw [hz] at ho2
          have ht1 := exts_tot hpa hps i
          rw [hz] at ht1
          have ht2 := words_tot o f t
          have ht3 : tot (allL o f t a s) ≤ 1000000000 := by unfold allL; rw [tot_append]; omega
          have hll3 : (allL o f t a s).length ≤ 1000000000 := by unfold allL exts; simp; omega
          simp (disch := first | omega | (simp; done) | assumption) [wr64, wrU8, wrU64, Nat.add_assoc, -getElem?_pos, List.getElem?_cons_zero, List.getElem?_cons_succ, t13, t3, t4, t14, hl1, hlt, hlt']
          refine CallW.val (Join (l := allL o f t a s) ho2.sl (by omega) hll3) ?_
          have hlo : joinW [32] (allL o f t a s) = lineOf o f t a s := rfl
          by_cases h400 : 400 < (lineOf o f t a s).length
          · have h400' : (400 : Int) < ((lineOf o f t a s).length : Int) := by omega
            have hc5 : codeOf o f t a s = 5 := by rw [hca, if_pos h400]
            simp (disch := first | omega | (simp; done) | assumption) [wr64, wrU8, wrU64, Nat.add_assoc, -getElem?_pos, List.getElem?_cons_zero, List.getElem?_cons_succ, hlo, h400, h400']
            refine CallW.of (ENewC _ _ (by decide) _) ?_
            rintro v5 H5 ⟨h1, h2, g, h3, h4, rfl, h5⟩
            try simp only [newO_none] at h1 h2
            simp (disch := first | omega | (simp; done) | assumption) [wr64, wrU8, wrU64, Nat.add_assoc, -getElem?_pos, List.getElem?_cons_zero, List.getElem?_cons_succ, ]
            refine ⟨fun x o hx => h1 x o (hk2 x o hx), by omega, _, [g], some 5, by rw [hc5]; rfl, h5, ?_, ?_, ?_, ?_, by simp⟩
            · rw [hc5]; simp [isV, h3, h4, lineB]
            · rw [hc5]; simp
            · rw [hc5]; intro n hn; cases hn; rfl
            · intro h; cases h
          · have h400' : ¬ (400 : Int) < ((lineOf o f t a s).length : Int) := by omega
            have hc0 : codeOf o f t a s = 0 := by rw [hca, if_neg h400]
            simp (disch := first | omega | (simp; done) | assumption) [wr64, wrU8, wrU64, Nat.add_assoc, -getElem?_pos, List.getElem?_cons_zero, List.getElem?_cons_succ, hlo, h400, h400']
            exact ⟨hk2, hn2, .nilIface, [], none, by rw [hc0]; rfl, .nil, by rw [hc0]; rfl, by rw [hc0]; simp, (fun n h => by cases h), fun _ => hc0, by simp⟩
  · have hll' : ¬ (a.length : Int) = (s.length : Int) := by omega
    have hc : codeOf o f t a s = 1 := by unfold codeOf; rw [if_pos (.inl hll)]
    simp (disch := first | omega | (simp; done) | assumption) [wr64, wrU8, wrU64, Nat.add_assoc, -getElem?_pos, List.getElem?_cons_zero, List.getElem?_cons_succ, ic10, rs10, hl1, hl2, hll, hll']
    refine CallW.of (ENewC _ _ (by decide) _) ?_
    rintro v1 H1 h1
    try simp only [newO_none] at h1
    simp (disch := first | omega | (simp; done) | assumption) [wr64, wrU8, wrU64, Nat.add_assoc, -getElem?_pos, List.getElem?_cons_zero, List.getElem?_cons_succ, ]
    exact bad hc v1 H1 h1
end Go.Proofs.YtiopaoclcafkcaaDoor.LBuild

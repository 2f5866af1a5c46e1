/- LineBounds. -/
import Derived.Test.YtiopaoclcafkcaaDoorLLaw1
import Derived.Test.YtiopaoclcafkcaaDoorSt
set_option linter.unusedVariables false
set_option linter.unusedSimpArgs false
set_option maxRecDepth 10000
set_option maxHeartbeats 4000000
namespace Go.Proofs.YtiopaoclcafkcaaDoor.LLaw2
open Go Go.RowKit Go.Proofs.YtiopaoclcafkcaaDoor Go.Proofs.YtiopaoclcafkcaaDoor.Abs Go.Proofs.YtiopaoclcafkcaaDoor.Ic Go.Proofs.YtiopaoclcafkcaaDoor.EAs Go.Proofs.YtiopaoclcafkcaaDoor.EErr Go.Proofs.YtiopaoclcafkcaaDoor.LPcs Go.Proofs.YtiopaoclcafkcaaDoor.LLib Go.Proofs.YtiopaoclcafkcaaDoor.LWords Go.Proofs.YtiopaoclcafkcaaDoor.LBuild Go.Proofs.YtiopaoclcafkcaaDoor.LRef Go.Proofs.YtiopaoclcafkcaaDoor.LLaw1
abbrev C : ICode := ic4
def ob (m : Nat) : List UInt8 := List.replicate m 111
def fillB (m i : Nat) : List AV := List.replicate i (.int .u8 111) ++ List.replicate (m - i) (.int .u8 0)
theorem fillB_set {m i : Nat} (h : i < m) : (fillB m i).set i (.int .u8 111) = fillB m (i + 1) := by
  unfold fillB
  rw [List.set_append_right _ _ (by simp)]
  obtain ⟨k, hk⟩ : ∃ k, m - i = k + 1 := ⟨m - i - 1, by omega⟩
  have hk2 : m - (i + 1) = k := by omega
  rw [hk, hk2, List.replicate_succ]
  simp [List.replicate_succ']
theorem fillB_full (m : Nat) : fillB m m = (ob m).map byteV := by
  unfold fillB ob
  simp
theorem ok_set' {H : AH} {b : Nat} {o : AObj} (h : H.ok) (hb : b < H.next) : (H.set b (some o)).ok := fun c q hc => by
  by_cases e : c = b
  · subst e; simpa using hb
  · rw [AH.set_ne H _ e] at hc; simpa using h c q hc
def BdI (n m : Nat) (t : Bool) (H : AH) (k : Nat) (tm : Tms) (H' : AH) : Prop := H.keepsAll H' ∧ H'.ok ∧ H'.next = H.next + 1 ∧ ∃ i : Nat, k = m - i ∧ i ≤ m ∧ H'.at_ H.next = some (.cells false 5 (fillB m i)) ∧ tm 0 = .int .i64 (n : Int) ∧ tm 1 = .bool t ∧ tm 6 = .slice H.next 0 m 1 ∧ tm 25 = .int .i64 (m : Int) ∧ tm 26 = .int .i64 (i : Int)
theorem bd_len (m : Nat) (t : Bool) (y : Int) (hm : m ≠ 0) : (lineOf (ob m) [101] t [0] [y]).length = m + 8 + (if t then 7 else 0) := by
  have h0 : ob m ≠ [] := by unfold ob; cases m with | zero => exact absurd rfl hm | succ k => simp [List.replicate_succ]
  have hz : exts [0] [y] = [] := rfl
  unfold lineOf allL
  rw [hz, List.append_nil, words_join, if_neg h0]
  cases t <;> simp [ob, entryB, tryingB]
theorem code_bd (m : Nat) (t : Bool) (hm : m ≠ 0) : codeOf (ob m) [101] t [0] [1] = if 400 < m + 8 + (if t then 7 else 0) then 5 else 0 := by
  unfold codeOf
  rw [if_neg (by decide), bd_len m t 1 hm]
theorem code_neg (m : Nat) (t : Bool) (x y : Int) (h : x < 0 ∨ y < 0) : codeOf (ob m) [101] t [x] [y] = 1 := by
  unfold codeOf
  rw [if_pos]
  rcases h with h | h
  · exact .inr (.inl (by simpa using h))
  · exact .inr (.inr (by simpa using h))
theorem law_num {e : AV} {r : Option Int} {c : Int} (h0 : c ≠ 0) (h1 : e = .nilIface ↔ c = 0) (h2 : ∀ n, r = some n → n = c) (h3 : r = none → c = 0) : lawNum e r = c := by
  cases r with
  | none => exact absurd (h3 rfl) h0
  | some n =>
    obtain rfl := h2 n rfl
    unfold lawNum
    cases e <;> first | rfl | (exact absurd (h1.1 rfl) h0)
abbrev two (H : AH) (x y : Int) : AH := (H.new (.cells false 3 [.int .i64 x])).new (.cells false 3 [.int .i64 y])
theorem two_keeps {H0 H : AH} (hok : H0.ok) (h : H0.keepsAll H) (hn : H0.next ≤ H.next) (x y : Int) : H0.keepsAll (two H x y) := keeps_new hok (keeps_new hok h hn) (by simp; omega)
theorem Build1 {o f : List UInt8} {t : Bool} {x y : Int} {H : AH} (ho : o.length ≤ 1000000) (hf : f.length ≤ 1000000) (hx : -9223372036854775808 ≤ x ∧ x ≤ 9223372036854775807) (hy : -9223372036854775808 ≤ y ∧ y ≤ 9223372036854775807) (hok : H.ok) (hP : H.at_ 2 = some powTab) :
    ACall Tryd.prog 10 [.str o, .str f, .bool t, .slice H.next 0 1 1, .slice (H.next + 1) 0 1 1] (two H x y) (BuildP o f t [x] [y] (two H x y)) :=
  Build (a := [x]) (s := [y]) (sl_own (ro := false) (t := 3) (l := [.int .i64 x]) (by simp) (by simp)) (sl_own (ro := false) (t := 3) (l := [.int .i64 y]) (by simp) (by simp)) ho hf (by simp) (by simp) (by simpa using hx) (by simpa using hy) (two_keeps hok (AH.keepsAll_refl _) (Nat.le_refl _) x y _ _ hP)
theorem Law (x : Int) (t : Bool) (H : AH) (hP : H.at_ 2 = some powTab) (hE : loadC H 0 0 none = some (rt tErr)) :
    ACall Tryd.prog 4 [.int .i64 x, .bool t] H (fun v H' => v = .bool true ∧ H' = H) := by
  refine acall_enter fits4 (by simp) (by simp) fun hok => ?_
  obtain ⟨k, hk, hk9⟩ : ∃ k : Nat, bits .and .i64 x 31 = (k : Int) ∧ k < 32 := ⟨(x % 32).toNat, by have := St.mask_i64 5 (by omega) x; simp at this; rw [this]; omega, by omega⟩
  obtain ⟨n, hn, hkn⟩ : ∃ n : Nat, n = k + 380 ∧ (k : Int) + 380 = (n : Int) := ⟨k + 380, rfl, by omega⟩
  obtain ⟨m, hm, hm1⟩ : ∃ m : Nat, m + 8 + (if t then 7 else 0) = n ∧ m ≠ 0 := ⟨n - 8 - (if t then 7 else 0), by split <;> omega, by split <;> omega⟩
  have cb := code_bd m t hm1
  have lb := bd_len m t 1 hm1
  change IWP Tryd.prog (.seq (part_ [0] C) (.seq (part_ [1, 0] C) (.seq (part_ [1, 1, 0] C) (.seq (part_ [1, 1, 1, 0] C) (part_ [1, 1, 1, 1] C))))) _ _ _
  generalize hX : part_ [1, 1, 1, 1] C = X
  have key : ∀ (tm : Tms) (hd : Nat), (n : Int) - (hd : Int) = (m : Int) → tm 0 = .int .i64 (n : Int) → tm 1 = .bool t → tm 5 = .int .i64 (hd : Int) → IWP Tryd.prog X (fnPost rs4 fun v H' => v = .bool true ∧ H.keepsAll H') tm H := by
    intro tm hd hsub t0 t1 t5
    rw [← hX]
    have hm9 : m ≤ 500 := by omega
    have g1 : (m : Int) ≤ 281474976710656 := by omega
    simp (disch := first | omega | (simp; done) | assumption) [wr64, wrU8, wrU64, Nat.add_assoc, -getElem?_pos, List.getElem?_cons_zero, List.getElem?_cons_succ, part_, C, ic4, t0, t1, t5, hsub, g1]
    have hz : List.replicate m (AV.int .u8 0) = fillB m 0 := by simp [fillB]
    rw [hz]
    have hnx := hok _ _ hP
    refine iwp_loop (BdI n m t H) m ⟨keeps_new hok (AH.keepsAll_refl _) (Nat.le_refl _), AH.ok_new hok, by simp, 0, rfl, by omega, by simp, by simp [t0], by simp [t1], by simp, by simp, by simp⟩ ?_
    clear t0 t1 t5
    rintro kk tm1 H1 ⟨hk1, hok1, hn1, i, rfl, hi, hat, t0, t1, t6, t25, t26⟩
    have hfl : (fillB m i).length = m := by simp [fillB]; omega
    by_cases hlt : i < m
    · have hlt' : (i : Int) < (m : Int) := by omega
      have hs := fillB_set hlt
      have g2 : i + 1 ≤ m := hlt
      simp (disch := first | omega | (simp; done) | assumption) [wr64, wrU8, wrU64, Nat.add_assoc, -getElem?_pos, List.getElem?_cons_zero, List.getElem?_cons_succ, t0, t1, t6, t25, t26, hlt, hlt', hat, hfl, hs, g2]
      exact ⟨m - (i + 1), by omega, keeps_set hok hk1 (Nat.le_refl _), ok_set' hok1 (by omega), by simpa using hn1, i + 1, rfl, by omega, by simp, by simp [t0], by simp [t1], by simp [t6], by simp [t25], by simp⟩
    · obtain rfl : i = m := by omega
      have hlt' : ¬ (i : Int) < (i : Int) := by omega
      rw [fillB_full] at hat
      have hol : ((ob i).map byteV).length = i := by simp [ob]
      have hob : (ob i).length = i := by simp [ob]
      have b1 := b2s_own (load_own hat hol) 1
      simp (disch := first | omega | (simp; done) | assumption) [wr64, wrU8, wrU64, Nat.add_assoc, -getElem?_pos, List.getElem?_cons_zero, List.getElem?_cons_succ, t0, t1, t6, t25, t26, hlt', b1]
      have hP1 := hk1 _ _ hP
      refine CallW.ofk (Build1 (o := ob i) (f := [101]) (t := t) (x := 0) (y := 1) (by omega) (by simp) (by simp) (by simp) hok1 hP1) ?_
      rintro v2 H2 ⟨hk2, hn2, e2, l2, r2, rfl, hc2, hi2, hz2, _, _⟩ hok2
      have hk02 : H.keepsAll H2 := fun x o hx => hk2 x o (two_keeps hok hk1 (by omega) 0 1 x o hx)
      have hE2 := loadC_keeps hk02 hE
      have hP2 := hk02 _ _ hP
      have hat2 := hk2 _ _ (two_keeps hok1 (AH.keepsAll_refl _) (Nat.le_refl _) 0 1 _ _ hat)
      have b2 := b2s_own (load_own hat2 hol) 1
      by_cases h4 : 400 < n
      · have h4' : (400 : Int) < (n : Int) := by omega
        have cb5 : codeOf (ob i) [101] t [0] [1] = 5 := by rw [cb, hm, if_pos h4]
        have hi2' : isV e2 l2 r2 [108, 105, 110, 101] [] 5 = true := by rw [← cb5]; exact hi2
        simp (disch := first | omega | (simp; done) | assumption) [wr64, wrU8, wrU64, Nat.add_assoc, -getElem?_pos, List.getElem?_cons_zero, List.getElem?_cons_succ, t0, t1, t6, cb5, h4, h4']
        refine CallW.val (ELawIs _ _ _ hE2 hc2) ?_
        simp (disch := first | omega | (simp; done) | assumption) [wr64, wrU8, wrU64, Nat.add_assoc, -getElem?_pos, List.getElem?_cons_zero, List.getElem?_cons_succ, hi2']
        refine CallW.val (Awake hP2) ?_
        simp (disch := first | omega | (simp; done) | assumption) [wr64, wrU8, wrU64, Nat.add_assoc, -getElem?_pos, List.getElem?_cons_zero, List.getElem?_cons_succ, rs4]
        exact hk02
      · have h4' : ¬ (400 : Int) < (n : Int) := by omega
        have cb0 : codeOf (ob i) [101] t [0] [1] = 0 := by rw [cb, hm, if_neg h4]
        obtain rfl := hz2.2 cb0
        have hn02 : H.next ≤ H2.next := by simp at hn2; omega
        have lb' : ((lineOf (ob i) [101] t [0] [1]).length : Int) = (n : Int) := by omega
        simp (disch := first | omega | (simp; done) | assumption) [wr64, wrU8, wrU64, Nat.add_assoc, -getElem?_pos, List.getElem?_cons_zero, List.getElem?_cons_succ, t0, t1, t6, cb0, h4, h4', b2]
        refine CallW.ofk (Build1 (o := ob i) (f := [101]) (t := t) (x := 0) (y := -1) (by omega) (by simp) (by simp) (by simp) hok2 hP2) ?_
        rintro v3 H3 ⟨hk3, hn3, e3, l3, r3, rfl, hc3, hi3, hz3, ha3, hb3⟩ hok3
        have hk03 : H.keepsAll H3 := fun x o hx => hk3 x o (two_keeps hok hk02 hn02 0 (-1) x o hx)
        have hat3 := hk3 _ _ (two_keeps hok2 (AH.keepsAll_refl _) (Nat.le_refl _) 0 (-1) _ _ hat2)
        have b3 := b2s_own (load_own hat3 hol) 1
        have hn03 : H.next ≤ H3.next := by simp at hn3; omega
        simp (disch := first | omega | (simp; done) | assumption) [wr64, wrU8, wrU64, Nat.add_assoc, -getElem?_pos, List.getElem?_cons_zero, List.getElem?_cons_succ, t0, t1, t6, b3]
        refine CallW.ofk (Build1 (o := ob i) (f := [101]) (t := t) (x := -1) (y := 0) (by omega) (by simp) (by simp) (by simp) hok3 (hk03 _ _ hP)) ?_
        rintro v4 H4 ⟨hk4, hn4, e4, l4, r4, rfl, hc4, hi4, hz4, ha4, hb4⟩ hok4
        have hk34 : H3.keepsAll H4 := fun x o hx => hk4 x o (two_keeps hok3 (AH.keepsAll_refl _) (Nat.le_refl _) (-1) 0 x o hx)
        have hk04 : H.keepsAll H4 := fun x o hx => hk34 x o (hk03 x o hx)
        have cn1 := code_neg i t 0 (-1) (.inr (by decide))
        have cn2 := code_neg i t (-1) 0 (.inl (by decide))
        rw [cn1] at hz3 ha3 hb3
        rw [cn2] at hz4 ha4 hb4
        have ln1 := law_num (by decide) hz3 ha3 hb3.1
        have ln2 := law_num (by decide) hz4 ha4 hb4.1
        have hE4 := loadC_keeps hk04 hE
        simp (disch := first | omega | (simp; done) | assumption) [wr64, wrU8, wrU64, Nat.add_assoc, -getElem?_pos, List.getElem?_cons_zero, List.getElem?_cons_succ, t0, t1, t6, lb']
        refine CallW.val (ELawNum hE4 (hc3.keeps hk34)) ?_
        simp (disch := first | omega | (simp; done) | assumption) [wr64, wrU8, wrU64, Nat.add_assoc, -getElem?_pos, List.getElem?_cons_zero, List.getElem?_cons_succ, ln1]
        refine CallW.val (ELawNum hE4 hc4) ?_
        simp (disch := first | omega | (simp; done) | assumption) [wr64, wrU8, wrU64, Nat.add_assoc, -getElem?_pos, List.getElem?_cons_zero, List.getElem?_cons_succ, ln2]
        refine CallW.val (Awake (hk04 _ _ hP)) ?_
        simp (disch := first | omega | (simp; done) | assumption) [wr64, wrU8, wrU64, Nat.add_assoc, -getElem?_pos, List.getElem?_cons_zero, List.getElem?_cons_succ, rs4]
        exact hk04
  cases t
  · simp (disch := first | omega | (simp; done) | assumption) [wr64, wrU8, wrU64, Nat.add_assoc, -getElem?_pos, List.getElem?_cons_zero, List.getElem?_cons_succ, part_, C, ic4, hk, hkn]
    exact key _ 8 (by simp at hm; omega) (by simp) (by simp) (by simp)
  · simp (disch := first | omega | (simp; done) | assumption) [wr64, wrU8, wrU64, Nat.add_assoc, -getElem?_pos, List.getElem?_cons_zero, List.getElem?_cons_succ, part_, C, ic4, hk, hkn]
    exact key _ 15 (by simp at hm; omega) (by simp) (by simp) (by simp)
theorem LineBounds.walk (a0 : Int) (a1 : Bool) (W : World) (hsh : W.ShapedOpen Tryd.prog) (hG : ELaid.G W) (_ : (Lit.int .i64 a0).wf = true) :
    Calls Tryd.prog 4 #[.int .i64 a0, .bool a1] W fun e W' => e = .returned (.bool true) ∧ Below W.heap.size W W' :=
  ELaid.walk hsh hG (Law a0 a1 _ (ELaid.H1_pow W) (ELaid.H1_err W)) (.cons (.int ..) (.cons (.bool _) .nil))
end Go.Proofs.YtiopaoclcafkcaaDoor.LLaw2

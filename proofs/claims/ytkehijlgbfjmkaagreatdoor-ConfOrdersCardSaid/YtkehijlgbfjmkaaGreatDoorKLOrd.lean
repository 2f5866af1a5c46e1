/- ConfOrders, the plain part: the lines of an entry in another order, with remarks between them. No condition. -/
import Derived.Test.YtkehijlgbfjmkaaGreatDoorKPlain
set_option linter.unusedVariables false
set_option linter.unusedSimpArgs false
set_option maxRecDepth 10000
set_option maxHeartbeats 4000000
namespace Go.Proofs.YtkehijlgbfjmkaaGreatDoor.KW
open Go Go.RowKit Go.Proofs.YtkehijlgbfjmkaaGreatDoor Go.Proofs.YtkehijlgbfjmkaaGreatDoor.Abs Go.Proofs.YtkehijlgbfjmkaaGreatDoor.Ic Go.Proofs.YtkehijlgbfjmkaaGreatDoor.St Go.Proofs.YtkehijlgbfjmkaaGreatDoor.EAs Go.Proofs.YtkehijlgbfjmkaaGreatDoor.EErr
def rmL : List UInt8 := [35, 32, 97, 32, 114, 101, 109, 97, 114, 107]
def fxE (e : En) : List (List UInt8) := verL e :: kerL e :: if e.op = [] then [] else [oplL e]
def nE (e : En) : Nat := if e.op = [] then 2 else 3
theorem fxE_len (e : En) : (fxE e).length = nE e := by unfold fxE nE; split <;> rfl
/-- Whether a fixed line is among the first j that were put down. -/
def plc (n t : Nat) : Nat → Nat → Bool
  | 0, _ => false
  | j + 1, x => plc n t j x || decide ((j + t) % n = x)
theorem plc_no {n t j : Nat} (hn : n = 2 ∨ n = 3) (hj : j < n) : ∀ j', j' ≤ j → plc n t j' ((j + t) % n) = false
  | 0, _ => rfl
  | j' + 1, h => by
    unfold plc
    rw [plc_no hn hj j' (by omega), Bool.false_or, decide_eq_false_iff_not]
    rcases hn with rfl | rfl <;> omega
theorem plc_all {n t x : Nat} (hn : n = 2 ∨ n = 3) (hx : x < n) : plc n t n x = true := by
  rcases hn with rfl | rfl
  · simp [plc]; omega
  · simp [plc]; omega
theorem plc_big {n t x : Nat} (hn : n = 2 ∨ n = 3) (hx : n ≤ x) : ∀ j, plc n t j x = false
  | 0 => rfl
  | j + 1 => by
    unfold plc
    rw [plc_big hn hx j, Bool.false_or, decide_eq_false_iff_not]
    rcases hn with rfl | rfl <;> omega
theorem nE_or (e : En) : nE e = 2 ∨ nE e = 3 := by unfold nE; split <;> simp
def stE (e : En) (t j k : Nat) : En :=
  { ver := if plc (nE e) t j 0 then e.ver else [], kn := if plc (nE e) t j 1 then e.kn else [], ks := if plc (nE e) t j 1 then e.ks else [], ex := e.ex.take k, op := if plc (nE e) t j 2 then e.op else [] }
theorem stE_zero (e : En) (t : Nat) : stE e t 0 0 = e0 := by simp [stE, plc, e0]
theorem stE_end (e : En) (t : Nat) : stE e t (nE e) e.ex.length = e := by
  have h0 : plc (nE e) t (nE e) 0 = true := plc_all (nE_or e) (by unfold nE; split <;> omega)
  have h1 : plc (nE e) t (nE e) 1 = true := plc_all (nE_or e) (by unfold nE; split <;> omega)
  obtain ⟨a, b, c, d, f⟩ := e
  by_cases ho : f = []
  · subst ho
    simp [stE, h0, h1]
  · have h2 : plc (nE ⟨a, b, c, d, f⟩) t (nE ⟨a, b, c, d, f⟩) 2 = true := plc_all (nE_or _) (by simp [nE, ho])
    simp [stE, h0, h1, h2]
theorem fx_step {e : En} (h : OkP e) (t j k : Nat) (hj : j < nE e) : lineE (stE e t j k) ((fxE e).getD ((j + t) % nE e) []) = some (stE e t (j + 1) k) := by
  have hno := plc_no (t := t) (nE_or e) hj j (Nat.le_refl _)
  have hs : ∀ x, plc (nE e) t (j + 1) x = (plc (nE e) t j x || decide ((j + t) % nE e = x)) := fun x => rfl
  have hlt : (j + t) % nE e < nE e := Nat.mod_lt _ (by rcases nE_or e with h | h <;> omega)
  generalize hi : (j + t) % nE e = i at *
  have hop : i = 2 → e.op ≠ [] := fun hi2 ho => by simp [nE, ho] at hlt; omega
  have h3 : i < 3 := by rcases nE_or e with h | h <;> omega
  match i, h3 with
  | 0, _ =>
    have : (fxE e).getD 0 [] = wVer ++ 32 :: e.ver := rfl
    rw [this, lineE_ver (by simp [stE, hno]) h.ver]
    simp [stE, hs]
  | 1, _ =>
    have : (fxE e).getD 1 [] = wKer ++ 32 :: ((e.kn, e.ks).1 ++ 32 :: (e.kn, e.ks).2) := rfl
    rw [this, lineE_ker (by simp [stE, hno]) h.k]
    simp [stE, hs]
  | 2, _ =>
    have hne := hop rfl
    have : (fxE e).getD 2 [] = wOpt ++ 32 :: e.op := by simp [fxE, hne, oplL]
    rw [this, lineE_op (by simp [stE, hno]) hne h.op]
    simp [stE, hs]
/-- The lines behind i steps, and how many extra ones are among them. -/
def oSt (e : En) (g q : Nat → Bool) (t : Nat) : Nat → List (List UInt8) × Nat
  | 0 => ([], 0)
  | i + 1 =>
    let r := oSt e g q t i
    let a := r.1 ++ (if g i = true then [[], rmL] else [])
    if (q i = true ∧ r.2 < e.ex.length) ∨ nE e ≤ i - r.2 then (a ++ [extL (e.ex.getD r.2 ([], []))], r.2 + 1) else (a ++ [(fxE e).getD ((i - r.2 + t) % nE e) []], r.2)
def oTx (e : En) (g q : Nat → Bool) (t i : Nat) : List UInt8 := (oSt e g q t i).1.flatMap (· ++ [10])
structure OJ (e : En) (t i : Nat) (L : List (List UInt8)) (k : Nat) : Prop where
  ki : k ≤ i
  km : k ≤ e.ex.length
  jn : i - k ≤ nE e
  par : ∀ ls, ∃ c, parseL e0 0 (L ++ ls) = parseL (stE e t (i - k) k) c ls
  no : ∀ l ∈ L, (10 : UInt8) ∉ l
  len : (L.flatMap (· ++ [10])).length ≤ 12 * i + 60 * k + 210 * (i - k)
theorem fx_no {e : En} (h : OkP e) : ∀ i, (10 : UInt8) ∉ (fxE e).getD i [] ∧ ((fxE e).getD i []).length ≤ 209 ∧ (i < nE e → skipL ((fxE e).getD i []) = false) := fun i => by
  have h1 := ver_no h.ver
  have h2 := bok_no h.k
  have h3 := op_no h.op
  have l1 := verOk_len h.ver
  have l2 := bOk_len h.k
  have l3 := optOk_len h.op
  match i with
  | 0 => exact ⟨by simp [fxE, verL, wVer]; exact h1.1, by simp [fxE, verL, wVer]; omega, fun _ => skip_no (w := wVer) (by decide) (by decide)⟩
  | 1 => exact ⟨by simp [fxE, kerL, wKer]; exact ⟨h2.1, h2.2.2.1⟩, by simp [fxE, kerL, wKer]; simp at l2; omega, fun _ => skip_no (w := wKer) (by decide) (by decide)⟩
  | 2 =>
    by_cases ho : e.op = []
    · exact ⟨by simp [fxE, ho], by simp [fxE, ho], fun hlt => by simp [nE, ho] at hlt⟩
    · have : (fxE e).getD 2 [] = wOpt ++ 32 :: e.op := by simp [fxE, ho, oplL]
      rw [this]
      exact ⟨by simp [wOpt]; exact h3, by simp [wOpt]; omega, fun _ => skip_no (w := wOpt) (by decide) (by decide)⟩
  | i + 3 =>
    have : (fxE e).getD (i + 3) [] = [] := by unfold fxE; split <;> rfl
    rw [this]
    exact ⟨by simp, by simp, fun hlt => by rcases nE_or e with h | h <;> omega⟩
theorem gap_par {e : En} {c : Nat} (b : Bool) (ls : List (List UInt8)) : ∃ c', parseL e c ((if b = true then [[], rmL] else []) ++ ls) = parseL e c' ls := by
  cases b
  · exact ⟨c, rfl⟩
  · refine ⟨c + 1 + 1, ?_⟩
    rw [if_pos rfl, List.cons_append, List.cons_append, List.nil_append, parseL, if_pos (by decide), parseL, if_pos (by decide)]
theorem oJ_step {e : En} (h : OkP e) (g q : Nat → Bool) (t i : Nat) (hi : i < nE e + e.ex.length) (hJ : OJ e t i (oSt e g q t i).1 (oSt e g q t i).2) : OJ e t (i + 1) (oSt e g q t (i + 1)).1 (oSt e g q t (i + 1)).2 := by
  obtain ⟨j1, j2, j3, j4, j5, j6⟩ := hJ
  have hst : oSt e g q t (i + 1) = if (q i = true ∧ (oSt e g q t i).2 < e.ex.length) ∨ nE e ≤ i - (oSt e g q t i).2 then ((oSt e g q t i).1 ++ (if g i = true then [[], rmL] else []) ++ [extL (e.ex.getD (oSt e g q t i).2 ([], []))], (oSt e g q t i).2 + 1) else ((oSt e g q t i).1 ++ (if g i = true then [[], rmL] else []) ++ [(fxE e).getD ((i - (oSt e g q t i).2 + t) % nE e) []], (oSt e g q t i).2) := rfl
  have hg : (10 : UInt8) ∉ rmL := by decide
  have hgn : ∀ l ∈ (if g i = true then [[], rmL] else []), (10 : UInt8) ∉ l := fun l hl => by
    split at hl
    · simp at hl; rcases hl with rfl | rfl
      · simp
      · exact hg
    · simp at hl
  have hgl : ((if g i = true then [[], rmL] else []).flatMap (· ++ [(10 : UInt8)])).length ≤ 12 := by split <;> simp [rmL]
  generalize hkk : (oSt e g q t i).2 = k at *
  generalize (oSt e g q t i).1 = L at *
  generalize oSt e g q t (i + 1) = S at *
  by_cases hc : (q i = true ∧ k < e.ex.length) ∨ nE e ≤ i - k
  · rw [if_pos hc] at hst
    have hkm : k < e.ex.length := by
      rcases hc with hc | hc
      · exact hc.2
      · omega
    have hge : e.ex.getD k ([], []) = e.ex[k] := by rw [List.getD_eq_getElem?_getD, List.getElem?_eq_getElem hkm]; rfl
    have hb := h.ex _ (List.getElem_mem hkm)
    have hbn := bok_no hb
    have hbl := bOk_len hb
    have hn8 := h.n
    subst hst
    have hx : i + 1 - (k + 1) = i - k := by omega
    refine ⟨by show k + 1 ≤ i + 1; omega, hkm, by show i + 1 - (k + 1) ≤ nE e; omega, fun ls => ?_, fun l hl => ?_, ?_⟩
    · obtain ⟨c, hc⟩ := j4 ((if g i = true then [[], rmL] else []) ++ (extL (e.ex.getD k ([], [])) :: ls))
      obtain ⟨c', hc'⟩ := gap_par (e := stE e t (i - k) k) (c := c) (g i) (extL (e.ex.getD k ([], [])) :: ls)
      refine ⟨c' + 1, ?_⟩
      dsimp only
      rw [show L ++ (if g i = true then [[], rmL] else []) ++ [extL (e.ex.getD k ([], []))] ++ ls = L ++ ((if g i = true then [[], rmL] else []) ++ (extL (e.ex.getD k ([], [])) :: ls)) by simp, hc, hc', hge, hx, parseL, if_neg (by rw [extL, skip_no (by decide) (by decide)]; simp), extL, lineE_ext (by simp [stE]; omega) hb]
      simp only []
      congr 1
      simp only [stE]
      rw [List.take_add_one, List.getElem?_eq_getElem hkm]
      rfl
    · dsimp only at hl
      rcases List.mem_append.1 hl with hl | hl
      · rcases List.mem_append.1 hl with hl | hl
        · exact j5 l hl
        · exact hgn l hl
      · obtain rfl := List.mem_singleton.1 hl
        rw [hge]; unfold extL wExt; simp; exact ⟨hbn.1, hbn.2.2.1⟩
    · dsimp only
      rw [List.flatMap_append, List.flatMap_append, hge, List.length_append, List.length_append]
      have : ([extL e.ex[k]].flatMap (· ++ [(10 : UInt8)])).length ≤ 52 := by simp [extL, wExt]; omega
      omega
  · rw [if_neg hc] at hst
    have hjn : i - k < nE e := by omega
    obtain ⟨f1, f2, f3⟩ := fx_no h ((i - k + t) % nE e)
    have hfs := fx_step h t (i - k) k hjn
    have f4 := f3 (Nat.mod_lt _ (by omega))
    generalize (fxE e).getD ((i - k + t) % nE e) [] = F at *
    subst hst
    have hx : i + 1 - k = i - k + 1 := by omega
    refine ⟨by show k ≤ i + 1; omega, j2, by show i + 1 - k ≤ nE e; omega, fun ls => ?_, fun l hl => ?_, ?_⟩
    · obtain ⟨c, hc⟩ := j4 ((if g i = true then [[], rmL] else []) ++ (F :: ls))
      obtain ⟨c', hc'⟩ := gap_par (e := stE e t (i - k) k) (c := c) (g i) (F :: ls)
      refine ⟨c' + 1, ?_⟩
      dsimp only
      rw [show L ++ (if g i = true then [[], rmL] else []) ++ [F] ++ ls = L ++ ((if g i = true then [[], rmL] else []) ++ (F :: ls)) by simp, hc, hc', hx, parseL, if_neg (by rw [f4]; simp), hfs]
    · dsimp only at hl
      rcases List.mem_append.1 hl with hl | hl
      · rcases List.mem_append.1 hl with hl | hl
        · exact j5 l hl
        · exact hgn l hl
      · obtain rfl := List.mem_singleton.1 hl
        exact f1
    · dsimp only
      rw [List.flatMap_append, List.flatMap_append, List.length_append, List.length_append]
      have : ([F].flatMap (· ++ [(10 : UInt8)])).length ≤ 210 := by simp; omega
      omega
theorem oJ {e : En} (h : OkP e) (g q : Nat → Bool) (t : Nat) : ∀ i, i ≤ nE e + e.ex.length → OJ e t i (oSt e g q t i).1 (oSt e g q t i).2
  | 0, _ => ⟨Nat.le_refl _, Nat.zero_le _, Nat.zero_le _, fun ls => ⟨0, by show parseL e0 0 ls = parseL (stE e t 0 0) 0 ls; rw [stE_zero]⟩, fun l hl => by rw [show oSt e g q t 0 = ([], 0) from rfl] at hl; simp at hl, by simp [oSt]⟩
  | i + 1, hi => oJ_step h g q t i (by omega) (oJ h g q t i (by omega))
theorem oTx_len {e : En} (h : OkP e) (g q : Nat → Bool) (t i : Nat) (hi : i ≤ nE e + e.ex.length) : (oTx e g q t i).length ≤ 1300 := by
  obtain ⟨j1, j2, j3, j4, j5, j6⟩ := oJ h g q t i hi
  have := h.n
  unfold oTx
  rcases nE_or e with h | h <;> omega
theorem oTx_parse {e : En} (h : OkP e) (g q : Nat → Bool) (t : Nat) : parseS (oTx e g q t (nE e + e.ex.length)) = (0, 0, e) := by
  have hl := oTx_len h g q t _ (Nat.le_refl _)
  obtain ⟨j1, j2, j3, j4, j5, j6⟩ := oJ h g q t (nE e + e.ex.length) (Nat.le_refl _)
  have hk : (oSt e g q t (nE e + e.ex.length)).2 = e.ex.length := by omega
  obtain ⟨c, hc⟩ := j4 [[]]
  rw [hk, Nat.add_sub_cancel, stE_end, parseL, if_pos (by decide), parseL] at hc
  unfold parseS
  rw [if_neg (by omega), oTx, pcs_lines _ j5, hc]
  have hv := ver_no h.ver
  have hkk := bok_no h.k
  simp only []
  rw [if_neg (fun c => c.elim hv.2.2 hkk.2.2.2)]
end Go.Proofs.YtkehijlgbfjmkaaGreatDoor.KW

/- What fault.Text answers. -/
import Derived.Test.YtpmlaaoideeafaaDoorEBld
import Derived.Lib.ItoaMem
import Derived.Lib.ItoaLen
import Derived.Lib.SmallJoins
import Derived.Lib.AppendIntMem
set_option linter.unusedVariables false
set_option linter.unusedSimpArgs false
set_option maxRecDepth 10000
set_option maxHeartbeats 4000000
namespace Go.Proofs.YtpmlaaoideeafaaDoor.EErr
open Go Go.RowKit Go.Proofs.YtpmlaaoideeafaaDoor Go.Proofs.YtpmlaaoideeafaaDoor.Abs Go.Proofs.YtpmlaaoideeafaaDoor.Ic Go.Proofs.YtpmlaaoideeafaaDoor.EAs
/-! ### Numbers -/
theorem belowN (w : World) (n : Nat) : Below w.heap.size w (w.drewN n) := ⟨rfl, rfl, rfl, Nat.le_refl _, fun _ _ => rfl⟩
open Go.Lib Go.Sort in
theorem below_grow {w W : World} (h : Below w.heap.size w W) (os : Array Obj) : Below w.heap.size w (grow W os) := by
  have h2 := Lib.below_grow w.heap.size W h.size 0 os
  exact h.trans h2
def powTab : AObj := .cells true 102 (Lib.pow10Tab.map fun z => .int .u64 z)
theorem tab_of {j : Inj} {H : AH} {w : World} (hr : Rel Tryd.prog j H w) (h : H.at_ 1 = some powTab) : Lib.TabIs Tryd.prog w "internal/strconv.uint64pow10" .u64 Lib.pow10Tab := by
  obtain ⟨c, x, hc, hx, ho⟩ := hr.obj 1 _ h
  have hg := hr.glob 1 (of_decide_eq_true (by kernel_rfl))
  have hz : gsz Tryd.prog 1 = 20 := by kernel_rfl
  rw [hg, hz] at hc
  have e1 : c = 1 := by injection hc with e; injection e with e _; exact e.symm
  have e2 : csize x = 20 := by injection hc with e; injection e with _ e; exact e.symm
  subst e1
  have hn : Tryd.prog.globalNamed "internal/strconv.uint64pow10" = some 1 := by kernel_rfl
  cases x with
  | cells cs t fz =>
    simp only [powTab, ORel] at ho
    unfold Lib.TabIs World.var?
    rw [hn, Option.bind_some, hx]
    simp only [csize] at e2
    refine congrArg some ?_
    apply Array.ext
    · rw [e2]; simp; rfl
    · intro i h1 h2
      have hi : i < Lib.pow10Tab.length := by simpa using h2
      have := ho.2.2.1 i (.int .u64 Lib.pow10Tab[i]) cs[i] (by simp [hi]) (Array.getElem?_eq_getElem h1)
      generalize hv : cs[i] = y at this
      cases this
      simp
  | _ => simp only [powTab, ORel] at ho
/-- Either the number is small, or the table of tens is there. -/
def ItoaOk (H : AH) (n : Int) : Prop := (∃ i : Nat, i < 100 ∧ n = (i : Int)) ∨ (H.at_ 1 = some powTab ∧ -9223372036854775808 ≤ n ∧ n ≤ 9223372036854775807)
theorem ItoaOk.keeps {H H' : AH} {n : Int} (hk : H.keepsAll H') (h : ItoaOk H n) : ItoaOk H' n := by
  rcases h with h | ⟨h1, h2⟩
  · exact .inl h
  · exact .inr ⟨hk _ _ h1, h2⟩
theorem itoa (n : Int) (H : AH) (h : ItoaOk H n) : ACall Tryd.prog 28 [.int .i64 n] H fun v H' => v = .str (Lib.itoa n) ∧ H' = H := by
  refine acall_lib (by kernel_rfl) fun j w cargs hr hv => ?_
  obtain ⟨c1, rfl, h2⟩ := hv.int1
  obtain rfl := h2.nil_right
  rcases h with ⟨i, hi, rfl⟩ | ⟨ht, h0, h1⟩
  · refine ⟨_, .str' _, (Tryd.strconv_Itoa_small i hi w).mono ?_⟩
    rintro e w' ⟨rfl, rfl⟩
    rw [Lib.itoa_nonneg]
    exact ⟨rfl, Below.refl _ _⟩
  · refine ⟨_, .str' _, (Tryd.strconv_Itoa n h0 h1 w (tab_of hr ht)).mono ?_⟩
    rintro e w' ⟨rfl, k, os, rfl⟩
    exact ⟨rfl, below_grow (belowN w k) os⟩
def errS (n : Int) : List UInt8 := [101, 114, 114, 111, 114, 32] ++ Lib.itoa n
theorem itoa_len {H : AH} {n : Int} (h : ItoaOk H n) : (Lib.itoa n).length ≤ 21 := by
  rcases h with ⟨i, hi, rfl⟩ | ⟨_, h0, h1⟩
  · exact Lib.itoa_length_le (i : Int) (by omega) (by omega)
  · exact Lib.itoa_length_le _ h0 h1
theorem EError (n : Int) (H : AH) (h : ItoaOk H n) : ACall Tryd.prog 21 [.int .i64 n] H fun v H' => v = .str (errS n) ∧ H' = H := by
  refine acall_enter fits21 (by simp) (by simp) fun hok => ?_
  have hl := itoa_len h
  simp (disch := first | omega | (simp; done) | assumption) [wr64, wrU8, wrU64, Nat.add_assoc, -getElem?_pos, List.getElem?_cons_zero, List.getElem?_cons_succ, ic21, rs21]
  refine CallW.val (itoa n _ h) ?_
  simp (disch := first | omega | (simp; done) | assumption) [wr64, wrU8, wrU64, Nat.add_assoc, -getElem?_pos, List.getElem?_cons_zero, List.getElem?_cons_succ, ]
  refine Try.guard (by omega) ?_
  simp (disch := first | omega | (simp; done) | assumption) [wr64, wrU8, wrU64, Nat.add_assoc, -getElem?_pos, List.getElem?_cons_zero, List.getElem?_cons_succ, errS]
  exact AH.keepsAll_refl _
/-! ### Texts -/
def headOf (f : Fl) : List UInt8 := f.op ++ ((if f.name = [] then [] else 32 :: f.name) ++ [58, 32])
def txt : List Fl → List UInt8
  | [] => []
  | f :: l => headOf f ++ txt l
theorem txt_append (l m : List Fl) : txt (l ++ m) = txt l ++ txt m := by
  induction l with
  | nil => rfl
  | cons f l ih => simp [txt, ih]
theorem txt_take_le (l : List Fl) (i : Nat) : (txt (l.take i)).length ≤ (txt l).length := by
  have := txt_append (l.take i) (l.drop i)
  rw [List.take_append_drop] at this
  rw [this, List.length_append]
  omega
def TxI (b q : Nat) (e : AV) (l : List Fl) (H2 : AH) (k : Nat) (tm : Tms) (H' : AH) : Prop :=
  KB H2.next b H2 H' ∧ H2.next ≤ H'.next ∧ ∃ i, k = l.length - i ∧ i ≤ l.length ∧ BS H2.next H' b (txt (l.take i)) ∧ tm 0 = e ∧ tm 3 = .ptr b 0 ∧ tm 9 = .slice q 0 l.length 1 ∧ tm 10 = .int .i64 (l.length : Int) ∧ tm 11 = .int .i64 (i : Int)
theorem EText {e : AV} {l : List Fl} {r : Option Int} {H : AH} (hE : loadC H 0 0 none = some (rt tErr)) (h : Chain H e l r) (hl0 : l ≠ []) (hl : l.length ≤ 100) (hsz : (txt l).length ≤ 1000000000000) (hi : ItoaOk H (numOf e r)) :
    ACall Tryd.prog 18 [e] H (fun v H' => v = .str (txt l ++ errS (numOf e r)) ∧ H' = H) := by
  refine acall_enter fits18 (by simp) (by simp) fun hok => ?_
  obtain ⟨f0, l0, rfl⟩ : ∃ f0 l0, l = f0 :: l0 := by cases l with | nil => exact absurd rfl hl0 | cons a b => exact ⟨a, b, rfl⟩
  have he := (chain_live h).1
  subst he
  generalize hlq : f0 :: l0 = l at *
  have hk0 : H.keepsAll (H.new (.cells false tB [.pnil, .snil])) := keeps_new hok (AH.keepsAll_refl _) (Nat.le_refl _)
  simp (disch := first | omega | (simp; done) | assumption) [wr64, wrU8, wrU64, Nat.add_assoc, -getElem?_pos, List.getElem?_cons_zero, List.getElem?_cons_succ, ic18, rs18]
  refine CallW.ofk (Faults 100 (by omega) (h.keeps hk0) (by omega)) ?_
  rintro fs H2 ⟨hk, hn, ho⟩ hok2
  simp only [newO_none, newO_some] at hk hn ho
  rw [List.take_of_length_le hl] at ho
  have hkH : H.keepsAll H2 := fun x o hx => hk x o (hk0 x o hx)
  rcases ho with ⟨h0, rfl⟩ | ⟨q, rfl, hq1, hq2, hq3, hq4⟩
  · exact absurd (by simpa using h0) hl0
  have hml : (l.map fp).length = l.length := by simp
  simp at hn hq3
  have hbat : H2.at_ H.next = some (.cells false tB [.pnil, .snil]) := hk _ _ (by simp)
  rw [hml]
  simp (disch := first | omega | (simp; done) | assumption) [wr64, wrU8, wrU64, Nat.add_assoc, -getElem?_pos, List.getElem?_cons_zero, List.getElem?_cons_succ, ]
  refine iwp_loop (TxI H.next q (.iface 43 (.ptr f0.b 0)) l H2) l.length ⟨fun x o _ _ ho => ho, Nat.le_refl _, 0, rfl, by omega, ⟨by omega, Nat.le_refl _, .pnil, .snil, hbat, .inl rfl, .inl ⟨rfl, rfl⟩⟩, by simp, by simp, by simp, by simp, by simp⟩ ?_
  rintro k tm H3 ⟨hkb, hn3, i, rfl, hi3, hbs, t0, t3, t9, t10, t11⟩
  have hKB : ∀ H' : AH, KB H2.next H.next H2 H' → H.keepsAll H' := fun H' hkb x o hx => hkb x o (hok2 _ _ (hkH _ _ hx)) (by have := hok _ _ hx; omega) (hkH _ _ hx)
  by_cases hlt : i < l.length
  · have hq5 : H3.at_ q = some (.cells false 43 (l.map fp)) := hkb q _ hq4 (by omega) hq2
    have hld : loadC H3 q i none = some (.ptr l[i].b 0) := by unfold loadC; rw [hq5]; simp [hlt]
    have hg := h.get i hlt
    have hop := loadC_keeps (hKB _ hkb) hg.1
    have hsz1 := txt_take_le l (i + 1)
    have htk : txt (l.take (i + 1)) = txt (l.take i) ++ headOf l[i] := by rw [List.take_succ_eq_append_getElem hlt, txt_append]; simp [txt]
    rw [htk] at hsz1
    simp only [headOf, List.length_append] at hsz1
    simp only [loadC] at hld hop
    simp (disch := first | omega | (simp; done) | assumption) [wr64, wrU8, wrU64, Nat.add_assoc, -getElem?_pos, List.getElem?_cons_zero, List.getElem?_cons_succ, t0, t3, t9, t10, t11, hlt]
    refine Try.intro hld ?_
    simp (disch := first | omega | (simp; done) | assumption) [wr64, wrU8, wrU64, Nat.add_assoc, -getElem?_pos, List.getElem?_cons_zero, List.getElem?_cons_succ, t0, t3, t9, t10, t11]
    refine Try.intro hop ?_
    simp (disch := first | omega | (simp; done) | assumption) [wr64, wrU8, wrU64, Nat.add_assoc, -getElem?_pos, List.getElem?_cons_zero, List.getElem?_cons_succ, t0, t3, t9, t10, t11]
    refine CallW.of (WriteString hbs (by omega)) ?_
    rintro v H4 ⟨hb4, hk4, hn4⟩
    have hkb4 := hkb.trans hk4
    have hnm := loadC_keeps (hKB _ hkb4) hg.2
    simp only [loadC] at hnm
    simp (disch := first | omega | (simp; done) | assumption) [wr64, wrU8, wrU64, Nat.add_assoc, -getElem?_pos, List.getElem?_cons_zero, List.getElem?_cons_succ, t0, t3, t9, t10, t11]
    refine Try.intro hnm ?_
    by_cases hne : l[i].name = []
    · simp (disch := first | omega | (simp; done) | assumption) [wr64, wrU8, wrU64, Nat.add_assoc, -getElem?_pos, List.getElem?_cons_zero, List.getElem?_cons_succ, t0, t3, t9, t10, t11, hne]
      refine CallW.of (WriteString hb4 (by simp [hne] at hsz1; simp; omega)) ?_
      rintro v5 H5 ⟨hb5, hk5, hn5⟩
      simp (disch := first | omega | (simp; done) | assumption) [wr64, wrU8, wrU64, Nat.add_assoc, -getElem?_pos, List.getElem?_cons_zero, List.getElem?_cons_succ, t0, t3, t9, t10, t11]
      simp only [newO_none] at hn5 hn4 hk5 hk4
      refine ⟨l.length - (i + 1), by omega, hkb4.trans hk5, by omega, i + 1, rfl, by omega, ?_, by simp [t0], by simp [t3], by simp [t9], by simp [t10], by simp⟩
      rw [htk]
      simpa [headOf, hne] using hb5
    · simp (disch := first | omega | (simp; done) | assumption) [wr64, wrU8, wrU64, Nat.add_assoc, -getElem?_pos, List.getElem?_cons_zero, List.getElem?_cons_succ, t0, t3, t9, t10, t11, hne]
      refine Try.intro hnm ?_
      simp (disch := first | omega | (simp; done) | assumption) [wr64, wrU8, wrU64, Nat.add_assoc, -getElem?_pos, List.getElem?_cons_zero, List.getElem?_cons_succ, t0, t3, t9, t10, t11]
      refine Try.guard (by simp [hne] at hsz1; omega) ?_
      simp (disch := first | omega | (simp; done) | assumption) [wr64, wrU8, wrU64, Nat.add_assoc, -getElem?_pos, List.getElem?_cons_zero, List.getElem?_cons_succ, t0, t3, t9, t10, t11]
      refine CallW.of (WriteString hb4 (by simp [hne] at hsz1; simp; omega)) ?_
      rintro v5 H5 ⟨hb5, hk5, hn5⟩
      simp (disch := first | omega | (simp; done) | assumption) [wr64, wrU8, wrU64, Nat.add_assoc, -getElem?_pos, List.getElem?_cons_zero, List.getElem?_cons_succ, t0, t3, t9, t10, t11]
      refine CallW.of (WriteString hb5 (by simp [hne] at hsz1; simp; omega)) ?_
      rintro v6 H6 ⟨hb6, hk6, hn6⟩
      simp (disch := first | omega | (simp; done) | assumption) [wr64, wrU8, wrU64, Nat.add_assoc, -getElem?_pos, List.getElem?_cons_zero, List.getElem?_cons_succ, t0, t3, t9, t10, t11]
      simp only [newO_none] at hn5 hn4 hk5 hk4 hn6 hk6
      refine ⟨l.length - (i + 1), by omega, (hkb4.trans hk5).trans hk6, by omega, i + 1, rfl, by omega, ?_, by simp [t0], by simp [t3], by simp [t9], by simp [t10], by simp⟩
      rw [htk]
      simpa [headOf, hne] using hb6
  · obtain rfl : i = l.length := by omega
    rw [List.take_length] at hbs
    have htne : txt l ≠ [] := by
      rw [← hlq]
      simp [txt, headOf]
    simp (disch := first | omega | (simp; done) | assumption) [wr64, wrU8, wrU64, Nat.add_assoc, -getElem?_pos, List.getElem?_cons_zero, List.getElem?_cons_succ, t0, t3, t9, t10, t11]
    refine CallW.of (BString hbs htne (by omega)) ?_
    rintro v H4 ⟨rfl, hk4, hn4⟩
    have hkk := hKB _ (hkb.trans hk4)
    simp (disch := first | omega | (simp; done) | assumption) [wr64, wrU8, wrU64, Nat.add_assoc, -getElem?_pos, List.getElem?_cons_zero, List.getElem?_cons_succ, t0, t3, t9, t10, t11]
    refine CallW.val (ENum (loadC_keeps hkk hE) (h.keeps hkk)) ?_
    simp (disch := first | omega | (simp; done) | assumption) [wr64, wrU8, wrU64, Nat.add_assoc, -getElem?_pos, List.getElem?_cons_zero, List.getElem?_cons_succ, t0, t3, t9, t10, t11]
    refine CallW.val (EError _ _ (hi.keeps hkk)) ?_
    simp (disch := first | omega | (simp; done) | assumption) [wr64, wrU8, wrU64, Nat.add_assoc, -getElem?_pos, List.getElem?_cons_zero, List.getElem?_cons_succ, t0, t3, t9, t10, t11]
    have hel : (errS (numOf (.iface 43 (.ptr f0.b 0)) r)).length ≤ 27 := by
      have := itoa_len hi
      unfold errS
      simp only [List.length_append, List.length_cons, List.length_nil]
      omega
    refine Try.guard (by omega) ?_
    simp (disch := first | omega | (simp; done) | assumption) [wr64, wrU8, wrU64, Nat.add_assoc, -getElem?_pos, List.getElem?_cons_zero, List.getElem?_cons_succ, ]
    exact hkk
end Go.Proofs.YtpmlaaoideeafaaDoor.EErr

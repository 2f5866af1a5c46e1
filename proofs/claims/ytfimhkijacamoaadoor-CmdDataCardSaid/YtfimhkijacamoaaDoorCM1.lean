/- Numbers, words and kinds of commands. -/
import Derived.Test.YtfimhkijacamoaaDoorCSpec
import Derived.Test.YtfimhkijacamoaaDoorCLaid
import Derived.Test.YtfimhkijacamoaaDoorDNum
import Derived.Test.YtfimhkijacamoaaDoorShelf
import Derived.Test.YtfimhkijacamoaaDoorA24
import Derived.Test.YtfimhkijacamoaaDoorLLib
set_option linter.unusedVariables false
set_option linter.unusedSimpArgs false
set_option maxRecDepth 10000
set_option maxHeartbeats 4000000
namespace Go.Proofs.YtfimhkijacamoaaDoor.CNumb
open Go Go.RowKit Go.Proofs.YtfimhkijacamoaaDoor Go.Proofs.YtfimhkijacamoaaDoor.Abs Go.Proofs.YtfimhkijacamoaaDoor.Ic Go.Proofs.YtfimhkijacamoaaDoor.EAs Go.Proofs.YtfimhkijacamoaaDoor.EErr Go.Proofs.YtfimhkijacamoaaDoor.CSpec
theorem tup2 {j : Inj} {a b : AV} {x y : Value} (h1 : VR j a x) (h2 : VR j b y) : VR j (.tuple [a, b]) (.tuple #[x, y]) := .tuple_list (.cons h1 (.cons h2 .nil))
def numN (s : List UInt8) : Int := match Lib.atoiAll s with
  | .ok v => v
  | .range => Lib.atoiSat s
  | _ => 0
def errOf (s : List UInt8) (e : AV) : Prop := match Lib.atoiAll s with
  | .ok _ => e = .nilIface
  | _ => ∃ t g, e = .iface t (.hdl g 0)
theorem cell_of {j : Inj} {H : AH} {w : World} {g : Nat} {t t1 : TypeId} {v : AV} (hr : Rel Tryd.prog j H w) (hg : g < Tryd.prog.globals.size) (h : H.at_ g = some (.cells true t [.iface t1 v])) : ∃ x, w.cell? ⟨g, 0, none⟩ = some (.iface t1 x) := by
  obtain ⟨c, x, hc, hx, ho⟩ := hr.obj g _ h
  rw [hr.glob g hg] at hc
  obtain rfl : g = c := by injection hc with e; injection e with e _
  cases x with
  | cells cs t fz =>
    simp only [ORel] at ho
    have h1 : 0 < cs.size := by have := ho.2.1; simp at this; omega
    have := ho.2.2.1 0 (.iface t1 v) cs[0] rfl (Array.getElem?_eq_getElem h1)
    generalize hv : cs[0] = y at this
    obtain ⟨x, rfl, _⟩ := this.iface_inv
    refine ⟨x, ?_⟩
    unfold World.cell?
    simp only [hx]
    simp only [Option.isSome_none, Bool.false_eq_true, if_false]
    rw [Array.getElem?_eq_getElem h1, hv]
  | _ => simp only [ORel] at ho
theorem Atoi (s : List UInt8) (H : AH) (hs : s.length ≤ 281474976710656) (hG : CLaid.Ok H) : ACall Tryd.prog 64 [.str s] H (fun v H' => H' = H ∧ ∃ e, v = .tuple [.int .i64 (numN s), e] ∧ errOf s e) := by
  refine ⟨by kernel_rfl, fun j w cargs hr hv => ?_⟩
  obtain ⟨l⟩ := cargs
  obtain ⟨c1, rfl, h2⟩ := VRs.str1 hv
  obtain rfl := h2.nil_right
  rcases h : Lib.atoiAll s with v | _ | _
  ·
    refine (Tryd.strconv_Atoi_ok ⟨s.toArray⟩ (by show s.length ≤ _; omega) v h w).mono ?_
    rintro e w' ⟨rfl, hw⟩
    have hb : Below w.heap.size w w' := by
      rcases hw with rfl | ⟨t, rfl⟩
      · exact Below.refl _ _
      · exact Lib.bytesWorld_below _ _ _
    exact ⟨.tuple [.int .i64 v, .nilIface], _, j, H, rfl, ⟨rfl, .nilIface, by simp [numN, h], by simp [errOf, h]⟩, Post.below hr hb, tup2 (.int _ _) .nilIface⟩
  ·
    obtain ⟨t, v, e⟩ := hG.syn
    obtain ⟨x, hx⟩ := cell_of hr (of_decide_eq_true (by kernel_rfl)) e
    refine (Any.strconv_Atoi_syntax Tryd.laysC172 ⟨s.toArray⟩ (by show s.length ≤ _; omega) h _ w hx (.inr ⟨_, _, rfl⟩)).mono ?_
    rintro e w' ⟨N, rfl, _, _, hb⟩
    exact ⟨.tuple [.int .i64 0, .iface 123 (.hdl N 0)], _, j, H, rfl, ⟨rfl, _, by simp [numN, h]; rfl, by simp only [errOf, h]; exact ⟨_, _, rfl⟩⟩, Post.below hr hb, tup2 (.int _ _) (.iface .hdl)⟩
  ·
    obtain ⟨t, v, e⟩ := hG.ran
    obtain ⟨x, hx⟩ := cell_of hr (of_decide_eq_true (by kernel_rfl)) e
    refine (Tryd.strconv_Atoi_range ⟨s.toArray⟩ (by show s.length ≤ _; omega) h _ w hx (.inr ⟨_, _, rfl⟩)).mono ?_
    rintro e w' ⟨N, rfl, _, _, hb⟩
    exact ⟨.tuple [.int .i64 (Lib.atoiSat s), .iface 123 (.hdl N 0)], _, j, H, rfl, ⟨rfl, _, by simp [numN, h]; rfl, by simp only [errOf, h]; exact ⟨_, _, rfl⟩⟩, Post.below hr hb, tup2 (.int _ _) (.iface .hdl)⟩
theorem atoi_bounds {s : List UInt8} {v : Int} (h : Lib.atoiAll s = .ok v) : -9223372036854775808 ≤ v ∧ v ≤ 9223372036854775807 := by
  have := Lib.atoiAll_bounds h
  omega
theorem Number (s : List UInt8) (H : AH) (hs : s.length ≤ 281474976710656) (hG : CLaid.Ok H) : ACall Tryd.prog 51 [.str s] H (fun v H' => v = .tuple [.int .i64 (numN s), .bool (numB s)] ∧ H' = H) := by
  refine acall_enter fits51 (by simp) (by simp) fun hok => ?_
  simp (disch := first | omega | (simp; done) | assumption) [wr64, wrU8, wrU64, Nat.add_assoc, -getElem?_pos, List.getElem?_cons_zero, List.getElem?_cons_succ, ic51, rs51]
  refine CallW.of (Atoi s _ hs hG) ?_
  rintro v H2 ⟨rfl, e, rfl, he⟩
  have none' : numB s = true → ∃ v, Lib.atoiAll s = .ok v := fun h => ⟨_, atoi_num h⟩
  unfold errOf at he
  rcases h : Lib.atoiAll s with v | _ | _
  ·
    have hn : numN s = v := by simp [numN, h]
    obtain ⟨b0, b1⟩ := atoi_bounds h
    simp only [h] at he
    subst he
    by_cases q1 : 0 ≤ v
    · by_cases q2 : s.length ≤ 6
      · have q2' : (s.length : Int) ≤ 6 := by omega
        have key : (Lib.itoa v = s) = (numB s = true) := propext ⟨fun e => num_of_itoa q1 q2 e, fun e => by
          have := atoi_num e
          rw [h] at this
          injection this with this
          rw [this]
          exact itoa_num e⟩
        simp (disch := first | omega | (simp; done) | assumption) [wr64, wrU8, wrU64, Nat.add_assoc, -getElem?_pos, List.getElem?_cons_zero, List.getElem?_cons_succ, hn, q1, q2, q2']
        refine CallW.val (itoaAny v _ (.inr ⟨hG.pow, by omega, by omega⟩)) ?_
        simp (disch := first | omega | (simp; done) | assumption) [wr64, wrU8, wrU64, Nat.add_assoc, -getElem?_pos, List.getElem?_cons_zero, List.getElem?_cons_succ, hn, q1, q2, q2', key]
        exact AH.keepsAll_refl _
      · have q2' : ¬ (s.length : Int) ≤ 6 := by omega
        have hb : numB s = false := by simp [numB, q2]
        simp (disch := first | omega | (simp; done) | assumption) [wr64, wrU8, wrU64, Nat.add_assoc, -getElem?_pos, List.getElem?_cons_zero, List.getElem?_cons_succ, hn, q1, q2, q2', hb]
        exact AH.keepsAll_refl _
    · have hb : numB s = false := by
        cases hb : numB s with
        | false => rfl
        | true =>
          have := atoi_num hb
          rw [h] at this
          injection this with this
          omega
      simp (disch := first | omega | (simp; done) | assumption) [wr64, wrU8, wrU64, Nat.add_assoc, -getElem?_pos, List.getElem?_cons_zero, List.getElem?_cons_succ, hn, q1, hb]
      exact AH.keepsAll_refl _
  ·
    have hb : numB s = false := by
      cases hb : numB s with
      | false => rfl
      | true => obtain ⟨v, e⟩ := none' hb; rw [h] at e; cases e
    simp only [h] at he
    obtain ⟨t, g, rfl⟩ := he
    simp (disch := first | omega | (simp; done) | assumption) [wr64, wrU8, wrU64, Nat.add_assoc, -getElem?_pos, List.getElem?_cons_zero, List.getElem?_cons_succ, hb]
    exact AH.keepsAll_refl _
  ·
    have hb : numB s = false := by
      cases hb : numB s with
      | false => rfl
      | true => obtain ⟨v, e⟩ := none' hb; rw [h] at e; cases e
    simp only [h] at he
    obtain ⟨t, g, rfl⟩ := he
    simp (disch := first | omega | (simp; done) | assumption) [wr64, wrU8, wrU64, Nat.add_assoc, -getElem?_pos, List.getElem?_cons_zero, List.getElem?_cons_succ, hb]
    exact AH.keepsAll_refl _
end Go.Proofs.YtfimhkijacamoaaDoor.CNumb
set_option linter.unusedVariables false
set_option linter.unusedSimpArgs false
set_option maxRecDepth 10000
set_option maxHeartbeats 4000000
namespace Go.Proofs.YtfimhkijacamoaaDoor.CNumb
open Go Go.RowKit Go.Proofs.YtfimhkijacamoaaDoor Go.Proofs.YtfimhkijacamoaaDoor.Abs Go.Proofs.YtfimhkijacamoaaDoor.Ic Go.Proofs.YtfimhkijacamoaaDoor.EAs Go.Proofs.YtfimhkijacamoaaDoor.EErr Go.Proofs.YtfimhkijacamoaaDoor.CSpec Go.Proofs.YtfimhkijacamoaaDoor.LPcs Go.Proofs.YtfimhkijacamoaaDoor.LLib
theorem all_succ {l : List UInt8} {p : UInt8 → Bool} {i : Nat} (h : i < l.length) : (l.take (i + 1)).all p = ((l.take i).all p && p l[i]) := by
  rw [← List.take_append_getElem h, List.all_append]; simp
theorem all_split {l : List UInt8} {p : UInt8 → Bool} {i : Nat} (h : i < l.length) (hf : p l[i] = false) : l.all p = false := by
  rw [List.all_eq_false]
  exact ⟨l[i], List.getElem_mem h, by simp [hf]⟩
theorem numV_lt {l : List UInt8} (h : l.all digB = true) : numV l < 10 ^ l.length := by
  have : ∀ (l : List UInt8) (acc k : Nat), l.all digB = true → acc < 10 ^ k → l.foldl stepV acc < 10 ^ (k + l.length) := by
    intro l
    induction l with
    | nil => intro acc k _ h; simpa using h
    | cons c l ih =>
      intro acc k h ha
      simp only [List.all_cons, Bool.and_eq_true] at h
      have hc := digB_iff.1 h.1
      have hp2 : 10 ^ (k + 1) = 10 * 10 ^ k := by rw [Nat.pow_succ, Nat.mul_comm]
      have := ih (stepV acc c) (k + 1) h.2 (by unfold stepV; omega)
      rw [List.foldl_cons, List.length_cons, show k + (l.length + 1) = k + 1 + l.length by omega]
      exact this
  have := this l 0 0 h (by omega)
  unfold numV
  simpa using this
theorem numV_lt6 {l : List UInt8} (h : l.all digB = true) (hl : l.length ≤ 6) : numV l < 1000000 := by
  have h1 := numV_lt h
  have h2 : (10 : Nat) ^ l.length ≤ 10 ^ 6 := Nat.pow_le_pow_right (by omega) hl
  have h3 : (10 : Nat) ^ 6 = 1000000 := by decide
  omega
def RnM (s : List UInt8) (H : AH) (tm : Tms) (H' : AH) : Prop := H' = H ∧ tm 0 = .str s ∧ tm 4 = .int .i64 0
def RnI (s : List UInt8) (H : AH) (k : Nat) (tm : Tms) (H' : AH) : Prop := H' = H ∧ ∃ i : Nat, k = s.length - i ∧ i ≤ s.length ∧ (s.take i).all digB = true ∧ tm 0 = .str s ∧ tm 4 = .int .i64 (numV (s.take i) : Int) ∧ tm 5 = .int .i64 (i : Int)
theorem c48 (c : UInt8) : ((c.toNat : Int) = 48) = (c = 48) := by
  refine propext ⟨fun h => ?_, fun h => by rw [h]; rfl⟩
  have : c.toNat = (48 : UInt8).toNat := by have : (48 : UInt8).toNat = 48 := rfl; omega
  exact UInt8.toNat_inj.1 this
/-! ### Texts -/
def TxI (s : List UInt8) (H : AH) (k : Nat) (tm : Tms) (H' : AH) : Prop := H' = H ∧ ∃ i : Nat, k = s.length - i ∧ i ≤ s.length ∧ (s.take i).all chB = true ∧ tm 0 = .str s ∧ tm 12 = .int .i64 (s.length : Int) ∧ tm 13 = .int .i64 (i : Int)
theorem TextW (s : List UInt8) (H : AH) (hs : s.length ≤ 281474976710656) : ACall Tryd.prog 50 [.str s] H (fun v H' => v = .bool (txtB s) ∧ H' = H) := by
  refine acall_enter fits50 (by simp) (by simp) fun hok => ?_
  by_cases h0 : s = []
  · subst h0
    simp (disch := first | omega | (simp; done) | assumption) [wr64, wrU8, wrU64, Nat.add_assoc, -getElem?_pos, List.getElem?_cons_zero, List.getElem?_cons_succ, ic50, rs50]
    exact ⟨rfl, AH.keepsAll_refl _⟩
  by_cases h6 : 100 < s.length
  · have h6' : (100 : Int) < (s.length : Int) := by omega
    have hb : txtB s = false := by simp [txtB]; omega
    simp (disch := first | omega | (simp; done) | assumption) [wr64, wrU8, wrU64, Nat.add_assoc, -getElem?_pos, List.getElem?_cons_zero, List.getElem?_cons_succ, ic50, rs50, h0, h6, h6', hb]
    exact AH.keepsAll_refl _
  have h6' : ¬ (100 : Int) < (s.length : Int) := by omega
  simp (disch := first | omega | (simp; done) | assumption) [wr64, wrU8, wrU64, Nat.add_assoc, -getElem?_pos, List.getElem?_cons_zero, List.getElem?_cons_succ, ic50, rs50, h0, h6, h6']
  refine iwp_loop (TxI s H) s.length ⟨rfl, 0, rfl, by omega, rfl, by simp, by simp, by simp⟩ ?_
  rintro k tm H ⟨rfl, i, rfl, hi, hall, t0, t12, t13⟩
  by_cases hlt : i < s.length
  · have hlt' : (i : Int) < (s.length : Int) := by omega
    have hc : s[i]? = some s[i] := List.getElem?_eq_getElem hlt
    have hs1 := all_succ (p := chB) hlt
    have hbad : chB s[i] = false → txtB s = false := fun h => by unfold txtB; rw [all_split hlt h]; simp
    rw [hall, Bool.true_and] at hs1
    generalize s[i] = c at *
    by_cases q1 : c.toNat < 33
    · have q1' : (c.toNat : Int) < 33 := by omega
      have hb := hbad (by simp [chB]; omega)
      simp (disch := first | omega | (simp; done) | assumption) [wr64, wrU8, wrU64, Nat.add_assoc, -getElem?_pos, List.getElem?_cons_zero, List.getElem?_cons_succ, t0, t12, t13, hlt, hlt', hc, q1, q1', hb]
      exact AH.keepsAll_refl _
    have q1' : ¬ (c.toNat : Int) < 33 := by omega
    by_cases q2 : 126 < c.toNat
    · have q2' : (126 : Int) < (c.toNat : Int) := by omega
      have hb := hbad (by simp [chB]; omega)
      simp (disch := first | omega | (simp; done) | assumption) [wr64, wrU8, wrU64, Nat.add_assoc, -getElem?_pos, List.getElem?_cons_zero, List.getElem?_cons_succ, t0, t12, t13, hlt, hlt', hc, q1, q1', q2, q2', hb]
      exact AH.keepsAll_refl _
    have q2' : ¬ (126 : Int) < (c.toNat : Int) := by omega
    have hd : chB c = true := by simp [chB]; omega
    rw [hd] at hs1
    simp (disch := first | omega | (simp; done) | assumption) [wr64, wrU8, wrU64, Nat.add_assoc, -getElem?_pos, List.getElem?_cons_zero, List.getElem?_cons_succ, t0, t12, t13, hlt, hlt', hc, q1, q1', q2, q2']
    exact ⟨s.length - (i + 1), by omega, rfl, i + 1, rfl, by omega, hs1, by simp [t0], by simp [t12], by simp⟩
  · have hlt' : ¬ (i : Int) < (s.length : Int) := by omega
    rw [List.take_of_length_le (by omega)] at hall
    have hb : txtB s = true := by unfold txtB; rw [hall]; simp [h0]; omega
    simp (disch := first | omega | (simp; done) | assumption) [wr64, wrU8, wrU64, Nat.add_assoc, -getElem?_pos, List.getElem?_cons_zero, List.getElem?_cons_succ, t0, t12, t13, hlt, hlt', hb]
    exact AH.keepsAll_refl _
def RtI (s : List UInt8) (H : AH) (k : Nat) (tm : Tms) (H' : AH) : Prop := H' = H ∧ ∃ i : Nat, k = s.length - i ∧ i ≤ s.length ∧ (s.take i).all chB = true ∧ tm 0 = .str s ∧ tm 3 = .int .i64 (i : Int)
end Go.Proofs.YtfimhkijacamoaaDoor.CNumb
set_option linter.unusedVariables false
set_option linter.unusedSimpArgs false
set_option maxRecDepth 10000
set_option maxHeartbeats 4000000
namespace Go.Proofs.YtfimhkijacamoaaDoor.CNumb
open Go Go.RowKit Go.Proofs.YtfimhkijacamoaaDoor Go.Proofs.YtfimhkijacamoaaDoor.Abs Go.Proofs.YtfimhkijacamoaaDoor.Ic Go.Proofs.YtfimhkijacamoaaDoor.EAs Go.Proofs.YtfimhkijacamoaaDoor.EErr Go.Proofs.YtfimhkijacamoaaDoor.CSpec Go.Proofs.YtfimhkijacamoaaDoor.LPcs Go.Proofs.YtfimhkijacamoaaDoor.LLib
def tri (r : List UInt8 × Nat × Nat) : List AV := [.str r.1, .int .i64 (r.2.1 : Int), .int .i64 (r.2.2 : Int)]
def flat : List AV := ((([], 0, 0) : List UInt8 × Nat × Nat) :: tab).flatMap tri
theorem flat_part : ∀ k, k < 27 → Abs.part flat (k * 3) (some 3) = some (.agg (tri (row k)))
  | 0, _ => rfl
  | 1, _ => rfl
  | 2, _ => rfl
  | 3, _ => rfl
  | 4, _ => rfl
  | 5, _ => rfl
  | 6, _ => rfl
  | 7, _ => rfl
  | 8, _ => rfl
  | 9, _ => rfl
  | 10, _ => rfl
  | 11, _ => rfl
  | 12, _ => rfl
  | 13, _ => rfl
  | 14, _ => rfl
  | 15, _ => rfl
  | 16, _ => rfl
  | 17, _ => rfl
  | 18, _ => rfl
  | 19, _ => rfl
  | 20, _ => rfl
  | 21, _ => rfl
  | 22, _ => rfl
  | 23, _ => rfl
  | 24, _ => rfl
  | 25, _ => rfl
  | 26, _ => rfl
  | k + 27, h => absurd h (by omega)
theorem flat_len : flat.length = 81 := rfl
theorem flat_take (k : Nat) (h : k < 27) : (flat.drop (k * 3)).take 3 = tri (row k) := by
  have := flat_part k h
  unfold Abs.part at this
  rw [flat_len] at this
  simp only at this
  rw [if_pos (by omega)] at this
  injection this with this
  injection this
theorem flat_load {H : AH} {b : Nat} {t : TypeId} {ro : Bool} (h : H.at_ b = some (.cells ro t flat)) (k : Nat) (hk : k < 27) : loadC H b (k * 3) (some 3) = some (.agg (tri (row k))) := by
  unfold loadC
  rw [h]
  exact flat_part k hk
theorem Shapes (H : AH) : ACall Tryd.prog 37 [] H (fun v H' => v = .agg flat ∧ H' = H) := by
  refine acall_enter fits37 (by simp) (by simp [flat, tri, tab]) fun hok => ?_
  simp (disch := first | omega | (simp; done) | assumption) [wr64, wrU8, wrU64, Nat.add_assoc, -getElem?_pos, List.getElem?_cons_zero, List.getElem?_cons_succ, ic37, rs37]
  refine ⟨rfl, ?_⟩
  ((repeat (first | exact AH.keepsAll_refl _ | refine keeps_set hok ?_ (by first | omega | (simp; done) | (simp; omega)) | refine keeps_new hok ?_ (by first | omega | (simp; done) | (simp; omega)))); done)
theorem kind_found {w : List UInt8} {i : Nat} (h0 : 0 < i) (h1 : i < 27) (h2 : (row i).1 = w) (h3 : ∀ j, 0 < j → j < i → (row j).1 ≠ w) : kindOf w = i := by
  have hr : ∀ j, (hj : j < 26) → (row (j + 1)).1 = (tab[j]'(by rw [tab_len]; exact hj)).1 := fun j hj => by
    unfold row
    rw [List.getD_cons_succ, List.getD_eq_getElem?_getD, List.getElem?_eq_getElem (by rw [tab_len]; exact hj)]
    rfl
  have : tab.findIdx? (fun r => r.1 == w) = some (i - 1) := by
    rw [List.findIdx?_eq_some_iff_getElem]
    refine ⟨by rw [tab_len]; omega, ?_, fun j hj => ?_⟩
    · rw [← hr (i - 1) (by omega), show i - 1 + 1 = i by omega, h2]; simp
    · rw [← hr j (by omega)]
      have := h3 (j + 1) (by omega) (by omega)
      simpa using this
  unfold kindOf
  rw [this]
  simp only
  omega
theorem kind_none {w : List UInt8} (h : ∀ j, 0 < j → j < 27 → (row j).1 ≠ w) : kindOf w = 0 := by
  have : tab.findIdx? (fun r => r.1 == w) = none := by
    rw [List.findIdx?_eq_none_iff]
    intro x hx
    obtain ⟨j, hj, rfl⟩ := List.mem_iff_getElem.1 hx
    rw [tab_len] at hj
    have := h (j + 1) (by omega) (by omega)
    unfold row at this
    rw [List.getD_cons_succ, List.getD_eq_getElem?_getD, List.getElem?_eq_getElem (by rw [tab_len]; exact hj)] at this
    simpa using this
  unfold kindOf
  rw [this]
def KdI (w : List UInt8) (H : AH) (k : Nat) (tm : Tms) (H' : AH) : Prop := H.keepsAll H' ∧ H.next ≤ H'.next ∧ ∃ i : Nat, k = 27 - i ∧ i ≤ 27 ∧ (∀ j, 0 < j → j < i → (row j).1 ≠ w) ∧ tm 0 = .str w ∧ tm 5 = .agg flat ∧ tm 6 = .int .i64 (i : Int)
theorem Kind (w : List UInt8) (H : AH) : ACall Tryd.prog 49 [.str w] H (fun v H' => v = .int .i64 (kindOf w : Int) ∧ H' = H) := by
  refine acall_enter fits49 (by simp) (by simp) fun hok => ?_
  simp (disch := first | omega | (simp; done) | assumption) [wr64, wrU8, wrU64, Nat.add_assoc, -getElem?_pos, List.getElem?_cons_zero, List.getElem?_cons_succ, ic49, rs49]
  refine CallW.val (Shapes _) ?_
  simp (disch := first | omega | (simp; done) | assumption) [wr64, wrU8, wrU64, Nat.add_assoc, -getElem?_pos, List.getElem?_cons_zero, List.getElem?_cons_succ, ]
  refine iwp_loop (KdI w H) 27 ⟨AH.keepsAll_refl _, Nat.le_refl _, 0, rfl, by omega, fun j h1 h2 => by omega, by simp, by simp, by simp⟩ ?_
  rintro k tm H1 ⟨hk, hn, i, rfl, hi, hw, t0, t5, t6⟩
  by_cases hlt : i < 27
  · have hlt' : (i : Int) < 27 := by omega
    have hp := flat_take i hlt
    have hle : i * 3 + 3 ≤ flat.length := by rw [flat_len]; omega
    generalize hr : row i = r at *
    by_cases h0 : 0 < i
    · have h0' : (0 : Int) < (i : Int) := by omega
      by_cases hw1 : r.1 = w
      · have hk1 := kind_found h0 hlt (by rw [hr]; exact hw1) hw
        simp (disch := first | omega | (simp; done) | assumption) [wr64, wrU8, wrU64, Nat.add_assoc, -getElem?_pos, List.getElem?_cons_zero, List.getElem?_cons_succ, t0, t5, t6, hlt, hlt', hp, hle, tri, h0, h0', hw1, hk1]
        ((repeat (first | exact hk | refine keeps_set hok ?_ (by first | omega | (simp; done) | (simp; omega)) | refine keeps_new hok ?_ (by first | omega | (simp; done) | (simp; omega)))); done)
      · simp (disch := first | omega | (simp; done) | assumption) [wr64, wrU8, wrU64, Nat.add_assoc, -getElem?_pos, List.getElem?_cons_zero, List.getElem?_cons_succ, t0, t5, t6, hlt, hlt', hp, hle, tri, h0, h0', hw1]
        refine ⟨27 - (i + 1), by omega, ?_, by simp; omega, i + 1, rfl, by omega, fun j h1 h2 => ?_, by simp [t0], by simp [t5], by simp⟩
        · ((repeat (first | exact hk | refine keeps_set hok ?_ (by first | omega | (simp; done) | (simp; omega)) | refine keeps_new hok ?_ (by first | omega | (simp; done) | (simp; omega)))); done)
        · by_cases e : j = i
          · subst e; rw [hr]; exact hw1
          · exact hw j h1 (by omega)
    · obtain rfl : i = 0 := by omega
      have hp0 : flat.take 3 = tri r := by simpa using hp
      have hle0 : 3 ≤ flat.length := by omega
      simp (disch := first | omega | (simp; done) | assumption) [wr64, wrU8, wrU64, Nat.add_assoc, -getElem?_pos, List.getElem?_cons_zero, List.getElem?_cons_succ, t0, t5, t6, hlt, hlt', hp0, hle0, tri]
      refine ⟨27 - 1, by omega, ?_, by simp; omega, 1, rfl, by omega, fun j h1 h2 => by omega, by simp [t0], by simp [t5], by simp⟩
      ((repeat (first | exact hk | refine keeps_set hok ?_ (by first | omega | (simp; done) | (simp; omega)) | refine keeps_new hok ?_ (by first | omega | (simp; done) | (simp; omega)))); done)
  · have hlt' : ¬ (i : Int) < 27 := by omega
    have hi' : i = 27 := by omega
    have hz := kind_none (w := w) fun j h1 h2 => hw j h1 (by omega)
    simp (disch := first | omega | (simp; done) | assumption) [wr64, wrU8, wrU64, Nat.add_assoc, -getElem?_pos, List.getElem?_cons_zero, List.getElem?_cons_succ, t0, t5, t6, hlt, hlt', hz]
    exact hk
/-! ### The document's rows and words -/
def names : List (List UInt8) := tab.map (·.1)
def forms : List (List UInt8) := (List.range 26).map fun i => form (i + 1)
def RowsP (H : AH) (v : AV) (H' : AH) : Prop := H.keepsAll H' ∧ H.next ≤ H'.next ∧ ∃ q1 q2, v = .tuple [.slice q1 0 26 1, .slice q2 0 26 1] ∧ OwnT H' q1 names ∧ OwnT H' q2 forms ∧ H.next ≤ q1 ∧ q1 < H'.next ∧ H.next ≤ q2 ∧ q2 < H'.next
theorem Split (s : List UInt8) (q : UInt8) (hs : s.length ≤ 1000000000) (H : AH) : ACall Tryd.prog 36 [.str s, .str [q]] H (SplitP (pcs q s) H) := by
  refine acall_of fits36 (by simp) ?_
  simp (disch := first | omega | (simp; done) | assumption) [wr64, wrU8, wrU64, Nat.add_assoc, -getElem?_pos, List.getElem?_cons_zero, List.getElem?_cons_succ, ic36, rs36]
  refine CallW.of (GenSplit s q hs _) ?_
  rintro v H1 h
  simp only [newO_none] at h
  simp (disch := first | omega | (simp; done) | assumption) [wr64, wrU8, wrU64, Nat.add_assoc, -getElem?_pos, List.getElem?_cons_zero, List.getElem?_cons_succ, ]
  exact h
def RwI (s : List UInt8) (H : AH) (k : Nat) (tm : Tms) (H' : AH) : Prop := H.keepsAll H' ∧ H.next ≤ H'.next ∧ ∃ (i : Nat) (done : List (List UInt8)) (w : List UInt8), k = s.length - i ∧ i ≤ s.length ∧ pcs 32 s = done ++ pcs 32 (w ++ s.drop i) ∧ 32 ∉ w ∧ w.length ≤ i ∧ done.length ≤ i ∧ OutS H.next H' 9 (tm 3) (done.map AV.str) ∧ tm 0 = .str s ∧ tm 4 = .str w ∧ tm 5 = .int .i64 (i : Int)
theorem c32 (c : UInt8) : ((c.toNat : Int) = 32) = (c = 32) := by
  refine propext ⟨fun h => ?_, fun h => by rw [h]; rfl⟩
  have : c.toNat = (32 : UInt8).toNat := by have : (32 : UInt8).toNat = 32 := rfl; omega
  exact UInt8.toNat_inj.1 this
end Go.Proofs.YtfimhkijacamoaaDoor.CNumb

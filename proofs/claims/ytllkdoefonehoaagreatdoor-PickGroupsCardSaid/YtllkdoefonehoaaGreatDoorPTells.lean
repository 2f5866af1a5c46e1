/- The law PickTells. -/
import Derived.Test.YtllkdoefonehoaaGreatDoorPRef
import Derived.Test.YtllkdoefonehoaaGreatDoorPWalk
set_option linter.unusedVariables false
set_option linter.unusedSimpArgs false
set_option maxRecDepth 10000
set_option maxHeartbeats 4000000
namespace Go.Proofs.YtllkdoefonehoaaGreatDoor.PRef
open Go Go.RowKit Go.Proofs.YtllkdoefonehoaaGreatDoor Go.Proofs.YtllkdoefonehoaaGreatDoor.Abs Go.Proofs.YtllkdoefonehoaaGreatDoor.Ic Go.Proofs.YtllkdoefonehoaaGreatDoor.Vm Go.Proofs.YtllkdoefonehoaaGreatDoor.Dg Go.Proofs.YtllkdoefonehoaaGreatDoor.St Go.Proofs.YtllkdoefonehoaaGreatDoor.PVer Go.Proofs.YtllkdoefonehoaaGreatDoor.PPick Go.Proofs.YtllkdoefonehoaaGreatDoor.CFn Go.Proofs.YtllkdoefonehoaaGreatDoor.CBig Go.Proofs.YtllkdoefonehoaaGreatDoor.Cm
/-- What the law wants of a file and a version. -/
def wantC (f v : List UInt8) : Cd := if okF f then candF f v else ⟨f, [], false, 0, 0, v⟩
theorem wantC_file (f v : List UInt8) : (wantC f v).file = f := by unfold wantC; split <;> rfl
theorem wantC_ver (f v : List UInt8) : (wantC f v).ver = v := by unfold wantC; split <;> rfl
theorem split_want (f v : List UInt8) : splitV f = .tuple [.str (wantC f v).stem, cnt (wantC f v).has (wantC f v).left (wantC f v).done, .bool (okF f)] := by
  unfold wantC
  cases h : okF f with
  | true => rw [splitV_ok h]; rfl
  | false => rw [splitV_no h]; rfl
theorem want_a (f v : List UInt8) : (if okF f then candF f v else d0) = if okF f then wantC f v else d0 := by
  unfold wantC
  split <;> rfl
theorem Tells (f v g w : List UInt8) (hf : f.length ≤ 9223372036854775807) (hv : v.length ≤ 9223372036854775807) (hg : g.length ≤ 9223372036854775807) (hw : w.length ≤ 9223372036854775807) (H : AH) :
    ACall Tryz.prog 3 [.str f, .str v, .str g, .str w] H (fun r H' => r = .bool true ∧ H' = H) := by
  refine acall_enter fits3 (by simp) (by simp) fun hok => ?_
  by_cases hbig : f.length ≤ 200 ∧ g.length ≤ 200 ∧ v.length ≤ 200 ∧ w.length ≤ 200
  · obtain ⟨l1, l2, l3, l4⟩ := hbig
    have m1 : ¬ (200 : Int) < (f.length : Int) := by omega
    have m2 : ¬ (200 : Int) < (g.length : Int) := by omega
    have m3 : ¬ (200 : Int) < (v.length : Int) := by omega
    have m4 : ¬ (200 : Int) < (w.length : Int) := by omega
    have n1 : ¬ 200 < f.length := by omega
    have n2 : ¬ 200 < g.length := by omega
    have n3 : ¬ 200 < v.length := by omega
    have n4 : ¬ 200 < w.length := by omega
    have hOf := fun H => Of f v (by omega) H
    have hS1 := fun H => CRefs.SplitFile f hf H
    have hS2 := fun H => CRefs.SplitFile g hg H
    rw [want_a] at hOf
    simp only [split_want f v] at hS1
    simp only [split_want g w] at hS2
    obtain ⟨x, hx⟩ : ∃ x, x = wantC f v := ⟨_, rfl⟩
    obtain ⟨y, hy⟩ : ∃ y, y = wantC g w := ⟨_, rfl⟩
    have x1 : x.file = f := by rw [hx, wantC_file]
    have x2 : x.ver = v := by rw [hx, wantC_ver]
    have y1 : y.file = g := by rw [hy, wantC_file]
    have y2 : y.ver = w := by rw [hy, wantC_ver]
    rw [← hx] at hOf hS1
    rw [← hy] at hS2
    generalize okF f = b1 at *
    generalize okF g = b2 at *
    clear hx hy
    subst x1 x2 y1 y2
    have vx : VOk x := by unfold VOk; omega
    have vy : VOk y := by unfold VOk; omega
    have hL1 := Less x y vx vy
    have hL2 := RLess x y vx vy
    have hT1 := Startable x
    have hT2 := RStartable x
    have hR := Rank x
    have k1 : rankC x = if badC x then 1 else 0 := rfl
    have hse : ∀ c : Cd, aeqs [.str, .str, .bool, .int, .int, .str] (cdC c) (cdC c) = some true := fun c => by simp [cdC]
    have hse1 := hse x
    have hse2 := hse d0
    simp only [cdC, d0] at hL1 hL2 hT1 hT2 hR hse1 hse2
    simp (disch := first | omega | (simp; done) | assumption) [wr64, wrU8, wrU64, Nat.add_assoc, -getElem?_pos, List.getElem?_cons_zero, List.getElem?_cons_succ, ic3, rs3, m1, m2, m3, m4, n1, n2, n3, n4]
    refine CallW.val (hOf _) ?_
    cases b1 with
    | true =>
      simp only [if_true, cdC]
      simp (disch := first | omega | (simp; done) | assumption) [wr64, wrU8, wrU64, Nat.add_assoc, -getElem?_pos, List.getElem?_cons_zero, List.getElem?_cons_succ, ]
      refine CallW.val (hS1 _) ?_
      simp (disch := first | omega | (simp; done) | assumption) [wr64, wrU8, wrU64, Nat.add_assoc, -getElem?_pos, List.getElem?_cons_zero, List.getElem?_cons_succ, hse1, hse2]
      refine CallW.val (hS2 _) ?_
      simp (disch := first | omega | (simp; done) | assumption) [wr64, wrU8, wrU64, Nat.add_assoc, -getElem?_pos, List.getElem?_cons_zero, List.getElem?_cons_succ, ]
      refine CallW.val (hT2 _) ?_
      cases hb : badC x with
      | true =>
        rw [hb] at k1 hT1 hT2
        simp only [if_true] at k1
        rw [k1] at hR
        simp (disch := first | omega | (simp; done) | assumption) [wr64, wrU8, wrU64, Nat.add_assoc, -getElem?_pos, List.getElem?_cons_zero, List.getElem?_cons_succ, ]
        refine CallW.val (hL1 _) ?_
        simp (disch := first | omega | (simp; done) | assumption) [wr64, wrU8, wrU64, Nat.add_assoc, -getElem?_pos, List.getElem?_cons_zero, List.getElem?_cons_succ, ]
        refine CallW.val (hL2 _) ?_
        simp (disch := first | omega | (simp; done) | assumption) [wr64, wrU8, wrU64, Nat.add_assoc, -getElem?_pos, List.getElem?_cons_zero, List.getElem?_cons_succ, ]
        refine CallW.val (hT1 _) ?_
        simp (disch := first | omega | (simp; done) | assumption) [wr64, wrU8, wrU64, Nat.add_assoc, -getElem?_pos, List.getElem?_cons_zero, List.getElem?_cons_succ, ]
        refine CallW.val (hT2 _) ?_
        simp (disch := first | omega | (simp; done) | assumption) [wr64, wrU8, wrU64, Nat.add_assoc, -getElem?_pos, List.getElem?_cons_zero, List.getElem?_cons_succ, ]
        refine CallW.val (hR _) ?_
        simp (disch := first | omega | (simp; done) | assumption) [wr64, wrU8, wrU64, Nat.add_assoc, -getElem?_pos, List.getElem?_cons_zero, List.getElem?_cons_succ, ]
        refine CallW.val (Awake _) ?_
        simp (disch := first | omega | (simp; done) | assumption) [wr64, wrU8, wrU64, Nat.add_assoc, -getElem?_pos, List.getElem?_cons_zero, List.getElem?_cons_succ, ]
        ((repeat (first | exact AH.keepsAll_refl _ | refine keeps_set hok ?_ (by first | omega | (simp; done) | (simp; omega)) | refine keeps_new hok ?_ (by first | omega | (simp; done) | (simp; omega)))); done)
      | false =>
        rw [hb] at k1 hT1 hT2
        simp only [Bool.false_eq_true, if_false] at k1
        rw [k1] at hR
        simp (disch := first | omega | (simp; done) | assumption) [wr64, wrU8, wrU64, Nat.add_assoc, -getElem?_pos, List.getElem?_cons_zero, List.getElem?_cons_succ, ]
        refine CallW.val (hL1 _) ?_
        simp (disch := first | omega | (simp; done) | assumption) [wr64, wrU8, wrU64, Nat.add_assoc, -getElem?_pos, List.getElem?_cons_zero, List.getElem?_cons_succ, ]
        refine CallW.val (hL2 _) ?_
        simp (disch := first | omega | (simp; done) | assumption) [wr64, wrU8, wrU64, Nat.add_assoc, -getElem?_pos, List.getElem?_cons_zero, List.getElem?_cons_succ, ]
        refine CallW.val (hT1 _) ?_
        simp (disch := first | omega | (simp; done) | assumption) [wr64, wrU8, wrU64, Nat.add_assoc, -getElem?_pos, List.getElem?_cons_zero, List.getElem?_cons_succ, ]
        refine CallW.val (hT2 _) ?_
        simp (disch := first | omega | (simp; done) | assumption) [wr64, wrU8, wrU64, Nat.add_assoc, -getElem?_pos, List.getElem?_cons_zero, List.getElem?_cons_succ, ]
        refine CallW.val (hR _) ?_
        simp (disch := first | omega | (simp; done) | assumption) [wr64, wrU8, wrU64, Nat.add_assoc, -getElem?_pos, List.getElem?_cons_zero, List.getElem?_cons_succ, ]
        refine CallW.val (Awake _) ?_
        simp (disch := first | omega | (simp; done) | assumption) [wr64, wrU8, wrU64, Nat.add_assoc, -getElem?_pos, List.getElem?_cons_zero, List.getElem?_cons_succ, ]
        ((repeat (first | exact AH.keepsAll_refl _ | refine keeps_set hok ?_ (by first | omega | (simp; done) | (simp; omega)) | refine keeps_new hok ?_ (by first | omega | (simp; done) | (simp; omega)))); done)
    | false =>
      simp only [Bool.false_eq_true, if_false, cdC, d0]
      simp (disch := first | omega | (simp; done) | assumption) [wr64, wrU8, wrU64, Nat.add_assoc, -getElem?_pos, List.getElem?_cons_zero, List.getElem?_cons_succ, ]
      refine CallW.val (hS1 _) ?_
      simp (disch := first | omega | (simp; done) | assumption) [wr64, wrU8, wrU64, Nat.add_assoc, -getElem?_pos, List.getElem?_cons_zero, List.getElem?_cons_succ, hse1, hse2]
      refine CallW.val (hS2 _) ?_
      simp (disch := first | omega | (simp; done) | assumption) [wr64, wrU8, wrU64, Nat.add_assoc, -getElem?_pos, List.getElem?_cons_zero, List.getElem?_cons_succ, ]
      refine CallW.val (hT2 _) ?_
      cases hb : badC x with
      | true =>
        rw [hb] at k1 hT1 hT2
        simp only [if_true] at k1
        rw [k1] at hR
        simp (disch := first | omega | (simp; done) | assumption) [wr64, wrU8, wrU64, Nat.add_assoc, -getElem?_pos, List.getElem?_cons_zero, List.getElem?_cons_succ, ]
        refine CallW.val (hL1 _) ?_
        simp (disch := first | omega | (simp; done) | assumption) [wr64, wrU8, wrU64, Nat.add_assoc, -getElem?_pos, List.getElem?_cons_zero, List.getElem?_cons_succ, ]
        refine CallW.val (hL2 _) ?_
        simp (disch := first | omega | (simp; done) | assumption) [wr64, wrU8, wrU64, Nat.add_assoc, -getElem?_pos, List.getElem?_cons_zero, List.getElem?_cons_succ, ]
        refine CallW.val (hT1 _) ?_
        simp (disch := first | omega | (simp; done) | assumption) [wr64, wrU8, wrU64, Nat.add_assoc, -getElem?_pos, List.getElem?_cons_zero, List.getElem?_cons_succ, ]
        refine CallW.val (hT2 _) ?_
        simp (disch := first | omega | (simp; done) | assumption) [wr64, wrU8, wrU64, Nat.add_assoc, -getElem?_pos, List.getElem?_cons_zero, List.getElem?_cons_succ, ]
        refine CallW.val (hR _) ?_
        simp (disch := first | omega | (simp; done) | assumption) [wr64, wrU8, wrU64, Nat.add_assoc, -getElem?_pos, List.getElem?_cons_zero, List.getElem?_cons_succ, ]
        refine CallW.val (Awake _) ?_
        simp (disch := first | omega | (simp; done) | assumption) [wr64, wrU8, wrU64, Nat.add_assoc, -getElem?_pos, List.getElem?_cons_zero, List.getElem?_cons_succ, ]
        ((repeat (first | exact AH.keepsAll_refl _ | refine keeps_set hok ?_ (by first | omega | (simp; done) | (simp; omega)) | refine keeps_new hok ?_ (by first | omega | (simp; done) | (simp; omega)))); done)
      | false =>
        rw [hb] at k1 hT1 hT2
        simp only [Bool.false_eq_true, if_false] at k1
        rw [k1] at hR
        simp (disch := first | omega | (simp; done) | assumption) [wr64, wrU8, wrU64, Nat.add_assoc, -getElem?_pos, List.getElem?_cons_zero, List.getElem?_cons_succ, ]
        refine CallW.val (hL1 _) ?_
        simp (disch := first | omega | (simp; done) | assumption) [wr64, wrU8, wrU64, Nat.add_assoc, -getElem?_pos, List.getElem?_cons_zero, List.getElem?_cons_succ, ]
        refine CallW.val (hL2 _) ?_
        simp (disch := first | omega | (simp; done) | assumption) [wr64, wrU8, wrU64, Nat.add_assoc, -getElem?_pos, List.getElem?_cons_zero, List.getElem?_cons_succ, ]
        refine CallW.val (hT1 _) ?_
        simp (disch := first | omega | (simp; done) | assumption) [wr64, wrU8, wrU64, Nat.add_assoc, -getElem?_pos, List.getElem?_cons_zero, List.getElem?_cons_succ, ]
        refine CallW.val (hT2 _) ?_
        simp (disch := first | omega | (simp; done) | assumption) [wr64, wrU8, wrU64, Nat.add_assoc, -getElem?_pos, List.getElem?_cons_zero, List.getElem?_cons_succ, ]
        refine CallW.val (hR _) ?_
        simp (disch := first | omega | (simp; done) | assumption) [wr64, wrU8, wrU64, Nat.add_assoc, -getElem?_pos, List.getElem?_cons_zero, List.getElem?_cons_succ, ]
        refine CallW.val (Awake _) ?_
        simp (disch := first | omega | (simp; done) | assumption) [wr64, wrU8, wrU64, Nat.add_assoc, -getElem?_pos, List.getElem?_cons_zero, List.getElem?_cons_succ, ]
        ((repeat (first | exact AH.keepsAll_refl _ | refine keeps_set hok ?_ (by first | omega | (simp; done) | (simp; omega)) | refine keeps_new hok ?_ (by first | omega | (simp; done) | (simp; omega)))); done)
  · have hor : (200 < f.length) ∨ (f.length ≤ 200 ∧ 200 < g.length) ∨ (f.length ≤ 200 ∧ g.length ≤ 200 ∧ 200 < v.length) ∨ (f.length ≤ 200 ∧ g.length ≤ 200 ∧ v.length ≤ 200 ∧ 200 < w.length) := by omega
    clear hbig
    rcases hor with h | ⟨h1, h⟩ | ⟨h1, h2, h⟩ | ⟨h1, h2, h3, h⟩
    · have e : (200 : Int) < (f.length : Int) := by omega
      simp (disch := first | omega | (simp; done) | assumption) [wr64, wrU8, wrU64, Nat.add_assoc, -getElem?_pos, List.getElem?_cons_zero, List.getElem?_cons_succ, ic3, rs3, h, e]
      refine CallW.val (Awake _) ?_
      simp (disch := first | omega | (simp; done) | assumption) [wr64, wrU8, wrU64, Nat.add_assoc, -getElem?_pos, List.getElem?_cons_zero, List.getElem?_cons_succ, ]
      ((repeat (first | exact AH.keepsAll_refl _ | refine keeps_set hok ?_ (by first | omega | (simp; done) | (simp; omega)) | refine keeps_new hok ?_ (by first | omega | (simp; done) | (simp; omega)))); done)
    · have e1 : ¬ (200 : Int) < (f.length : Int) := by omega
      have e1' : ¬ 200 < f.length := by omega
      have e : (200 : Int) < (g.length : Int) := by omega
      simp (disch := first | omega | (simp; done) | assumption) [wr64, wrU8, wrU64, Nat.add_assoc, -getElem?_pos, List.getElem?_cons_zero, List.getElem?_cons_succ, ic3, rs3, h, e, e1, e1']
      refine CallW.val (Awake _) ?_
      simp (disch := first | omega | (simp; done) | assumption) [wr64, wrU8, wrU64, Nat.add_assoc, -getElem?_pos, List.getElem?_cons_zero, List.getElem?_cons_succ, ]
      ((repeat (first | exact AH.keepsAll_refl _ | refine keeps_set hok ?_ (by first | omega | (simp; done) | (simp; omega)) | refine keeps_new hok ?_ (by first | omega | (simp; done) | (simp; omega)))); done)
    · have e1 : ¬ (200 : Int) < (f.length : Int) := by omega
      have e1' : ¬ 200 < f.length := by omega
      have e2 : ¬ (200 : Int) < (g.length : Int) := by omega
      have e2' : ¬ 200 < g.length := by omega
      have e : (200 : Int) < (v.length : Int) := by omega
      simp (disch := first | omega | (simp; done) | assumption) [wr64, wrU8, wrU64, Nat.add_assoc, -getElem?_pos, List.getElem?_cons_zero, List.getElem?_cons_succ, ic3, rs3, h, e, e1, e1', e2, e2']
      refine CallW.val (Awake _) ?_
      simp (disch := first | omega | (simp; done) | assumption) [wr64, wrU8, wrU64, Nat.add_assoc, -getElem?_pos, List.getElem?_cons_zero, List.getElem?_cons_succ, ]
      ((repeat (first | exact AH.keepsAll_refl _ | refine keeps_set hok ?_ (by first | omega | (simp; done) | (simp; omega)) | refine keeps_new hok ?_ (by first | omega | (simp; done) | (simp; omega)))); done)
    · have e1 : ¬ (200 : Int) < (f.length : Int) := by omega
      have e1' : ¬ 200 < f.length := by omega
      have e2 : ¬ (200 : Int) < (g.length : Int) := by omega
      have e2' : ¬ 200 < g.length := by omega
      have e3 : ¬ (200 : Int) < (v.length : Int) := by omega
      have e3' : ¬ 200 < v.length := by omega
      have e : (200 : Int) < (w.length : Int) := by omega
      simp (disch := first | omega | (simp; done) | assumption) [wr64, wrU8, wrU64, Nat.add_assoc, -getElem?_pos, List.getElem?_cons_zero, List.getElem?_cons_succ, ic3, rs3, h, e, e1, e1', e2, e2', e3, e3']
      refine CallW.val (Awake _) ?_
      simp (disch := first | omega | (simp; done) | assumption) [wr64, wrU8, wrU64, Nat.add_assoc, -getElem?_pos, List.getElem?_cons_zero, List.getElem?_cons_succ, ]
      ((repeat (first | exact AH.keepsAll_refl _ | refine keeps_set hok ?_ (by first | omega | (simp; done) | (simp; omega)) | refine keeps_new hok ?_ (by first | omega | (simp; done) | (simp; omega)))); done)
theorem PickTells.walk (a0 a1 a2 a3 : ByteArray) (W : World) (hsh : W.ShapedOpen Tryz.prog) (_ : a0.size ≤ 140737488351232) (_ : a1.size ≤ 140737488351232) (_ : a2.size ≤ 140737488351232) (_ : a3.size ≤ 140737488351232) :
    Calls Tryz.prog 3 #[.string a0, .string a1, .string a2, .string a3] W fun e W' => e = .returned (.bool true) ∧ Below W.heap.size W W' := by
  refine PWalk.walk hsh (Tells _ _ _ _ ?_ ?_ ?_ ?_ _) (.cons (.str a0) (.cons (.str a1) (.cons (.str a2) (.cons (.str a3) .nil))))
  all_goals (show (_ : ByteArray).size ≤ _; omega)
end Go.Proofs.YtllkdoefonehoaaGreatDoor.PRef

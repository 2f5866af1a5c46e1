/- The law PickStates. -/
import Derived.Test.YtllkdoefonehoaaDoorPLaw2
import Derived.Test.YtllkdoefonehoaaDoorPWalk
import Derived.Test.YtllkdoefonehoaaDoorSt
set_option linter.unusedVariables false
set_option linter.unusedSimpArgs false
set_option maxRecDepth 10000
set_option maxHeartbeats 4000000
namespace Go.Proofs.YtllkdoefonehoaaDoor.PPick
open Go Go.RowKit Go.Proofs.YtllkdoefonehoaaDoor Go.Proofs.YtllkdoefonehoaaDoor.Abs Go.Proofs.YtllkdoefonehoaaDoor.Ic Go.Proofs.YtllkdoefonehoaaDoor.Vm Go.Proofs.YtllkdoefonehoaaDoor.Dg Go.Proofs.YtllkdoefonehoaaDoor.PVer Go.Proofs.YtllkdoefonehoaaDoor.CFn Go.Proofs.YtllkdoefonehoaaDoor.CBig Go.Proofs.YtllkdoefonehoaaDoor.Cm Go.Proofs.YtllkdoefonehoaaDoor.SP Go.Proofs.YtllkdoefonehoaaDoor.Srt Go.Proofs.YtllkdoefonehoaaDoor.St
def mkC (h : Bool) (l d : Int) (v : List UInt8) : Cd := ⟨joinL [115] h l d, [115], h, l, d, v⟩
theorem Mk (h : Bool) (l d : Int) (v : List UInt8) (h1 : 0 ≤ l) (h2 : l ≤ 1000) (h3 : 0 ≤ d) (h4 : d ≤ 1000) (H : AH) :
    ACall Tryd.prog 11 [cnt h l d, .str v] H (fun r H' => r = .agg (cdC (mkC h l d v)) ∧ H' = H) := by
  refine acall_enter fits11 (by simp) (by simp [cdC]) fun hok => ?_
  simp (disch := first | omega | (simp; done) | assumption) [wr64, wrU8, wrU64, Nat.add_assoc, -getElem?_pos, List.getElem?_cons_zero, List.getElem?_cons_succ, ic11, rs11]
  refine CallW.val (JoinFile [115] (by simp) h l d (by omega) (by omega) (by omega) (by omega) _) ?_
  simp (disch := first | omega | (simp; done) | assumption) [wr64, wrU8, wrU64, Nat.add_assoc, -getElem?_pos, List.getElem?_cons_zero, List.getElem?_cons_succ, cdC, mkC]
  ((repeat (first | exact AH.keepsAll_refl _ | refine keeps_set hok ?_ (by first | omega | (simp; done) | (simp; omega)) | refine keeps_new hok ?_ (by first | omega | (simp; done) | (simp; omega)))); done)
def dgc (n : Nat) : UInt8 := UInt8.ofNat (49 + n)
def dg1 (n : Nat) : List UInt8 := [dgc n]
theorem dg1_v {n m : Nat} (hn : n < 8) (hm : m < 8) : cmpV (dg1 n) (dg1 m) = cmpB (dg1 n) (dg1 m) := by
  have h : ∀ k < 8, 49 ≤ (UInt8.ofNat (49 + k)).toNat ∧ (UInt8.ofNat (49 + k)).toNat ≤ 57 := by decide
  exact cmpV1 (h n hn).1 (h n hn).2 (h m hm).1 (h m hm).2
theorem States (left done a b : Int) (H : AH) : ACall Tryd.prog 4 [.int .i64 left, .int .i64 done, .int .i64 a, .int .i64 b] H (fun r H' => r = .bool true ∧ H' = H) := by
  refine acall_enter fits4 (by simp) (by simp) fun hok => ?_
  obtain ⟨L, hL, hL9⟩ := mask_mod left 99 (by omega)
  obtain ⟨D, hD, hD9⟩ := mask_mod done 99 (by omega)
  obtain ⟨A, hA, hA8⟩ := mask_small 3 (by omega) a
  obtain ⟨B, hB, hB8⟩ := mask_small 3 (by omega) b
  have hL' : (bits .and .i64 left 255).tmod 99 = (L : Int) := hL
  have hD' : (bits .and .i64 done 255).tmod 99 = (D : Int) := hD
  have hA' : bits .and .i64 a 7 = (A : Int) := hA
  have hB' : bits .and .i64 b 7 = (B : Int) := hB
  clear hL hD hA hB
  have hbyA : Abs.byteOf (.int .u8 (49 + (A : Int))) = dgc A := by
    show UInt8.ofNat (49 + (A : Int)).toNat = _
    congr 1
  have hbyB : Abs.byteOf (.int .u8 (49 + (B : Int))) = dgc B := by
    show UInt8.ofNat (49 + (B : Int)).toNat = _
    congr 1
  have hz := dg1_v hA8 hB8
  have hzs := cmpB_ord.anti (dg1 A) (dg1 B)
  have hlb := less_bytes (dg1 A) (dg1 B)
  have hzr := cmpB_ord.rng (dg1 A) (dg1 B)
  have hz2 := cmpV_ord.anti (dg1 A) (dg1 B)
  have hxx : [dgc A] = dg1 A := rfl
  have hyy : [dgc B] = dg1 B := rfl
  have okA : VOk (mkC false 0 0 (dg1 A)) := by show (1 : Nat) ≤ _; omega
  have okT : VOk (mkC true ((L : Int) + 1) D (dg1 B)) := by show (1 : Nat) ≤ _; omega
  have okB : VOk (mkC true 0 D (dg1 B)) := by show (1 : Nat) ≤ _; omega
  have m1 := Mk false 0 0 (dg1 A) (by omega) (by omega) (by omega) (by omega)
  have m2 := Mk true ((L : Int) + 1) D (dg1 B) (by omega) (by omega) (by omega) (by omega)
  have m3 := Mk true 0 D (dg1 B) (by omega) (by omega) (by omega) (by omega)
  have l1 := Less _ _ okA okT
  have l2 := Less _ _ okT okA
  have l3 := Less _ _ okA okB
  have l4 := Less _ _ okT okB
  have l5 := Less _ _ okB okT
  have s1 := Startable (mkC true ((L : Int) + 1) D (dg1 B))
  have s2 := Startable (mkC true 0 D (dg1 B))
  have rg : rankC (mkC false 0 0 (dg1 A)) = 0 := rfl
  have bt : badC (mkC true ((L : Int) + 1) D (dg1 B)) = false := by simp [badC, mkC]
  have rt : rankC (mkC true ((L : Int) + 1) D (dg1 B)) = 0 := by unfold rankC; rw [bt]; rfl
  have bb : badC (mkC true 0 D (dg1 B)) = true := by simp [badC, mkC]
  have rb : rankC (mkC true 0 D (dg1 B)) = 1 := by unfold rankC; rw [bb]; rfl
  have gg : goodC (mkC false 0 0 (dg1 A)) = 0 := rfl
  have gt' : goodC (mkC true ((L : Int) + 1) D (dg1 B)) = 1 := rfl
  have v1 : cmpV (mkC false 0 0 (dg1 A)).ver (mkC true ((L : Int) + 1) D (dg1 B)).ver = cmpB (dg1 A) (dg1 B) := hz
  have v2 : cmpV (mkC true ((L : Int) + 1) D (dg1 B)).ver (mkC false 0 0 (dg1 A)).ver = -cmpB (dg1 A) (dg1 B) := by rw [← hz]; exact hz2
  have n1 := cmpC_neg (mkC false 0 0 (dg1 A)) (mkC true ((L : Int) + 1) D (dg1 B))
  have n2 := cmpC_neg (mkC true ((L : Int) + 1) D (dg1 B)) (mkC false 0 0 (dg1 A))
  have n3 := cmpC_neg (mkC false 0 0 (dg1 A)) (mkC true 0 D (dg1 B))
  have n4 := cmpC_neg (mkC true ((L : Int) + 1) D (dg1 B)) (mkC true 0 D (dg1 B))
  have n5 := cmpC_neg (mkC true 0 D (dg1 B)) (mkC true ((L : Int) + 1) D (dg1 B))
  rw [rg, rt, gg, gt', v1] at n1
  rw [rg, rt, gg, gt', v2] at n2
  rw [rg, rb] at n3
  rw [rt, rb] at n4
  rw [rt, rb] at n5
  have c3 : cmpC (mkC false 0 0 (dg1 A)) (mkC true 0 D (dg1 B)) < 0 := n3.2 (by omega)
  have c4 : cmpC (mkC true ((L : Int) + 1) D (dg1 B)) (mkC true 0 D (dg1 B)) < 0 := n4.2 (by omega)
  have c5 : ¬ cmpC (mkC true 0 D (dg1 B)) (mkC true ((L : Int) + 1) D (dg1 B)) < 0 := fun e => by have := n5.1 e; omega
  have c1 : (cmpC (mkC false 0 0 (dg1 A)) (mkC true ((L : Int) + 1) D (dg1 B)) < 0) = ¬ (cmpB (dg1 A) (dg1 B) < 0) := propext ⟨fun e => by have := n1.1 e; omega, fun e => n1.2 (by omega)⟩
  have c2 : (cmpC (mkC true ((L : Int) + 1) D (dg1 B)) (mkC false 0 0 (dg1 A)) < 0) = (cmpB (dg1 A) (dg1 B) < 0) := propext ⟨fun e => by have := n2.1 e; omega, fun e => n2.2 (by omega)⟩
  simp only [c1, c2, c3, c4, c5] at l1 l2 l3 l4 l5
  clear n1 n2 n3 n4 n5 c1 c2 c3 c4 c5 hz hz2 hzs v1 v2 rg rt rb gg gt' okA okT okB
  rw [bt] at s1
  rw [bb] at s2
  simp only [cdC, mkC] at m1 m2 m3 l1 l2 l3 l4 l5 s1 s2
  generalize dg1 A = x at *
  generalize dg1 B = y at *
  generalize joinL [115] false 0 0 = j1 at *
  generalize joinL [115] true ((L : Int) + 1) D = j2 at *
  generalize joinL [115] true 0 D = j3 at *
  simp (disch := first | omega | (simp; done) | assumption) [wr64, wrU8, wrU64, Nat.add_assoc, -getElem?_pos, List.getElem?_cons_zero, List.getElem?_cons_succ, ic4, rs4, hL', hD', hA', hB', b2sA, isByte, hbyA, hbyB, hxx, hyy]
  refine CallW.val (m1 _) ?_
  simp (disch := first | omega | (simp; done) | assumption) [wr64, wrU8, wrU64, Nat.add_assoc, -getElem?_pos, List.getElem?_cons_zero, List.getElem?_cons_succ, hbyB, hyy]
  refine CallW.val (m2 _) ?_
  simp (disch := first | omega | (simp; done) | assumption) [wr64, wrU8, wrU64, Nat.add_assoc, -getElem?_pos, List.getElem?_cons_zero, List.getElem?_cons_succ, ]
  refine CallW.val (m3 _) ?_
  simp (disch := first | omega | (simp; done) | assumption) [wr64, wrU8, wrU64, Nat.add_assoc, -getElem?_pos, List.getElem?_cons_zero, List.getElem?_cons_succ, ]
  refine CallW.val (l1 _) ?_
  by_cases hc : cmpB x y < 0
  · simp (disch := first | omega | (simp; done) | assumption) [wr64, wrU8, wrU64, Nat.add_assoc, -getElem?_pos, List.getElem?_cons_zero, List.getElem?_cons_succ, hlb, hc]
    refine CallW.val (l2 _) ?_
    simp (disch := first | omega | (simp; done) | assumption) [wr64, wrU8, wrU64, Nat.add_assoc, -getElem?_pos, List.getElem?_cons_zero, List.getElem?_cons_succ, hlb, hc]
    refine CallW.val (l3 _) ?_
    simp (disch := first | omega | (simp; done) | assumption) [wr64, wrU8, wrU64, Nat.add_assoc, -getElem?_pos, List.getElem?_cons_zero, List.getElem?_cons_succ, hlb, hc]
    refine CallW.val (l4 _) ?_
    simp (disch := first | omega | (simp; done) | assumption) [wr64, wrU8, wrU64, Nat.add_assoc, -getElem?_pos, List.getElem?_cons_zero, List.getElem?_cons_succ, hlb, hc]
    refine CallW.val (l5 _) ?_
    simp (disch := first | omega | (simp; done) | assumption) [wr64, wrU8, wrU64, Nat.add_assoc, -getElem?_pos, List.getElem?_cons_zero, List.getElem?_cons_succ, hlb, hc]
    refine CallW.val (s1 _) ?_
    simp (disch := first | omega | (simp; done) | assumption) [wr64, wrU8, wrU64, Nat.add_assoc, -getElem?_pos, List.getElem?_cons_zero, List.getElem?_cons_succ, hlb, hc]
    refine CallW.val (s2 _) ?_
    simp (disch := first | omega | (simp; done) | assumption) [wr64, wrU8, wrU64, Nat.add_assoc, -getElem?_pos, List.getElem?_cons_zero, List.getElem?_cons_succ, hlb, hc]
    refine CallW.val (Awake _) ?_
    simp (disch := first | omega | (simp; done) | assumption) [wr64, wrU8, wrU64, Nat.add_assoc, -getElem?_pos, List.getElem?_cons_zero, List.getElem?_cons_succ, ]
    ((repeat (first | exact AH.keepsAll_refl _ | refine keeps_set hok ?_ (by first | omega | (simp; done) | (simp; omega)) | refine keeps_new hok ?_ (by first | omega | (simp; done) | (simp; omega)))); done)
  · simp (disch := first | omega | (simp; done) | assumption) [wr64, wrU8, wrU64, Nat.add_assoc, -getElem?_pos, List.getElem?_cons_zero, List.getElem?_cons_succ, hlb, hc]
    refine CallW.val (l2 _) ?_
    simp (disch := first | omega | (simp; done) | assumption) [wr64, wrU8, wrU64, Nat.add_assoc, -getElem?_pos, List.getElem?_cons_zero, List.getElem?_cons_succ, hlb, hc]
    refine CallW.val (l3 _) ?_
    simp (disch := first | omega | (simp; done) | assumption) [wr64, wrU8, wrU64, Nat.add_assoc, -getElem?_pos, List.getElem?_cons_zero, List.getElem?_cons_succ, hlb, hc]
    refine CallW.val (l4 _) ?_
    simp (disch := first | omega | (simp; done) | assumption) [wr64, wrU8, wrU64, Nat.add_assoc, -getElem?_pos, List.getElem?_cons_zero, List.getElem?_cons_succ, hlb, hc]
    refine CallW.val (l5 _) ?_
    simp (disch := first | omega | (simp; done) | assumption) [wr64, wrU8, wrU64, Nat.add_assoc, -getElem?_pos, List.getElem?_cons_zero, List.getElem?_cons_succ, hlb, hc]
    refine CallW.val (s1 _) ?_
    simp (disch := first | omega | (simp; done) | assumption) [wr64, wrU8, wrU64, Nat.add_assoc, -getElem?_pos, List.getElem?_cons_zero, List.getElem?_cons_succ, hlb, hc]
    refine CallW.val (s2 _) ?_
    simp (disch := first | omega | (simp; done) | assumption) [wr64, wrU8, wrU64, Nat.add_assoc, -getElem?_pos, List.getElem?_cons_zero, List.getElem?_cons_succ, hlb, hc]
    refine CallW.val (Awake _) ?_
    simp (disch := first | omega | (simp; done) | assumption) [wr64, wrU8, wrU64, Nat.add_assoc, -getElem?_pos, List.getElem?_cons_zero, List.getElem?_cons_succ, ]
    ((repeat (first | exact AH.keepsAll_refl _ | refine keeps_set hok ?_ (by first | omega | (simp; done) | (simp; omega)) | refine keeps_new hok ?_ (by first | omega | (simp; done) | (simp; omega)))); done)
theorem PickStates.walk (a0 a1 a2 a3 : Int) (W : World) (hsh : W.ShapedOpen Tryd.prog) (_ : (Lit.int .i64 a0).wf = true) (_ : (Lit.int .i64 a1).wf = true) (_ : (Lit.int .i64 a2).wf = true) (_ : (Lit.int .i64 a3).wf = true) :
    Calls Tryd.prog 4 #[.int .i64 a0, .int .i64 a1, .int .i64 a2, .int .i64 a3] W fun e W' => e = .returned (.bool true) ∧ Below W.heap.size W W' :=
  PWalk.walk hsh (States a0 a1 a2 a3 _) (.cons (.int _ _) (.cons (.int _ _) (.cons (.int _ _) (.cons (.int _ _) .nil))))
end Go.Proofs.YtllkdoefonehoaaDoor.PPick

/- Counting and finding a byte, a text's pieces. -/
import Derived.Test.YtfimhkijacamoaaDoorA24
import Derived.Test.YtfimhkijacamoaaDoorIc
import Derived.Test.YtfimhkijacamoaaDoorShelf
import Derived.Test.YtfimhkijacamoaaDoorLPcs
set_option linter.unusedVariables false
set_option linter.unusedSimpArgs false
set_option maxRecDepth 10000
set_option maxHeartbeats 4000000
namespace Go.Proofs.YtfimhkijacamoaaDoor.LLib
open Go Go.RowKit Go.Proofs.YtfimhkijacamoaaDoor Go.Proofs.YtfimhkijacamoaaDoor.Abs Go.Proofs.YtfimhkijacamoaaDoor.Ic Go.Proofs.YtfimhkijacamoaaDoor.LPcs
theorem Count (l : List UInt8) (q : UInt8) (H : AH) : ACall Tryd.prog 66 [.str l, .str [q]] H (fun v H' => v = .int .i64 (l.count q : Int) ∧ H' = H) := by
  refine acall_lib (by kernel_rfl) fun j w cargs hr hv => ?_
  obtain ⟨c1, rfl, h2⟩ := hv.str1
  obtain ⟨c2, rfl, h3⟩ := h2.str1
  obtain rfl := h3.nil_right
  exact ⟨_, .int _ _, (Tryd.strings_Count_one ⟨l.toArray⟩ q w).mono fun e w' ⟨h1, h2⟩ => by subst h2; exact ⟨h1, Below.refl _ _⟩⟩
theorem Index (l : List UInt8) (q : UInt8) (H : AH) : ACall Tryd.prog 67 [.str l, .str [q]] H (fun v H' => v = .int .i64 (Lib.indexByte l q) ∧ H' = H) := by
  refine acall_lib (by kernel_rfl) fun j w cargs hr hv => ?_
  obtain ⟨c1, rfl, h2⟩ := hv.str1
  obtain ⟨c2, rfl, h3⟩ := h2.str1
  obtain rfl := h3.nil_right
  exact ⟨_, .int _ _, (Tryd.strings_Index_one ⟨l.toArray⟩ q w).mono fun e w' ⟨h1, h2⟩ => by subst h2; exact ⟨h1, Below.refl _ _⟩⟩
theorem index_first {q : UInt8} : ∀ {a b : List UInt8}, q ∉ a → Lib.indexByte (a ++ q :: b) q = (a.length : Int)
  | [], b, _ => by simp [Lib.indexByte]
  | c :: a, b, h => by
    have h1 : ¬ (c = q) := fun e => h (by rw [e]; exact List.mem_cons_self ..)
    have h2 : q ∉ a := fun e => h (List.mem_cons_of_mem _ e)
    have := index_first (b := b) h2
    simp only [List.cons_append, Lib.indexByte]
    rw [this]
    simp [h1]
theorem index_none {q : UInt8} : ∀ {a : List UInt8}, q ∉ a → Lib.indexByte a q = -1
  | [], _ => rfl
  | c :: a, h => by
    have h1 : ¬ (c = q) := fun e => h (by rw [e]; exact List.mem_cons_self ..)
    have h2 : q ∉ a := fun e => h (List.mem_cons_of_mem _ e)
    simp only [Lib.indexByte, index_none h2]
    simp [h1]
/-- A row of texts of the call's own. -/
def OwnT (H : AH) (q : Nat) (l : List (List UInt8)) : Prop := H.at_ q = some (.cells false 9 (l.map AV.str))
def SplitP (l : List (List UInt8)) (H : AH) (v : AV) (H' : AH) : Prop := H.keepsAll H' ∧ H.next < H'.next ∧ v = .slice H.next 0 l.length 1 ∧ OwnT H' H.next l
def SpI (s : List UInt8) (q : UInt8) (n : Nat) (H : AH) (k : Nat) (tm : Tms) (H' : AH) : Prop :=
  ∃ (done : List (List UInt8)) (r : List UInt8), k = r.length ∧ pcs q s = done ++ pcs q r ∧ r.length ≤ s.length ∧ H.keepsAll H' ∧ H'.next = H.next + 1 ∧ tm 0 = .str r ∧ tm 1 = .str [q] ∧ tm 2 = .int .i64 0 ∧ tm 3 = .int .i64 ((n : Int) - 1) ∧ tm 9 = .slice H.next 0 n 1 ∧ tm 10 = .int .i64 (done.length : Int) ∧
    H'.at_ H.next = some (.cells false 9 ((done.map AV.str) ++ List.replicate (n - done.length) (.str [])))
theorem GenSplit (s : List UInt8) (q : UInt8) (hs : s.length ≤ 1000000000) (H : AH) : ACall Tryd.prog 53 [.str s, .str [q], .int .i64 0, .int .i64 (-1)] H (SplitP (pcs q s) H) := by
  obtain ⟨n, hn⟩ : ∃ n, n = (pcs q s).length := ⟨_, rfl⟩
  have hc := count_pcs (q := q) s
  have hle : s.count q ≤ s.length := List.count_le_length
  have hn1 : (s.count q : Int) + 1 = (n : Int) := by omega
  have hn2 : min (n : Int) ((s.length : Int) + 1) = (n : Int) := by omega
  refine acall_ok (bodyP_of fits53) fun hok => acall_of fits53 (by simp) ?_
  simp (disch := first | omega | (simp; done) | assumption) [wr64, wrU8, wrU64, Nat.add_assoc, -getElem?_pos, List.getElem?_cons_zero, List.getElem?_cons_succ, ic53, rs53]
  refine CallW.val (Count s q _) ?_
  simp (disch := first | omega | (simp; done) | assumption) [wr64, wrU8, wrU64, Nat.add_assoc, -getElem?_pos, List.getElem?_cons_zero, List.getElem?_cons_succ, hn1, hn2]
  refine Try.guard (by omega) ?_
  simp (disch := first | omega | (simp; done) | assumption) [wr64, wrU8, wrU64, Nat.add_assoc, -getElem?_pos, List.getElem?_cons_zero, List.getElem?_cons_succ, hn1, hn2]
  refine iwp_loop (SpI s q n H) s.length ⟨[], s, rfl, rfl, Nat.le_refl _, keeps_new hok (AH.keepsAll_refl _) (Nat.le_refl _), by simp, by simp, by simp, by simp, by simp, by simp, by simp, by simp⟩ ?_
  rintro k tm H1 ⟨done, r, rfl, hp, hrl, hk1, hn3, t0, t1, t2, t3, t9, t10, hat⟩
  have hl : done.length + (pcs q r).length = n := by rw [hn, hp, List.length_append]
  have hcr := count_pcs (q := q) r
  by_cases hlt : done.length + 1 < n
  · have hmem : q ∈ r := List.count_pos_iff.1 (by omega)
    obtain ⟨a, b, rfl, hqa⟩ := split_at hmem
    have hidx := index_first (b := b) hqa
    have hta : (a ++ q :: b).take a.length = a := by simp
    have hdr : (a ++ q :: b).drop (a.length + 1) = b := by rw [List.drop_append]; simp
    have hrl' : (a ++ q :: b).length = a.length + 1 + b.length := by simp; omega
    have hset : ((done.map AV.str) ++ List.replicate (n - done.length) (AV.str [])).set done.length (.str a) = ((done ++ [a]).map AV.str) ++ List.replicate (n - (done.length + 1)) (AV.str []) := by
      rw [List.set_append_right _ _ (by simp)]
      obtain ⟨m, hm⟩ : ∃ m, n - done.length = m + 1 := ⟨n - done.length - 1, by omega⟩
      have hm2 : n - (done.length + 1) = m := by omega
      rw [hm, hm2, List.replicate_succ]
      simp
    rw [pcs_first hqa] at hp
    generalize a ++ q :: b = r at *
    have g1 : (done.length : Int) < (n : Int) - 1 := by omega
    have g2 : (done.length : Int) < (n : Int) := by omega
    have g3 : done.length + 1 ≤ n := by omega
    have g4 : done.length + (n - done.length) = n := by omega
    have g5 : a.length ≤ r.length := by omega
    have g6 : a.length + 1 ≤ r.length := by omega
    simp (disch := first | omega | (simp; done) | assumption) [wr64, wrU8, wrU64, Nat.add_assoc, -getElem?_pos, List.getElem?_cons_zero, List.getElem?_cons_succ, t0, t1, t2, t3, t9, t10, g1]
    refine CallW.val (Index r q _) ?_
    simp (disch := first | omega | (simp; done) | assumption) [wr64, wrU8, wrU64, Nat.add_assoc, -getElem?_pos, List.getElem?_cons_zero, List.getElem?_cons_succ, t0, t1, t2, t3, t9, t10, g1, g2, g3, g4, g5, g6, hidx, hat, hset, hta, hdr]
    refine Fork3.dec (fun hh => absurd hh (by omega)) (fun _ => ?_)
    simp (disch := first | omega | (simp; done) | assumption) [wr64, wrU8, wrU64, Nat.add_assoc, -getElem?_pos, List.getElem?_cons_zero, List.getElem?_cons_succ, t0, t1, t2, t3, t9, t10, g1, g2, g3, g4, g5, g6, hidx, hat, hset, hta, hdr]
    refine Try.guard (by omega) ?_
    simp (disch := first | omega | (simp; done) | assumption) [wr64, wrU8, wrU64, Nat.add_assoc, -getElem?_pos, List.getElem?_cons_zero, List.getElem?_cons_succ, t0, t1, t2, t3, t9, t10]
    exact ⟨b.length, by omega, done ++ [a], b, rfl, by rw [hp]; simp, by omega, keeps_set hok hk1 (Nat.le_refl _), by simpa using hn3, by simp, by simp [t1], by simp [t2], by simp [t3], by simp [t9], by simp, by simp⟩
  · have hm1 : (pcs q r).length = 1 := by have := pcs_ne (q := q) r; have := List.length_pos_iff.2 this; omega
    have hno : q ∉ r := fun h => by have := List.count_pos_iff.2 h; omega
    rw [pcs_free hno] at hp
    have g1 : ¬ (done.length : Int) < (n : Int) - 1 := by omega
    have g2 : (done.length : Int) < (n : Int) := by omega
    have g3 : done.length + 1 ≤ n := by omega
    have g4 : done.length + (n - done.length) = n := by omega
    have hset : ((done.map AV.str) ++ List.replicate (n - done.length) (AV.str [])).set done.length (.str r) = (pcs q s).map AV.str := by
      rw [List.set_append_right _ _ (by simp), hp]
      have hm : n - done.length = 1 := by omega
      rw [hm]
      simp
    simp (disch := first | omega | (simp; done) | assumption) [wr64, wrU8, wrU64, Nat.add_assoc, -getElem?_pos, List.getElem?_cons_zero, List.getElem?_cons_succ, t0, t1, t2, t3, t9, t10, g1, g2, g3, g4, hat, hset, slcA, Abs.bounds]
    refine Try.guard (by omega) ?_
    have g5 : ¬ ((done.length : Int) + 1 ≤ 0) := by omega
    have g6 : done.length + 1 = (pcs q s).length := by omega
    simp (disch := first | omega | (simp; done) | assumption) [wr64, wrU8, wrU64, Nat.add_assoc, -getElem?_pos, List.getElem?_cons_zero, List.getElem?_cons_succ, g5, g6]
    exact ⟨keeps_set hok hk1 (Nat.le_refl _), by simp; omega, rfl, by simp [OwnT]⟩
end Go.Proofs.YtfimhkijacamoaaDoor.LLib

/- Names, blobs, options, cutting at a byte: what the functions answer. No condition. -/
import Derived.Test.YtkehijlgbfjmkaaGreatDoorKW2
import Derived.Lib.TrimByte
set_option linter.unusedVariables false
set_option linter.unusedSimpArgs false
set_option maxRecDepth 10000
set_option maxHeartbeats 4000000
namespace Go.Proofs.YtkehijlgbfjmkaaGreatDoor.KW
open Go Go.RowKit Go.Proofs.YtkehijlgbfjmkaaGreatDoor Go.Proofs.YtkehijlgbfjmkaaGreatDoor.Abs Go.Proofs.YtkehijlgbfjmkaaGreatDoor.Ic Go.Proofs.YtkehijlgbfjmkaaGreatDoor.St
/-! ### The library's -/
theorem IndexByte_ (l : List UInt8) (c : UInt8) (H : AH) : ACall Tryz.prog 96 [.str l, .int .u8 (c.toNat : Int)] H (fun v H' => v = .int .i64 (Lib.indexByte l c) ∧ H' = H) := by
  refine acall_lib (by kernel_rfl) fun j w cargs hr hv => ?_
  obtain ⟨c1, rfl, h2⟩ := hv.str1
  obtain ⟨c2, rfl, h3⟩ := h2.int1
  obtain rfl := h3.nil_right
  have e : ((c.toNat : Int)).toNat.toUInt8 = c := by simp
  refine ⟨_, .int _ _, (Tryz.strings_IndexByte ⟨l.toArray⟩ (c.toNat : Int) w).mono fun e' w' ⟨h1, h2⟩ => ?_⟩
  subst h2
  rw [e] at h1
  exact ⟨h1, Below.refl _ _⟩
theorem SIndex (l : List UInt8) (q : UInt8) (H : AH) : ACall Tryz.prog 88 [.str l, .str [q]] H (fun v H' => v = .int .i64 (Lib.indexByte l q) ∧ H' = H) := by
  refine acall_lib (by kernel_rfl) fun j w cargs hr hv => ?_
  obtain ⟨c1, rfl, h2⟩ := hv.str1
  obtain ⟨c2, rfl, h3⟩ := h2.str1
  obtain rfl := h3.nil_right
  exact ⟨_, .int _ _, (Tryz.stringslite_Index_one ⟨l.toArray⟩ q w).mono fun e w' ⟨h1, h2⟩ => by subst h2; exact ⟨h1, Below.refl _ _⟩⟩
theorem Index_ (l : List UInt8) (q : UInt8) (H : AH) : ACall Tryz.prog 73 [.str l, .str [q]] H (fun v H' => v = .int .i64 (Lib.indexByte l q) ∧ H' = H) := by
  refine acall_lib (by kernel_rfl) fun j w cargs hr hv => ?_
  obtain ⟨c1, rfl, h2⟩ := hv.str1
  obtain ⟨c2, rfl, h3⟩ := h2.str1
  obtain rfl := h3.nil_right
  exact ⟨_, .int _ _, (Tryz.strings_Index_one ⟨l.toArray⟩ q w).mono fun e w' ⟨h1, h2⟩ => by subst h2; exact ⟨h1, Below.refl _ _⟩⟩
theorem Trim_ (l : List UInt8) (q : UInt8) (hq : q.toNat < 128) (hl : l.length ≤ 9223372036854775807) (H : AH) : ACall Tryz.prog 56 [.str l, .str [q]] H (fun v H' => v = .str (Lib.trimB l q) ∧ H' = H) := by
  refine acall_lib (by kernel_rfl) fun j w cargs hr hv => ?_
  obtain ⟨c1, rfl, h2⟩ := hv.str1
  obtain ⟨c2, rfl, h3⟩ := h2.str1
  obtain rfl := h3.nil_right
  refine ⟨_, .str' _, (Tryz.strings_Trim_one ⟨l.toArray⟩ q hq w (by show l.toArray.size ≤ _; simpa using hl)).mono fun e w' ⟨h1, h2⟩ => ?_⟩
  refine ⟨h1, ?_⟩
  rcases h2 with rfl | rfl
  · exact Below.refl _ _
  · exact (Below.refl _ _).drew
/-- A text cut at the first of a byte. -/
def cutA (q : UInt8) (s : List UInt8) : List UInt8 := s.takeWhile (· != q)
def cutB (q : UInt8) (s : List UInt8) : List UInt8 := (s.dropWhile (· != q)).drop 1
def cutF (q : UInt8) (s : List UInt8) : Bool := s.contains q
theorem idx_cut (q : UInt8) : ∀ s : List UInt8, (Lib.indexByte s q = -1 ∧ cutA q s = s ∧ cutB q s = [] ∧ cutF q s = false) ∨
    ∃ o : Nat, Lib.indexByte s q = (o : Int) ∧ o < s.length ∧ cutA q s = s.take o ∧ cutB q s = s.drop (o + 1) ∧ cutF q s = true
  | [] => .inl ⟨rfl, rfl, rfl, rfl⟩
  | b :: l => by
    unfold cutA cutB cutF
    by_cases h : b = q
    · subst h
      exact .inr ⟨0, by simp [Lib.indexByte], by simp, by simp, by simp, by simp⟩
    · have hb : (b == q) = false := by simpa using h
      have hq : (q == b) = false := by simpa using fun e => h e.symm
      have hn : (b != q) = true := by simpa using h
      rcases idx_cut q l with ⟨h1, h2, h3, h4⟩ | ⟨o, h1, h2, h3, h4, h5⟩
      · refine .inl ⟨by simp [Lib.indexByte, hb, h1], ?_, ?_, ?_⟩
        · rw [List.takeWhile_cons, hn, if_pos rfl]; exact congrArg _ h2
        · rw [List.dropWhile_cons, hn, if_pos rfl]; exact h3
        · rw [List.contains_cons, hq, Bool.false_or]; exact h4
      · refine .inr ⟨o + 1, ?_, by simp; omega, ?_, ?_, ?_⟩
        · have : ¬ ((o : Int) == -1) = true := by simp
          simp [Lib.indexByte, hb, h1]
        · rw [List.takeWhile_cons, hn, if_pos rfl]; exact congrArg _ h3
        · rw [List.dropWhile_cons, hn, if_pos rfl]; exact h4
        · rw [List.contains_cons, hq, Bool.false_or]; exact h5
theorem SCut (s : List UInt8) (q : UInt8) (hs : s.length ≤ 9223372036854775000) (H : AH) : ACall Tryz.prog 74 [.str s, .str [q]] H (fun v H' => v = .tuple [.str (cutA q s), .str (cutB q s), .bool (cutF q s)] ∧ H' = H) := by
  refine acall_enter fits74 (by simp) (.tuple (by intro a ha; simp at ha; rcases ha with rfl | rfl | rfl <;> constructor)) fun hok => ?_
  have hI := SIndex s q
  rcases idx_cut q s with ⟨h1, h2, h3, h4⟩ | ⟨o, h1, h2, h3, h4, h5⟩
  · rw [h1] at hI
    rw [h2, h3, h4]
    simp (disch := first | omega | (simp; done) | assumption) [wr64, wrU8, wrU64, Nat.add_assoc, -getElem?_pos, List.getElem?_cons_zero, List.getElem?_cons_succ, ic74, rs74]
    refine CallW.val (hI _) ?_
    simp (disch := first | omega | (simp; done) | assumption) [wr64, wrU8, wrU64, Nat.add_assoc, -getElem?_pos, List.getElem?_cons_zero, List.getElem?_cons_succ, ]
    ((repeat (first | exact AH.keepsAll_refl _ | refine keeps_set hok ?_ (by first | omega | (simp; done) | (simp; omega)) | refine keeps_new hok ?_ (by first | omega | (simp; done) | (simp; omega)))); done)
  · rw [h1] at hI
    rw [h3, h4, h5]
    have c1 : (o : Int) ≤ (s.length : Int) := by omega
    have c2 : (o : Int) + 1 ≤ (s.length : Int) := by omega
    have c3 : (0 : Int) ≤ (o : Int) + 1 := by omega
    have c4 : ((o : Int) + 1).toNat = o + 1 := by omega
    simp (disch := first | omega | (simp; done) | assumption) [wr64, wrU8, wrU64, Nat.add_assoc, -getElem?_pos, List.getElem?_cons_zero, List.getElem?_cons_succ, ic74, rs74]
    refine CallW.val (hI _) ?_
    simp (disch := first | omega | (simp; done) | assumption) [wr64, wrU8, wrU64, Nat.add_assoc, -getElem?_pos, List.getElem?_cons_zero, List.getElem?_cons_succ, Abs.bounds, c1, c2, c3, c4]
    ((repeat (first | exact AH.keepsAll_refl _ | refine keeps_set hok ?_ (by first | omega | (simp; done) | (simp; omega)) | refine keeps_new hok ?_ (by first | omega | (simp; done) | (simp; omega)))); done)
theorem Cut_ (s : List UInt8) (q : UInt8) (hs : s.length ≤ 9223372036854775000) (H : AH) : ACall Tryz.prog 53 [.str s, .str [q]] H (fun v H' => v = .tuple [.str (cutA q s), .str (cutB q s), .bool (cutF q s)] ∧ H' = H) := by
  refine acall_enter fits53 (by simp) (.tuple (by intro a ha; simp at ha; rcases ha with rfl | rfl | rfl <;> constructor)) fun hok => ?_
  simp (disch := first | omega | (simp; done) | assumption) [wr64, wrU8, wrU64, Nat.add_assoc, -getElem?_pos, List.getElem?_cons_zero, List.getElem?_cons_succ, ic53, rs53]
  refine CallW.val (SCut s q hs _) ?_
  simp (disch := first | omega | (simp; done) | assumption) [wr64, wrU8, wrU64, Nat.add_assoc, -getElem?_pos, List.getElem?_cons_zero, List.getElem?_cons_succ, ]
  ((repeat (first | exact AH.keepsAll_refl _ | refine keeps_set hok ?_ (by first | omega | (simp; done) | (simp; omega)) | refine keeps_new hok ?_ (by first | omega | (simp; done) | (simp; omega)))); done)
/-! ### Names -/
theorem Sign (c : UInt8) (H : AH) : ACall Tryz.prog 84 [.int .u8 (c.toNat : Int)] H (fun v H' => v = .bool (namC c) ∧ H' = H) := by
  refine acall_enter fits84 (by simp) (by simp) fun hok => ?_
  have si0 : ((65 : Int) ≤ (c.toNat : Int)) = (65 ≤ c.toNat) := propext (by omega)
  have si1 : ((c.toNat : Int) ≤ 90) = (c.toNat ≤ 90) := propext (by omega)
  have si2 : ((97 : Int) ≤ (c.toNat : Int)) = (97 ≤ c.toNat) := propext (by omega)
  have si3 : ((c.toNat : Int) ≤ 122) = (c.toNat ≤ 122) := propext (by omega)
  have si4 : ((48 : Int) ≤ (c.toNat : Int)) = (48 ≤ c.toNat) := propext (by omega)
  have si5 : ((c.toNat : Int) ≤ 57) = (c.toNat ≤ 57) := propext (by omega)
  have hI := IndexByte_ [46, 43, 45, 95, 126] c
  have hix : decide ((0 : Int) ≤ Lib.indexByte [46, 43, 45, 95, 126] c) = ([46, 43, 45, 95, 126] : List UInt8).contains c := by
    rcases idx_cut c [46, 43, 45, 95, 126] with ⟨h1, _, _, h4⟩ | ⟨o, h1, _, _, _, h5⟩
    · unfold cutF at h4; rw [h1, h4]; rfl
    · unfold cutF at h5; rw [h1, h5]; simp
  have hnm : namC c = (decide (97 ≤ c.toNat ∧ c.toNat ≤ 122) || decide (65 ≤ c.toNat ∧ c.toNat ≤ 90) || decide (48 ≤ c.toNat ∧ c.toNat ≤ 57) || ([46, 43, 45, 95, 126] : List UInt8).contains c) := by
    unfold namC
    rw [inB_iff, inB_iff, inB_iff]
    simp only [si0, si1, si2, si3, si4, si5]
  rw [hnm]
  generalize ([46, 43, 45, 95, 126] : List UInt8).contains c = ct at *
  generalize Lib.indexByte [46, 43, 45, 95, 126] c = ix at *
  have s1 : (65 ≤ c.toNat ∧ c.toNat ≤ 90) ∨ (65 ≤ c.toNat ∧ ¬ c.toNat ≤ 90) ∨ ¬ 65 ≤ c.toNat := by omega
  have s2 : (97 ≤ c.toNat ∧ c.toNat ≤ 122) ∨ (97 ≤ c.toNat ∧ ¬ c.toNat ≤ 122) ∨ ¬ 97 ≤ c.toNat := by omega
  have s3 : (48 ≤ c.toNat ∧ c.toNat ≤ 57) ∨ (48 ≤ c.toNat ∧ ¬ c.toNat ≤ 57) ∨ ¬ 48 ≤ c.toNat := by omega
  rcases s1 with ⟨p1, p2⟩ | ⟨p1, p2⟩ | p1 <;> rcases s2 with ⟨p3, p4⟩ | ⟨p3, p4⟩ | p3 <;> rcases s3 with ⟨p5, p6⟩ | ⟨p5, p6⟩ | p5 <;> first
    | (exfalso; omega)
    | (simp (disch := first | omega | (simp; done) | assumption) [wr64, wrU8, wrU64, Nat.add_assoc, -getElem?_pos, List.getElem?_cons_zero, List.getElem?_cons_succ, ic84, rs84, si0, si1, si2, si3, si4, si5, p1, p2, p3, p4, p5, p6]; first | exact AH.keepsAll_refl _ | done)
    | (simp (disch := first | omega | (simp; done) | assumption) [wr64, wrU8, wrU64, Nat.add_assoc, -getElem?_pos, List.getElem?_cons_zero, List.getElem?_cons_succ, ic84, rs84, si0, si1, si2, si3, si4, si5, p1, p2, p3, p4, p5]; first | exact AH.keepsAll_refl _ | done)
    | (simp (disch := first | omega | (simp; done) | assumption) [wr64, wrU8, wrU64, Nat.add_assoc, -getElem?_pos, List.getElem?_cons_zero, List.getElem?_cons_succ, ic84, rs84, si0, si1, si2, si3, si4, si5, p1, p3, p4, p5]; first | exact AH.keepsAll_refl _ | done)
    | (simp (disch := first | omega | (simp; done) | assumption) [wr64, wrU8, wrU64, Nat.add_assoc, -getElem?_pos, List.getElem?_cons_zero, List.getElem?_cons_succ, ic84, rs84, si0, si1, si2, si3, si4, si5, p1, p2, p3, p5, p6]; first | exact AH.keepsAll_refl _ | done)
    | (simp (disch := first | omega | (simp; done) | assumption) [wr64, wrU8, wrU64, Nat.add_assoc, -getElem?_pos, List.getElem?_cons_zero, List.getElem?_cons_succ, ic84, rs84, si0, si1, si2, si3, si4, si5, p1, p3, p5, p6]; first | exact AH.keepsAll_refl _ | done)
    | (simp (disch := first | omega | (simp; done) | assumption) [wr64, wrU8, wrU64, Nat.add_assoc, -getElem?_pos, List.getElem?_cons_zero, List.getElem?_cons_succ, ic84, rs84, si0, si1, si2, si3, si4, si5, *]; refine CallW.val (hI _) ?_; simp (disch := first | omega | (simp; done) | assumption) [wr64, wrU8, wrU64, Nat.add_assoc, -getElem?_pos, List.getElem?_cons_zero, List.getElem?_cons_succ, hix, *]; first | exact AH.keepsAll_refl _ | exact ⟨hix, AH.keepsAll_refl _⟩ | done)
end Go.Proofs.YtkehijlgbfjmkaaGreatDoor.KW

/- A text's lines, one behind the other: strings.SplitSeq, and the document's Lines. No condition. -/
import Derived.Test.YtkehijlgbfjmkaaGreatDoorKL3
set_option linter.unusedVariables false
set_option linter.unusedSimpArgs false
set_option maxRecDepth 10000
set_option maxHeartbeats 4000000
namespace Go.Proofs.YtkehijlgbfjmkaaGreatDoor.KW
open Go Go.RowKit Go.Proofs.YtkehijlgbfjmkaaGreatDoor Go.Proofs.YtkehijlgbfjmkaaGreatDoor.Abs Go.Proofs.YtkehijlgbfjmkaaGreatDoor.Ic Go.Proofs.YtkehijlgbfjmkaaGreatDoor.St
/-- The pieces of a text between line feeds. -/
def pcs : List UInt8 → List (List UInt8)
  | [] => [[]]
  | c :: l => if c = 10 then [] :: pcs l else match pcs l with
    | p :: ps => (c :: p) :: ps
    | [] => [[c]]
theorem pcs_cons (c : UInt8) (l : List UInt8) : pcs (c :: l) = if c = 10 then [] :: pcs l else match pcs l with
    | p :: ps => (c :: p) :: ps
    | [] => [[c]] := rfl
theorem pcs_ne : ∀ s, pcs s ≠ []
  | [] => by simp [pcs]
  | c :: l => by
    rw [pcs_cons]
    split
    · simp
    · split <;> simp
theorem pcs_cut : ∀ s : List UInt8, pcs s = cutA 10 s :: (if cutF 10 s = true then pcs (cutB 10 s) else [])
  | [] => rfl
  | c :: l => by
    have ih := pcs_cut l
    rw [pcs_cons]
    by_cases h : c = 10
    · subst h
      simp [cutA, cutB, cutF]
    · rw [if_neg h]
      have hn : (c != 10) = true := by simpa using h
      have hq : ((10 : UInt8) == c) = false := by simpa using fun e => h e.symm
      have e1 : cutA 10 (c :: l) = c :: cutA 10 l := by unfold cutA; rw [List.takeWhile_cons, hn, if_pos rfl]
      have e2 : cutB 10 (c :: l) = cutB 10 l := by unfold cutB; rw [List.dropWhile_cons, hn, if_pos rfl]
      have e3 : cutF 10 (c :: l) = cutF 10 l := by unfold cutF; rw [List.contains_cons, hq, Bool.false_or]
      rw [e1, e2, e3, ih]
theorem SplitSeq (s : List UInt8) (q : UInt8) (H : AH) : ACall Tryz.prog 32 [.str s, .str [q]] H (fun v H' => v = .func (.func 71) [] [.ptr (H.next + 1) 0, .ptr H.next 0, .ptr (H.next + 2) 0] ∧
    H' = ((H.new (.cells false 9 [.str s])).new (.cells false 9 [.str [q]])).new (.cells false 3 [.int .i64 0])) := by
  refine acall_of fits32 (by simp) ?_
  simp (disch := first | omega | (simp; done) | assumption) [wr64, wrU8, wrU64, Nat.add_assoc, -getElem?_pos, List.getElem?_cons_zero, List.getElem?_cons_succ, ic32, rs32]
  refine CallW.of (Q := fun v H' => v = .func (.func 71) [] [.ptr (H.next + 1) 0, .ptr H.next 0, .ptr (H.next + 2) 0] ∧ H' = ((H.new (.cells false 9 [.str s])).new (.cells false 9 [.str [q]])).new (.cells false 3 [.int .i64 0])) ?_ ?_
  · refine acall_of fits52 (by simp) ?_
    have hny : Fn.notYield (.func 71) = true := rfl
    simp (disch := first | omega | (simp; done) | assumption) [wr64, wrU8, wrU64, Nat.add_assoc, -getElem?_pos, List.getElem?_cons_zero, List.getElem?_cons_succ, ic52, rs52, hny]
  · rintro v H' ⟨rfl, rfl⟩
    simp (disch := first | omega | (simp; done) | assumption) [wr64, wrU8, wrU64, Nat.add_assoc, -getElem?_pos, List.getElem?_cons_zero, List.getElem?_cons_succ, ]
/-- The iterator's loop: k pieces have come, r is what is left. -/
def SpI (I : Nat → List UInt8 → AH → Prop) (s : List UInt8) (b bp bs bz : Nat) (kk : Nat) (tm : Tms) (H' : AH) : Prop := ∃ (k : Nat) (r : List UInt8), kk = r.length ∧ I k r H' ∧ pcs r = (pcs s).drop k ∧ r.length ≤ s.length ∧
  tm 0 = .yield b ∧ tm 1 = .ptr bp 0 ∧ tm 2 = .ptr bs 0 ∧ tm 3 = .ptr bz 0
theorem SplitIter {b bp bs bz : Nat} {H : AH} {s : List UInt8} (I : Nat → List UInt8 → AH → Prop) (X : AH → Prop) (Q : AV → AH → Prop) (hs : s.length ≤ 1000000)
    (hI : ∀ k r H', I k r H' → H'.at_ bs = some (.cells false 9 [.str r]) ∧ H'.at_ bp = some (.cells false 9 [.str [10]]) ∧ H'.at_ bz = some (.cells false 3 [.int .i64 0]))
    (hset : ∀ k r r' H', I k r H' → I k r' (H'.set bs (some (.cells false 9 [.str r']))))
    (hround : ∀ k r H' p, I k r H' → (pcs s)[k]? = some p → AYield Tryz.prog b [.str p] H' fun v H2 => (v = .bool true ∧ I (k + 1) r H2) ∨ (v = .bool false ∧ X H2))
    (hend : ∀ r H', I (pcs s).length r H' → Q (.tuple []) H') (hstop : ∀ H', X H' → Q (.tuple []) H') (h0 : I 0 s H) :
    ACall Tryz.prog 71 [.yield b, .ptr bp 0, .ptr bs 0, .ptr bz 0] H Q := by
  refine acall_of fits71 (by simp) ?_
  obtain ⟨g1, g2, g3⟩ := hI _ _ _ h0
  simp (disch := first | omega | (simp; done) | assumption) [wr64, wrU8, wrU64, Nat.add_assoc, -getElem?_pos, List.getElem?_cons_zero, List.getElem?_cons_succ, ic71, rs71, g2]
  refine iwp_loop (SpI I s b bp bs bz) s.length ⟨0, s, rfl, h0, by simp, Nat.le_refl _, by simp, by simp, by simp, by simp⟩ ?_
  clear g1 g2 g3 h0
  rintro kk tm H1 ⟨k, r, rfl, hk, hp, hrs, t0, t1, t2, t3⟩
  obtain ⟨g1, g2, g3⟩ := hI _ _ _ hk
  have hX := Index_ r 10
  rw [pcs_cut] at hp
  have hat : (pcs s)[k]? = some (cutA 10 r) := by
    have := congrArg (fun l : List (List UInt8) => l[0]?) hp
    simpa using this.symm
  have hrd := hround k r H1 _ hk hat
  rcases idx_cut 10 r with ⟨h1, h2, h3, h4⟩ | ⟨o, h1, h2, h3, h4, h5⟩
  · rw [h1] at hX
    rw [h4, if_neg (by simp)] at hp
    rw [h2] at hrd
    have hlen : (pcs s).length = k + 1 := by
      have := congrArg List.length hp
      simp at this
      have h9 := (List.getElem?_eq_some_iff.1 hat).1
      omega
    simp (disch := first | omega | (simp; done) | assumption) [wr64, wrU8, wrU64, Nat.add_assoc, -getElem?_pos, List.getElem?_cons_zero, List.getElem?_cons_succ, t0, t1, t2, t3, g1, g2, g3]
    refine CallW.val (hX _) ?_
    simp (disch := first | omega | (simp; done) | assumption) [wr64, wrU8, wrU64, Nat.add_assoc, -getElem?_pos, List.getElem?_cons_zero, List.getElem?_cons_succ, t0, t1, t2, t3, g1, g2, g3]
    refine YieldW.of hrd ?_
    rintro v H2 (⟨rfl, h⟩ | ⟨rfl, h⟩)
    · rw [← hlen] at h
      simp (disch := first | omega | (simp; done) | assumption) [wr64, wrU8, wrU64, Nat.add_assoc, -getElem?_pos, List.getElem?_cons_zero, List.getElem?_cons_succ, ]
      exact hend _ _ h
    · simp (disch := first | omega | (simp; done) | assumption) [wr64, wrU8, wrU64, Nat.add_assoc, -getElem?_pos, List.getElem?_cons_zero, List.getElem?_cons_succ, ]
      exact hstop _ h
  · rw [h1] at hX
    rw [h5, if_pos rfl] at hp
    rw [h3] at hrd
    have c0 : ¬ (o : Int) < 0 := by omega
    have c1 : (o : Int) ≤ (r.length : Int) := by omega
    have c2 : (o : Int) + 1 ≤ (r.length : Int) := by omega
    have c3 : (0 : Int) ≤ (o : Int) + 1 := by omega
    have c4 : ((o : Int) + 1).toNat = o + 1 := by omega
    have c5 : o ≤ r.length := by omega
    have hdr : (pcs s).drop (k + 1) = pcs (r.drop (o + 1)) := by
      rw [← List.drop_drop, ← hp, List.drop_succ_cons, List.drop_zero, h4]
    simp (disch := first | omega | (simp; done) | assumption) [wr64, wrU8, wrU64, Nat.add_assoc, -getElem?_pos, List.getElem?_cons_zero, List.getElem?_cons_succ, t0, t1, t2, t3, g1, g2, g3]
    refine CallW.val (hX _) ?_
    simp (disch := first | omega | (simp; done) | assumption) [wr64, wrU8, wrU64, Nat.add_assoc, -getElem?_pos, List.getElem?_cons_zero, List.getElem?_cons_succ, t0, t1, t2, t3, g1, g2, g3, Abs.bounds, c0, c1, c2, c3, c4, c5]
    refine YieldW.of hrd ?_
    rintro v H2 (⟨rfl, h⟩ | ⟨rfl, h⟩)
    · obtain ⟨k1, k2, k3⟩ := hI _ _ _ h
      simp (disch := first | omega | (simp; done) | assumption) [wr64, wrU8, wrU64, Nat.add_assoc, -getElem?_pos, List.getElem?_cons_zero, List.getElem?_cons_succ, t0, t1, t2, t3, k1, k2, k3, Abs.bounds, c1, c2, c3, c4, c5]
      exact ⟨(r.drop (o + 1)).length, by simp; omega, k + 1, r.drop (o + 1), rfl, hset _ _ _ _ h, hdr.symm, by simp; omega, by simp [t0], by simp [t1], by simp [t2], by simp [t3]⟩
    · simp (disch := first | omega | (simp; done) | assumption) [wr64, wrU8, wrU64, Nat.add_assoc, -getElem?_pos, List.getElem?_cons_zero, List.getElem?_cons_succ, t0, t1, t2, t3]
      exact hstop _ h
end Go.Proofs.YtkehijlgbfjmkaaGreatDoor.KW

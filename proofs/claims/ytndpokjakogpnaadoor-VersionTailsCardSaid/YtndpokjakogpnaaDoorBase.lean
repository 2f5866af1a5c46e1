/- Small laws for the walks of this seat: '>' and '<=' on strings, told by '<'. -/
import Derived.Laws.Strings
import Derived.Laws.Small
namespace Go.Proofs.YtndpokjakogpnaaDoor.Base
open Go
theorem bytesLess_or (a b : List UInt8) : (Op.bytesLess a b || a == b) = !(Op.bytesLess b a) := by
  induction a generalizing b with
  | nil => cases b <;> simp [Op.bytesLess]
  | cons x a ih =>
    cases b with
    | nil => simp [Op.bytesLess]
    | cons y b =>
      have h := ih b
      simp only [Op.bytesLess]
      by_cases hxy : x = y
      · subst hxy
        simp [UInt8.lt_irrefl]
        simpa using h
      · have h1 : (x == y) = false := by simpa using hxy
        have h2 : (y == x) = false := by simpa using fun e => hxy e.symm
        by_cases hlt : x < y
        · have : ¬ y < x := UInt8.lt_asymm hlt
          simp [h1, h2, hlt, this]
        · have : y < x := by
            rcases UInt8.lt_or_lt_of_ne hxy with h | h
            · exact absurd h hlt
            · exact h
          simp [h1, h2, hlt, this]
@[go_sem] theorem gtr_swap (t : TypeId) (a b : ByteArray) : binOp .gtr t (.string a) (.string b) = pure (.bool (Op.bytesLess b.toList a.toList)) := by
  have h : binOp .gtr t (.string a) (.string b) = pure (.bool !(Op.bytesLess a.toList b.toList || a.toList == b.toList)) := by simp [binOp, Op.stringOp]
  rw [h, bytesLess_or, Bool.not_not]
@[go_sem] theorem leq_swap (t : TypeId) (a b : ByteArray) : binOp .leq t (.string a) (.string b) = pure (.bool !(Op.bytesLess b.toList a.toList)) := by
  have h : binOp .leq t (.string a) (.string b) = pure (.bool (Op.bytesLess a.toList b.toList || a.toList == b.toList)) := by simp [binOp, Op.stringOp]
  rw [h, bytesLess_or]
@[go_sem] theorem geq_swap (t : TypeId) (a b : ByteArray) : binOp .geq t (.string a) (.string b) = pure (.bool !(Op.bytesLess a.toList b.toList)) := by simp [binOp, Op.stringOp]
end Go.Proofs.YtndpokjakogpnaaDoor.Base

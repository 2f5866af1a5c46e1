/- Texts as lists, for the version laws that make texts. -/
import Derived.Test.YtndpokjakogpnaaDoorVev
import Derived.Test.YtndpokjakogpnaaDoorRNum
set_option linter.unusedVariables false
set_option linter.unusedSimpArgs false
namespace Go.Proofs.YtndpokjakogpnaaDoor.Vaux
open Go.RowKit (wrap64)
open Go Go.Proofs.YtndpokjakogpnaaDoorW.PrintWords Go.Proofs.YtndpokjakogpnaaDoorW.PrintLast Go.Proofs.YtndpokjakogpnaaDoor.V Go.Proofs.YtndpokjakogpnaaDoor.Vm Go.Proofs.YtndpokjakogpnaaDoor.Dg Go.Proofs.YtndpokjakogpnaaDoor.Vev Go.Proofs.YtndpokjakogpnaaDoor.RNum

abbrev st (l : List UInt8) : ByteArray := ⟨l.toArray⟩
theorem st_size (l : List UInt8) : (st l).size = l.length := by simp [st, ByteArray.size]
theorem st_app (a b : List UInt8) : st a ++ st b = st (a ++ b) := app_mk a (st b)
theorem st_list (l : List UInt8) : (st l).toList = l := Lib.toList_data (st l)
theorem of_st (s : ByteArray) : ∃ l, s = st l := ⟨bs s, (mk_bs s).symm⟩
theorem compare_st (a b : List UInt8) (ha : a.length ≤ 1000000000000) (hb : b.length ≤ 1000000000000) : Ev (fun k => version_Compare.f k (st a) (st b)) (cmpT (toks a) (toks b)) :=
  compare_ev (st a) (st b) (by rw [st_size]; exact ha) (by rw [st_size]; exact hb)
theorem strOf (l : List UInt8) : strOfNums (l.map fun c => (c.toNat : Int)) = st l := by
  unfold strOfNums st
  rw [List.map_map]
  congr 2
  have : ∀ c ∈ l, ((fun n : Int => UInt8.ofNat n.toNat) ∘ fun c : UInt8 => (c.toNat : Int)) c = c := fun c _ => by simp
  rw [List.map_congr_left this]
  simp
theorem set_fill (v : Int) (xs : List Int) (i : Nat) (h : i < xs.length) (hp : xs.take i = List.replicate i v) : (xs.set i v).take (i + 1) = List.replicate (i + 1) v := by
  rw [List.take_succ_eq_append_getElem (by rw [List.length_set]; exact h), List.take_set_of_le (Nat.le_refl _), hp, List.getElem_set_self, List.replicate_succ']
end Go.Proofs.YtndpokjakogpnaaDoor.Vaux

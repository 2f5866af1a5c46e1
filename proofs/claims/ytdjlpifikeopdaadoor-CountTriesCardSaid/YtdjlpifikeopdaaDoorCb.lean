/- Small contracts for the count seat: strings.Cut at one sign, and what is handed along for Itoa's table. -/
import Derived.Test.YtdjlpifikeopdaaDoorShelf
import Derived.WalkKit
import Derived.Lib.CutLaws
import Derived.Lib.IndexBytes
import Derived.Lib.AppendIntMem
import Derived.Lib.ConvBytes
import Derived.Laws.Strings3
import Derived.Deep.Draws
import Derived.Test.YtdjlpifikeopdaaDoorWWords
set_option linter.unusedVariables false
namespace Go.Proofs.YtdjlpifikeopdaaDoor.Cb
open Go Go.RowKit Go.Lib Go.Sort
def GW (w : World) : Prop := Lib.TabIs Tryd.prog w "internal/strconv.uint64pow10" .u64 Lib.pow10Tab
theorem GW_below {w W : World} (h : GW w) (hb : Below w.heap.size w W) : GW W := Lib.tabBelow_of_tabIs h W hb
theorem below_grow {w W : World} (h : Below w.heap.size w W) (os : Array Obj) : Below w.heap.size w (grow W os) := by
  have h2 := Lib.below_grow w.heap.size W h.size 0 os
  exact h.trans h2
set_option maxRecDepth 100000 in
theorem cut38 (s : ByteArray) (hs : s.size < 4294967281) (w : World) :
    Calls Tryd.prog 38 #[.string s, .string ⟨#[45]⟩] w fun e w' => e = .returned (.tuple #[.string ⟨(Lib.cut s.data.toList [45]).1.toArray⟩, .string ⟨(Lib.cut s.data.toList [45]).2.1.toArray⟩, .bool (Lib.cut s.data.toList [45]).2.2]) ∧ ∃ n, w' = w.drewN n := by
  have e45 : ([45] : List UInt8) = (⟨#[45]⟩ : ByteArray).data.toList := rfl
  have one : Lib.indexByte s.data.toList 45 = Lib.indexB s ⟨#[45]⟩ := (Lib.index_one s.data.toList 45).symm
  have hsz : (⟨#[45]⟩ : ByteArray).size = 1 := rfl
  rcases Lib.indexB_cases s ⟨#[45]⟩ with hix | ⟨i, hix, hroom⟩
  · obtain ⟨e1, e2, e3⟩ := Lib.cutB_miss s ⟨#[45]⟩ hix
    rw [e45, e1, e2, e3]
    go_enter Tryd.func38, Tryd.ntmps38
    go_wp2_with (first | (go_at_call 41; refine (Tryd.stringslite_Index_one s 45 _).mono ?_; rintro e w' ⟨rfl, rfl⟩; rw [one, hix]))
    go_ret3
    exact ⟨rfl, 0, rfl⟩
  · obtain ⟨e1, e2, e3⟩ := Lib.cutB_hit s ⟨#[45]⟩ i hix
    rw [hsz] at hroom e2
    have mixed : Tryd.prog.follows .mixedOrders = true := by kernel_rfl
    have hw : IntKind.i64.wrap ((i : Int) + 1) = (i : Int) + 1 := by rw [IntKind.wrap_i64]; omega
    have ht : ((i : Int) + 1).toNat = i + 1 := by omega
    rw [e45, e1, e2, e3]
    have c1 : (0 : Int) ≤ ↑i := by omega
    have c2 : (↑i : Int) ≤ ↑s.size := by omega
    have c3 : (0 : Int) ≤ ↑i + 1 := by omega
    have c4 : (↑i + 1 : Int) ≤ ↑s.size := by omega
    go_enter Tryd.func38, Tryd.ntmps38
    go_wp2_with (first | (go_at_call 41; refine (Tryd.stringslite_Index_one s 45 _).mono ?_; rintro e w' ⟨rfl, rfl⟩; rw [one, hix]))
    go_region_o
    go_wp2
    go_ret3
    exact ⟨rfl, 1, rfl⟩
set_option maxRecDepth 100000 in
theorem cut33 (s : ByteArray) (w : World) (hs : s.size < 4294967281) :
    Calls Tryd.prog 33 #[.string s, .string ⟨#[45]⟩] w fun e w' => e = .returned (.tuple #[.string ⟨(Lib.cut s.data.toList [45]).1.toArray⟩, .string ⟨(Lib.cut s.data.toList [45]).2.1.toArray⟩, .bool (Lib.cut s.data.toList [45]).2.2]) ∧ ∃ n, w' = w.drewN n := by
  go_enter Tryd.func33, Tryd.ntmps33
  go_wp2_with (first | (go_at_call 38; refine (cut38 s hs _).mono ?_; rintro e w' ⟨rfl, n, rfl⟩))
  go_ret3
  exact ⟨rfl, n, rfl⟩
theorem below_bytes (w : World) (e : TypeId) (s : ByteArray) : Below w.heap.size w (Lib.bytesWorld w e s) := Go.Proofs.YtdjlpifikeopdaaDoorW.PrintWords.bytes_below (Below.refl _ _) (Nat.le_refl _) e s
end Go.Proofs.YtdjlpifikeopdaaDoor.Cb

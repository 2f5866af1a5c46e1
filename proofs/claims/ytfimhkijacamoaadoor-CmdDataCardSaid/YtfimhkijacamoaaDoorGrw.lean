/- strings.Builder's grow, of a builder without a buffer: a new row of whatever bytes. -/
import Derived.Test.YtfimhkijacamoaaDoorA24
import Derived.Test.YtfimhkijacamoaaDoorIc
import Derived.Test.YtfimhkijacamoaaDoorShelf
import Derived.WalkKit
import Derived.RowKitTokens
import Derived.Shelf.Strings.Builder2
set_option linter.unusedVariables false
set_option linter.unusedSimpArgs false
set_option maxRecDepth 10000
set_option maxHeartbeats 4000000
namespace Go.Proofs.YtfimhkijacamoaaDoor.EErr
open Go Go.RowKit Go.Proofs.YtfimhkijacamoaaDoor Go.Proofs.YtfimhkijacamoaaDoor.Abs Go.Proofs.YtfimhkijacamoaaDoor.Ic
theorem m_grow (b n : Nat) (w : World) (c1 : w.cell? ⟨b, 1, none⟩ = some (.slice none 0 0)) (fz : w.frozen? ⟨b, 1, none⟩ = false) (hlt : b < w.heap.size) (hn : n ≤ 281474976710656) :
    Calls Tryd.prog 70 #[.pointer (some ⟨b, 0, none⟩), .int .i64 n] w fun e w' => e = .returned (.tuple #[]) ∧ ∃ cs : Array Value, n ≤ cs.size ∧ w'.heap = (w.setCell ⟨b, 1, none⟩ (.slice (some ⟨w.heap.size, 0, none⟩) 0 cs.size)).heap.push (.cells cs 5) ∧ w'.os = w.os ∧ w'.tape = w.tape ∧ w'.output = w.output := by
  obtain ⟨cs, hrun, hle, hmax⟩ := Lib.run_makeNoZero (P := Tryd.prog) w.drew #[3] 29 5 Tryd.underlying29 n hn
  have hw : IntKind.i64.wrap (IntKind.i64.wrap 0 + (n : Int)) = n := by
    rw [IntKind.wrap_i64, IntKind.wrap_i64]
    omega
  have hcall : (callFunc 84 #[.int .i64 (IntKind.i64.wrap (IntKind.i64.wrap 0 + (n : Int)))]).run Tryd.prog w.drew = .ok (.value (.slice (some ⟨w.drew.heap.size, 0, none⟩) n cs.size)) (w.drew.drew.drew.alloc (.cells cs 5)) := by
    rw [hw, run_callFunc_extern Tryd.func84 (by kernel_rfl) (by kernel_rfl) (by kernel_rfl) (e := Extern.BytealgMakeNoZero.makeNoZero #[3] #[29]) (by kernel_rfl), hrun]
    rfl
  have hw2 : IntKind.i64.wrap (IntKind.i64.wrap 0 + (n : Int)) = IntKind.i64.wrap (n : Int) := by rw [show IntKind.i64.wrap 0 = 0 from by decide, Int.zero_add]
  rw [hw2] at hcall
  have c1' : w.drew.cell? ⟨b, 1, none⟩ = some (.slice none 0 0) := c1
  have c2 : (w.alloc (.cells cs 5)).cell? ⟨b, 1, none⟩ = some (.slice none 0 0) := by
    unfold World.cell? World.alloc at *
    simp only [Array.getElem?_push, if_neg (show ¬ b = w.heap.size by omega)]
    exact c1
  have f2 : (w.alloc (.cells cs 5)).frozen? ⟨b, 1, none⟩ = false := by
    unfold World.frozen? World.alloc at *
    simp only [Array.getElem?_push, if_neg (show ¬ b = w.heap.size by omega)]
    exact fz
  have hcopy : ∀ W : World, (Builtin.copy_ #[29, 29] 3 #[.slice (some ⟨w.heap.size, 0, none⟩) 0 cs.size, .slice none 0 0]).run Tryd.prog W = .ok (goInt 0) W :=
    fun W => run_copy_none W 29 29 3 5 _ _ 0 cs.size 0 0 Tryd.underlying29 (by kernel_rfl) rfl
  have mixed : Tryd.prog.follows .mixedOrders = true := fits57.follows
  go_enter Tryd.func70, Tryd.ntmps70
  go_wp2
  go_region_o
  all_goals (go_wp2; go_end0; exact ⟨rfl, cs, hle, rfl, rfl, rfl, rfl⟩)
end Go.Proofs.YtfimhkijacamoaaDoor.EErr

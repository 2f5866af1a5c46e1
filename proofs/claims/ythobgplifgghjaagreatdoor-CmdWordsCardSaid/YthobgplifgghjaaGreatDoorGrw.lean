/- strings.Builder's grow, of a builder without a buffer: a new row of whatever bytes. -/
import Derived.Test.YthobgplifgghjaaGreatDoorA24
import Derived.Test.YthobgplifgghjaaGreatDoorIc
import Derived.Test.YthobgplifgghjaaGreatDoorShelf
import Derived.WalkKit
import Derived.RowKitTokens
import Derived.Shelf.Strings.Builder2
set_option linter.unusedVariables false
set_option linter.unusedSimpArgs false
set_option maxRecDepth 10000
set_option maxHeartbeats 4000000
namespace Go.Proofs.YthobgplifgghjaaGreatDoor.EErr
open Go Go.RowKit Go.Proofs.YthobgplifgghjaaGreatDoor Go.Proofs.YthobgplifgghjaaGreatDoor.Abs Go.Proofs.YthobgplifgghjaaGreatDoor.Ic
theorem m_grow (b n : Nat) (w : World) (c1 : w.cell? ⟨b, 1, none⟩ = some (.slice none 0 0)) (fz : w.frozen? ⟨b, 1, none⟩ = false) (hlt : b < w.heap.size) (hn : n ≤ 281474976710656) :
    Calls Tryz.prog 52 #[.pointer (some ⟨b, 0, none⟩), .int .i64 n] w fun e w' => e = .returned (.tuple #[]) ∧ ∃ cs : Array Value, n ≤ cs.size ∧ w'.heap = (w.setCell ⟨b, 1, none⟩ (.slice (some ⟨w.heap.size, 0, none⟩) 0 cs.size)).heap.push (.cells cs 5) ∧ w'.os = w.os ∧ w'.tape = w.tape ∧ w'.output = w.output := by
  obtain ⟨cs, hrun, hle, hmax⟩ := Lib.run_makeNoZero (P := Tryz.prog) w.drew #[3] 59 5 Tryz.underlying59 n hn
  have hw : IntKind.i64.wrap (IntKind.i64.wrap 0 + (n : Int)) = n := by
    rw [IntKind.wrap_i64, IntKind.wrap_i64]
    omega
  have hcall : (callFunc 64 #[.int .i64 (IntKind.i64.wrap (IntKind.i64.wrap 0 + (n : Int)))]).run Tryz.prog w.drew = .ok (.value (.slice (some ⟨w.drew.heap.size, 0, none⟩) n cs.size)) (w.drew.drew.drew.alloc (.cells cs 5)) := by
    rw [hw, run_callFunc_extern Tryz.func64 (by kernel_rfl) (by kernel_rfl) (by kernel_rfl) (e := Extern.BytealgMakeNoZero.makeNoZero #[3] #[59]) (by kernel_rfl), hrun]
    rfl
  have hw2 : IntKind.i64.wrap (IntKind.i64.wrap 0 + (n : Int)) = IntKind.i64.wrap (n : Int) := by rw [show IntKind.i64.wrap 0 = 0 from by decide, Int.zero_add]
  rw [hw2] at hcall
  have c1' : w.drew.cell? ⟨b, 1, none⟩ = some (.slice none 0 0) := c1
  have c2 : (w.alloc (.cells cs 5)).cell? ⟨b, 1, none⟩ = some (.slice none 0 0) := by
    unfold World.cell? World.alloc at *
    simp only [Array.getElem?_push, if_neg (show ¬ b = w.heap.size by omega)]
    exact c1
  have f2 : (w.alloc (.cells cs 5)).frozen? ⟨b, 1, none⟩ = false := by
    unfold World.frozen? World.alloc at *
    simp only [Array.getElem?_push, if_neg (show ¬ b = w.heap.size by omega)]
    exact fz
  have hcopy : ∀ W : World, (Builtin.copy_ #[59, 59] 3 #[.slice (some ⟨w.heap.size, 0, none⟩) 0 cs.size, .slice none 0 0]).run Tryz.prog W = .ok (goInt 0) W :=
    fun W => run_copy_none W 59 59 3 5 _ _ 0 cs.size 0 0 Tryz.underlying59 (by kernel_rfl) rfl
  have mixed : Tryz.prog.follows .mixedOrders = true := fits43.follows
  go_enter Tryz.func52, Tryz.ntmps52
  go_wp2
  go_region_o
  all_goals (go_wp2; go_end0; exact ⟨rfl, cs, hle, rfl, rfl, rfl, rfl⟩)
end Go.Proofs.YthobgplifgghjaaGreatDoor.EErr

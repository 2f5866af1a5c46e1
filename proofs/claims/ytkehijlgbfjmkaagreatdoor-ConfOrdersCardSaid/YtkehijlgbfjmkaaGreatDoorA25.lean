/- A world to begin with for rows that list a type's handle and pinned tables: the door's own heap, with the plain ones laid over it. No condition. -/
import Derived.Lay
import Derived.LaidHandle
import Derived.LaidMore
import Derived.Test.YtkehijlgbfjmkaaGreatDoorA21
set_option linter.unusedVariables false
namespace Go.Proofs.YtkehijlgbfjmkaaGreatDoor.Abs
open Go Go.RowKit
noncomputable def wit (P : Program) (n : Nat) (os : Os) (l : List (String × DataW Unit)) : World := (World.doorLaid P n os).layVars P (l.filter fun x => x.2.handleName?.isNone)
theorem wit_os (P : Program) (n : Nat) (os : Os) (l : List (String × DataW Unit)) : (wit P n os l).os = os := World.layVars_os _ _ _
theorem met_wit {P : Program} {n : Nat} {os : Os} {l : List (String × DataW Unit)} (args : Array Value)
    (hf : (World.doorLaid P n os).layFits P (l.filter fun x => x.2.handleName?.isNone) [] = true)
    (hi : (World.doorLaid P n os).layIfaces P (l.filter fun x => x.2.handleName?.isNone) (wit P n os l) = true)
    (hh : (l.filter fun x => x.2.handleName?.isSome).all (handleAtB P ((wit P n os l).forCall (fun _ _ => 0) ⟨#[], args, []⟩).memory) = true) :
    laidMetH P l ((wit P n os l).forCall (fun _ _ => 0) ⟨#[], args, []⟩).memory := by
  have key : ∀ l' : List (String × DataW Unit), (World.doorLaid P n os).layFits P l' [] = true → (World.doorLaid P n os).layIfaces P l' ((World.doorLaid P n os).layVars P l') = true → laidMet P l' ((World.doorLaid P n os).layVars P l') := fun l' hf hi => by
    have e1 : (l'.filter fun x => (l'.map (·.1)).contains x.1) = l' := List.filter_eq_self.2 fun x hx => List.contains_iff_mem.2 (List.mem_map.2 ⟨x, hx, rfl⟩)
    have e2 : (l'.filter fun x => !(l'.map (·.1)).contains x.1) = [] := List.filter_eq_nil_iff.2 fun x hx => by rw [List.contains_iff_mem.2 (List.mem_map.2 ⟨x, hx, rfl⟩)]; simp
    exact laidMet_layVars (w0 := World.doorLaid P n os) (l'.map (·.1)) [] (by rw [e1]) (by rw [e1]; exact hf) (by rw [e1]; exact hi) (by rw [e2]; exact LaidIn.none)
  exact laidMetH_of_parts ((key _ hf hi).of_heap (by simp [wit, World.memory, World.forCall, Input.heap])) hh
end Go.Proofs.YtkehijlgbfjmkaaGreatDoor.Abs

/- The table of tens alone, for rows that list no handle. -/
import Derived.Test.YtcgkadfgojmmlaaDoorRows
import Derived.Test.YtcgkadfgojmmlaaDoorDItoa
import Derived.Lib.LaidU8
import Derived.Lib.LaidTab
set_option linter.unusedVariables false
namespace Go.Proofs.YtcgkadfgojmmlaaDoor.TLaid
open Go Go.RowKit Go.Proofs.YtcgkadfgojmmlaaDoor Go.Proofs.YtcgkadfgojmmlaaDoor.Abs Go.Proofs.YtcgkadfgojmmlaaDoor.EErr
abbrev Tab (w : World) : Prop := Lib.TabIs Tryd.prog w "internal/strconv.uint64pow10" .u64 Lib.pow10Tab
theorem tab_eq : (Rows.laid_internal_strconv_uint64pow10 : DataW Unit) = Lib.tabData .u64 Lib.pow10Tab := by kernel_rfl
theorem gw_of {W : World} {l : List (String × DataW Unit)} (h : laidMet Tryd.prog l W) (hm : ("internal/strconv.uint64pow10", (Rows.laid_internal_strconv_uint64pow10 : DataW Unit)) ∈ l) : Tab W := by
  rw [tab_eq] at hm
  obtain ⟨g, t, cs, fuel, p, hg, ht, hv, hdd⟩ := Lib.laidMet.reads h hm
  have hg3 : Tryd.prog.globalNamed "internal/strconv.uint64pow10" = some 1 := by kernel_rfl
  obtain rfl := Option.some.inj (hg3.symm.trans hg)
  have ht3 : (Tryd.prog.globals[1]?).map (·.type) = some 131 := by kernel_rfl
  obtain rfl := Option.some.inj (ht3.symm.trans ht)
  have hcs := Lib.cells_of_tab (n := 20) (e := 90) (k := .u64) (zs := Lib.pow10Tab) (by kernel_rfl) (by kernel_rfl) (by kernel_rfl) (by kernel_rfl) hdd
  unfold Tab Lib.TabIs
  rw [hv, ← hcs]
noncomputable def tabs : Nat → Option AObj := fun b => if b = 1 then some powTab else none
theorem tabs_pow : tabs 1 = some powTab := by unfold tabs; rw [if_pos rfl]
theorem pow_at {W : World} (hsh : W.ShapedOpen Tryd.prog) (hG : Tab W) {j : Inj} : ∃ x, W.heap[1]? = some x ∧ ORel j powTab x ∧ csize x = 20 := by
  have hrow : ∃ zero, ((begin Tryd.prog (fun _ _ => 0) default).world.heap[1]?).bind Obj.row? = some (zero, 131) := ⟨Array.replicate 20 (.int .u64 0), by kernel_rfl⟩
  obtain ⟨zero, hrow⟩ := hrow
  obtain ⟨cs, h3, h4, _⟩ := hsh.1 1 zero 131 (of_decide_eq_true (by kernel_rfl)) hrow
  refine ⟨_, h3, ?_⟩
  have hn : Tryd.prog.globalNamed "internal/strconv.uint64pow10" = some 1 := by kernel_rfl
  have hG1 := hG
  unfold Tab Lib.TabIs World.var? at hG1
  rw [hn, Option.bind_some, h3] at hG1
  have e : cs = (Lib.pow10Tab.map fun z => Value.int .u64 z).toArray := Option.some.inj hG1
  subst e
  refine ⟨⟨rfl, by simp, fun i a v ha hv => ?_, fun h => by cases h⟩, by simp [csize]; decide⟩
  simp at ha hv
  obtain ⟨x, hx, rfl⟩ := ha
  obtain ⟨y, hy, rfl⟩ := hv
  rw [hx] at hy
  cases hy
  exact .int _ _
theorem H1_pow (W : World) : (H1 W tabs).at_ 1 = some powTab := H1_tab tabs_pow
theorem walk {f : FuncId} {args : List AV} {cargs : Array Value} {W : World} (hsh : W.ShapedOpen Tryd.prog) (hG : Tab W) (h : ACall Tryd.prog f args (H1 W tabs) fun v H' => v = .bool true ∧ H' = H1 W tabs)
    (hv : VRs (j1 W) args cargs.toList) : Calls Tryd.prog f cargs W fun e W' => e = .returned (.bool true) ∧ Below W.heap.size W W' := by
  refine calls_true h (rel1 hsh (by kernel_rfl) fun a o ht => ?_) hv (H1_ro fun a o h => ?_)
  · unfold tabs at ht
    split at ht
    · rename_i e
      subst e
      cases ht
      obtain ⟨x, h1, h2, _⟩ := pow_at hsh hG (j := j0 Tryd.prog)
      exact ⟨x, h1, h2⟩
    · cases ht
  · unfold tabs at h
    split at h
    · cases h; rfl
    · cases h
end Go.Proofs.YtcgkadfgojmmlaaDoor.TLaid

/- The table that Itoa reads, out of a row's list of package variables; the first heap of the rows of package count. -/
import Derived.Test.YtdjlpifikeopdaaDoorRows
import Derived.Test.YtdjlpifikeopdaaDoorA21
import Derived.Test.YtdjlpifikeopdaaDoorCLib
import Derived.Lib.LaidU8
import Derived.Lib.LaidTab
namespace Go.Proofs.YtdjlpifikeopdaaDoor.CLaid
open Go Go.RowKit Go.Proofs.YtdjlpifikeopdaaDoor Go.Proofs.YtdjlpifikeopdaaDoor.Abs
abbrev Tab (w : World) : Prop := Lib.TabIs Tryd.prog w "internal/strconv.uint64pow10" .u64 Lib.pow10Tab
theorem tab_eq : (Rows.laid_internal_strconv_uint64pow10 : DataW Unit) = Lib.tabData .u64 Lib.pow10Tab := by kernel_rfl
theorem gw_of {W : World} {l : List (String × DataW Unit)} (h : laidMet Tryd.prog l W) (hm : ("internal/strconv.uint64pow10", (Rows.laid_internal_strconv_uint64pow10 : DataW Unit)) ∈ l) : Tab W := by
  rw [tab_eq] at hm
  obtain ⟨g, t, cs, fuel, p, hg, ht, hv, hd⟩ := Lib.laidMet.reads h hm
  have hg3 : Tryd.prog.globalNamed "internal/strconv.uint64pow10" = some 1 := by kernel_rfl
  obtain rfl := Option.some.inj (hg3.symm.trans hg)
  have ht3 : (Tryd.prog.globals[1]?).map (·.type) = some 76 := by kernel_rfl
  obtain rfl := Option.some.inj (ht3.symm.trans ht)
  have hcs := Lib.cells_of_tab (n := 20) (e := 45) (k := .u64) (zs := Lib.pow10Tab) (by kernel_rfl) (by kernel_rfl) (by kernel_rfl) (by kernel_rfl) hd
  unfold Tab Lib.TabIs
  rw [hv, ← hcs]
noncomputable def tabs : Nat → Option AObj := fun b => if b = 1 then some CLib.powTab else none
noncomputable abbrev H0 : AH := ⟨Tryd.prog.globals.size, tabs⟩
theorem H0_tab : H0.at_ 1 = some CLib.powTab := by show tabs 1 = _; unfold tabs; exact if_pos rfl
theorem H0_ro : ∀ a, ¬ H0.wr a := nowr fun a o h => by
  unfold tabs at h
  split at h
  · cases h; rfl
  · cases h
theorem tab_at {W : World} (hsh : W.ShapedOpen Tryd.prog) (hG : Tab W) {j : Inj} : ∃ x, W.heap[1]? = some x ∧ ORel j CLib.powTab x ∧ csize x = 20 := by
  have hrow : ∃ zero, ((begin Tryd.prog (fun _ _ => 0) default).world.heap[1]?).bind Obj.row? = some (zero, 76) := ⟨Array.replicate 20 (.int .u64 0), by kernel_rfl⟩
  obtain ⟨zero, hrow⟩ := hrow
  obtain ⟨cs, h3, h4, _⟩ := hsh.1 1 zero 76 (of_decide_eq_true (by kernel_rfl)) hrow
  refine ⟨_, h3, ?_⟩
  have hn : Tryd.prog.globalNamed "internal/strconv.uint64pow10" = some 1 := by kernel_rfl
  unfold Tab Lib.TabIs World.var? at hG
  rw [hn, Option.bind_some, h3] at hG
  have e : cs = (Lib.pow10Tab.map fun z => Value.int .u64 z).toArray := Option.some.inj hG
  subst e
  refine ⟨⟨rfl, by simp, fun i a v ha hv => ?_, fun h => by cases h⟩, by simp [csize]; decide⟩
  simp at ha hv
  obtain ⟨x, hx, rfl⟩ := ha
  obtain ⟨y, hy, rfl⟩ := hv
  rw [hx] at hy
  cases hy
  exact .int _ _
theorem rel {W : World} (hsh : W.ShapedOpen Tryd.prog) (hG : Tab W) : Rel Tryd.prog (j0 Tryd.prog) H0 W := by
  refine rel0 hsh (by kernel_rfl) fun a o h => ?_
  unfold tabs at h
  split at h
  · rename_i e
    subst e
    cases h
    obtain ⟨x, h1, h2, _⟩ := tab_at hsh hG (j := j0 Tryd.prog)
    exact ⟨of_decide_eq_true (by kernel_rfl), x, h1, h2⟩
  · cases h
theorem tabs_ok {W : World} (hsh : W.ShapedOpen Tryd.prog) (hG : Tab W) : ∀ a o, tabs a = some o → ∃ t cs x, o = .cells true t cs ∧ W.heap[a]? = some x ∧ ORel (j0 Tryd.prog) o x ∧ csize x = cs.length := fun a o h => by
  unfold tabs at h
  split at h
  · rename_i e
    subst e
    cases h
    obtain ⟨x, h1, h2, h3⟩ := tab_at hsh hG (j := j0 Tryd.prog)
    exact ⟨_, _, x, rfl, h1, h2, by rw [h3]; decide +kernel⟩
  · cases h
theorem H1_tab1 (W : World) : (H1 W tabs).at_ 1 = some CLib.powTab := H1_tab H0_tab
/-- The same over the heap with what the parameters lead to. -/
theorem walk1 {f : FuncId} {args : List AV} {cargs : Array Value} {W : World} (hsh : W.ShapedOpen Tryd.prog) (hG : Tab W) (h : ACall Tryd.prog f args (H1 W tabs) fun v H' => v = .bool true ∧ H' = H1 W tabs)
    (hv : VRs (j1 W) args cargs.toList) : Calls Tryd.prog f cargs W fun e W' => e = .returned (.bool true) ∧ Below W.heap.size W W' := by
  refine calls_true h (rel1 hsh (by kernel_rfl) fun a o ht => ?_) hv (H1_ro fun a o h => ?_)
  · obtain ⟨t, cs, x, _, h2, h3, _⟩ := tabs_ok hsh hG a o ht
    exact ⟨x, h2, h3⟩
  · unfold tabs at h
    split at h
    · cases h; rfl
    · cases h
theorem walk {f : FuncId} {args : List AV} {cargs : Array Value} {W : World} (hsh : W.ShapedOpen Tryd.prog) (hG : Tab W) (h : ACall Tryd.prog f args H0 fun v H' => v = .bool true ∧ H' = H0) (hv : VRs (j0 Tryd.prog) args cargs.toList) :
    Calls Tryd.prog f cargs W fun e W' => e = .returned (.bool true) ∧ Below W.heap.size W W' := calls_true h (rel hsh hG) hv H0_ro
end Go.Proofs.YtdjlpifikeopdaaDoor.CLaid

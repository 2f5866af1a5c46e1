/- What a row's listed package variables give: the table of tens and the handle of 'error'; the first heap of the rows of package fault. -/
import Derived.Test.YtcgkadfgojmmlaaDoorRows
import Derived.Test.YtcgkadfgojmmlaaDoorDItoa
import Derived.Lib.LaidU8
import Derived.Lib.LaidTab
import Derived.LaidHandle
import Derived.LaidMore
import Derived.LaidLaws
set_option linter.unusedVariables false
namespace Go.Proofs.YtcgkadfgojmmlaaDoor.ELaid
open Go Go.RowKit Go.Proofs.YtcgkadfgojmmlaaDoor Go.Proofs.YtcgkadfgojmmlaaDoor.Abs Go.Proofs.YtcgkadfgojmmlaaDoor.EAs Go.Proofs.YtcgkadfgojmmlaaDoor.EErr
structure G (w : World) : Prop where
  tab : Lib.TabIs Tryd.prog w "internal/strconv.uint64pow10" .u64 Lib.pow10Tab
  err : w.cell? ⟨0, 0, none⟩ = some (rv tErr)
theorem tab_eq : (Rows.laid_internal_strconv_uint64pow10 : DataW Unit) = Lib.tabData .u64 Lib.pow10Tab := by kernel_rfl
theorem et : Tryd.prog.globalNamed "errors.errorType" = some 0 := by kernel_rfl
theorem rtt : (Tryd.prog.cutTypes.find? (·.1 == "internal/reflectlite.rtype")).map (·.2) = some EAs.TR := by kernel_rfl
theorem oneRow : ((List.range 167).filter fun t => Tryd.prog.rowNamed t [101, 114, 114, 111, 114]) = [tErr] := by kernel_rfl
theorem tsize : Tryd.prog.types.size = 167 := by kernel_rfl
theorem gw_of {W : World} {l : List (String × DataW Unit)} (h : laidMetH Tryd.prog l W) (hm : ("internal/strconv.uint64pow10", (Rows.laid_internal_strconv_uint64pow10 : DataW Unit)) ∈ l) (he : ("errors.errorType", (Rows.laid_errors_errorType : DataW Unit)) ∈ l) : G W := by
  have he' : ("errors.errorType", (Rows.laid_errors_errorType : DataW Unit)) ∈ l.filter fun x => x.2.handleName?.isSome := List.mem_filter.2 ⟨he, by kernel_rfl⟩
  have hm' : ("internal/strconv.uint64pow10", (Rows.laid_internal_strconv_uint64pow10 : DataW Unit)) ∈ l.filter fun x => x.2.handleName?.isNone := List.mem_filter.2 ⟨hm, by kernel_rfl⟩
  unfold laidMetH at h
  generalize hfl : (l.filter fun x => x.2.handleName?.isSome) = fl at h he'
  cases fl with
  | nil => cases he'
  | cons a0 rest0 =>
    obtain ⟨hd, hh⟩ := h
    refine ⟨?_, ?_⟩
    · rw [tab_eq] at hm'
      obtain ⟨g, t, cs, fuel, p, hg, ht, hv, hdd⟩ := Lib.laidMet.reads hd hm'
      have hg3 : Tryd.prog.globalNamed "internal/strconv.uint64pow10" = some 1 := by kernel_rfl
      obtain rfl := Option.some.inj (hg3.symm.trans hg)
      have ht3 : (Tryd.prog.globals[1]?).map (·.type) = some 131 := by kernel_rfl
      obtain rfl := Option.some.inj (ht3.symm.trans ht)
      have hcs := Lib.cells_of_tab (n := 20) (e := 90) (k := .u64) (zs := Lib.pow10Tab) (by kernel_rfl) (by kernel_rfl) (by kernel_rfl) (by kernel_rfl) hdd
      unfold Lib.TabIs
      rw [hv, ← hcs]
    · obtain ⟨name, u, ty, e1, e2, e3, e4, e5⟩ := hh _ he'
      have en : name = [101, 114, 114, 111, 114] := (Option.some.inj e1).symm
      subst en
      obtain rfl := Option.some.inj (rtt.symm.trans e2)
      have hm2 : ty ∈ (List.range 167).filter fun t => Tryd.prog.rowNamed t [101, 114, 114, 111, 114] := List.mem_filter.2 ⟨List.mem_range.2 (by rw [← tsize]; exact e3), e4⟩
      rw [oneRow] at hm2
      obtain rfl := List.mem_singleton.1 hm2
      have hty : typeHandle Tryd.prog tErr = hv tErr := by kernel_rfl
      rw [hty] at e5
      simpa using World.var?_cell et e5 0
noncomputable def tabs : Nat → Option AObj := fun b => if b = 0 then some (.cells true 100 [rt tErr]) else if b = 1 then some powTab else none
theorem tabs_err : tabs 0 = some (.cells true 100 [rt tErr]) := by unfold tabs; rw [if_pos rfl]
theorem tabs_pow : tabs 1 = some powTab := by unfold tabs; rw [if_neg (by decide), if_pos rfl]
theorem pow_at {W : World} (hsh : W.ShapedOpen Tryd.prog) (hG : G W) {j : Inj} : ∃ x, W.heap[1]? = some x ∧ ORel j powTab x ∧ csize x = 20 := by
  have hrow : ∃ zero, ((begin Tryd.prog (fun _ _ => 0) default).world.heap[1]?).bind Obj.row? = some (zero, 131) := ⟨Array.replicate 20 (.int .u64 0), by kernel_rfl⟩
  obtain ⟨zero, hrow⟩ := hrow
  obtain ⟨cs, h3, h4, _⟩ := hsh.1 1 zero 131 (of_decide_eq_true (by kernel_rfl)) hrow
  refine ⟨_, h3, ?_⟩
  have hn : Tryd.prog.globalNamed "internal/strconv.uint64pow10" = some 1 := by kernel_rfl
  have hG1 := hG.tab
  unfold Lib.TabIs World.var? at hG1
  rw [hn, Option.bind_some, h3] at hG1
  have e : cs = (Lib.pow10Tab.map fun z => Value.int .u64 z).toArray := Option.some.inj hG1
  subst e
  refine ⟨⟨rfl, by simp, fun i a v ha hv => ?_, fun h => by cases h⟩, by simp [csize]; decide⟩
  simp at ha hv
  obtain ⟨x, hx, rfl⟩ := ha
  obtain ⟨y, hy, rfl⟩ := hv
  rw [hx] at hy
  cases hy
  exact .int _ _
theorem err_at {W : World} (hsh : W.ShapedOpen Tryd.prog) (hG : G W) {j : Inj} : ∃ x, W.heap[0]? = some x ∧ ORel j (.cells true 100 [rt tErr]) x ∧ csize x = 1 := by
  have hrow : ((begin Tryd.prog (fun _ _ => 0) default).world.heap[0]?).bind Obj.row? = some (#[.nilIface], 100) := by kernel_rfl
  obtain ⟨cs, h3, h4, _⟩ := hsh.1 0 _ 100 (of_decide_eq_true (by kernel_rfl)) hrow
  have h4' : cs.size = 1 := h4
  refine ⟨_, h3, ?_, h4'⟩
  have hG1 := hG.err
  unfold World.cell? at hG1
  simp only [h3] at hG1
  have hc : cs[0]? = some (rv tErr) := by simpa using hG1
  refine ⟨rfl, by simp; omega, fun i a v ha hv => ?_, fun h => by cases h⟩
  have hi : i = 0 := by have := (List.getElem?_eq_some_iff.1 ha).1; simp at this; exact this
  subst hi
  rw [hc] at hv
  cases hv
  simp at ha
  subst ha
  exact vr_rt tErr
theorem tabs_ok {W : World} (hsh : W.ShapedOpen Tryd.prog) (hG : G W) : ∀ a o, tabs a = some o → ∃ t cs x, o = .cells true t cs ∧ W.heap[a]? = some x ∧ ORel (j0 Tryd.prog) o x ∧ csize x = cs.length := fun a o h => by
  unfold tabs at h
  split at h
  · rename_i e
    subst e
    cases h
    obtain ⟨x, h1, h2, h3⟩ := err_at hsh hG (j := j0 Tryd.prog)
    exact ⟨_, _, x, rfl, h1, h2, by rw [h3]; rfl⟩
  · split at h
    · rename_i e
      subst e
      cases h
      obtain ⟨x, h1, h2, h3⟩ := pow_at hsh hG (j := j0 Tryd.prog)
      exact ⟨_, _, x, rfl, h1, h2, by rw [h3]; decide +kernel⟩
    · cases h
theorem H1_err (W : World) : loadC (H1 W tabs) 0 0 none = some (rt tErr) := by unfold loadC; rw [H1_tab tabs_err]; rfl
theorem H1_pow (W : World) : (H1 W tabs).at_ 1 = some powTab := H1_tab tabs_pow
theorem walk {f : FuncId} {args : List AV} {cargs : Array Value} {W : World} (hsh : W.ShapedOpen Tryd.prog) (hG : G W) (h : ACall Tryd.prog f args (H1 W tabs) fun v H' => v = .bool true ∧ H' = H1 W tabs)
    (hv : VRs (j1 W) args cargs.toList) : Calls Tryd.prog f cargs W fun e W' => e = .returned (.bool true) ∧ Below W.heap.size W W' := by
  refine calls_true h (rel1 hsh (by kernel_rfl) fun a o ht => ?_) hv (H1_ro fun a o h => ?_)
  · obtain ⟨t, cs, x, _, h2, h3, _⟩ := tabs_ok hsh hG a o ht
    exact ⟨x, h2, h3⟩
  · unfold tabs at h
    split at h
    · cases h; rfl
    · split at h
      · cases h; rfl
      · cases h
end Go.Proofs.YtcgkadfgojmmlaaDoor.ELaid

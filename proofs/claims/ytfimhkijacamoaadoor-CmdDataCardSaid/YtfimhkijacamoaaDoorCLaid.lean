/- What a row's listed package variables give: the table of tens, the handle of 'error', strconv's two errors; the first heap of the rows of package cmd. -/
import Derived.Test.YtfimhkijacamoaaDoorRows
import Derived.Test.YtfimhkijacamoaaDoorDItoa
import Derived.Lib.LaidU8
import Derived.Lib.LaidTab
import Derived.LaidHandle
import Derived.LaidMore
import Derived.LaidLaws
import Derived.Lay
import Derived.Stop.LaidErr
set_option linter.unusedVariables false
namespace Go.Proofs.YtfimhkijacamoaaDoor.CLaid
open Go Go.RowKit Go.Proofs.YtfimhkijacamoaaDoor Go.Proofs.YtfimhkijacamoaaDoor.Abs Go.Proofs.YtfimhkijacamoaaDoor.EAs Go.Proofs.YtfimhkijacamoaaDoor.EErr
/-- A variable of an interface type that holds some pointer. -/
def Sent (w : World) (g : Nat) : Prop := ∃ tp a o, w.cell? ⟨g, 0, none⟩ = some (.iface tp (.pointer (some ⟨a, o, none⟩)))
structure G (w : World) : Prop where
  tab : Lib.TabIs Tryd.prog w "internal/strconv.uint64pow10" .u64 Lib.pow10Tab
  syn : Sent w 4
  ran : Sent w 5
theorem tab_eq : (Rows.laid_internal_strconv_uint64pow10 : DataW Unit) = Lib.tabData .u64 Lib.pow10Tab := by kernel_rfl
theorem star : ("*errors.errorString" : String) = "*" ++ "errors.errorString" := by decide
theorem rowE (u : TypeId) (h : Tryd.prog.typeName? 3 u = some "*errors.errorString") : u = 141 :=
  typeName_ptr_named (nm := "errors.errorString") (by rw [← star]; kernel_rfl) (by kernel_rfl) (by decide) u (by rw [← star]; exact h)
theorem met_perm {P : Program} {W : World} {l l' : List (String × DataW Unit)} (hp : l.Perm l') (h : laidMet P l W) : laidMet P l' W := by
  obtain ⟨ps, h1, h2, h3⟩ := h
  obtain ⟨ps', k1, k2⟩ := Lay.LaidVars_perm hp h1
  exact ⟨ps', k1, k2.nodup_iff.1 h2, fun b off hm => h3 b off (k2.mem_iff.2 hm)⟩
theorem sent_of {W : World} {l : List (String × DataW Unit)} {n : String} {text : List UInt8} {g : Nat} (h : laidMet Tryd.prog l W) (hm : (n, (.iface "*errors.errorString" (.ptr (.agg [.lit (.string text)])) : DataW Unit)) ∈ l)
    (hg : Tryd.prog.globalNamed n = some g) (ht : (Tryd.prog.globals[g]?).map (·.type) = some tErr) : Sent W g := by
  obtain ⟨s, t, rfl⟩ := List.append_of_mem hm
  obtain ⟨a, x, h1, h2, _, _⟩ := laid_sentinel (met_perm List.perm_middle h) hg ht Tryd.underlying43 rowE Tryd.underlying141 Tryd.underlying143 rfl rfl Tryd.underlying9 (by kernel_rfl) (by kernel_rfl)
  have h3 := World.var?_cell hg h1 0
  obtain ⟨b, o, sp⟩ := a
  cases sp with
  | some q => unfold World.cell? at h2; split at h2 <;> simp at h2
  | none => exact ⟨_, b, o, by simpa using h3⟩
theorem gw_of {W : World} {l : List (String × DataW Unit)} (hd : laidMet Tryd.prog l W) (hm : ("internal/strconv.uint64pow10", (Rows.laid_internal_strconv_uint64pow10 : DataW Unit)) ∈ l)
    (hr : ("strconv.ErrRange", (Rows.laid_strconv_ErrRange : DataW Unit)) ∈ l) (hs : ("strconv.ErrSyntax", (Rows.laid_strconv_ErrSyntax : DataW Unit)) ∈ l) : G W := by
  refine ⟨?_, sent_of hd hs (by kernel_rfl) (by kernel_rfl), sent_of hd hr (by kernel_rfl) (by kernel_rfl)⟩
  rw [tab_eq] at hm
  obtain ⟨g, t, cs, fuel, p, hg, ht, hv, hdd⟩ := Lib.laidMet.reads hd hm
  have hg3 : Tryd.prog.globalNamed "internal/strconv.uint64pow10" = some 3 := by kernel_rfl
  obtain rfl := Option.some.inj (hg3.symm.trans hg)
  have ht3 : (Tryd.prog.globals[3]?).map (·.type) = some 127 := by kernel_rfl
  obtain rfl := Option.some.inj (ht3.symm.trans ht)
  have hcs := Lib.cells_of_tab (n := 20) (e := 106) (k := .u64) (zs := Lib.pow10Tab) (by kernel_rfl) (by kernel_rfl) (by kernel_rfl) (by kernel_rfl) hdd
  unfold Lib.TabIs
  rw [hv, ← hcs]
noncomputable def tabs (x y : AV) : Nat → Option AObj := fun b =>
  if b = 3 then some powTab
  else if b = 4 then some (.cells true tErr [x]) else if b = 5 then some (.cells true tErr [y]) else none
theorem tabs_pow (x y : AV) : tabs x y 3 = some powTab := rfl
theorem tabs_syn (x y : AV) : tabs x y 4 = some (.cells true tErr [x]) := rfl
theorem tabs_ran (x y : AV) : tabs x y 5 = some (.cells true tErr [y]) := rfl
theorem pow_at {W : World} (hsh : W.ShapedOpen Tryd.prog) (hG : G W) {j : Inj} : ∃ x, W.heap[3]? = some x ∧ ORel j powTab x := by
  have hrow : ∃ zero, ((begin Tryd.prog (fun _ _ => 0) default).world.heap[3]?).bind Obj.row? = some (zero, 127) := ⟨Array.replicate 20 (.int .u64 0), by kernel_rfl⟩
  obtain ⟨zero, hrow⟩ := hrow
  obtain ⟨cs, h3, h4, _⟩ := hsh.1 3 zero 127 (of_decide_eq_true (by kernel_rfl)) hrow
  refine ⟨_, h3, ?_⟩
  have hn : Tryd.prog.globalNamed "internal/strconv.uint64pow10" = some 3 := by kernel_rfl
  have hG1 := hG.tab
  unfold Lib.TabIs World.var? at hG1
  rw [hn, Option.bind_some, h3] at hG1
  have e : cs = (Lib.pow10Tab.map fun z => Value.int .u64 z).toArray := Option.some.inj hG1
  subst e
  refine ⟨rfl, by simp, fun i a v ha hv => ?_, fun h => by cases h⟩
  simp at ha hv
  obtain ⟨x, hx, rfl⟩ := ha
  obtain ⟨y, hy, rfl⟩ := hv
  rw [hx] at hy
  cases hy
  exact .int _ _
theorem one_at {W : World} (hsh : W.ShapedOpen Tryd.prog) {g : Nat} {t : TypeId} {x : AV} {v : Value} {j : Inj} (hg : g < Tryd.prog.globals.size) (hrow : ((begin Tryd.prog (fun _ _ => 0) default).world.heap[g]?).bind Obj.row? = some (#[.nilIface], t))
    (hc : W.cell? ⟨g, 0, none⟩ = some v) (hv : VR j x v) : ∃ o, W.heap[g]? = some o ∧ ORel j (.cells true t [x]) o := by
  obtain ⟨cs, h3, h4, _⟩ := hsh.1 g _ t hg hrow
  have h4' : cs.size = 1 := h4
  refine ⟨_, h3, ?_⟩
  unfold World.cell? at hc
  simp only [h3] at hc
  have hc : cs[0]? = some v := by simpa using hc
  refine ⟨rfl, by simp; omega, fun i a u ha hu => ?_, fun h => by cases h⟩
  have hi : i = 0 := by have := (List.getElem?_eq_some_iff.1 ha).1; simp at this; exact this
  subst hi
  rw [hc] at hu
  cases hu
  simp at ha
  subst ha
  exact hv
/-- The heap has the tables, and strconv's two errors. -/
structure Ok (H : AH) : Prop where
  pow : H.at_ 3 = some powTab
  syn : ∃ t v, H.at_ 4 = some (.cells true tErr [.iface t v])
  ran : ∃ t v, H.at_ 5 = some (.cells true tErr [.iface t v])
theorem Ok.keeps {H H' : AH} (hk : H.keepsAll H') (h : Ok H) : Ok H' :=
  ⟨hk _ _ h.pow, let ⟨t, v, e⟩ := h.syn; ⟨t, v, hk _ _ e⟩, let ⟨t, v, e⟩ := h.ran; ⟨t, v, hk _ _ e⟩⟩
theorem walk {f : FuncId} {args : List AV} {cargs : Array Value} {W : World} (hsh : W.ShapedOpen Tryd.prog) (hG : G W) (h : ∀ tabs, Ok (H1 W tabs) → ACall Tryd.prog f args (H1 W tabs) fun v H' => v = .bool true ∧ H' = H1 W tabs)
    (hv : VRs (j1 W) args cargs.toList) : Calls Tryd.prog f cargs W fun e W' => e = .returned (.bool true) ∧ Below W.heap.size W W' := by
  obtain ⟨t1, a1, o1, h1⟩ := hG.syn
  obtain ⟨t2, a2, o2, h2⟩ := hG.ran
  have hok : Ok (H1 W (tabs (.iface t1 (.hdl a1 o1)) (.iface t2 (.hdl a2 o2)))) :=
    ⟨H1_tab (tabs_pow _ _), ⟨_, _, H1_tab (tabs_syn _ _)⟩, ⟨_, _, H1_tab (tabs_ran _ _)⟩⟩
  refine calls_true (h _ hok) (rel1 hsh (by kernel_rfl) fun a o ht => ?_) hv (H1_ro fun a o ht => ?_)
  · unfold tabs at ht
    split at ht
    · rename_i e; subst e; cases ht
      exact pow_at hsh hG
    · split at ht
      · rename_i e; subst e; cases ht
        exact one_at hsh (of_decide_eq_true (by kernel_rfl)) (by kernel_rfl) h1 (.iface .hdl)
      · split at ht
        · rename_i e; subst e; cases ht
          exact one_at hsh (of_decide_eq_true (by kernel_rfl)) (by kernel_rfl) h2 (.iface .hdl)
        · cases ht
  · unfold tabs at ht
    split at ht
    · cases ht; rfl
    · split at ht
      · cases ht; rfl
      · split at ht
        · cases ht; rfl
        · cases ht
end Go.Proofs.YtfimhkijacamoaaDoor.CLaid

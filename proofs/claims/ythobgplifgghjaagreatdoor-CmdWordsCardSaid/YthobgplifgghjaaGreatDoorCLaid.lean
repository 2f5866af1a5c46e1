/- What a row's listed package variables give: the table of tens, the handle of 'error', strconv's two errors; the first heap of the rows of package cmd. -/
import Derived.Test.YthobgplifgghjaaGreatDoorRows
import Derived.Test.YthobgplifgghjaaGreatDoorDItoa
import Derived.Lib.LaidU8
import Derived.Lib.LaidTab
import Derived.LaidHandle
import Derived.LaidMore
import Derived.LaidLaws
import Derived.Lay
import Derived.Stop.LaidErr
set_option linter.unusedVariables false
namespace Go.Proofs.YthobgplifgghjaaGreatDoor.CLaid
open Go Go.RowKit Go.Proofs.YthobgplifgghjaaGreatDoor Go.Proofs.YthobgplifgghjaaGreatDoor.Abs Go.Proofs.YthobgplifgghjaaGreatDoor.EAs Go.Proofs.YthobgplifgghjaaGreatDoor.EErr
/-- A variable of an interface type that holds some pointer. -/
def Sent (w : World) (g : Nat) : Prop := ∃ tp a o, w.cell? ⟨g, 0, none⟩ = some (.iface tp (.pointer (some ⟨a, o, none⟩)))
structure G (w : World) : Prop where
  tab : Lib.TabIs Tryz.prog w "internal/strconv.uint64pow10" .u64 Lib.pow10Tab
  err : w.cell? ⟨0, 0, none⟩ = some (rv tErr)
  syn : Sent w 3
  ran : Sent w 4
theorem tab_eq : (Rows.laid_internal_strconv_uint64pow10 : DataW Unit) = Lib.tabData .u64 Lib.pow10Tab := by kernel_rfl
theorem et : Tryz.prog.globalNamed "errors.errorType" = some 0 := by kernel_rfl
theorem rtt : (Tryz.prog.cutTypes.find? (·.1 == "internal/reflectlite.rtype")).map (·.2) = some EAs.TR := by kernel_rfl
theorem oneRow : ((List.range 187).filter fun t => Tryz.prog.rowNamed t [101, 114, 114, 111, 114]) = [tErr] := by kernel_rfl
theorem tsize : Tryz.prog.types.size = 187 := by kernel_rfl
theorem star : ("*errors.errorString" : String) = "*" ++ "errors.errorString" := by decide
theorem rowE (u : TypeId) (h : Tryz.prog.typeName? 3 u = some "*errors.errorString") : u = 155 :=
  typeName_ptr_named (nm := "errors.errorString") (by rw [← star]; kernel_rfl) (by kernel_rfl) (by decide) u (by rw [← star]; exact h)
theorem met_perm {P : Program} {W : World} {l l' : List (String × DataW Unit)} (hp : l.Perm l') (h : laidMet P l W) : laidMet P l' W := by
  obtain ⟨ps, h1, h2, h3⟩ := h
  obtain ⟨ps', k1, k2⟩ := Lay.LaidVars_perm hp h1
  exact ⟨ps', k1, k2.nodup_iff.1 h2, fun b off hm => h3 b off (k2.mem_iff.2 hm)⟩
theorem sent_of {W : World} {l : List (String × DataW Unit)} {n : String} {text : List UInt8} {g : Nat} (h : laidMet Tryz.prog l W) (hm : (n, (.iface "*errors.errorString" (.ptr (.agg [.lit (.string text)])) : DataW Unit)) ∈ l)
    (hg : Tryz.prog.globalNamed n = some g) (ht : (Tryz.prog.globals[g]?).map (·.type) = some tErr) : Sent W g := by
  obtain ⟨s, t, rfl⟩ := List.append_of_mem hm
  obtain ⟨a, x, h1, h2, _, _⟩ := laid_sentinel (met_perm List.perm_middle h) hg ht Tryz.underlying25 rowE Tryz.underlying155 Tryz.underlying157 rfl rfl Tryz.underlying9 (by kernel_rfl) (by kernel_rfl)
  have h3 := World.var?_cell hg h1 0
  obtain ⟨b, o, sp⟩ := a
  cases sp with
  | some q => unfold World.cell? at h2; split at h2 <;> simp at h2
  | none => exact ⟨_, b, o, by simpa using h3⟩
theorem gw_of {W : World} {l : List (String × DataW Unit)} (h : laidMetH Tryz.prog l W) (hm : ("internal/strconv.uint64pow10", (Rows.laid_internal_strconv_uint64pow10 : DataW Unit)) ∈ l) (he : ("errors.errorType", (Rows.laid_errors_errorType : DataW Unit)) ∈ l)
    (hr : ("strconv.ErrRange", (Rows.laid_strconv_ErrRange : DataW Unit)) ∈ l) (hs : ("strconv.ErrSyntax", (Rows.laid_strconv_ErrSyntax : DataW Unit)) ∈ l) : G W := by
  have he' : ("errors.errorType", (Rows.laid_errors_errorType : DataW Unit)) ∈ l.filter fun x => x.2.handleName?.isSome := List.mem_filter.2 ⟨he, by kernel_rfl⟩
  have hm' : ("internal/strconv.uint64pow10", (Rows.laid_internal_strconv_uint64pow10 : DataW Unit)) ∈ l.filter fun x => x.2.handleName?.isNone := List.mem_filter.2 ⟨hm, by kernel_rfl⟩
  have hr' : ("strconv.ErrRange", (Rows.laid_strconv_ErrRange : DataW Unit)) ∈ l.filter fun x => x.2.handleName?.isNone := List.mem_filter.2 ⟨hr, by kernel_rfl⟩
  have hs' : ("strconv.ErrSyntax", (Rows.laid_strconv_ErrSyntax : DataW Unit)) ∈ l.filter fun x => x.2.handleName?.isNone := List.mem_filter.2 ⟨hs, by kernel_rfl⟩
  unfold laidMetH at h
  generalize hfl : (l.filter fun x => x.2.handleName?.isSome) = fl at h he'
  cases fl with
  | nil => cases he'
  | cons a0 rest0 =>
    obtain ⟨hd, hh⟩ := h
    refine ⟨?_, ?_, sent_of hd hs' (by kernel_rfl) (by kernel_rfl), sent_of hd hr' (by kernel_rfl) (by kernel_rfl)⟩
    · rw [tab_eq] at hm'
      obtain ⟨g, t, cs, fuel, p, hg, ht, hv, hdd⟩ := Lib.laidMet.reads hd hm'
      have hg3 : Tryz.prog.globalNamed "internal/strconv.uint64pow10" = some 2 := by kernel_rfl
      obtain rfl := Option.some.inj (hg3.symm.trans hg)
      have ht3 : (Tryz.prog.globals[2]?).map (·.type) = some 136 := by kernel_rfl
      obtain rfl := Option.some.inj (ht3.symm.trans ht)
      have hcs := Lib.cells_of_tab (n := 20) (e := 68) (k := .u64) (zs := Lib.pow10Tab) (by kernel_rfl) (by kernel_rfl) (by kernel_rfl) (by kernel_rfl) hdd
      unfold Lib.TabIs
      rw [hv, ← hcs]
    · obtain ⟨name, u, ty, e1, e2, e3, e4, e5⟩ := hh _ he'
      have en : name = [101, 114, 114, 111, 114] := (Option.some.inj e1).symm
      subst en
      obtain rfl := Option.some.inj (rtt.symm.trans e2)
      have hm2 : ty ∈ (List.range 187).filter fun t => Tryz.prog.rowNamed t [101, 114, 114, 111, 114] := List.mem_filter.2 ⟨List.mem_range.2 (by rw [← tsize]; exact e3), e4⟩
      rw [oneRow] at hm2
      obtain rfl := List.mem_singleton.1 hm2
      have hty : typeHandle Tryz.prog tErr = hv tErr := by kernel_rfl
      rw [hty] at e5
      simpa using World.var?_cell et e5 0
noncomputable def tabs (x y : AV) : Nat → Option AObj := fun b =>
  if b = 0 then some (.cells true 81 [rt tErr]) else if b = 2 then some powTab
  else if b = 3 then some (.cells true tErr [x]) else if b = 4 then some (.cells true tErr [y]) else none
theorem tabs_err (x y : AV) : tabs x y 0 = some (.cells true 81 [rt tErr]) := rfl
theorem tabs_pow (x y : AV) : tabs x y 2 = some powTab := rfl
theorem tabs_syn (x y : AV) : tabs x y 3 = some (.cells true tErr [x]) := rfl
theorem tabs_ran (x y : AV) : tabs x y 4 = some (.cells true tErr [y]) := rfl
theorem pow_at {W : World} (hsh : W.ShapedOpen Tryz.prog) (hG : G W) {j : Inj} : ∃ x, W.heap[2]? = some x ∧ ORel j powTab x := by
  have hrow : ∃ zero, ((begin Tryz.prog (fun _ _ => 0) default).world.heap[2]?).bind Obj.row? = some (zero, 136) := ⟨Array.replicate 20 (.int .u64 0), by kernel_rfl⟩
  obtain ⟨zero, hrow⟩ := hrow
  obtain ⟨cs, h3, h4, _⟩ := hsh.1 2 zero 136 (of_decide_eq_true (by kernel_rfl)) hrow
  refine ⟨_, h3, ?_⟩
  have hn : Tryz.prog.globalNamed "internal/strconv.uint64pow10" = some 2 := by kernel_rfl
  have hG1 := hG.tab
  unfold Lib.TabIs World.var? at hG1
  rw [hn, Option.bind_some, h3] at hG1
  have e : cs = (Lib.pow10Tab.map fun z => Value.int .u64 z).toArray := Option.some.inj hG1
  subst e
  refine ⟨rfl, by simp, fun i a v ha hv => ?_, fun h => by cases h⟩
  simp at ha hv
  obtain ⟨x, hx, rfl⟩ := ha
  obtain ⟨y, hy, rfl⟩ := hv
  rw [hx] at hy
  cases hy
  exact .int _ _
theorem one_at {W : World} (hsh : W.ShapedOpen Tryz.prog) {g : Nat} {t : TypeId} {x : AV} {v : Value} {j : Inj} (hg : g < Tryz.prog.globals.size) (hrow : ((begin Tryz.prog (fun _ _ => 0) default).world.heap[g]?).bind Obj.row? = some (#[.nilIface], t))
    (hc : W.cell? ⟨g, 0, none⟩ = some v) (hv : VR j x v) : ∃ o, W.heap[g]? = some o ∧ ORel j (.cells true t [x]) o := by
  obtain ⟨cs, h3, h4, _⟩ := hsh.1 g _ t hg hrow
  have h4' : cs.size = 1 := h4
  refine ⟨_, h3, ?_⟩
  unfold World.cell? at hc
  simp only [h3] at hc
  have hc : cs[0]? = some v := by simpa using hc
  refine ⟨rfl, by simp; omega, fun i a u ha hu => ?_, fun h => by cases h⟩
  have hi : i = 0 := by have := (List.getElem?_eq_some_iff.1 ha).1; simp at this; exact this
  subst hi
  rw [hc] at hu
  cases hu
  simp at ha
  subst ha
  exact hv
/-- The heap has the tables, and strconv's two errors. -/
structure Ok (H : AH) : Prop where
  err : loadC H 0 0 none = some (rt tErr)
  pow : H.at_ 2 = some powTab
  syn : ∃ t v, H.at_ 3 = some (.cells true tErr [.iface t v])
  ran : ∃ t v, H.at_ 4 = some (.cells true tErr [.iface t v])
theorem Ok.keeps {H H' : AH} (hk : H.keepsAll H') (h : Ok H) : Ok H' :=
  ⟨loadC_keeps hk h.err, hk _ _ h.pow, let ⟨t, v, e⟩ := h.syn; ⟨t, v, hk _ _ e⟩, let ⟨t, v, e⟩ := h.ran; ⟨t, v, hk _ _ e⟩⟩
theorem walk {f : FuncId} {args : List AV} {cargs : Array Value} {W : World} (hsh : W.ShapedOpen Tryz.prog) (hG : G W) (h : ∀ tabs, Ok (H1 W tabs) → ACall Tryz.prog f args (H1 W tabs) fun v H' => v = .bool true ∧ H' = H1 W tabs)
    (hv : VRs (j1 W) args cargs.toList) : Calls Tryz.prog f cargs W fun e W' => e = .returned (.bool true) ∧ Below W.heap.size W W' := by
  obtain ⟨t1, a1, o1, h1⟩ := hG.syn
  obtain ⟨t2, a2, o2, h2⟩ := hG.ran
  have hok : Ok (H1 W (tabs (.iface t1 (.hdl a1 o1)) (.iface t2 (.hdl a2 o2)))) :=
    ⟨by unfold loadC; rw [H1_tab (tabs_err _ _)]; rfl, H1_tab (tabs_pow _ _), ⟨_, _, H1_tab (tabs_syn _ _)⟩, ⟨_, _, H1_tab (tabs_ran _ _)⟩⟩
  refine calls_true (h _ hok) (rel1 hsh (by kernel_rfl) fun a o ht => ?_) hv (H1_ro fun a o ht => ?_)
  · unfold tabs at ht
    split at ht
    · rename_i e; subst e; cases ht
      exact one_at hsh (of_decide_eq_true (by kernel_rfl)) (by kernel_rfl) hG.err (vr_rt tErr)
    · split at ht
      · rename_i e; subst e; cases ht
        exact pow_at hsh hG
      · split at ht
        · rename_i e; subst e; cases ht
          exact one_at hsh (of_decide_eq_true (by kernel_rfl)) (by kernel_rfl) h1 (.iface .hdl)
        · split at ht
          · rename_i e; subst e; cases ht
            exact one_at hsh (of_decide_eq_true (by kernel_rfl)) (by kernel_rfl) h2 (.iface .hdl)
          · cases ht
  · unfold tabs at ht
    split at ht
    · cases ht; rfl
    · split at ht
      · cases ht; rfl
      · split at ht
        · cases ht; rfl
        · split at ht
          · cases ht; rfl
          · cases ht
end Go.Proofs.YthobgplifgghjaaGreatDoor.CLaid

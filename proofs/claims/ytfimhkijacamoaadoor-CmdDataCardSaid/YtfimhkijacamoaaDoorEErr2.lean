/- Errors: Faults around a number. No condition. -/
import Derived.Test.YtfimhkijacamoaaDoorA21
import Derived.Test.YtfimhkijacamoaaDoorIc
set_option linter.unusedVariables false
set_option linter.unusedSimpArgs false
set_option maxRecDepth 10000
set_option maxHeartbeats 4000000
namespace Go.Proofs.YtfimhkijacamoaaDoor.EAs
open Go Go.RowKit Go.Proofs.YtfimhkijacamoaaDoor Go.Proofs.YtfimhkijacamoaaDoor.Abs
variable {j : Inj}
abbrev TF : Nat := 75
abbrev TE : Nat := 54
theorem args1 {a : AV} {cargs : Array Value} (h : VRs j [a] cargs.toList) : ∃ u, cargs = #[u] ∧ VR j a u := by
  obtain ⟨b, r, e, hb, hr⟩ := h.cons_left
  have := hr.nil_right
  subst this
  exact ⟨b, by apply Array.toList_inj.1; rw [e], hb⟩
theorem args2 {a a' : AV} {cargs : Array Value} (h : VRs j [a, a'] cargs.toList) : ∃ u u', cargs = #[u, u'] ∧ VR j a u ∧ VR j a' u' := by
  obtain ⟨b, r, e, hb, hr⟩ := h.cons_left
  obtain ⟨b', r', e', hb', hr'⟩ := hr.cons_left
  have := hr'.nil_right
  subst this
  exact ⟨b, b', by apply Array.toList_inj.1; rw [e, e'], hb, hb'⟩
end Go.Proofs.YtfimhkijacamoaaDoor.EAs
namespace Go.Proofs.YtfimhkijacamoaaDoor.EErr
open Go Go.RowKit Go.Proofs.YtfimhkijacamoaaDoor Go.Proofs.YtfimhkijacamoaaDoor.Abs Go.Proofs.YtfimhkijacamoaaDoor.Ic Go.Proofs.YtfimhkijacamoaaDoor.EAs
/-- A Fault: where it lies, its Op and Name. -/
structure Fl where
  b : Nat
  op : List UInt8
  name : List UInt8
/-- An error: Faults, the outmost first, around a number, or around nothing. -/
inductive Chain (H : AH) : AV → List Fl → Option Int → Prop
  | nil : Chain H .nilIface [] none
  | num (n : Int) : Chain H (.iface 54 (.int .i64 n)) [] (some n)
  | fault {f : Fl} {e : AV} {l : List Fl} {r : Option Int} (h0 : loadC H f.b 0 none = some (.str f.op)) (h1 : loadC H f.b 1 none = some (.str f.name)) (h2 : loadC H f.b 2 none = some e) (h : Chain H e l r) : Chain H (.iface 75 (.ptr f.b 0)) (f :: l) r
theorem Chain.keeps {H H1 : AH} (hk : H.keepsAll H1) {e : AV} {l : List Fl} {r : Option Int} (h : Chain H e l r) : Chain H1 e l r := by
  induction h with
  | nil => exact .nil
  | num n => exact .num n
  | fault h0 h1 h2 _ ih => exact .fault (loadC_keeps hk h0) (loadC_keeps hk h1) (loadC_keeps hk h2) ih
theorem keeps_set2 {H H2 : AH} {c : Nat} {o : Option AObj} (h : H.keepsAll H2) : (H.set c o).keepsAll (H2.set c o) := fun b q hq => by
  by_cases e : b = c
  · subst e; rw [AH.set_same] at hq ⊢; exact hq
  · rw [AH.set_ne _ _ e] at hq ⊢; exact h b q hq
theorem store_one {H : AH} {c : Nat} {t : TypeId} {x0 v : AV} (h : H.at_ c = some (.cells false t [x0])) (hv : v.one = true) : storeC H c 0 [v] = some (H.set c (some (.cells false t [v]))) := by
  unfold storeC
  rw [h]
  simp [hv, setRange]
abbrev tE : Nat := 54
abbrev tF : Nat := 75
abbrev tErr : Nat := 43
/-- fault.New, fault.Wrap. -/
theorem ENew (op name : List UInt8) (n : Int) (H : AH) :
    ACall Tryd.prog 34 [.str op, .str name, .int .i64 n] H (fun v H' => if n = 0 then v = .nilIface ∧ H' = H else v = .iface 75 (.ptr H.next 0) ∧ H' = H.new (.cells false 77 [.str op, .str name, .iface 54 (.int .i64 n)])) := by
  refine acall_of fits34 (by simp) ?_
  by_cases hn : n = 0
  · simp (disch := first | omega | (simp; done) | assumption) [wr64, wrU8, wrU64, Nat.add_assoc, -getElem?_pos, List.getElem?_cons_zero, List.getElem?_cons_succ, ic34, rs34, hn]
  · simp (disch := first | omega | (simp; done) | assumption) [wr64, wrU8, wrU64, Nat.add_assoc, -getElem?_pos, List.getElem?_cons_zero, List.getElem?_cons_succ, ic34, rs34, hn]
/-- A new Fault around a chain. -/
theorem Chain.wrap {H : AH} (hok : H.ok) {op name : List UInt8} {e : AV} {l : List Fl} {r : Option Int} (h : Chain H e l r) : Chain (H.new (.cells false 77 [.str op, .str name, e])) (.iface 75 (.ptr H.next 0)) (⟨H.next, op, name⟩ :: l) r :=
  .fault (f := ⟨H.next, op, name⟩) (by simp) (by simp) (by simp) (h.keeps (keeps_new hok (AH.keepsAll_refl _) (Nat.le_refl _)))
end Go.Proofs.YtfimhkijacamoaaDoor.EErr

/- From a worked-out call to what a row asks: the first heap, the contract at it. No condition. -/
import Derived.Test.YtdjlpifikeopdaaDoorA20
import Derived.WalkKit
import Derived.ProofKit
import Derived.Handed
import Derived.SizedLaws
import Derived.Below
set_option linter.unusedVariables false
set_option linter.unusedSimpArgs false
namespace Go.Proofs.YtdjlpifikeopdaaDoor.Abs
open Go Go.RowKit Go.ChangeShapes Go.WideShapes Go.ChangeAt
section
variable {H : Type} {enc : TypeId × Value → H}
theorem handed_and {a : Assume} {C : Checked} {os : Os} {f : FuncId} {fn : Func} {s : ChangeSpec} {conds : List PathCond} {apart fresh handsOn again : Bool} {X : World → Array Value → Prop}
    (hX : ∀ (w w' : World) (args : Array Value), w.heap = w'.heap → X w args → X w' args)
    (own : ownKnob C.prog.godebug = none) (started : os.Started) (noInit : C.prog.inits.idxOf? f = none) (hfn : C.prog.funcs[f]? = some fn)
    (witness : ∃ (w : World) (tape : Tape) (i : Input), w.os = os ∧ (w.forCall tape i).Shaped C.prog ∧ i.vars = [] ∧ Input.okWide C.prog (w.forCall tape i) .any w.heap.size f i ∧
      ((s.pre enc C.prog fn conds apart (w.forCall tape i).memory i.args ∧ X (w.forCall tape i).memory i.args) ∧ sizedMet enc C.prog fn (OpenSpec.ofChange s) apart (w.forCall tape i).memory i.args) ∧ a.holds C.prog (lone (Frame.enter C.prog f i.args .normal) [] (w.forCall tape i)))
    (contract : ∀ (W : World) (base : Nat) (args : Array Value) (ds gs : List (DataW H)) (before : List MemPlace), W.ShapedOpen C.prog →
      (∀ (j : Nat) t v, fn.params[j]? = some t → args[j]? = some v → Value.okWide C.prog W .any base t v) →
      DataW.Whole enc C.prog fn.params.toList s.vars apart W args.toList ds gs before →
      conds.all (PathCond.test C.prog ⟨fn.params.toList, ds, s.plain.varTypes C.prog, gs⟩) = true →
      (DataW.weightsEach C.prog (fn.params.toList ++ s.plain.varTypes C.prog) (ds ++ gs)).all (· ≤ reachBytes) = true → X W args →
      a.holds C.prog (lone (Frame.enter C.prog f args .normal) [] W) →
      Calls C.prog f args W fun e W' => ∃ v, e = .returned v ∧ s.post enc C.prog fn apart fresh handsOn again W args v W') :
    ReturnsInHanded a C os f .any (fun w args => (s.pre enc C.prog fn conds apart w args ∧ X w args) ∧ sizedMet enc C.prog fn (OpenSpec.ofChange s) apart w args) (s.post enc C.prog fn apart fresh handsOn again) := by
  refine returnsInHanded_of_calls own started noInit witness ?_
  intro w tape i _ hsh _ hok hpre hholds
  obtain ⟨_, _, _, fn', hfn', _, _, _, _, hval⟩ := hok
  have e : fn' = fn := Option.some.inj (hfn'.symm.trans hfn)
  subst e
  obtain ⟨⟨⟨ds, gs, before, hw, hc⟩, hx⟩, hz⟩ := hpre
  have hw' := DataW.Whole.of_heap (w' := w.forCall tape i) (by rfl) hw
  refine (contract (w.forCall tape i) w.heap.size i.args ds gs before hsh hval hw' hc (hz.weights hw) (hX _ _ _ (by rfl) hx) hholds).mono fun e W' ⟨v, he, hp⟩ => ?_
  subst he
  exact ChangeSpec.post_blind hp
end
/-- The package variables keep their numbers. -/
def j0 (P : Program) : Inj := fun b => if b < P.globals.size then some (b, gsz P b) else none
def rowsB (P : Program) : Bool := (List.range P.globals.size).all fun g => (((begin P (fun _ _ => 0) default).world.heap[g]?).bind Obj.row?).isSome
theorem rel0 {P : Program} {W : World} {tabs : Nat → Option AObj} (hsh : W.ShapedOpen P) (hz : rowsB P = true)
    (ht : ∀ a o, tabs a = some o → a < P.globals.size ∧ ∃ x, W.heap[a]? = some x ∧ ORel (j0 P) o x) : Rel P (j0 P) ⟨P.globals.size, tabs⟩ W := by
  have hg : ∀ g, g < P.globals.size → ∃ cs t, W.heap[g]? = some (.cells cs t) ∧ cs.size = gsz P g := fun g hlt => by
    have h1 := List.all_eq_true.1 hz g (by simpa using hlt)
    obtain ⟨⟨zero, t⟩, h2⟩ := Option.isSome_iff_exists.1 h1
    obtain ⟨cs, h3, h4, _⟩ := hsh.1 g zero t hlt h2
    exact ⟨cs, t, h3, by unfold gsz; rw [h2]; exact h4⟩
  refine ⟨fun a c z h => ?_, fun a b c y z ha hb _ _ => ?_, fun a o ha => ?_, fun g hlt => if_pos hlt⟩
  · unfold j0 at h
    split at h
    · rename_i hlt
      cases h
      obtain ⟨cs, t, h1, _⟩ := hg a hlt
      exact ⟨hlt, (Array.getElem?_eq_some_iff.1 h1).1⟩
    · cases h
  · unfold j0 at ha hb
    split at ha
    · split at hb
      · cases ha; cases hb; rfl
      · cases hb
    · cases ha
  · obtain ⟨hlt, x, hx, ho⟩ := ht a o ha
    obtain ⟨cs, t, h1, h2⟩ := hg a hlt
    rw [hx] at h1
    refine ⟨a, x, ?_, hx, ho⟩
    cases h1
    rw [show csize (.cells cs t) = gsz P a from h2]
    exact if_pos hlt
/-- What a row wants of a call that answers true and keeps what is there. -/
theorem calls_true {P : Program} {f : FuncId} {args : List AV} {H : AH} {j : Inj} {W : World} {cargs : Array Value} (h : ACall P f args H fun v H' => v = .bool true ∧ H' = H)
    (hr : Rel P j H W) (hv : VRs j args cargs.toList) (hro : ∀ a, ¬ H.wr a) : Calls P f cargs W fun e W' => e = .returned (.bool true) ∧ Below W.heap.size W W' :=
  (h.2 j W cargs hr hv).mono fun e W' ⟨v, vc, j', H', he, ⟨h1, h2⟩, hp, hvr⟩ => by
    subst h1
    cases hvr
    exact ⟨he, hp.keeps.os, hp.keeps.tape, hp.keeps.output, hp.keeps.size, fun k hk => hp.keeps.block k hk fun a z hw => (hro a hw).elim⟩
theorem nowr {n : Nat} {tabs : Nat → Option AObj} (h : ∀ a o, tabs a = some o → o.ro = true) : ∀ a, ¬ (AH.mk n tabs).wr a := fun a ⟨o, ho, hr⟩ => by
  have := h a o ho
  rw [this] at hr
  cases hr
/-! ### Parameters -/
theorem cell_bool {P : Program} {w : World} {r : Reach} {base : Nat} {u : TypeId} {v : Value} (hu : P.underlying u = some .bool) (h : Cell.okWide P w r base u v) : ∃ b, v = .bool b := by
  unfold Cell.okWide at h
  rw [hu] at h
  cases v <;> simp [Cell.ok, hu] at h ⊢
theorem cell_int {P : Program} {w : World} {r : Reach} {base : Nat} {u : TypeId} {k : IntKind} {v : Value} (hu : P.underlying u = some (.int k)) (h : Cell.okWide P w r base u v) : ∃ n, v = .int k n ∧ k.has n := by
  unfold Cell.okWide at h
  rw [hu] at h
  cases v <;> simp [Cell.ok, hu] at h ⊢
  obtain ⟨rfl, h⟩ := h
  exact ⟨_, ⟨rfl, rfl⟩, h⟩
theorem cell_str {P : Program} {w : World} {r : Reach} {base : Nat} {u : TypeId} {v : Value} (hu : P.underlying u = some .string) (h : Cell.okWide P w r base u v) : ∃ s, v = .string s ∧ (s.size : Int) ≤ IntKind.i64.max := by
  unfold Cell.okWide at h
  rw [hu] at h
  cases v <;> simp [Cell.ok, hu] at h ⊢
  exact h
def structB (P : Program) (t : TypeId) : Bool := match P.underlying t with
  | some (.struct _) => true
  | _ => false
theorem okWide_cells {P : Program} {w : World} {r : Reach} {base : Nat} {t : TypeId} {v : Value} {ts : List TypeId} (hs : structB P t = true) (ht : P.cellTypes P.depth t = some ts) (hc : P.cellsOf t = ts.length) (h : Value.okWide P w r base t v) :
    ∃ cs : Array Value, v = .agg cs ∧ cs.size = ts.length ∧ ∀ (i : Nat) u, ts[i]? = some u → ∃ x, cs[i]? = some x ∧ Cell.okWide P w r base u x := by
  unfold structB at hs
  unfold Value.okWide at h
  split at hs
  · rename_i fs hu
    rw [hu] at h
    obtain ⟨cs, rfl, h1, ts', h2, _, h3⟩ := h
    rw [ht] at h2
    cases h2
    refine ⟨cs, rfl, h1.trans hc, fun i u hi => ?_⟩
    have hlt := (List.getElem?_eq_some_iff.1 hi).1
    obtain ⟨u', hu', hx⟩ := h3 i cs[i] (Array.getElem?_eq_getElem (by omega))
    rw [Nat.mod_eq_of_lt hlt, hi] at hu'
    cases hu'
    exact ⟨_, Array.getElem?_eq_getElem (by omega), hx⟩
  · cases hs
theorem arr3 {cs : Array Value} {a b c : Value} (h : cs.size = 3) (h0 : cs[0]? = some a) (h1 : cs[1]? = some b) (h2 : cs[2]? = some c) : cs = #[a, b, c] := by
  apply Array.ext_getElem?
  intro i
  match i with
  | 0 => rw [h0]; rfl
  | 1 => rw [h1]; rfl
  | 2 => rw [h2]; rfl
  | i + 3 => rw [Array.getElem?_eq_none (by omega), Array.getElem?_eq_none (by simp)]
end Go.Proofs.YtdjlpifikeopdaaDoor.Abs

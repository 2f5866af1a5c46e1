/- From a worked-out call to what a row asks: the first heap, the contract at it. No condition. -/
import Derived.Test.YtcgkadfgojmmlaaDoorA20
import Derived.WalkKit
import Derived.ProofKit
import Derived.Handed
import Derived.SizedLaws
import Derived.Below
set_option linter.unusedVariables false
set_option linter.unusedSimpArgs false
namespace Go.Proofs.YtcgkadfgojmmlaaDoor.Abs
open Go Go.RowKit Go.ChangeShapes Go.WideShapes Go.ChangeAt
section
variable {H : Type} {enc : TypeId × Value → H}
theorem handed_and {a : Assume} {C : Checked} {os : Os} {f : FuncId} {fn : Func} {s : ChangeSpec} {conds : List PathCond} {apart fresh handsOn again : Bool} {X : World → Array Value → Prop}
    (hX : ∀ (w w' : World) (args : Array Value), w.heap = w'.heap → X w args → X w' args)
    (own : ownKnob C.prog.godebug = none) (started : os.Started) (noInit : C.prog.inits.idxOf? f = none) (hfn : C.prog.funcs[f]? = some fn)
    (witness : ∃ (w : World) (tape : Tape) (i : Input), w.os = os ∧ (w.forCall tape i).Shaped C.prog ∧ i.vars = [] ∧ Input.okWide C.prog (w.forCall tape i) .any w.heap.size f i ∧
      ((s.pre enc C.prog fn conds apart (w.forCall tape i).memory i.args ∧ X (w.forCall tape i).memory i.args) ∧ sizedMet enc C.prog fn (OpenSpec.ofChange s) apart (w.forCall tape i).memory i.args) ∧ a.holds C.prog (lone (Frame.enter C.prog f i.args .normal) [] (w.forCall tape i)))
    (contract : ∀ (W : World) (base : Nat) (args : Array Value) (ds gs : List (DataW H)) (before : List MemPlace), W.ShapedOpen C.prog →
      (∀ (j : Nat) t v, fn.params[j]? = some t → args[j]? = some v → Value.okWide C.prog W .any base t v) →
      DataW.Whole enc C.prog fn.params.toList s.vars apart W args.toList ds gs before →
      conds.all (PathCond.test C.prog ⟨fn.params.toList, ds, s.plain.varTypes C.prog, gs⟩) = true →
      (DataW.weightsEach C.prog (fn.params.toList ++ s.plain.varTypes C.prog) (ds ++ gs)).all (· ≤ reachBytes) = true → X W args →
      a.holds C.prog (lone (Frame.enter C.prog f args .normal) [] W) →
      Calls C.prog f args W fun e W' => ∃ v, e = .returned v ∧ s.post enc C.prog fn apart fresh handsOn again W args v W') :
    ReturnsInHanded a C os f .any (fun w args => (s.pre enc C.prog fn conds apart w args ∧ X w args) ∧ sizedMet enc C.prog fn (OpenSpec.ofChange s) apart w args) (s.post enc C.prog fn apart fresh handsOn again) := by
  refine returnsInHanded_of_calls own started noInit witness ?_
  intro w tape i _ hsh _ hok hpre hholds
  obtain ⟨_, _, _, fn', hfn', _, _, _, _, hval⟩ := hok
  have e : fn' = fn := Option.some.inj (hfn'.symm.trans hfn)
  subst e
  obtain ⟨⟨⟨ds, gs, before, hw, hc⟩, hx⟩, hz⟩ := hpre
  have hw' := DataW.Whole.of_heap (w' := w.forCall tape i) (by rfl) hw
  refine (contract (w.forCall tape i) w.heap.size i.args ds gs before hsh hval hw' hc (hz.weights hw) (hX _ _ _ (by rfl) hx) hholds).mono fun e W' ⟨v, he, hp⟩ => ?_
  subst he
  exact ChangeSpec.post_blind hp
end
/-- The package variables keep their numbers. -/
def j0 (P : Program) : Inj := fun b => if b < P.globals.size then some (b, gsz P b) else none
def rowsB (P : Program) : Bool := (List.range P.globals.size).all fun g => (((begin P (fun _ _ => 0) default).world.heap[g]?).bind Obj.row?).isSome
theorem rel0 {P : Program} {W : World} {tabs : Nat → Option AObj} (hsh : W.ShapedOpen P) (hz : rowsB P = true)
    (ht : ∀ a o, tabs a = some o → a < P.globals.size ∧ ∃ x, W.heap[a]? = some x ∧ ORel (j0 P) o x) : Rel P (j0 P) ⟨P.globals.size, tabs⟩ W := by
  have hg : ∀ g, g < P.globals.size → ∃ cs t, W.heap[g]? = some (.cells cs t) ∧ cs.size = gsz P g := fun g hlt => by
    have h1 := List.all_eq_true.1 hz g (by simpa using hlt)
    obtain ⟨⟨zero, t⟩, h2⟩ := Option.isSome_iff_exists.1 h1
    obtain ⟨cs, h3, h4, _⟩ := hsh.1 g zero t hlt h2
    exact ⟨cs, t, h3, by unfold gsz; rw [h2]; exact h4⟩
  refine ⟨fun a c z h => ?_, fun a b c y z ha hb _ _ => ?_, fun a o ha => ?_, fun g hlt => if_pos hlt⟩
  · unfold j0 at h
    split at h
    · rename_i hlt
      cases h
      obtain ⟨cs, t, h1, _⟩ := hg a hlt
      exact ⟨hlt, (Array.getElem?_eq_some_iff.1 h1).1⟩
    · cases h
  · unfold j0 at ha hb
    split at ha
    · split at hb
      · cases ha; cases hb; rfl
      · cases hb
    · cases ha
  · obtain ⟨hlt, x, hx, ho⟩ := ht a o ha
    obtain ⟨cs, t, h1, h2⟩ := hg a hlt
    rw [hx] at h1
    refine ⟨a, x, ?_, hx, ho⟩
    cases h1
    rw [show csize (.cells cs t) = gsz P a from h2]
    exact if_pos hlt
/-- What a row wants of a call that answers true and keeps what is there. -/
theorem calls_true {P : Program} {f : FuncId} {args : List AV} {H : AH} {j : Inj} {W : World} {cargs : Array Value} (h : ACall P f args H fun v H' => v = .bool true ∧ H' = H)
    (hr : Rel P j H W) (hv : VRs j args cargs.toList) (hro : ∀ a, ¬ H.wr a) : Calls P f cargs W fun e W' => e = .returned (.bool true) ∧ Below W.heap.size W W' :=
  (h.2 j W cargs hr hv).mono fun e W' ⟨v, vc, j', H', he, ⟨h1, h2⟩, hp, hvr⟩ => by
    subst h1
    cases hvr
    exact ⟨he, hp.keeps.os, hp.keeps.tape, hp.keeps.output, hp.keeps.size, fun k hk => hp.keeps.block k hk fun a z hw => (hro a hw).elim⟩
theorem nowr {n : Nat} {tabs : Nat → Option AObj} (h : ∀ a o, tabs a = some o → o.ro = true) : ∀ a, ¬ (AH.mk n tabs).wr a := fun a ⟨o, ho, hr⟩ => by
  have := h a o ho
  rw [this] at hr
  cases hr
/-! ### The first heap with what the parameters lead to: every block of the world under its own number -/
def absV : Value → Option AV
  | .bool b => some (.bool b)
  | .int k n => some (.int k n)
  | .string s => some (.str s.data.toList)
  | _ => none
theorem absV_VR {j : Inj} {v : Value} {a : AV} (h : absV v = some a) : VR j a v := by
  unfold absV at h
  split at h
  · cases h; exact .bool _
  · cases h; exact .int _ _
  · cases h; exact .str _
  · cases h
theorem absV_uniq {j : Inj} {v : Value} {a b : AV} (h : absV v = some a) (hb : VR j b v) : b = a := by
  unfold absV at h
  split at h
  · cases h; cases hb; rfl
  · cases h; cases hb; rfl
  · cases h; cases hb; rfl
  · cases h
def rowOf (W : World) (b : Nat) : Nat → Option AV := fun o => (W.cell? ⟨b, o, none⟩).bind absV
def obj1 (W : World) (tabs : Nat → Option AObj) (b : Nat) : Option AObj := match tabs b with
  | some t => some t
  | none => match W.heap[b]? with
    | some (.cells _ _ _) => some (.row (rowOf W b))
    | _ => none
def H1 (W : World) (tabs : Nat → Option AObj) : AH := ⟨W.heap.size, obj1 W tabs⟩
def j1 (W : World) : Inj := fun b => match W.heap[b]? with
  | some x => some (b, csize x)
  | none => none
theorem j1_some {W : World} {a c z : Nat} (h : j1 W a = some (c, z)) : c = a ∧ ∃ x, W.heap[a]? = some x ∧ z = csize x := by
  unfold j1 at h
  split at h
  · rename_i x hx
    cases h
    exact ⟨rfl, x, hx, rfl⟩
  · cases h
theorem H1_tab {W : World} {tabs : Nat → Option AObj} {a : Nat} {o : AObj} (h : tabs a = some o) : (H1 W tabs).at_ a = some o := by
  show obj1 W tabs a = some o
  unfold obj1
  rw [h]
theorem j0_le {P : Program} {W : World} (hsh : W.ShapedOpen P) (hz : rowsB P = true) : (j0 P).le (j1 W) := fun g c h => by
  unfold j0 at h
  split at h
  · rename_i hlt
    cases h
    have h1 := List.all_eq_true.1 hz g (by simpa using hlt)
    obtain ⟨⟨zero, t⟩, h2⟩ := Option.isSome_iff_exists.1 h1
    obtain ⟨cs, h3, h4, _⟩ := hsh.1 g zero t hlt h2
    unfold j1
    rw [h3]
    show some (g, cs.size) = some (g, gsz P g)
    rw [h4]
    unfold gsz
    rw [h2]
  · cases h
theorem rel1 {P : Program} {W : World} {tabs : Nat → Option AObj} (hsh : W.ShapedOpen P) (hz : rowsB P = true)
    (ht : ∀ a o, tabs a = some o → ∃ x, W.heap[a]? = some x ∧ ORel (j0 P) o x) : Rel P (j1 W) (H1 W tabs) W := by
  refine ⟨fun a c z h => ?_, fun a b c y z ha hb _ _ => ?_, fun a o ha => ?_, fun g hlt => ?_⟩
  · obtain ⟨rfl, x, hx, rfl⟩ := j1_some h
    exact ⟨(Array.getElem?_eq_some_iff.1 hx).1, (Array.getElem?_eq_some_iff.1 hx).1⟩
  · exact (j1_some ha).1.symm.trans (j1_some hb).1
  · have ha' : obj1 W tabs a = some o := ha
    unfold obj1 at ha'
    split at ha'
    · rename_i t hta
      cases ha'
      obtain ⟨x, hx, ho⟩ := ht a _ hta
      exact ⟨a, x, by unfold j1; rw [hx], hx, ho.mono (j0_le hsh hz)⟩
    · split at ha'
      · rename_i c t fz hx
        cases ha'
        refine ⟨a, _, by unfold j1; rw [hx], hx, ?_⟩
        intro i b hi
        unfold rowOf at hi
        obtain ⟨v, hv, hb⟩ := Option.bind_eq_some_iff.1 hi
        unfold World.cell? at hv
        simp [hx] at hv
        exact ⟨v, hv, absV_VR hb⟩
      · cases ha'
  · exact j0_le hsh hz g _ (if_pos hlt)
theorem H1_ro {W : World} {tabs : Nat → Option AObj} (h : ∀ a o, tabs a = some o → o.ro = true) : ∀ a, ¬ (H1 W tabs).wr a := fun a ⟨o, ho, hr⟩ => by
  have ho' : obj1 W tabs a = some o := ho
  unfold obj1 at ho'
  split at ho'
  · rename_i t hta
    cases ho'
    rw [h a _ hta] at hr
    cases hr
  · split at ho'
    · cases ho'; cases hr
    · cases ho'
/-- What a cell of the world reads as. -/
theorem H1_load {P : Program} {W : World} {tabs : Nat → Option AObj} (ht : ∀ a o, tabs a = some o → ∃ t cs x, o = .cells true t cs ∧ W.heap[a]? = some x ∧ ORel (j0 P) o x ∧ csize x = cs.length)
    {b o : Nat} {v : Value} {a : AV} (hc : W.cell? ⟨b, o, none⟩ = some v) (hv : absV v = some a) : loadC (H1 W tabs) b o none = some a := by
  have hc0 := hc
  unfold World.cell? at hc
  split at hc
  · rename_i c t fz hx
    simp at hc
    have hx : W.heap[b]? = some (.cells c t fz) := hx
    show (match obj1 W tabs b with
      | some (.cells _ _ cs) => cs[o]?
      | some (.row g) => g o
      | _ => none) = some a
    unfold obj1
    cases htb : tabs b with
    | some ob =>
      obtain ⟨t', cs, x, rfl, hx', ho, hsz⟩ := ht b ob htb
      rw [hx] at hx'
      cases hx'
      have ho' := ho
      simp only [ORel] at ho'
      have hlt : o < cs.length := by
        have := (Array.getElem?_eq_some_iff.1 hc).1
        have e : c.size = cs.length := hsz
        omega
      show cs[o]? = some a
      rw [List.getElem?_eq_getElem hlt, absV_uniq hv (ho'.2.2.1 o _ v (List.getElem?_eq_getElem hlt) hc)]
    | none =>
      rw [hx]
      show rowOf W b o = some a
      unfold rowOf
      rw [hc0]
      exact hv
  · cases hc
theorem rowGet_of {g : Nat → Option AV} {o : Nat} : ∀ {n : Nat} {l : List AV}, l.length = n → (∀ i, i < n → g (o + i) = l[i]?) → rowGet g o n = some l
  | 0, l, hl, _ => by obtain rfl := List.eq_nil_of_length_eq_zero hl; rfl
  | n + 1, l, hl, h => by
    have h1 : rowGet g o n = some (l.take n) := rowGet_of (by simp; omega) fun i hi => by rw [h i (by omega), List.getElem?_take, if_pos hi]
    have h2 : g (o + n) = some (l[n]'(by omega)) := by rw [h n (by omega), List.getElem?_eq_getElem]
    show (rowGet g o n).bind _ = _
    rw [h1, Option.bind_some, h2, Option.map_some]
    congr 1
    have e : l = l.take n ++ l.drop n := (List.take_append_drop n l).symm
    have e2 : l.drop n = [l[n]'(by omega)] := by
      rw [List.drop_eq_getElem_cons (by omega), List.drop_eq_nil_of_le (by omega)]
    rw [← e2]
    exact e.symm
/-- Cells that are known one by one are known as a row. -/
theorem load_many {H : AH} {b o : Nat} {l : List AV} (hl : l ≠ []) (h : ∀ i, i < l.length → loadC H b (o + i) none = l[i]?) : loadC H b o (some l.length) = some (.agg l) := by
  have hpos : 0 < l.length := List.length_pos_iff.2 hl
  cases hb : H.at_ b with
  | none =>
    have := h 0 hpos
    unfold loadC at this
    simp only [hb] at this
    rw [List.getElem?_eq_getElem hpos] at this
    cases this
  | some ob =>
    cases ob with
    | cells ro t cs =>
      have h' : ∀ i, i < l.length → cs[o + i]? = l[i]? := fun i hi => by
        have := h i hi
        unfold loadC at this
        simpa only [hb] using this
      have hlen : o + l.length ≤ cs.length := by
        have := h' (l.length - 1) (by omega)
        rw [List.getElem?_eq_getElem (l := l) (by omega)] at this
        have := (List.getElem?_eq_some_iff.1 this).1
        omega
      unfold loadC
      simp only [hb]
      rw [if_pos hlen]
      congr 2
      apply List.ext_getElem?
      intro i
      rw [List.getElem?_take, List.getElem?_drop]
      by_cases hi : i < l.length
      · rw [if_pos hi, h' i hi]
      · rw [if_neg hi, List.getElem?_eq_none (by omega)]
    | row g =>
      have h' : ∀ i, i < l.length → g (o + i) = l[i]? := fun i hi => by
        have := h i hi
        unfold loadC at this
        simpa only [hb] using this
      unfold loadC
      simp only [hb]
      rw [if_neg (by omega), rowGet_of rfl h']
      rfl
    | map es n =>
      have := h 0 hpos
      unfold loadC at this
      simp only [hb] at this
      rw [List.getElem?_eq_getElem hpos] at this
      cases this
    | iter s p =>
      have := h 0 hpos
      unfold loadC at this
      simp only [hb] at this
      rw [List.getElem?_eq_getElem hpos] at this
      cases this
    | lrec _ _ _ _ _ _ _ =>
      have := h 0 hpos
      unfold loadC at this
      simp only [hb] at this
      rw [List.getElem?_eq_getElem hpos] at this
      cases this
/-- A slice of one-cell elements that reads as a row. -/
def SL (H : AH) (v : AV) (l : List AV) : Prop :=
  l = [] ∧ (v = .snil ∨ v = .sempty) ∨ ∃ b o, v = .slice b o l.length 1 ∧ l ≠ [] ∧ ∀ i, i < l.length → loadC H b (o + i) none = l[i]?
theorem loadC_keeps {H H1 : AH} (hk : H.keepsAll H1) {b o : Nat} {n : Option Nat} {v : AV} (h : loadC H b o n = some v) : loadC H1 b o n = some v := by
  cases hb : H.at_ b with
  | none => cases n <;> (unfold loadC at h; rw [hb] at h; cases h)
  | some ob => cases n <;> (unfold loadC at h ⊢; rw [hk b ob hb]; rw [hb] at h; exact h)
theorem SL.keeps {H H1 : AH} (hk : H.keepsAll H1) {v : AV} {l : List AV} (h : SL H v l) : SL H1 v l := by
  rcases h with h | ⟨b, o, h1, h2, h3⟩
  · exact .inl h
  · exact .inr ⟨b, o, h1, h2, fun i hi => by rw [List.getElem?_eq_getElem hi]; exact loadC_keeps hk (by rw [h3 i hi, List.getElem?_eq_getElem hi])⟩
def IsRow (k : IntKind) (w : World) (a : Option Addr) (len cap : Nat) (zs : List Int) : Prop :=
  (a = none ∧ len = 0 ∧ cap = 0 ∧ zs = []) ∨
  ∃ x, a = some x ∧ len ≤ cap ∧ cap ≤ maxLen ∧ zs.length = cap ∧ (∀ i, i < zs.length → w.cell? (x.add i) = some (.int k (zs.getD i 0))) ∧ ∀ n ∈ zs, (Lit.int k n).wf = true
theorem slice1 {P : Program} {W : World} {tabs : Nat → Option AObj} (ht : ∀ a o, tabs a = some o → ∃ t cs x, o = .cells true t cs ∧ W.heap[a]? = some x ∧ ORel (j0 P) o x ∧ csize x = cs.length)
    {x : Addr} {len cap : Nat} {l : List AV} (hl : l.length = cap) (hle : len ≤ cap) (hc : ∀ i a, l[i]? = some a → ∃ v, W.cell? (x.add i) = some v ∧ absV v = some a) :
    ∃ v, SL (H1 W tabs) v (l.take len) ∧ VR (j1 W) v (.slice (some x) len cap) := by
  by_cases h0 : len = 0
  · subst h0
    exact ⟨.sempty, .inl ⟨by simp, .inr rfl⟩, .sempty⟩
  · have hspot : x.spot = none := by
      obtain ⟨v, hv, _⟩ := hc 0 _ (List.getElem?_eq_getElem (by omega))
      rw [show x.add 0 = x from by unfold Addr.add; simp] at hv
      cases hsp : x.spot with
      | none => rfl
      | some q =>
        unfold World.cell? at hv
        split at hv
        · rw [hsp] at hv
          simp at hv
        · cases hv
    obtain ⟨b, o, sp⟩ := x
    cases hspot
    have hadd : ∀ i, (⟨b, o, none⟩ : Addr).add i = ⟨b, o + i, none⟩ := fun i => by
      unfold Addr.add
      split
      · rename_i h; subst h; rfl
      · rfl
    have hln : (l.take len).length = len := by simp; omega
    obtain ⟨v, hv, _⟩ := hc (cap - 1) _ (List.getElem?_eq_getElem (by omega))
    obtain ⟨z, hz, hzle⟩ : ∃ z, j1 W b = some (b, z) ∧ o + cap * 1 ≤ z := by
      rw [hadd] at hv
      unfold World.cell? at hv
      split at hv
      · rename_i c t fz hx
        have hx : W.heap[b]? = some (.cells c t fz) := hx
        simp at hv
        refine ⟨c.size, by unfold j1; rw [hx]; rfl, ?_⟩
        have := (Array.getElem?_eq_some_iff.1 hv).1
        omega
      · cases hv
    refine ⟨.slice b o len 1, .inr ⟨b, o, by rw [hln], fun h => by rw [h] at hln; exact h0 hln.symm, fun i hi => ?_⟩, .slice hz hle hzle⟩
    rw [List.getElem?_take, if_pos (by omega), List.getElem?_eq_getElem (by omega)]
    obtain ⟨u, hu, ha⟩ := hc i _ (List.getElem?_eq_getElem (by omega))
    rw [hadd] at hu
    exact H1_load ht hu ha
theorem SL.ints {P : Program} {W : World} {tabs : Nat → Option AObj} (ht : ∀ a o, tabs a = some o → ∃ t cs x, o = .cells true t cs ∧ W.heap[a]? = some x ∧ ORel (j0 P) o x ∧ csize x = cs.length)
    {k : IntKind} {a : Option Addr} {len cap : Nat} {zs : List Int} (h : IsRow k W a len cap zs) :
    ∃ v, SL (H1 W tabs) v ((zs.take len).map (AV.int k)) ∧ VR (j1 W) v (.slice a len cap) := by
  rcases h with ⟨rfl, rfl, rfl, rfl⟩ | ⟨x, rfl, hle, _, hl, hc, _⟩
  · exact ⟨.snil, .inl ⟨rfl, .inl rfl⟩, .snil⟩
  · rw [List.map_take]
    refine slice1 ht (by simpa using hl) hle fun i b hb => ?_
    simp at hb
    obtain ⟨z, hz, rfl⟩ := hb
    have hi := (List.getElem?_eq_some_iff.1 hz).1
    refine ⟨_, hc i hi, ?_⟩
    rw [List.getD_eq_getElem?_getD, hz]
    rfl
abbrev byteV (c : UInt8) : AV := .int .u8 (c.toNat : Int)
theorem SL.bytes {P : Program} {W : World} {tabs : Nat → Option AObj} (ht : ∀ a o, tabs a = some o → ∃ t cs x, o = .cells true t cs ∧ W.heap[a]? = some x ∧ ORel (j0 P) o x ∧ csize x = cs.length)
    {a : Option Addr} {len cap : Nat} {zs : List Int} (h : IsRow .u8 W a len cap zs) :
    ∃ (v : AV) (bs : List UInt8), SL (H1 W tabs) v (bs.map byteV) ∧ VR (j1 W) v (.slice a len cap) := by
  obtain ⟨v, h1, h2⟩ := SL.ints ht h
  refine ⟨v, (zs.take len).map fun z => UInt8.ofNat z.toNat, ?_, h2⟩
  have e : ((zs.take len).map fun z => UInt8.ofNat z.toNat).map byteV = (zs.take len).map (AV.int .u8) := by
    rw [List.map_map]
    refine List.map_congr_left fun z hz => ?_
    rcases h with ⟨_, _, _, rfl⟩ | ⟨x, _, _, _, _, _, hw⟩
    · simp at hz
    · have hb := hw z (List.mem_of_mem_take hz)
      have h1 : 0 ≤ z ∧ z ≤ 255 := by
        have h3 : IntKind.min .u8 ≤ z ∧ z ≤ IntKind.max .u8 := by simpa [Lit.wf] using hb
        have e1 : IntKind.min .u8 = 0 := by decide
        have e2 : IntKind.max .u8 = 255 := by decide
        rw [e1, e2] at h3
        exact h3
      show AV.int .u8 ((UInt8.ofNat z.toNat).toNat : Int) = AV.int .u8 z
      rw [UInt8.toNat_ofNat', Nat.mod_eq_of_lt (by omega)]
      congr 1
      omega
  rw [e]
  exact h1
/-! ### Parameters -/
theorem cell_bool {P : Program} {w : World} {r : Reach} {base : Nat} {u : TypeId} {v : Value} (hu : P.underlying u = some .bool) (h : Cell.okWide P w r base u v) : ∃ b, v = .bool b := by
  unfold Cell.okWide at h
  rw [hu] at h
  cases v <;> simp [Cell.ok, hu] at h ⊢
theorem cell_int {P : Program} {w : World} {r : Reach} {base : Nat} {u : TypeId} {k : IntKind} {v : Value} (hu : P.underlying u = some (.int k)) (h : Cell.okWide P w r base u v) : ∃ n, v = .int k n ∧ k.has n := by
  unfold Cell.okWide at h
  rw [hu] at h
  cases v <;> simp [Cell.ok, hu] at h ⊢
  obtain ⟨rfl, h⟩ := h
  exact ⟨_, ⟨rfl, rfl⟩, h⟩
theorem cell_str {P : Program} {w : World} {r : Reach} {base : Nat} {u : TypeId} {v : Value} (hu : P.underlying u = some .string) (h : Cell.okWide P w r base u v) : ∃ s, v = .string s ∧ (s.size : Int) ≤ IntKind.i64.max := by
  unfold Cell.okWide at h
  rw [hu] at h
  cases v <;> simp [Cell.ok, hu] at h ⊢
  exact h
def structB (P : Program) (t : TypeId) : Bool := match P.underlying t with
  | some (.struct _) => true
  | _ => false
theorem okWide_cells {P : Program} {w : World} {r : Reach} {base : Nat} {t : TypeId} {v : Value} {ts : List TypeId} (hs : structB P t = true) (ht : P.cellTypes P.depth t = some ts) (hc : P.cellsOf t = ts.length) (h : Value.okWide P w r base t v) :
    ∃ cs : Array Value, v = .agg cs ∧ cs.size = ts.length ∧ ∀ (i : Nat) u, ts[i]? = some u → ∃ x, cs[i]? = some x ∧ Cell.okWide P w r base u x := by
  unfold structB at hs
  unfold Value.okWide at h
  split at hs
  · rename_i fs hu
    rw [hu] at h
    obtain ⟨cs, rfl, h1, ts', h2, _, h3⟩ := h
    rw [ht] at h2
    cases h2
    refine ⟨cs, rfl, h1.trans hc, fun i u hi => ?_⟩
    have hlt := (List.getElem?_eq_some_iff.1 hi).1
    obtain ⟨u', hu', hx⟩ := h3 i cs[i] (Array.getElem?_eq_getElem (by omega))
    rw [Nat.mod_eq_of_lt hlt, hi] at hu'
    cases hu'
    exact ⟨_, Array.getElem?_eq_getElem (by omega), hx⟩
  · cases hs
theorem arr3 {cs : Array Value} {a b c : Value} (h : cs.size = 3) (h0 : cs[0]? = some a) (h1 : cs[1]? = some b) (h2 : cs[2]? = some c) : cs = #[a, b, c] := by
  apply Array.ext_getElem?
  intro i
  match i with
  | 0 => rw [h0]; rfl
  | 1 => rw [h1]; rfl
  | 2 => rw [h2]; rfl
  | i + 3 => rw [Array.getElem?_eq_none (by omega), Array.getElem?_eq_none (by simp)]
end Go.Proofs.YtcgkadfgojmmlaaDoor.Abs

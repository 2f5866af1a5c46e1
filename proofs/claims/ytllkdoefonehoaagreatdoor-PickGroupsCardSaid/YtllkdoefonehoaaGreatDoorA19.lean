/- Calls that leave nothing behind; small laws for working steps out. No condition. -/
import Derived.Test.YtllkdoefonehoaaGreatDoorA18
set_option linter.unusedVariables false
set_option linter.unusedSimpArgs false
namespace Go.Proofs.YtllkdoefonehoaaGreatDoor.Abs
open Go Go.RowKit

theorem VR.restrict {j j' : Inj} (hj : j.le j') {a : AV} {v0 : Value} (h0 : VR j a v0) : ∀ {v : Value}, VR j' a v → VR j a v := by
  have key : ∀ {b c z c' z' : Nat}, j b = some (c, z) → j' b = some (c', z') → j b = some (c', z') := fun {b c z c' z'} h1 h2 => by
    have := hj _ _ h1; rw [h2] at this; cases this; exact h1
  induction h0 with
  | bool b => intro v h; cases h; exact .bool b
  | int k n => intro v h; cases h; exact .int k n
  | str s =>
    intro v h
    obtain ⟨s', rfl, hs⟩ := (show ∃ s' : ByteArray, v = .string s' ∧ s'.data.toList = s.data.toList from VR.str_inv h)
    exact str_of hs
  | pnil => intro v h; cases h; exact .pnil
  | ptr h0 => intro v h; cases h; exact .ptr (key h0 ‹_›)
  | snil => intro v h; cases h; exact .snil
  | slice h0 hk hz => intro v h; cases h; exact .slice (key h0 ‹_›) ‹_› ‹_›
  | sempty => intro v h; cases h; exact .sempty
  | szero => intro v h; cases h; exact .szero
  | hdl => intro v h; cases h; exact .hdl
  | mnil => intro v h; cases h; exact .mnil
  | map h0 => intro v h; cases h; exact .map (key h0 ‹_›)
  | func hn hf h1 hc h2 ih1 ih2 =>
    intro v h
    cases h with
    | func hn' hf' h1' hc' h2' =>
      refine .func hn' hf' (fun i a b ha hb => ?_) hc' (fun i a b ha hb => ?_)
      · have hlt := (List.getElem?_eq_some_iff.1 ha).1
        exact ih1 i a _ ha (Array.getElem?_eq_getElem (by omega)) (h1' i a b ha hb)
      · have hlt := (List.getElem?_eq_some_iff.1 ha).1
        exact ih2 i a _ ha (Array.getElem?_eq_getElem (by omega)) (h2' i a b ha hb)
  | yield h0 => intro v h; cases h; exact .yield (key h0 ‹_›)
  | nilFunc => intro v h; cases h; exact .nilFunc
  | iface _ ih => intro v h; cases h; exact .iface (ih ‹_›)
  | nilIface => intro v h; cases h; exact .nilIface
  | agg hs h1 ih =>
    intro v h
    cases h with
    | agg hs' h1' =>
      refine .agg hs' (fun i a b ha hb => ?_)
      have hlt := (List.getElem?_eq_some_iff.1 ha).1
      exact ih i a _ ha (Array.getElem?_eq_getElem (by omega)) (h1' i a b ha hb)
  | tuple hs h1 ih =>
    intro v h
    cases h with
    | tuple hs' h1' =>
      refine .tuple hs' (fun i a b ha hb => ?_)
      have hlt := (List.getElem?_eq_some_iff.1 ha).1
      exact ih i a _ ha (Array.getElem?_eq_getElem (by omega)) (h1' i a b ha hb)
theorem ORel.restrict {j j' : Inj} (hj : j.le j') {o : AObj} {x0 x : Obj} (h0 : ORel j o x0) (h : ORel j' o x) : ORel j o x := by
  cases o <;> cases x0 <;> cases x <;> simp only [ORel] at h0 h ⊢
  · refine ⟨h.1, h.2.1, fun i a v ha hv => ?_, h.2.2.2⟩
    have hlt := (List.getElem?_eq_some_iff.1 ha).1
    exact (h0.2.2.1 i a _ ha (Array.getElem?_eq_getElem (by have := h0.2.1; omega))).restrict hj (h.2.2.1 i a v ha hv)
  · refine ⟨h.1, h.2.1, fun i a v ha hv => ?_⟩
    have hlt := (List.getElem?_eq_some_iff.1 ha).1
    have hh := h0.2.2 i a _ ha (Array.getElem?_eq_getElem (by have := h0.2.1; omega))
    have hk := h.2.2 i a v ha hv
    exact ⟨hh.1.restrict hj hk.1, hh.2.1.restrict hj hk.2.1, hk.2.2⟩
  · exact h
  · intro i a hi
    obtain ⟨v0, e0, h1⟩ := h0 i a hi
    obtain ⟨v, e, h2⟩ := h i a hi
    exact ⟨v, e, h1.restrict hj h2⟩
/-- What was there is there as it was, whatever came beside it. -/
theorem Post.back {P : Program} {j j' : Inj} {H H' : AH} {w w' : World} (hr : Rel P j H w) (h : Post P j H w j' H' w') (hle : ∀ b o, H.at_ b = some o → H'.at_ b = some o) : Post P j H w j H w' := by
  refine ⟨⟨Inj.le_refl j, ⟨fun a c z ha => ⟨(hr.dom a c z ha).1, Nat.lt_of_lt_of_le (hr.dom a c z ha).2 h.keeps.size⟩, hr.inj, fun a o ha => ?_, hr.glob⟩, h.keeps, Nat.le_refl _, fun a c z hc hl _ => ⟨a, z, hl, hc, id⟩⟩, fun _ _ => rfl⟩
  obtain ⟨c, x0, hc, hx0, ho0⟩ := hr.obj a o ha
  obtain ⟨c', x, hc', hx, ho⟩ := h.rel.obj a o (hle a o ha)
  have := h.ext _ _ hc
  rw [hc'] at this
  have e1 : c' = c := by injection this with e; injection e
  have e2 : csize x = csize x0 := by injection this with e; injection e
  subst e1
  exact ⟨c', x, by rw [e2]; exact hc, hx, ho0.restrict h.ext ho⟩
/-- Values without addresses. -/
inductive Plain : AV → Prop
  | bool (b) : Plain (.bool b)
  | int (k n) : Plain (.int k n)
  | str (l) : Plain (.str l)
  | pnil : Plain .pnil
  | snil : Plain .snil
  | mnil : Plain .mnil
  | nilFunc : Plain .nilFunc
  | nilIface : Plain .nilIface
  | iface {t v} (h : Plain v) : Plain (.iface t v)
  | agg {l} (h : ∀ a ∈ l, Plain a) : Plain (.agg l)
  | tuple {l} (h : ∀ a ∈ l, Plain a) : Plain (.tuple l)
theorem Plain.vr {a : AV} (h : Plain a) : ∀ {j j' : Inj} {v : Value}, VR j' a v → VR j a v := by
  induction h with
  | bool b => intro j j' v h; cases h; exact .bool b
  | int k n => intro j j' v h; cases h; exact .int k n
  | str l => intro j j' v h; obtain ⟨s, rfl, hs⟩ := h.str_inv; exact str_of hs
  | pnil => intro j j' v h; cases h; exact .pnil
  | snil => intro j j' v h; cases h; exact .snil
  | mnil => intro j j' v h; cases h; exact .mnil
  | nilFunc => intro j j' v h; cases h; exact .nilFunc
  | nilIface => intro j j' v h; cases h; exact .nilIface
  | iface _ ih => intro j j' v h; cases h; exact .iface (ih ‹_›)
  | agg _ ih =>
    intro j j' v h
    cases h with
    | agg hs h1 => exact .agg hs (fun i a b ha hb => ih a (List.mem_of_getElem? ha) (h1 i a b ha hb))
  | tuple _ ih =>
    intro j j' v h
    cases h with
    | tuple hs h1 => exact .tuple hs (fun i a b ha hb => ih a (List.mem_of_getElem? ha) (h1 i a b ha hb))
def AH.keepsAll (H H' : AH) : Prop := ∀ b o, H.at_ b = some o → H'.at_ b = some o
/-- A call that answers a plain value and keeps all blocks leaves nothing behind. -/
theorem acall_plain {P : Program} {f : FuncId} {args : List AV} {H : AH} {Q : AV → Prop} (hp : ∀ v, Q v → Plain v) (h : ACall P f args H fun v H' => Q v ∧ H.keepsAll H') : ACall P f args H fun v H' => Q v ∧ H' = H :=
  ⟨h.1, fun j w cargs hr hv => (h.2 j w cargs hr hv).mono fun e w' ⟨v, vc, j', H', he, ⟨hq, hk⟩, hpo, hvr⟩ => ⟨v, vc, j, H, he, ⟨hq, rfl⟩, hpo.back hr hk, (hp v hq).vr hvr⟩⟩
theorem acall_val {P : Program} {f : FuncId} {args : List AV} {H : AH} {r : AV} (hp : Plain r) (h : ACall P f args H fun v H' => v = r ∧ H.keepsAll H') : ACall P f args H fun v H' => v = r ∧ H' = H :=
  acall_plain (Q := (· = r)) (fun v hv => by rw [hv]; exact hp) h

theorem AH.keepsAll_refl (H : AH) : H.keepsAll H := fun _ _ h => h
theorem AH.keepsAll_new {H H' : AH} {o : AObj} (h : H.keepsAll H') (hn : ∀ b o, H.at_ b = some o → b < H'.next) : H.keepsAll (H'.new o) := fun b q hb => by
  have := hn b q hb
  rw [AH.new_ne H' o (by omega)]; exact h b q hb
/-- Blocks have numbers below next: so it may be taken of any heap. -/
def AH.ok (H : AH) : Prop := ∀ b o, H.at_ b = some o → b < H.next
theorem Rel.ok {P : Program} {j : Inj} {H : AH} {w : World} (h : Rel P j H w) : H.ok := fun b o hb => by obtain ⟨c, x, hc, _⟩ := h.obj b o hb; exact (h.dom b c _ hc).1
theorem acall_ok {P : Program} {f : FuncId} {args : List AV} {H : AH} {Q : AV → AH → Prop} (hb : bodyP P f = true) (h : H.ok → ACall P f args H Q) : ACall P f args H Q :=
  ⟨hb, fun j w cargs hr hv => (h hr.ok).2 j w cargs hr hv⟩
theorem Post.back2 {P : Program} {j j' : Inj} {H H' Hb : AH} {w w' : World} (hr : Rel P j H w) (h : Post P j H w j' H' w') (hn : Hb.next = H.next) (hle : ∀ b o, Hb.at_ b = some o → H'.at_ b = some o)
    (hlv : ∀ b o, Hb.at_ b = some o → ∃ o0, H.at_ b = some o0 ∧ o0.ro = o.ro) (hold : ∀ b o, Hb.at_ b = some o → ∃ x0, ORel j o x0) : Post P j H w j Hb w' := by
  refine ⟨⟨Inj.le_refl j, ⟨fun a c z ha => ⟨by rw [hn]; exact (hr.dom a c z ha).1, Nat.lt_of_lt_of_le (hr.dom a c z ha).2 h.keeps.size⟩, fun a b c y z ha hb la lb => ?_, fun a o ha => ?_, hr.glob⟩, h.keeps, Nat.le_of_eq hn.symm, fun a c z hc hl _ => ?_⟩, fun _ _ => rfl⟩
  · obtain ⟨o1, ho1⟩ := AH.live_obj la
    obtain ⟨o2, ho2⟩ := AH.live_obj lb
    obtain ⟨p1, hp1, _⟩ := hlv _ _ ho1
    obtain ⟨p2, hp2, _⟩ := hlv _ _ ho2
    exact hr.inj a b c y z ha hb (AH.live_of hp1) (AH.live_of hp2)
  · obtain ⟨o0, h0, _⟩ := hlv a o ha
    obtain ⟨c, x0, hc, hx0, _⟩ := hr.obj a o0 h0
    obtain ⟨c', x, hc', hx, ho⟩ := h.rel.obj a o (hle a o ha)
    have := h.ext _ _ hc
    rw [hc'] at this
    have e1 : c' = c := by injection this with e; injection e
    have e2 : csize x = csize x0 := by injection this with e; injection e
    subst e1
    obtain ⟨y0, hy0⟩ := hold a o ha
    exact ⟨c', x, by rw [e2]; exact hc, hx, hy0.restrict h.ext ho⟩
  · obtain ⟨o, ho⟩ := AH.live_obj hl
    obtain ⟨o0, h0, e0⟩ := hlv a o ho
    refine ⟨a, z, AH.live_of h0, hc, fun ⟨q, hq, hqr⟩ => ⟨o0, h0, ?_⟩⟩
    rw [ho] at hq
    cases hq
    rw [e0]; exact hqr
/-- A call that answers a plain value, changes one block and keeps the others. -/
theorem acall_set {P : Program} {f : FuncId} {args : List AV} {H : AH} {r : AV} {b : Nat} {o0 o' : AObj} (hp : Plain r) (h0 : H.at_ b = some o0) (hro : o0.ro = o'.ro) (hold : ∀ j w, Rel P j H w → ∃ x0, ORel j o' x0)
    (h : ACall P f args H fun v H' => v = r ∧ (H.set b (some o')).keepsAll H') : ACall P f args H fun v H' => v = r ∧ H' = H.set b (some o') :=
  ⟨h.1, fun j w cargs hr hv => (h.2 j w cargs hr hv).mono fun e w' ⟨v, vc, j', H', he, ⟨hq, hk⟩, hpo, hvr⟩ => by
    refine ⟨v, vc, j, H.set b (some o'), he, ⟨hq, rfl⟩, hpo.back2 hr rfl hk (fun c o ho => ?_) (fun c o ho => ?_), (hq ▸ hp : Plain v).vr hvr⟩
    · by_cases e : c = b
      · subst e; rw [AH.set_same] at ho; cases ho; exact ⟨o0, h0, hro⟩
      · rw [AH.set_ne H _ e] at ho; exact ⟨o, ho, rfl⟩
    · by_cases e : c = b
      · subst e; rw [AH.set_same] at ho; cases ho; exact hold j w hr
      · rw [AH.set_ne H _ e] at ho
        obtain ⟨_, x, _, _, hx⟩ := hr.obj c o ho
        exact ⟨x, hx⟩⟩
end Go.Proofs.YtllkdoefonehoaaGreatDoor.Abs

/- Calls that leave nothing behind; working a function out, step by step. No condition. -/
import Derived.Test.YtcgkadfgojmmlaaDoorA18
set_option linter.unusedVariables false
set_option linter.unusedSimpArgs false
namespace Go.Proofs.YtcgkadfgojmmlaaDoor.Abs
open Go Go.RowKit

theorem VR.restrict {j j' : Inj} (hj : j.le j') {a : AV} {v0 : Value} (h0 : VR j a v0) : ∀ {v : Value}, VR j' a v → VR j a v := by
  have key : ∀ {b c z c' z' : Nat}, j b = some (c, z) → j' b = some (c', z') → j b = some (c', z') := fun {b c z c' z'} h1 h2 => by
    have := hj _ _ h1; rw [h2] at this; cases this; exact h1
  induction h0 with
  | bool b => intro v h; cases h; exact .bool b
  | int k n => intro v h; cases h; exact .int k n
  | str s =>
    intro v h
    obtain ⟨s', rfl, hs⟩ := (show ∃ s' : ByteArray, v = .string s' ∧ s'.data.toList = s.data.toList from VR.str_inv h)
    exact str_of hs
  | pnil => intro v h; cases h; exact .pnil
  | ptr h0 => intro v h; cases h; exact .ptr (key h0 ‹_›)
  | snil => intro v h; cases h; exact .snil
  | slice h0 hk hz => intro v h; cases h; exact .slice (key h0 ‹_›) ‹_› ‹_›
  | sempty => intro v h; cases h; exact .sempty
  | szero => intro v h; cases h; exact .szero
  | hdl => intro v h; cases h; exact .hdl
  | mnil => intro v h; cases h; exact .mnil
  | map h0 => intro v h; cases h; exact .map (key h0 ‹_›)
  | func hn hf h1 hc h2 ih1 ih2 =>
    intro v h
    cases h with
    | func hn' hf' h1' hc' h2' =>
      refine .func hn' hf' (fun i a b ha hb => ?_) hc' (fun i a b ha hb => ?_)
      · have hlt := (List.getElem?_eq_some_iff.1 ha).1
        exact ih1 i a _ ha (Array.getElem?_eq_getElem (by omega)) (h1' i a b ha hb)
      · have hlt := (List.getElem?_eq_some_iff.1 ha).1
        exact ih2 i a _ ha (Array.getElem?_eq_getElem (by omega)) (h2' i a b ha hb)
  | yield h0 => intro v h; cases h; exact .yield (key h0 ‹_›)
  | nilFunc => intro v h; cases h; exact .nilFunc
  | iface _ ih => intro v h; cases h; exact .iface (ih ‹_›)
  | nilIface => intro v h; cases h; exact .nilIface
  | agg hs h1 ih =>
    intro v h
    cases h with
    | agg hs' h1' =>
      refine .agg hs' (fun i a b ha hb => ?_)
      have hlt := (List.getElem?_eq_some_iff.1 ha).1
      exact ih i a _ ha (Array.getElem?_eq_getElem (by omega)) (h1' i a b ha hb)
  | tuple hs h1 ih =>
    intro v h
    cases h with
    | tuple hs' h1' =>
      refine .tuple hs' (fun i a b ha hb => ?_)
      have hlt := (List.getElem?_eq_some_iff.1 ha).1
      exact ih i a _ ha (Array.getElem?_eq_getElem (by omega)) (h1' i a b ha hb)
theorem ORel.restrict {j j' : Inj} (hj : j.le j') {o : AObj} {x0 x : Obj} (h0 : ORel j o x0) (h : ORel j' o x) : ORel j o x := by
  cases o <;> cases x0 <;> cases x <;> simp only [ORel] at h0 h ⊢
  · refine ⟨h.1, h.2.1, fun i a v ha hv => ?_, h.2.2.2⟩
    have hlt := (List.getElem?_eq_some_iff.1 ha).1
    exact (h0.2.2.1 i a _ ha (Array.getElem?_eq_getElem (by have := h0.2.1; omega))).restrict hj (h.2.2.1 i a v ha hv)
  · refine ⟨h.1, h.2.1, fun i a v ha hv => ?_⟩
    have hlt := (List.getElem?_eq_some_iff.1 ha).1
    have hh := h0.2.2 i a _ ha (Array.getElem?_eq_getElem (by have := h0.2.1; omega))
    have hk := h.2.2 i a v ha hv
    exact ⟨hh.1.restrict hj hk.1, hh.2.1.restrict hj hk.2.1, hk.2.2⟩
  · exact h
  · intro i a hi
    obtain ⟨v0, e0, h1⟩ := h0 i a hi
    obtain ⟨v, e, h2⟩ := h i a hi
    exact ⟨v, e, h1.restrict hj h2⟩
  · exact ⟨h.1, h.2.1, h.2.2.1, h.2.2.2.1, h.2.2.2.2.1, h.2.2.2.2.2.1, h.2.2.2.2.2.2.1, fun t => (h0.2.2.2.2.2.2.2 t).restrict hj (h.2.2.2.2.2.2.2 t)⟩
/-- What was there is there as it was, whatever came beside it. -/
theorem Post.back {P : Program} {j j' : Inj} {H H' : AH} {w w' : World} (hr : Rel P j H w) (h : Post P j H w j' H' w') (hle : ∀ b o, H.at_ b = some o → H'.at_ b = some o) : Post P j H w j H w' := by
  refine ⟨⟨Inj.le_refl j, ⟨fun a c z ha => ⟨(hr.dom a c z ha).1, Nat.lt_of_lt_of_le (hr.dom a c z ha).2 h.keeps.size⟩, hr.inj, fun a o ha => ?_, hr.glob⟩, h.keeps, Nat.le_refl _, fun a c z hc hl _ => ⟨a, z, hl, hc, id⟩⟩, fun _ _ => rfl⟩
  obtain ⟨c, x0, hc, hx0, ho0⟩ := hr.obj a o ha
  obtain ⟨c', x, hc', hx, ho⟩ := h.rel.obj a o (hle a o ha)
  have := h.ext _ _ hc
  rw [hc'] at this
  have e1 : c' = c := by injection this with e; injection e
  have e2 : csize x = csize x0 := by injection this with e; injection e
  subst e1
  exact ⟨c', x, by rw [e2]; exact hc, hx, ho0.restrict h.ext ho⟩
/-- Values without addresses. -/
inductive Plain : AV → Prop
  | bool (b) : Plain (.bool b)
  | int (k n) : Plain (.int k n)
  | str (l) : Plain (.str l)
  | pnil : Plain .pnil
  | snil : Plain .snil
  | mnil : Plain .mnil
  | nilFunc : Plain .nilFunc
  | nilIface : Plain .nilIface
  | iface {t v} (h : Plain v) : Plain (.iface t v)
  | agg {l} (h : ∀ a ∈ l, Plain a) : Plain (.agg l)
  | tuple {l} (h : ∀ a ∈ l, Plain a) : Plain (.tuple l)
theorem Plain.vr {a : AV} (h : Plain a) : ∀ {j j' : Inj} {v : Value}, VR j' a v → VR j a v := by
  induction h with
  | bool b => intro j j' v h; cases h; exact .bool b
  | int k n => intro j j' v h; cases h; exact .int k n
  | str l => intro j j' v h; obtain ⟨s, rfl, hs⟩ := h.str_inv; exact str_of hs
  | pnil => intro j j' v h; cases h; exact .pnil
  | snil => intro j j' v h; cases h; exact .snil
  | mnil => intro j j' v h; cases h; exact .mnil
  | nilFunc => intro j j' v h; cases h; exact .nilFunc
  | nilIface => intro j j' v h; cases h; exact .nilIface
  | iface _ ih => intro j j' v h; cases h; exact .iface (ih ‹_›)
  | agg _ ih =>
    intro j j' v h
    cases h with
    | agg hs h1 => exact .agg hs (fun i a b ha hb => ih a (List.mem_of_getElem? ha) (h1 i a b ha hb))
  | tuple _ ih =>
    intro j j' v h
    cases h with
    | tuple hs h1 => exact .tuple hs (fun i a b ha hb => ih a (List.mem_of_getElem? ha) (h1 i a b ha hb))
def AH.keepsAll (H H' : AH) : Prop := ∀ b o, H.at_ b = some o → H'.at_ b = some o
/-- A call that answers a plain value and keeps all blocks leaves nothing behind. -/
theorem acall_plain {P : Program} {f : FuncId} {args : List AV} {H : AH} {Q : AV → Prop} (hp : ∀ v, Q v → Plain v) (h : ACall P f args H fun v H' => Q v ∧ H.keepsAll H') : ACall P f args H fun v H' => Q v ∧ H' = H :=
  ⟨h.1, fun j w cargs hr hv => (h.2 j w cargs hr hv).mono fun e w' ⟨v, vc, j', H', he, ⟨hq, hk⟩, hpo, hvr⟩ => ⟨v, vc, j, H, he, ⟨hq, rfl⟩, hpo.back hr hk, (hp v hq).vr hvr⟩⟩
theorem acall_val {P : Program} {f : FuncId} {args : List AV} {H : AH} {r : AV} (hp : Plain r) (h : ACall P f args H fun v H' => v = r ∧ H.keepsAll H') : ACall P f args H fun v H' => v = r ∧ H' = H :=
  acall_plain (Q := (· = r)) (fun v hv => by rw [hv]; exact hp) h

theorem AH.keepsAll_refl (H : AH) : H.keepsAll H := fun _ _ h => h
theorem AH.keepsAll_new {H H' : AH} {o : AObj} (h : H.keepsAll H') (hn : ∀ b o, H.at_ b = some o → b < H'.next) : H.keepsAll (H'.new o) := fun b q hb => by
  have := hn b q hb
  rw [AH.new_ne H' o (by omega)]; exact h b q hb
/-- Blocks have numbers below next: so it may be taken of any heap. -/
def AH.ok (H : AH) : Prop := ∀ b o, H.at_ b = some o → b < H.next
theorem Rel.ok {P : Program} {j : Inj} {H : AH} {w : World} (h : Rel P j H w) : H.ok := fun b o hb => by obtain ⟨c, x, hc, _⟩ := h.obj b o hb; exact (h.dom b c _ hc).1
theorem acall_ok {P : Program} {f : FuncId} {args : List AV} {H : AH} {Q : AV → AH → Prop} (hb : bodyP P f = true) (h : H.ok → ACall P f args H Q) : ACall P f args H Q :=
  ⟨hb, fun j w cargs hr hv => (h hr.ok).2 j w cargs hr hv⟩
theorem Post.back2 {P : Program} {j j' : Inj} {H H' Hb : AH} {w w' : World} (hr : Rel P j H w) (h : Post P j H w j' H' w') (hn : Hb.next = H.next) (hle : ∀ b o, Hb.at_ b = some o → H'.at_ b = some o)
    (hlv : ∀ b o, Hb.at_ b = some o → ∃ o0, H.at_ b = some o0 ∧ o0.ro = o.ro) (hold : ∀ b o, Hb.at_ b = some o → ∃ x0, ORel j o x0) : Post P j H w j Hb w' := by
  refine ⟨⟨Inj.le_refl j, ⟨fun a c z ha => ⟨by rw [hn]; exact (hr.dom a c z ha).1, Nat.lt_of_lt_of_le (hr.dom a c z ha).2 h.keeps.size⟩, fun a b c y z ha hb la lb => ?_, fun a o ha => ?_, hr.glob⟩, h.keeps, Nat.le_of_eq hn.symm, fun a c z hc hl _ => ?_⟩, fun _ _ => rfl⟩
  · obtain ⟨o1, ho1⟩ := AH.live_obj la
    obtain ⟨o2, ho2⟩ := AH.live_obj lb
    obtain ⟨p1, hp1, _⟩ := hlv _ _ ho1
    obtain ⟨p2, hp2, _⟩ := hlv _ _ ho2
    exact hr.inj a b c y z ha hb (AH.live_of hp1) (AH.live_of hp2)
  · obtain ⟨o0, h0, _⟩ := hlv a o ha
    obtain ⟨c, x0, hc, hx0, _⟩ := hr.obj a o0 h0
    obtain ⟨c', x, hc', hx, ho⟩ := h.rel.obj a o (hle a o ha)
    have := h.ext _ _ hc
    rw [hc'] at this
    have e1 : c' = c := by injection this with e; injection e
    have e2 : csize x = csize x0 := by injection this with e; injection e
    subst e1
    obtain ⟨y0, hy0⟩ := hold a o ha
    exact ⟨c', x, by rw [e2]; exact hc, hx, hy0.restrict h.ext ho⟩
  · obtain ⟨o, ho⟩ := AH.live_obj hl
    obtain ⟨o0, h0, e0⟩ := hlv a o ho
    refine ⟨a, z, AH.live_of h0, hc, fun ⟨q, hq, hqr⟩ => ⟨o0, h0, ?_⟩⟩
    rw [ho] at hq
    cases hq
    rw [e0]; exact hqr
/-- A call that answers a plain value, changes one block and keeps the others. -/
theorem acall_set {P : Program} {f : FuncId} {args : List AV} {H : AH} {r : AV} {b : Nat} {o0 o' : AObj} (hp : Plain r) (h0 : H.at_ b = some o0) (hro : o0.ro = o'.ro) (hold : ∀ j w, Rel P j H w → ∃ x0, ORel j o' x0)
    (h : ACall P f args H fun v H' => v = r ∧ (H.set b (some o')).keepsAll H') : ACall P f args H fun v H' => v = r ∧ H' = H.set b (some o') :=
  ⟨h.1, fun j w cargs hr hv => (h.2 j w cargs hr hv).mono fun e w' ⟨v, vc, j', H', he, ⟨hq, hk⟩, hpo, hvr⟩ => by
    refine ⟨v, vc, j, H.set b (some o'), he, ⟨hq, rfl⟩, hpo.back2 hr rfl hk (fun c o ho => ?_) (fun c o ho => ?_), (hq ▸ hp : Plain v).vr hvr⟩
    · by_cases e : c = b
      · subst e; rw [AH.set_same] at ho; cases ho; exact ⟨o0, h0, hro⟩
      · rw [AH.set_ne H _ e] at ho; exact ⟨o, ho, rfl⟩
    · by_cases e : c = b
      · subst e; rw [AH.set_same] at ho; cases ho; exact hold j w hr
      · rw [AH.set_ne H _ e] at ho
        obtain ⟨_, x, _, _, hx⟩ := hr.obj c o ho
        exact ⟨x, hx⟩⟩
end Go.Proofs.YtcgkadfgojmmlaaDoor.Abs
set_option linter.unusedVariables false
set_option linter.unusedSimpArgs false
namespace Go.Proofs.YtcgkadfgojmmlaaDoor.Abs
open Go Go.RowKit

variable {α β : Type}
/-- What stands beside such a mark is left alone until the way is known. -/
def Mark (A B : Prop) : Type := Unit
def mark {A B : Prop} : Mark A B := ()
def MarkF {α : Type} (k : α → Prop) : Type := Unit
def markF {α : Type} {k : α → Prop} : MarkF k := ()
/-- A branch. -/
def Fork3 (o : Option Bool) (A B : Prop) (m : Mark A B) : Prop := match o with
  | some true => A
  | some false => B
  | none => False
@[simp] theorem Fork3.yes (A B : Prop) (m : Mark A B) : Fork3 (some true) A B m = A := (rfl)
@[simp] theorem Fork3.no (A B : Prop) (m : Mark A B) : Fork3 (some false) A B m = B := (rfl)
@[simp] theorem Fork3.none (A B : Prop) (m : Mark A B) : Fork3 Option.none A B m = False := (rfl)
theorem Fork3.intro {b : Bool} {A B : Prop} {m : Mark A B} (h1 : b = true → A) (h2 : b = false → B) : Fork3 (some b) A B m := by cases b; exact h2 rfl; exact h1 rfl
theorem Fork3.dec {p : Prop} [Decidable p] {A B : Prop} {m : Mark A B} (h1 : p → A) (h2 : ¬ p → B) : Fork3 (some (decide p)) A B m := Fork3.intro (fun h => h1 (of_decide_eq_true h)) (fun h => h2 (of_decide_eq_false h))
theorem Fork3.ndec {p : Prop} [Decidable p] {A B : Prop} {m : Mark A B} (h1 : ¬ p → A) (h2 : p → B) : Fork3 (some (!decide p)) A B m := Fork3.intro (fun h => h1 (by simpa using h)) (fun h => h2 (by simpa using h))
theorem Fork3.eqt {o : Option Bool} {A B : Prop} {m : Mark A B} (h : o = some true) (hA : A) : Fork3 o A B m := by rw [h]; exact hA
theorem Fork3.eqf {o : Option Bool} {A B : Prop} {m : Mark A B} (h : o = some false) (hB : B) : Fork3 o A B m := by rw [h]; exact hB
/-- What a step answers, if it answers. -/
def Try (o : Option α) (k : α → Prop) (m : MarkF k) : Prop := match o with
  | some v => k v
  | none => False
@[simp] theorem Try.some (v : α) (k : α → Prop) (m : MarkF k) : Try (some v) k m = k v := (rfl)
@[simp] theorem Try.none (k : α → Prop) (m : MarkF k) : Try Option.none k m = False := (rfl)
theorem Try.intro {o : Option α} {v : α} {k : α → Prop} {m : MarkF k} (h : o = Option.some v) (hk : k v) : Try o k m := by rw [h]; exact hk
@[simp] theorem Try.map (f : α → β) (o : Option α) (k : β → Prop) (m : MarkF k) : Try (o.map f) k m = Try o (fun v => k (f v)) markF := by cases o <;> rfl
@[simp] theorem Try.bind (o : Option α) (f : α → Option β) (k : β → Prop) (m : MarkF k) : Try (o.bind f) k m = Try o (fun v => Try (f v) k markF) markF := by cases o <;> rfl
theorem Try.ite {c : Prop} [Decidable c] {a b : Option α} {k : α → Prop} {m : MarkF k} (h1 : c → Try a k markF) (h2 : ¬ c → Try b k markF) : Try (if c then a else b) k m := by
  split
  · exact h1 ‹_›
  · exact h2 ‹_›
theorem Try.guard {c : Prop} [Decidable c] {a : Option α} {k : α → Prop} {m : MarkF k} (h1 : c) (h2 : Try a k markF) : Try (if c then a else Option.none) k m := by rw [if_pos h1]; exact h2
theorem Try.guardn {c : Prop} [Decidable c] {a : Option α} {k : α → Prop} {m : MarkF k} (h1 : ¬ c) (h2 : Try a k markF) : Try (if c then Option.none else a) k m := by rw [if_neg h1]; exact h2

def isB : AV → Option Bool
  | .bool b => some b
  | _ => none
@[simp] theorem isB_bool (b : Bool) : isB (.bool b) = some b := (rfl)
def newO (H : AH) : Option AObj → AH
  | none => H
  | some b => H.new b
@[simp] theorem newO_none (H : AH) : newO H none = H := (rfl)
@[simp] theorem newO_some (H : AH) (b : AObj) : newO H (some b) = H.new b := (rfl)
attribute [simp] upd_same
@[simp] theorem put_some (tm : Tms) (d : Nat) (v : AV) : put tm (some d) v = upd tm d v := (rfl)
@[simp] theorem put_none (tm : Tms) (v : AV) : put tm none v = tm := (rfl)
@[simp] theorem upd_ap (tm : Tms) (d : Nat) (v : AV) (t : Nat) : upd tm d v t = if t = d then v else tm t := (rfl)
@[simp] theorem ev_tmp (tm : Tms) (t : Nat) : (IOpd.tmp t).ev tm = tm t := (rfl)
@[simp] theorem ev_const (tm : Tms) (v : AV) : (IOpd.const v).ev tm = v := (rfl)
@[simp] theorem wantedA_none (tm : Tms) : wantedA tm none = some true := (rfl)
def want1 (v : AV) (want : Bool) : Option Bool := match v with
  | .bool b => some (b == want)
  | .tuple [] => some false
  | _ => none
@[simp] theorem wantedA_some (tm : Tms) (g : Nat) (want : Bool) : wantedA tm (some (g, want)) = want1 (tm g) want := (rfl)
@[simp] theorem want1_bool (b want : Bool) : want1 (.bool b) want = some (b == want) := (rfl)
@[simp] theorem want1_undef (want : Bool) : want1 .undef want = some false := (rfl)
@[simp] theorem want1_tuple (want : Bool) : want1 (.tuple []) want = some false := (rfl)

@[simp] theorem want1_ite (c : Prop) [Decidable c] (a b : AV) (w : Bool) : want1 (if c then a else b) w = if c then want1 a w else want1 b w := by split <;> rfl
theorem Fork3.ite {c : Prop} [Decidable c] {a b : Option Bool} {A B : Prop} {m : Mark A B} (h1 : c → Fork3 a A B m) (h2 : ¬ c → Fork3 b A B m) : Fork3 (if c then a else b) A B m := by
  split
  · exact h1 ‹_›
  · exact h2 ‹_›
variable {P : Program}
@[simp ↓] theorem irun_nil (K : Tms → AH → Prop) (pd : Pend) (tm : Tms) (H : AH) : IRun P K [] pd tm H = K tm H := (rfl)
@[simp ↓] theorem irun_n (K : Tms → AH → Prop) (dst : Option Nat) (g : Guard) (o : NOp) (rest : List IStep) (pd : Pend) (tm : Tms) (H : AH) :
    IRun P K (.n dst g o :: rest) pd tm H = Fork3 (wantedA tm g) (Try (nop (·.ev tm) H H.next o) (fun r => IRun P K rest pd (put tm dst r.1) (newO H r.2)) markF) (IRun P K rest pd (put tm dst .undef) H) mark := by
  rw [IRun]
  cases hw : wantedA tm g with
  | none => rfl
  | some b =>
    cases b with
    | false => rfl
    | true =>
      simp only [Fork3.yes]
      cases hn : nop (·.ev tm) H H.next o with
      | none => rfl
      | some r => obtain ⟨v, ob⟩ := r; cases ob <;> rfl
@[simp ↓] theorem irun_late (K : Tms → AH → Prop) (key : Nat) (dst : Option Nat) (g : Guard) (o : NOp) (rest : List IStep) (pd : Pend) (tm : Tms) (H : AH) :
    IRun P K (.late key dst g o :: rest) pd tm H = Fork3 (wantedA tm g) (Try (nop (·.ev tm) H H.next o) (fun r => Try r.2 (fun b => IRun P K rest ((key, H.next, b) :: pd) (put tm dst r.1) H.bump) markF) markF) (IRun P K rest pd (put tm dst .undef) H) mark := by
  rw [IRun]
  cases hw : wantedA tm g with
  | none => rfl
  | some b =>
    cases b with
    | false => rfl
    | true =>
      simp only [Fork3.yes]
      cases hn : nop (·.ev tm) H H.next o with
      | none => rfl
      | some r => obtain ⟨v, ob⟩ := r; cases ob <;> rfl
def laid (H : AH) : Option (Nat × AObj) → AH
  | none => H
  | some (id, b) => H.set id (some b)
@[simp] theorem laid_none (H : AH) : laid H none = H := (rfl)
@[simp] theorem laid_some (H : AH) (id : Nat) (b : AObj) : laid H (some (id, b)) = H.set id (some b) := (rfl)
@[simp ↓] theorem irun_act (K : Tms → AH → Prop) (key : Nat) (rest : List IStep) (pd : Pend) (tm : Tms) (H : AH) :
    IRun P K (.act key :: rest) pd tm H = IRun P K rest pd tm (laid H (pd.lookup key)) := by
  rw [IRun]
  cases pd.lookup key with
  | none => rfl
  | some r => obtain ⟨id, b⟩ := r; rfl
@[simp ↓] theorem irun_e (K : Tms → AH → Prop) (dst : Option Nat) (g : Guard) (o : EOp) (re : List (Nat × Guard × NOp)) (rest : List IStep) (pd : Pend) (tm : Tms) (H : AH) :
    IRun P K (.e dst g o re :: rest) pd tm H = Fork3 (wantedA tm g) (estep P (·.ev tm) H (fun v H' => (∀ r ∈ re, stays (put tm dst v) H' r) ∧ IRun P K rest pd (put tm dst v) H') o) (IRun P K rest pd (put tm dst .undef) H) mark := by
  rw [IRun]
  cases hw : wantedA tm g with
  | none => rfl
  | some b => cases b <;> rfl
def MarkQ (H : AH) (Q : AV → AH → Prop) : Type := Unit
def markQ {H : AH} {Q : AV → AH → Prop} : MarkQ H Q := ()
def CallW (P : Program) (f : FuncId) (args : List AV) (H : AH) (Q : AV → AH → Prop) (m : MarkQ H Q) : Prop := ACall P f args H Q
theorem CallW.of {f : FuncId} {args : List AV} {H : AH} {Q Q' : AV → AH → Prop} {m : MarkQ H Q'} (h : ACall P f args H Q) (hq : ∀ v H', Q v H' → Q' v H') : CallW P f args H Q' m := h.mono hq
/-- A call whose answer is known, and which leaves the heap as it is. -/
theorem CallW.val {f : FuncId} {args : List AV} {H : AH} {r : AV} {Q' : AV → AH → Prop} {m : MarkQ H Q'} (h : ACall P f args H fun v H' => v = r ∧ H' = H) (hq : Q' r H) : CallW P f args H Q' m := h.mono fun v H' ⟨h1, h2⟩ => by rw [h1, h2]; exact hq
def asPtr : AV → Option (Nat × Nat)
  | .ptr b o => some (b, o)
  | _ => none
@[simp] theorem asPtr_ptr (b o : Nat) : asPtr (.ptr b o) = some (b, o) := (rfl)
@[simp ↓] theorem estep_store (ev : IOpd → AV) (H : AH) (K : AV → AH → Prop) (n : Nat) (x v : IOpd) :
    estep P ev H K (.store n x v) = Try (asPtr (ev x)) (fun p => Try (if (ev v).cells.length = n then storeC H p.1 p.2 (ev v).cells else none) (fun H' => K .undef H') markF) markF := by
  rw [estep]
  cases ev x <;> simp only [asPtr, Try.none, Try.some]
  split
  · cases storeC H _ _ _ <;> rfl
  · rfl
@[simp ↓] theorem estep_call (ev : IOpd → AV) (H : AH) (K : AV → AH → Prop) (f : FuncId) (args : List IOpd) :
    estep P ev H K (.call f args) = CallW P f (args.map ev) H K markQ := (rfl)
def YieldW (P : Program) (b : Nat) (args : List AV) (H : AH) (Q : AV → AH → Prop) (m : MarkQ H Q) : Prop := AYield P b args H Q
theorem YieldW.of {b : Nat} {args : List AV} {H : AH} {Q Q' : AV → AH → Prop} {m : MarkQ H Q'} (h : AYield P b args H Q) (hq : ∀ v H', Q v H' → Q' v H') : YieldW P b args H Q' m := h.mono hq
/-- A call of a function's value. -/
def CallV (P : Program) (v : AV) (args : List AV) (H : AH) (Q : AV → AH → Prop) (m : MarkQ H Q) : Prop := match v with
  | .func (.func f) a c => ACall P f (a ++ args ++ c) H Q
  | .yield b => AYield P b args H Q
  | _ => False
@[simp] theorem CallV_func (f : FuncId) (a c args : List AV) (H : AH) (Q : AV → AH → Prop) (m : MarkQ H Q) : CallV P (.func (.func f) a c) args H Q m = CallW P f (a ++ args ++ c) H Q markQ := (rfl)
@[simp] theorem CallV_yield (b : Nat) (args : List AV) (H : AH) (Q : AV → AH → Prop) (m : MarkQ H Q) : CallV P (.yield b) args H Q m = YieldW P b args H Q markQ := (rfl)
@[simp ↓] theorem estep_callv (ev : IOpd → AV) (H : AH) (K : AV → AH → Prop) (x : IOpd) (args : List IOpd) :
    estep P ev H K (.callv x args) = CallV P (ev x) (args.map ev) H K markQ := by
  rw [estep]
  cases ev x with
  | func fn a c => cases fn <;> rfl
  | _ => rfl
/-- A loop over a function: the function is called with yield, which runs the rounds. -/
theorem iwp_rangeF {g : IOpd} {ps : List Nat} {a b : ICode} {Q : IPost} {tm : Tms} {H : AH} {f : FuncId} {first captured : List AV} (hg : g.ev tm = .func (.func f) first captured)
    (h : ∀ o : Option IEx → AObj, (∀ x, (o x).ro = false) →
        (∀ (H' : AH) (args : List AV) (K : AV → AH → Prop), H'.at_ H.next = some (o none) → args.length = ps.length →
          IWP P a (IPost.then (fun t1 H1 => IWP P b (IPost.round o H.next K) t1 H1) IPost.none) (updl tm ps args) (H'.set H.next none) → AYield P H.next args H' K) →
        ACall P f (first ++ .yield H.next :: captured) (H.new (o none)) fun _ H' => ∃ x, H'.at_ H.next = some (o x) ∧ Q (x.getD .normal) tm (H'.set H.next none)) :
    IWP P (.rangeF g ps a b) Q tm H := by
  rw [IWP, hg]
  exact h
def asIface : AV → Option (TypeId × AV)
  | .iface t v => some (t, v)
  | _ => none
@[simp] theorem asIface_iface (t : TypeId) (v : AV) : asIface (.iface t v) = some (t, v) := (rfl)
def CallJ (P : Program) (t : TypeId) (nm : String) (v : AV) (args : List AV) (H : AH) (Q : AV → AH → Prop) (m : MarkQ H Q) : Prop := CallI P t nm v args H Q
theorem CallJ.of {t : TypeId} {nm : String} {v v' : AV} {f : FuncId} {args : List AV} {H : AH} {Q Q' : AV → AH → Prop} {m : MarkQ H Q'} (hm : MethR P t nm v f v') (h : ACall P f (v' :: args) H Q) (hq : ∀ v H', Q v H' → Q' v H') : CallJ P t nm v args H Q' m := ⟨f, v', hm, .inl (h.mono hq)⟩
theorem CallJ.val {t : TypeId} {nm : String} {v v' : AV} {f : FuncId} {args : List AV} {H : AH} {r : AV} {Q' : AV → AH → Prop} {m : MarkQ H Q'} (hm : MethR P t nm v f v') (h : ACall P f (v' :: args) H fun v H' => v = r ∧ H' = H) (hq : Q' r H) : CallJ P t nm v args H Q' m :=
  ⟨f, v', hm, .inl (h.mono fun v H' ⟨e1, e2⟩ => by subst e1; subst e2; exact hq)⟩
theorem CallJ.xval {t : TypeId} {nm : String} {v v' : AV} {f : FuncId} {args : List AV} {H H2 : AH} {r : AV} {Q' : AV → AH → Prop} {m : MarkQ H Q'} (hm : MethR P t nm v f v') (h : XCall P f (v' :: args) H fun v H' => v = r ∧ H' = H2) (hq : Q' r H2) : CallJ P t nm v args H Q' m :=
  ⟨f, v', hm, .inr (h.mono fun v H' ⟨e1, e2⟩ => by subst e1; subst e2; exact hq)⟩
def CallX (P : Program) (f : FuncId) (args : List AV) (H : AH) (Q : AV → AH → Prop) (m : MarkQ H Q) : Prop := XCall P f args H Q
theorem CallX.val {f : FuncId} {args : List AV} {H H2 : AH} {r : AV} {Q' : AV → AH → Prop} {m : MarkQ H Q'} (h : XCall P f args H fun v H' => v = r ∧ H' = H2) (hq : Q' r H2) : CallX P f args H Q' m :=
  h.mono fun v H' ⟨e1, e2⟩ => by subst e1; subst e2; exact hq
@[simp ↓] theorem estep_invoke (ev : IOpd → AV) (H : AH) (K : AV → AH → Prop) (nm : String) (x : IOpd) (args : List IOpd) :
    estep P ev H K (.invoke nm x args) = Try (asIface (ev x)) (fun p => CallJ P p.1 nm p.2 (args.map ev) H K markQ) markF := by
  rw [estep]
  cases ev x <;> rfl
@[simp ↓] theorem estep_xcall (ev : IOpd → AV) (H : AH) (K : AV → AH → Prop) (f : FuncId) (args : List IOpd) :
    estep P ev H K (.xcall f args) = CallX P f (args.map ev) H K markQ := (rfl)
@[simp ↓] theorem estep_never (ev : IOpd → AV) (H : AH) (K : AV → AH → Prop) : estep P ev H K .never = False := (rfl)
@[simp ↓] theorem iwp_never (Q : IPost) (tm : Tms) (H : AH) : IWP P .never Q tm H = False := (rfl)
@[simp ↓] theorem estep_append (ev : IOpd → AV) (H : AH) (K : AV → AH → Prop) (str : Bool) (t : TypeId) (size bytes : Nat) (s x : IOpd) :
    estep P ev H K (.append str t size bytes s x) = Try (appendK H str t size bytes (ev s) (ev x)) (fun r => K r.1 r.2) markF := by
  rw [estep]
  cases appendK H str t size bytes (ev s) (ev x) with
  | none => rfl
  | some r => rfl
@[simp ↓] theorem estep_copy (ev : IOpd → AV) (H : AH) (K : AV → AH → Prop) (size : Nat) (d s : IOpd) :
    estep P ev H K (.copy size d s) = Try (copyA H size (ev d) (ev s)) (fun r => K r.1 r.2) markF := by
  rw [estep]
  cases copyA H size (ev d) (ev s) with
  | none => rfl
  | some r => rfl

@[simp ↓] theorem estep_clear (ev : IOpd → AV) (H : AH) (K : AV → AH → Prop) (size : Nat) (zero : List AV) (x : IOpd) :
    estep P ev H K (.clear size zero x) = Try (clearA H size zero (ev x)) (fun H' => K (.tuple []) H') markF := by
  rw [estep]
  cases clearA H size zero (ev x) <;> rfl
@[simp ↓] theorem estep_mapset (ev : IOpd → AV) (H : AH) (K : AV → AH → Prop) (m key val : IOpd) :
    estep P ev H K (.mapset m key val) = Try (msetA H (ev m) (ev key) (ev val)) (fun H' => K .undef H') markF := by
  rw [estep]
  cases msetA H (ev m) (ev key) (ev val) <;> rfl
def CapW (K : AV → AH → Prop) (H : AH) (v : AV) (m : MarkQ H K) : Prop := CapA H K v
theorem CapW.slice {K : AV → AH → Prop} {H : AH} {b o n e : Nat} {m : MarkQ H K} (h : ∀ k : Nat, n ≤ k → K (.int .i64 (k : Int)) H) : CapW K H (.slice b o n e) m := h
theorem CapW.snil {K : AV → AH → Prop} {H : AH} {m : MarkQ H K} (h : K (.int .i64 0) H) : CapW K H .snil m := h
@[simp ↓] theorem estep_cap (ev : IOpd → AV) (H : AH) (K : AV → AH → Prop) (x : IOpd) : estep P ev H K (.cap x) = CapW K H (ev x) markQ := (rfl)

@[simp ↓] theorem iwp_skip (Q : IPost) (tm : Tms) (H : AH) : IWP P .skip Q tm H = Q .normal tm H := (rfl)
@[simp ↓] theorem iwp_reg (steps : List IStep) (Q : IPost) (tm : Tms) (H : AH) : IWP P (.reg steps) Q tm H = IRun P (Q .normal) steps [] tm H := (rfl)
@[simp ↓] theorem iwp_seq (a b : ICode) (Q : IPost) (tm : Tms) (H : AH) : IWP P (.seq a b) Q tm H = IWP P a (IPost.then (IWP P b Q) Q) tm H := (rfl)
@[simp ↓] theorem iwp_cond (c : IOpd) (a b : ICode) (Q : IPost) (tm : Tms) (H : AH) : IWP P (.cond c a b) Q tm H = Fork3 (isB (c.ev tm)) (IWP P a Q tm H) (IWP P b Q tm H) mark := by
  rw [IWP]
  cases c.ev tm with
  | bool b => cases b <;> rfl
  | _ => rfl
def MarkL (a : ICode) (Q : IPost) : Type := Unit
def markL {a : ICode} {Q : IPost} : MarkL a Q := ()
def LoopW (P : Program) (a : ICode) (Q : IPost) (tm : Tms) (H : AH) (m : MarkL a Q) : Prop := IWP P (.loop a) Q tm H
@[simp ↓] theorem iwp_loopW (a : ICode) (Q : IPost) (tm : Tms) (H : AH) : IWP P (.loop a) Q tm H = LoopW P a Q tm H markL := (rfl)
@[simp ↓] theorem iwp_block (id : Nat) (a : ICode) (Q : IPost) (tm : Tms) (H : AH) : IWP P (.block id a) Q tm H = IWP P a (IPost.inBlock id Q) tm H := (rfl)
@[simp ↓] theorem iwp_exit (id : Nat) (Q : IPost) (tm : Tms) (H : AH) : IWP P (.exit id) Q tm H = Q (.exit id) tm H := (rfl)
@[simp ↓] theorem iwp_ret (Q : IPost) (tm : Tms) (H : AH) : IWP P .ret Q tm H = Q .ret tm H := (rfl)
@[simp ↓] theorem then_normal (next : Tms → AH → Prop) (Q : IPost) (tm : Tms) (H : AH) : IPost.then next Q .normal tm H = next tm H := (rfl)
@[simp ↓] theorem then_exit (next : Tms → AH → Prop) (Q : IPost) (k : Nat) (tm : Tms) (H : AH) : IPost.then next Q (.exit k) tm H = Q (.exit k) tm H := (rfl)
@[simp ↓] theorem then_ret (next : Tms → AH → Prop) (Q : IPost) (tm : Tms) (H : AH) : IPost.then next Q .ret tm H = Q .ret tm H := (rfl)
@[simp ↓] theorem inBlock_normal (id : Nat) (Q : IPost) (tm : Tms) (H : AH) : IPost.inBlock id Q .normal tm H = Q .normal tm H := (rfl)
@[simp ↓] theorem inBlock_exit (id : Nat) (Q : IPost) (k : Nat) (tm : Tms) (H : AH) : IPost.inBlock id Q (.exit k) tm H = if k = id then Q .normal tm H else Q (.exit k) tm H := (rfl)
@[simp ↓] theorem inBlock_ret (id : Nat) (Q : IPost) (tm : Tms) (H : AH) : IPost.inBlock id Q .ret tm H = Q .ret tm H := (rfl)
@[simp ↓] theorem fnPost_normal (rs : List RV) (Q : AV → AH → Prop) (tm : Tms) (H : AH) : fnPost rs Q .normal tm H = Try (resA tm H rs) (Q · H) markF := by
  rw [fnPost]; cases resA tm H rs <;> simp [Try]
@[simp ↓] theorem fnPost_ret (rs : List RV) (Q : AV → AH → Prop) (tm : Tms) (H : AH) : fnPost rs Q .ret tm H = Try (resA tm H rs) (Q · H) markF := by
  rw [fnPost]; cases resA tm H rs <;> simp [Try]
theorem iwp_loop {a : ICode} {Q : IPost} {tm : Tms} {H : AH} (I : Nat → Tms → AH → Prop) (n : Nat) (h0 : I n tm H) (h : ∀ n tm H, I n tm H → IWP P a (IPost.then (fun tm' H' => ∃ m, m < n ∧ I m tm' H') Q) tm H) {m : MarkL a Q} : LoopW P a Q tm H m :=
  ⟨I, ⟨n, h0⟩, h⟩

attribute [simp] nop abin aun ibin ishift sbin aeq1 aeqs loadC fillA setRange optI storeC resA resL tupA tasA part bounds zeros lenA intEq mmA mmA1 mx2 mn2
@[simp] theorem isB_ite (c : Prop) [Decidable c] (a b : AV) : isB (if c then a else b) = if c then isB a else isB b := by split <;> rfl
@[simp] theorem tm0_ap (args : List AV) (t : Nat) : tm0 args t = args.getD t .undef := (rfl)
@[simp] theorem stays_iff (tm : Tms) (H : AH) (d : Nat) (g : Guard) (o : NOp) : stays tm H (d, g, o) = (wantedA tm g = some false ∨ nop (·.ev tm) H 0 o = some (tm d, none)) := (rfl)

attribute [simp] AH.new_next AH.set_next AH.new_at AH.set_at
@[simp] theorem cells_agg (l : List AV) : (AV.agg l).cells = l := (rfl)
@[simp] theorem cells_bool (b : Bool) : (AV.bool b).cells = [.bool b] := (rfl)
@[simp] theorem cells_int (k : IntKind) (n : Int) : (AV.int k n).cells = [.int k n] := (rfl)
@[simp] theorem cells_str (l : List UInt8) : (AV.str l).cells = [.str l] := (rfl)
@[simp] theorem cells_pnil : AV.pnil.cells = [.pnil] := (rfl)
@[simp] theorem cells_ptr (b o : Nat) : (AV.ptr b o).cells = [.ptr b o] := (rfl)
@[simp] theorem cells_slice (b o n e : Nat) : (AV.slice b o n e).cells = [.slice b o n e] := (rfl)
@[simp] theorem cells_snil : AV.snil.cells = [.snil] := (rfl)
@[simp] theorem cells_sempty : AV.sempty.cells = [.sempty] := (rfl)
@[simp] theorem cells_hdl (g t : Nat) : (AV.hdl g t).cells = [.hdl g t] := (rfl)
@[simp] theorem cells_szero : AV.szero.cells = [.szero] := (rfl)
@[simp] theorem cells_map (b : Nat) : (AV.map b).cells = [.map b] := (rfl)
@[simp] theorem cells_mnil : AV.mnil.cells = [.mnil] := (rfl)
@[simp] theorem cells_func (f : Fn) (a c : List AV) : (AV.func f a c).cells = [.func f a c] := (rfl)
@[simp] theorem cells_nilFunc : AV.nilFunc.cells = [.nilFunc] := (rfl)
@[simp] theorem cells_iface (t : TypeId) (v : AV) : (AV.iface t v).cells = [.iface t v] := (rfl)
@[simp] theorem cells_nilIface : AV.nilIface.cells = [.nilIface] := (rfl)
@[simp] theorem one_agg (l : List AV) : (AV.agg l).one = false := (rfl)
@[simp] theorem one_bool (b : Bool) : (AV.bool b).one = true := (rfl)
@[simp] theorem one_int (k : IntKind) (n : Int) : (AV.int k n).one = true := (rfl)
@[simp] theorem one_str (l : List UInt8) : (AV.str l).one = true := (rfl)
@[simp] theorem one_pnil : AV.pnil.one = true := (rfl)
@[simp] theorem one_ptr (b o : Nat) : (AV.ptr b o).one = true := (rfl)
@[simp] theorem one_slice (b o n e : Nat) : (AV.slice b o n e).one = true := (rfl)
@[simp] theorem one_snil : AV.snil.one = true := (rfl)
@[simp] theorem one_sempty : AV.sempty.one = true := (rfl)
@[simp] theorem one_hdl (g t : Nat) : (AV.hdl g t).one = true := (rfl)
@[simp] theorem one_szero : AV.szero.one = true := (rfl)
@[simp] theorem one_map (b : Nat) : (AV.map b).one = true := (rfl)
@[simp] theorem one_mnil : AV.mnil.one = true := (rfl)
@[simp] theorem one_func (f : Fn) (a c : List AV) : (AV.func f a c).one = true := (rfl)
@[simp] theorem one_nilFunc : AV.nilFunc.one = true := (rfl)
@[simp] theorem one_iface (t : TypeId) (v : AV) : (AV.iface t v).one = true := (rfl)
@[simp] theorem one_nilIface : AV.nilIface.one = true := (rfl)
@[simp] theorem plain_bool (b : Bool) : Plain (.bool b) = True := eq_true (.bool b)
@[simp] theorem plain_int (k : IntKind) (n : Int) : Plain (.int k n) = True := eq_true (.int k n)
@[simp] theorem plain_str (l : List UInt8) : Plain (.str l) = True := eq_true (.str l)
@[simp] theorem plain_pnil : Plain .pnil = True := eq_true .pnil
@[simp] theorem plain_snil : Plain .snil = True := eq_true .snil
@[simp] theorem plain_mnil : Plain .mnil = True := eq_true .mnil
@[simp] theorem plain_nilFunc : Plain .nilFunc = True := eq_true .nilFunc
@[simp] theorem plain_nilIface : Plain .nilIface = True := eq_true .nilIface
@[simp] theorem plain_iface (t : TypeId) (v : AV) : Plain (.iface t v) = Plain v := propext ⟨fun h => by cases h; assumption, .iface⟩
@[simp] theorem plain_agg (l : List AV) : Plain (.agg l) = ∀ a ∈ l, Plain a := propext ⟨fun h => by cases h; assumption, .agg⟩
@[simp] theorem plain_tuple (l : List AV) : Plain (.tuple l) = ∀ a ∈ l, Plain a := propext ⟨fun h => by cases h; assumption, .tuple⟩

theorem keeps_new {H H' : AH} {o : AObj} (hok : H.ok) (h : H.keepsAll H') (hn : H.next ≤ H'.next) : H.keepsAll (H'.new o) := AH.keepsAll_new h fun b q hb => Nat.lt_of_lt_of_le (hok b q hb) hn
theorem keeps_set {H H' : AH} {o : Option AObj} {b : Nat} (hok : H.ok) (h : H.keepsAll H') (hn : H.next ≤ b) : H.keepsAll (H'.set b o) := fun c q hc => by
  have := hok c q hc
  rw [AH.set_ne H' o (by omega)]; exact h c q hc
theorem keeps_bump {H H' : AH} (h : H.keepsAll H') : H.keepsAll H'.bump := h
theorem AH.ok_new {H : AH} {o : AObj} (h : H.ok) : (H.new o).ok := fun b q hb => by
  rw [AH.new_at] at hb
  rw [AH.new_next]
  split at hb
  · omega
  · have := h b q hb; omega
theorem bodyP_of {f : FuncId} {fn : Func} {ic : ICode} {rs : List RV} (hf : Fits P f fn ic rs) : bodyP P f = true := by
  obtain ⟨c, hb, hc⟩ := Option.bind_eq_some_iff.1 hf.body
  simp only [bodyP, hf.func, hb, hf.name]; rfl
/-- A function that answers a plain value and keeps what is there. -/
theorem acall_enter {f : FuncId} {fn : Func} {ic : ICode} {rs : List RV} (hf : Fits P f fn ic rs) {args : List AV} {H : AH} {r : AV} (hn : args.length ≤ fn.ntmps) (hp : Plain r)
    (h : H.ok → IWP P ic (fnPost rs fun v H' => v = r ∧ H.keepsAll H') (tm0 args) H) : ACall P f args H fun v H' => v = r ∧ H' = H :=
  acall_val hp (acall_ok (bodyP_of hf) fun hok => acall_of hf hn (h hok))
/-- A library function's contract. -/
theorem acall_lib {f : FuncId} {args : List AV} {H : AH} {r : AV} (hb : bodyP P f = true)
    (h : ∀ (j : Inj) (w : World) (cargs : List Value), Rel P j H w → VRs j args cargs → ∃ rc, VR j r rc ∧ Calls P f cargs.toArray w fun e w' => e = .returned rc ∧ Below w.heap.size w w') :
    ACall P f args H fun v H' => v = r ∧ H' = H :=
  ⟨hb, fun j w cargs hr hv => by
    obtain ⟨rc, hrc, hc⟩ := h j w cargs.toList hr hv
    exact hc.mono fun e w' ⟨he, hbel⟩ => ⟨r, rc, j, H, he, ⟨rfl, rfl⟩, Post.below hr hbel, hrc⟩⟩
theorem VRs.str1 {j : Inj} {l : List UInt8} {as : List AV} {cs : List Value} (h : VRs j (.str l :: as) cs) : ∃ cs', cs = .string ⟨l.toArray⟩ :: cs' ∧ VRs j as cs' := by
  obtain ⟨b, r', rfl, hv, hs⟩ := h.cons_left
  obtain ⟨s, rfl, e⟩ := hv.str_inv
  exact ⟨r', by rw [show s = ⟨l.toArray⟩ from by cases s with | mk d => simp at e; rw [← e]], hs⟩
theorem VRs.int1 {j : Inj} {k : IntKind} {n : Int} {as : List AV} {cs : List Value} (h : VRs j (.int k n :: as) cs) : ∃ cs', cs = .int k n :: cs' ∧ VRs j as cs' := by
  obtain ⟨b, r', rfl, hv, hs⟩ := h.cons_left
  cases hv
  exact ⟨r', rfl, hs⟩
theorem VR.str' {j : Inj} (l : List UInt8) : VR j (.str l) (.string ⟨l.toArray⟩) := .str ⟨l.toArray⟩
theorem wr64 {n : Int} (h1 : -9223372036854775808 ≤ n) (h2 : n ≤ 9223372036854775807) : IntKind.i64.wrap n = n := by rw [IntKind.wrap_i64]; omega
theorem wrU8 {n : Int} (h1 : 0 ≤ n) (h2 : n ≤ 255) : IntKind.u8.wrap n = n := by
  show n % 2 ^ 8 = n
  omega
theorem wrU64 {n : Int} (h1 : 0 ≤ n) (h2 : n ≤ 18446744073709551615) : IntKind.u64.wrap n = n := by
  show n % 2 ^ 64 = n
  omega
@[simp] theorem wr64_zero : IntKind.i64.wrap 0 = 0 := by decide
end Go.Proofs.YtcgkadfgojmmlaaDoor.Abs

/- What a new block, a written block, a moved block do to the heap. No condition. -/
import Derived.Test.YtllkdoefonehoaaGreatDoorA11
set_option linter.unusedVariables false
set_option linter.unusedSimpArgs false
namespace Go.Proofs.YtllkdoefonehoaaGreatDoor.Abs
open Go Go.RowKit

def Inj.add (j : Inj) (a : Nat) (c : Nat × Nat) : Inj := fun k => if k = a then some c else j k
theorem Inj.add_same (j : Inj) (a : Nat) (c : Nat × Nat) : j.add a c a = some c := if_pos rfl
theorem Inj.add_ne (j : Inj) {a k : Nat} (c : Nat × Nat) (h : k ≠ a) : j.add a c k = j k := if_neg h
theorem Inj.le_add {j : Inj} {a : Nat} {c : Nat × Nat} (h : j a = none) : j.le (j.add a c) := by
  intro k d hk
  have : k ≠ a := fun e => by rw [e, h] at hk; cases hk
  rw [Inj.add_ne j c this]; exact hk

section
variable {P : Program} {j : Inj} {H : AH} {w w' : World}
theorem Rel.fresh (hr : Rel P j H w) {a : Nat} (h : H.next ≤ a) : j a = none := by
  cases hj : j a with
  | none => rfl
  | some c => have := (hr.dom a c.1 c.2 hj).1; omega

/-- A new block at a number of one's own. -/
theorem Post.add (hr : Rel P j H w) {id n : Nat} {o : AObj} {x : Obj} (hid : j id = none) (hn : H.next ≤ n) (hlt : id < n) (hh : w'.heap = w.heap.push x) (h1 : w'.os = w.os) (h2 : w'.tape = w.tape) (h3 : w'.output = w.output) (ho : ORel j o x) :
    PostW P j H w (j.add id (w.heap.size, csize x)) ⟨n, fun k => if k = id then some o else H.at_ k⟩ w' := by
  have hle : j.le (j.add id (w.heap.size, csize x)) := Inj.le_add hid
  have hsz : w'.heap.size = w.heap.size + 1 := by rw [hh]; simp
  have hold : ∀ c, c < w.heap.size → w'.heap[c]? = w.heap[c]? := fun c hc => by rw [hh, Array.getElem?_push, if_neg (by omega)]
  have hdead : H.at_ id = none := by
    cases ha : H.at_ id with
    | none => rfl
    | some q => obtain ⟨c, y, hc, _⟩ := hr.obj id q ha; rw [hid] at hc; cases hc
  refine ⟨hle, ⟨?_, ?_, ?_, ?_⟩, ⟨h1, h2, h3, by omega, fun c hc _ => hold c hc⟩, hn, ?_⟩
  · intro a c z ha
    by_cases e : a = id
    · subst e
      rw [Inj.add_same] at ha
      cases ha
      exact ⟨hlt, by omega⟩
    · rw [Inj.add_ne j _ e] at ha
      have := hr.dom a c z ha
      exact ⟨show a < n by omega, by omega⟩
  · intro a b c y z ha hb la lb
    by_cases ea : a = id
    · subst ea
      rw [Inj.add_same] at ha
      cases ha
      by_cases eb : b = a
      · exact eb.symm
      · rw [Inj.add_ne j _ eb] at hb
        have := (hr.dom b _ z hb).2
        omega
    · rw [Inj.add_ne j _ ea] at ha
      by_cases eb : b = id
      · subst eb
        rw [Inj.add_same] at hb
        cases hb
        have := (hr.dom a _ y ha).2
        omega
      · rw [Inj.add_ne j _ eb] at hb
        refine hr.inj a b c y z ha hb ?_ ?_
        · simpa [AH.live, ea] using la
        · simpa [AH.live, eb] using lb
  · intro a q ha
    simp only at ha
    split at ha
    · rename_i e
      subst e
      cases ha
      refine ⟨w.heap.size, x, Inj.add_same _ _ _, ?_, ho.mono hle⟩
      rw [hh, Array.getElem?_push_size]
    · rename_i e
      obtain ⟨c, y, hc, hy, hq⟩ := hr.obj a q ha
      exact ⟨c, y, by rw [Inj.add_ne j _ e]; exact hc, by rw [hold c (hr.dom a c _ hc).2]; exact hy, hq.mono hle⟩
  · intro g hg
    exact hle _ _ (hr.glob g hg)
  · intro a c z ha hl hc
    by_cases e : a = id
    · subst e
      rw [Inj.add_same] at ha
      cases ha
      omega
    · rw [Inj.add_ne j _ e] at ha
      refine ⟨a, z, by simpa [AH.live, e] using hl, ha, fun hw => ?_⟩
      obtain ⟨o', ho', hro⟩ := hw
      simp only [if_neg e] at ho'
      exact ⟨o', ho', hro⟩
theorem Post.new (hr : Rel P j H w) {o : AObj} {x : Obj} (hh : w'.heap = w.heap.push x) (h1 : w'.os = w.os) (h2 : w'.tape = w.tape) (h3 : w'.output = w.output) (ho : ORel j o x) :
    Post P j H w (j.add H.next (w.heap.size, csize x)) (H.new o) w' :=
  ⟨Post.add hr (hr.fresh (Nat.le_refl _)) (Nat.le_succ _) (Nat.lt_succ_self _) hh h1 h2 h3 ho, fun a ha => Inj.add_ne j _ (by omega)⟩

theorem get_set (h : Array Obj) (c k : Nat) (x : Obj) (hc : c < h.size) : (h.setIfInBounds c x)[k]? = if k = c then some x else h[k]? := by
  by_cases e : k = c
  · subst e; rw [if_pos rfl, Array.getElem?_setIfInBounds_self_of_lt hc]
  · rw [if_neg e, Array.getElem?_setIfInBounds_ne (Ne.symm e)]
/-- A block is written: it stands for another one. -/
theorem Post.update (hr : Rel P j H w) {b c z : Nat} {o o' : AObj} {x x' : Obj} (hb : H.at_ b = some o) (hro : o.ro = false) (hc : j b = some (c, z)) (hx : w.heap[c]? = some x) (ho : ORel j o' x') (hs : csize x' = csize x) :
    Post P j H w j (H.set b (some o')) { w with heap := w.heap.setIfInBounds c x' } := by
  have hlt : c < w.heap.size := (hr.dom b c z hc).2
  have hget := fun k => get_set w.heap c k x' hlt
  have hlive : ∀ a, (H.set b (some o')).live a → H.live a := by
    intro a ha
    by_cases e : a = b
    · subst e; exact AH.live_of hb
    · simpa [AH.live, AH.set_ne H _ e] using ha
  refine ⟨⟨Inj.le_refl j, ⟨fun a k y ha => ⟨(hr.dom a k y ha).1, by simpa using (hr.dom a k y ha).2⟩, fun a d k y y' ha hd la ld => hr.inj a d k y y' ha hd (hlive a la) (hlive d ld), ?_, hr.glob⟩,
    ⟨rfl, rfl, rfl, by simp, fun k hk hn => ?_⟩, Nat.le_refl _, fun a k y ha hl hk => ⟨a, y, hlive a hl, ha, fun hw => ?_⟩⟩, fun _ _ => rfl⟩
  · intro a q ha
    by_cases e : a = b
    · subst e
      rw [AH.set_same] at ha
      cases ha
      obtain ⟨c2, x2, hc2, hx2, _⟩ := hr.obj a o hb
      rw [hc] at hc2
      cases hc2
      rw [hx] at hx2
      cases hx2
      exact ⟨c, x', by rw [hs]; exact hc, by show (w.heap.setIfInBounds c x')[c]? = _; rw [hget, if_pos rfl], ho⟩
    · rw [AH.set_ne H _ e] at ha
      obtain ⟨c2, y, hc2, hy, hq⟩ := hr.obj a q ha
      have hne : c2 ≠ c := fun he => by subst he; exact e (hr.inj a b _ _ _ hc2 hc (AH.live_of ha) (AH.live_of hb))
      exact ⟨c2, y, hc2, by show (w.heap.setIfInBounds c x')[c2]? = _; rw [hget, if_neg hne]; exact hy, hq⟩
  · show (w.heap.setIfInBounds c x')[k]? = _
    rw [hget, if_neg (fun he => by subst he; exact hn b z ⟨o, hb, hro⟩ hc)]
  · by_cases e : a = b
    · subst e; exact ⟨o, hb, hro⟩
    · obtain ⟨q, hq, hr'⟩ := hw
      rw [AH.set_ne H _ e] at hq
      exact ⟨q, hq, hr'⟩
/-- A block is written and goes on under another number. -/
theorem Post.move (hr : Rel P j H w) {b c z : Nat} {o o' : AObj} {x x' : Obj} (hb : H.at_ b = some o) (hro : o.ro = false) (hc : j b = some (c, z)) (hx : w.heap[c]? = some x) (ho : ORel j o' x') (hs : csize x' = csize x) :
    Post P j H w (j.add H.next (c, z)) ((H.set b none).new o') { w with heap := w.heap.setIfInBounds c x' } := by
  have hlt : c < w.heap.size := (hr.dom b c z hc).2
  have hget := fun k => get_set w.heap c k x' hlt
  have hfr := hr.fresh (Nat.le_refl H.next)
  have hle : j.le (j.add H.next (c, z)) := Inj.le_add hfr
  have hbn : b ≠ H.next := by have := (hr.dom b c z hc).1; omega
  have hz : z = csize x := by
    obtain ⟨c2, x2, hc2, hx2, _⟩ := hr.obj b o hb
    rw [hc] at hc2
    cases hc2
    rw [hx] at hx2
    cases hx2
    rfl
  have hat : ∀ a, a ≠ H.next → a ≠ b → ((H.set b none).new o').at_ a = H.at_ a := fun a h1 h2 => by
    rw [AH.new_ne _ _ (by rw [AH.set_next]; exact h1), AH.set_ne H _ h2]
  have hatb : ((H.set b none).new o').at_ b = none := by rw [AH.new_ne _ _ (by rw [AH.set_next]; exact hbn), AH.set_same]
  have hatn : ((H.set b none).new o').at_ H.next = some o' := by have := AH.new_same (H.set b none) o'; rwa [AH.set_next] at this
  have hlive : ∀ a, a ≠ H.next → ((H.set b none).new o').live a → a ≠ b ∧ H.live a := by
    intro a h1 ha
    by_cases e : a = b
    · subst e; rw [AH.live, hatb] at ha; cases ha
    · exact ⟨e, by rw [AH.live, hat a h1 e] at ha; exact ha⟩
  refine ⟨⟨hle, ⟨?_, ?_, ?_, ?_⟩, ⟨rfl, rfl, rfl, by simp, ?_⟩, Nat.le_succ _, ?_⟩, fun a ha => Inj.add_ne j _ (by omega)⟩
  · intro a k y ha
    by_cases e : a = H.next
    · subst e
      rw [Inj.add_same] at ha
      cases ha
      exact ⟨Nat.lt_succ_self _, by simpa using hlt⟩
    · rw [Inj.add_ne j _ e] at ha
      have := hr.dom a k y ha
      exact ⟨Nat.lt_succ_of_lt this.1, by simpa using this.2⟩
  · intro a d k y y' ha hd la ld
    by_cases ea : a = H.next
    · subst ea
      rw [Inj.add_same] at ha
      cases ha
      by_cases ed : d = H.next
      · exact ed.symm
      · rw [Inj.add_ne j _ ed] at hd
        obtain ⟨h1, h2⟩ := hlive d ed ld
        exact absurd (hr.inj d b _ _ _ hd hc h2 (AH.live_of hb)) h1
    · rw [Inj.add_ne j _ ea] at ha
      obtain ⟨h1, h2⟩ := hlive a ea la
      by_cases ed : d = H.next
      · subst ed
        rw [Inj.add_same] at hd
        cases hd
        exact absurd (hr.inj a b _ _ _ ha hc h2 (AH.live_of hb)) h1
      · rw [Inj.add_ne j _ ed] at hd
        exact hr.inj a d k y y' ha hd h2 (hlive d ed ld).2
  · intro a q ha
    by_cases e : a = H.next
    · subst e
      rw [hatn] at ha
      cases ha
      exact ⟨c, x', by rw [Inj.add_same, hs, hz], by show (w.heap.setIfInBounds c x')[c]? = _; rw [hget, if_pos rfl], ho.mono hle⟩
    · by_cases e2 : a = b
      · subst e2; rw [hatb] at ha; cases ha
      · rw [hat a e e2] at ha
        obtain ⟨c2, y, hc2, hy, hq⟩ := hr.obj a q ha
        have hne : c2 ≠ c := fun he => by subst he; exact e2 (hr.inj a b _ _ _ hc2 hc (AH.live_of ha) (AH.live_of hb))
        exact ⟨c2, y, by rw [Inj.add_ne j _ e]; exact hc2, by show (w.heap.setIfInBounds c x')[c2]? = _; rw [hget, if_neg hne]; exact hy, hq.mono hle⟩
  · intro g hg
    exact hle _ _ (hr.glob g hg)
  · intro k hk hn
    show (w.heap.setIfInBounds c x')[k]? = _
    rw [hget, if_neg (fun he => by subst he; exact hn b z ⟨o, hb, hro⟩ hc)]
  · intro a k y ha hl hk
    by_cases e : a = H.next
    · subst e
      rw [Inj.add_same] at ha
      cases ha
      exact ⟨b, z, AH.live_of hb, hc, fun _ => ⟨o, hb, hro⟩⟩
    · rw [Inj.add_ne j _ e] at ha
      obtain ⟨h1, h2⟩ := hlive a e hl
      refine ⟨a, y, h2, ha, fun hw => ?_⟩
      obtain ⟨q, hq, hr'⟩ := hw
      rw [hat a e h1] at hq
      exact ⟨q, hq, hr'⟩
/-- A block is forgotten. -/
theorem Post.kill (hr : Rel P j H w) (b : Nat) : Post P j H w j (H.set b none) w := by
  refine ⟨⟨Inj.le_refl j, hr.forget (Nat.le_refl _) (fun a o ha => ?_), .refl j H w, Nat.le_refl _, fun a c z ha hl hc => ?_⟩, fun _ _ => rfl⟩
  · by_cases e : a = b
    · subst e; rw [AH.set_same] at ha; cases ha
    · rwa [AH.set_ne H _ e] at ha
  · by_cases e : a = b
    · subst e; rw [AH.live, AH.set_same] at hl; cases hl
    · refine ⟨a, z, by rwa [AH.live, AH.set_ne H _ e] at hl, ha, fun hw => ?_⟩
      obtain ⟨q, hq, hr'⟩ := hw
      rw [AH.set_ne H _ e] at hq
      exact ⟨q, hq, hr'⟩

/-! ### Cells written -/
theorem run_storeCells_set {c o : Nat} {t : TypeId} {fz : Nat × Nat} : ∀ (vs : List Value) (i : Nat) (x : Array Value) (w : World), w.heap[c]? = some (.cells x t fz) → o + i + vs.length ≤ x.size →
    (fz.2 ≤ fz.1 ∨ x.size ≤ fz.1) → (vs.all (·.oneCell')) = true →
    ∃ x', (storeCells ⟨c, o, none⟩ vs i).run P w = .ok () { w with heap := w.heap.setIfInBounds c (.cells x' t fz) } ∧ x'.toList = setRangeV x.toList (o + i) vs ∧ x'.size = x.size
  | [], i, x, w, hx, _, _, _ => by
    refine ⟨x, ?_, rfl, rfl⟩
    have hlt : c < w.heap.size := (Array.getElem?_eq_some_iff.1 hx).1
    have e : w.heap.setIfInBounds c (.cells x t fz) = w.heap := by
      apply Array.ext_getElem?
      intro k
      rw [get_set w.heap c k _ hlt]
      split
      · rename_i h; subst h; exact hx.symm
      · rfl
    rw [e]
    rfl
  | v :: vs, i, x, w, hx, hl, hf, h1 => by
    have hlt : c < w.heap.size := (Array.getElem?_eq_some_iff.1 hx).1
    simp only [List.all_cons, Bool.and_eq_true] at h1
    simp only [List.length_cons] at hl
    have hcell : w.cell? ⟨c, o + i, none⟩ = some x[o + i] := by rw [cell_of hx]; exact Array.getElem?_eq_getElem _
    have hfr : w.frozen? ⟨c, o + i, none⟩ = false := by
      simp only [World.frozen?, hx]
      rw [Bool.and_eq_false_iff]
      rcases hf with hf | hf
      · by_cases h : fz.1 ≤ o + i
        · right; simp; omega
        · left; simpa using h
      · left; simp; omega
    have hset : w.setCell ⟨c, o + i, none⟩ v = { w with heap := w.heap.setIfInBounds c (.cells (x.setIfInBounds (o + i) v) t fz) } := by
      simp only [World.setCell]
      congr 1
      apply Array.ext_getElem?
      intro k
      rw [get_set w.heap c k _ hlt, Array.getElem?_modify]
      by_cases e : c = k
      · subst e; rw [if_pos rfl, if_pos rfl, hx]; rfl
      · rw [if_neg e, if_neg (Ne.symm e)]
    have hrun : (store ((⟨c, o, none⟩ : Addr).add i) v).run P w = .ok () (w.setCell ⟨c, o + i, none⟩ v) := by
      rw [add_none, run_store P w _ v .plain h1.1, hcell, hfr]
      rfl
    obtain ⟨x', hr', hx', hs'⟩ := run_storeCells_set (c := c) (o := o) (t := t) (fz := fz) vs (i + 1) (x.setIfInBounds (o + i) v) (w.setCell ⟨c, o + i, none⟩ v) (by rw [hset]; show (w.heap.setIfInBounds c _)[c]? = _; rw [get_set _ _ _ _ hlt, if_pos rfl]) (by simp; omega) (by simpa using hf) h1.2
    refine ⟨x', ?_, ?_, by simpa using hs'⟩
    · rw [storeCells]
      simp only [Sem.run_bind, hrun, Result.andThen_ok]
      rw [hr', hset]
      have e : (w.heap.setIfInBounds c (.cells (x.setIfInBounds (o + i) v) t fz)).setIfInBounds c (.cells x' t fz) = w.heap.setIfInBounds c (.cells x' t fz) := by
        apply Array.ext_getElem?
        intro k
        have hlt2 : c < (w.heap.setIfInBounds c (.cells (x.setIfInBounds (o + i) v) t fz)).size := by simpa using hlt
        rw [get_set _ _ _ _ hlt2, get_set _ _ _ _ hlt, get_set _ _ _ _ hlt]
        split <;> rfl
      simp only [e]
    · rw [hx', setRangeV]
      simp [Nat.add_assoc]
end
end Go.Proofs.YtllkdoefonehoaaGreatDoor.Abs

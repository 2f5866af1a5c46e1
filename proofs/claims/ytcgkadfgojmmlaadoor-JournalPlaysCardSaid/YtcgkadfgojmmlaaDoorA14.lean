/- What a new block, a written block, a moved block do to the heap; rows. No condition. -/
import Derived.Test.YtcgkadfgojmmlaaDoorA11
import Derived.Laws.Append
set_option linter.unusedVariables false
set_option linter.unusedSimpArgs false
namespace Go.Proofs.YtcgkadfgojmmlaaDoor.Abs
open Go Go.RowKit

def Inj.add (j : Inj) (a : Nat) (c : Nat × Nat) : Inj := fun k => if k = a then some c else j k
theorem Inj.add_same (j : Inj) (a : Nat) (c : Nat × Nat) : j.add a c a = some c := if_pos rfl
theorem Inj.add_ne (j : Inj) {a k : Nat} (c : Nat × Nat) (h : k ≠ a) : j.add a c k = j k := if_neg h
theorem Inj.le_add {j : Inj} {a : Nat} {c : Nat × Nat} (h : j a = none) : j.le (j.add a c) := by
  intro k d hk
  have : k ≠ a := fun e => by rw [e, h] at hk; cases hk
  rw [Inj.add_ne j c this]; exact hk

section
variable {P : Program} {j : Inj} {H : AH} {w w' : World}
theorem Rel.fresh (hr : Rel P j H w) {a : Nat} (h : H.next ≤ a) : j a = none := by
  cases hj : j a with
  | none => rfl
  | some c => have := (hr.dom a c.1 c.2 hj).1; omega

/-- A new block at a number of one's own. -/
theorem Post.add (hr : Rel P j H w) {id n : Nat} {o : AObj} {x : Obj} (hid : j id = none) (hn : H.next ≤ n) (hlt : id < n) (hh : w'.heap = w.heap.push x) (h1 : w'.os = w.os) (h2 : w'.tape = w.tape) (h3 : w'.output = w.output) (ho : ORel j o x) :
    PostW P j H w (j.add id (w.heap.size, csize x)) ⟨n, fun k => if k = id then some o else H.at_ k⟩ w' := by
  have hle : j.le (j.add id (w.heap.size, csize x)) := Inj.le_add hid
  have hsz : w'.heap.size = w.heap.size + 1 := by rw [hh]; simp
  have hold : ∀ c, c < w.heap.size → w'.heap[c]? = w.heap[c]? := fun c hc => by rw [hh, Array.getElem?_push, if_neg (by omega)]
  have hdead : H.at_ id = none := by
    cases ha : H.at_ id with
    | none => rfl
    | some q => obtain ⟨c, y, hc, _⟩ := hr.obj id q ha; rw [hid] at hc; cases hc
  refine ⟨hle, ⟨?_, ?_, ?_, ?_⟩, ⟨h1, h2, h3, by omega, fun c hc _ => hold c hc⟩, hn, ?_⟩
  · intro a c z ha
    by_cases e : a = id
    · subst e
      rw [Inj.add_same] at ha
      cases ha
      exact ⟨hlt, by omega⟩
    · rw [Inj.add_ne j _ e] at ha
      have := hr.dom a c z ha
      exact ⟨show a < n by omega, by omega⟩
  · intro a b c y z ha hb la lb
    by_cases ea : a = id
    · subst ea
      rw [Inj.add_same] at ha
      cases ha
      by_cases eb : b = a
      · exact eb.symm
      · rw [Inj.add_ne j _ eb] at hb
        have := (hr.dom b _ z hb).2
        omega
    · rw [Inj.add_ne j _ ea] at ha
      by_cases eb : b = id
      · subst eb
        rw [Inj.add_same] at hb
        cases hb
        have := (hr.dom a _ y ha).2
        omega
      · rw [Inj.add_ne j _ eb] at hb
        refine hr.inj a b c y z ha hb ?_ ?_
        · simpa [AH.live, ea] using la
        · simpa [AH.live, eb] using lb
  · intro a q ha
    simp only at ha
    split at ha
    · rename_i e
      subst e
      cases ha
      refine ⟨w.heap.size, x, Inj.add_same _ _ _, ?_, ho.mono hle⟩
      rw [hh, Array.getElem?_push_size]
    · rename_i e
      obtain ⟨c, y, hc, hy, hq⟩ := hr.obj a q ha
      exact ⟨c, y, by rw [Inj.add_ne j _ e]; exact hc, by rw [hold c (hr.dom a c _ hc).2]; exact hy, hq.mono hle⟩
  · intro g hg
    exact hle _ _ (hr.glob g hg)
  · intro a c z ha hl hc
    by_cases e : a = id
    · subst e
      rw [Inj.add_same] at ha
      cases ha
      omega
    · rw [Inj.add_ne j _ e] at ha
      refine ⟨a, z, by simpa [AH.live, e] using hl, ha, fun hw => ?_⟩
      obtain ⟨o', ho', hro⟩ := hw
      simp only [if_neg e] at ho'
      exact ⟨o', ho', hro⟩
theorem Post.new (hr : Rel P j H w) {o : AObj} {x : Obj} (hh : w'.heap = w.heap.push x) (h1 : w'.os = w.os) (h2 : w'.tape = w.tape) (h3 : w'.output = w.output) (ho : ORel j o x) :
    Post P j H w (j.add H.next (w.heap.size, csize x)) (H.new o) w' :=
  ⟨Post.add hr (hr.fresh (Nat.le_refl _)) (Nat.le_succ _) (Nat.lt_succ_self _) hh h1 h2 h3 ho, fun a ha => Inj.add_ne j _ (by omega)⟩

theorem get_set (h : Array Obj) (c k : Nat) (x : Obj) (hc : c < h.size) : (h.setIfInBounds c x)[k]? = if k = c then some x else h[k]? := by
  by_cases e : k = c
  · subst e; rw [if_pos rfl, Array.getElem?_setIfInBounds_self_of_lt hc]
  · rw [if_neg e, Array.getElem?_setIfInBounds_ne (Ne.symm e)]
/-- A block is written: it stands for another one. -/
theorem Post.update (hr : Rel P j H w) {b c z : Nat} {o o' : AObj} {x x' : Obj} (hb : H.at_ b = some o) (hro : o.ro = false) (hc : j b = some (c, z)) (hx : w.heap[c]? = some x) (ho : ORel j o' x') (hs : csize x' = csize x) :
    Post P j H w j (H.set b (some o')) { w with heap := w.heap.setIfInBounds c x' } := by
  have hlt : c < w.heap.size := (hr.dom b c z hc).2
  have hget := fun k => get_set w.heap c k x' hlt
  have hlive : ∀ a, (H.set b (some o')).live a → H.live a := by
    intro a ha
    by_cases e : a = b
    · subst e; exact AH.live_of hb
    · simpa [AH.live, AH.set_ne H _ e] using ha
  refine ⟨⟨Inj.le_refl j, ⟨fun a k y ha => ⟨(hr.dom a k y ha).1, by simpa using (hr.dom a k y ha).2⟩, fun a d k y y' ha hd la ld => hr.inj a d k y y' ha hd (hlive a la) (hlive d ld), ?_, hr.glob⟩,
    ⟨rfl, rfl, rfl, by simp, fun k hk hn => ?_⟩, Nat.le_refl _, fun a k y ha hl hk => ⟨a, y, hlive a hl, ha, fun hw => ?_⟩⟩, fun _ _ => rfl⟩
  · intro a q ha
    by_cases e : a = b
    · subst e
      rw [AH.set_same] at ha
      cases ha
      obtain ⟨c2, x2, hc2, hx2, _⟩ := hr.obj a o hb
      rw [hc] at hc2
      cases hc2
      rw [hx] at hx2
      cases hx2
      exact ⟨c, x', by rw [hs]; exact hc, by show (w.heap.setIfInBounds c x')[c]? = _; rw [hget, if_pos rfl], ho⟩
    · rw [AH.set_ne H _ e] at ha
      obtain ⟨c2, y, hc2, hy, hq⟩ := hr.obj a q ha
      have hne : c2 ≠ c := fun he => by subst he; exact e (hr.inj a b _ _ _ hc2 hc (AH.live_of ha) (AH.live_of hb))
      exact ⟨c2, y, hc2, by show (w.heap.setIfInBounds c x')[c2]? = _; rw [hget, if_neg hne]; exact hy, hq⟩
  · show (w.heap.setIfInBounds c x')[k]? = _
    rw [hget, if_neg (fun he => by subst he; exact hn b z ⟨o, hb, hro⟩ hc)]
  · by_cases e : a = b
    · subst e; exact ⟨o, hb, hro⟩
    · obtain ⟨q, hq, hr'⟩ := hw
      rw [AH.set_ne H _ e] at hq
      exact ⟨q, hq, hr'⟩
/-- A block is written and goes on under another number. -/
theorem Post.move (hr : Rel P j H w) {b c z : Nat} {o o' : AObj} {x x' : Obj} (hb : H.at_ b = some o) (hro : o.ro = false) (hc : j b = some (c, z)) (hx : w.heap[c]? = some x) (ho : ORel j o' x') (hs : csize x' = csize x) :
    Post P j H w (j.add H.next (c, z)) ((H.set b none).new o') { w with heap := w.heap.setIfInBounds c x' } := by
  have hlt : c < w.heap.size := (hr.dom b c z hc).2
  have hget := fun k => get_set w.heap c k x' hlt
  have hfr := hr.fresh (Nat.le_refl H.next)
  have hle : j.le (j.add H.next (c, z)) := Inj.le_add hfr
  have hbn : b ≠ H.next := by have := (hr.dom b c z hc).1; omega
  have hz : z = csize x := by
    obtain ⟨c2, x2, hc2, hx2, _⟩ := hr.obj b o hb
    rw [hc] at hc2
    cases hc2
    rw [hx] at hx2
    cases hx2
    rfl
  have hat : ∀ a, a ≠ H.next → a ≠ b → ((H.set b none).new o').at_ a = H.at_ a := fun a h1 h2 => by
    rw [AH.new_ne _ _ (by rw [AH.set_next]; exact h1), AH.set_ne H _ h2]
  have hatb : ((H.set b none).new o').at_ b = none := by rw [AH.new_ne _ _ (by rw [AH.set_next]; exact hbn), AH.set_same]
  have hatn : ((H.set b none).new o').at_ H.next = some o' := by have := AH.new_same (H.set b none) o'; rwa [AH.set_next] at this
  have hlive : ∀ a, a ≠ H.next → ((H.set b none).new o').live a → a ≠ b ∧ H.live a := by
    intro a h1 ha
    by_cases e : a = b
    · subst e; rw [AH.live, hatb] at ha; cases ha
    · exact ⟨e, by rw [AH.live, hat a h1 e] at ha; exact ha⟩
  refine ⟨⟨hle, ⟨?_, ?_, ?_, ?_⟩, ⟨rfl, rfl, rfl, by simp, ?_⟩, Nat.le_succ _, ?_⟩, fun a ha => Inj.add_ne j _ (by omega)⟩
  · intro a k y ha
    by_cases e : a = H.next
    · subst e
      rw [Inj.add_same] at ha
      cases ha
      exact ⟨Nat.lt_succ_self _, by simpa using hlt⟩
    · rw [Inj.add_ne j _ e] at ha
      have := hr.dom a k y ha
      exact ⟨Nat.lt_succ_of_lt this.1, by simpa using this.2⟩
  · intro a d k y y' ha hd la ld
    by_cases ea : a = H.next
    · subst ea
      rw [Inj.add_same] at ha
      cases ha
      by_cases ed : d = H.next
      · exact ed.symm
      · rw [Inj.add_ne j _ ed] at hd
        obtain ⟨h1, h2⟩ := hlive d ed ld
        exact absurd (hr.inj d b _ _ _ hd hc h2 (AH.live_of hb)) h1
    · rw [Inj.add_ne j _ ea] at ha
      obtain ⟨h1, h2⟩ := hlive a ea la
      by_cases ed : d = H.next
      · subst ed
        rw [Inj.add_same] at hd
        cases hd
        exact absurd (hr.inj a b _ _ _ ha hc h2 (AH.live_of hb)) h1
      · rw [Inj.add_ne j _ ed] at hd
        exact hr.inj a d k y y' ha hd h2 (hlive d ed ld).2
  · intro a q ha
    by_cases e : a = H.next
    · subst e
      rw [hatn] at ha
      cases ha
      exact ⟨c, x', by rw [Inj.add_same, hs, hz], by show (w.heap.setIfInBounds c x')[c]? = _; rw [hget, if_pos rfl], ho.mono hle⟩
    · by_cases e2 : a = b
      · subst e2; rw [hatb] at ha; cases ha
      · rw [hat a e e2] at ha
        obtain ⟨c2, y, hc2, hy, hq⟩ := hr.obj a q ha
        have hne : c2 ≠ c := fun he => by subst he; exact e2 (hr.inj a b _ _ _ hc2 hc (AH.live_of ha) (AH.live_of hb))
        exact ⟨c2, y, by rw [Inj.add_ne j _ e]; exact hc2, by show (w.heap.setIfInBounds c x')[c2]? = _; rw [hget, if_neg hne]; exact hy, hq.mono hle⟩
  · intro g hg
    exact hle _ _ (hr.glob g hg)
  · intro k hk hn
    show (w.heap.setIfInBounds c x')[k]? = _
    rw [hget, if_neg (fun he => by subst he; exact hn b z ⟨o, hb, hro⟩ hc)]
  · intro a k y ha hl hk
    by_cases e : a = H.next
    · subst e
      rw [Inj.add_same] at ha
      cases ha
      exact ⟨b, z, AH.live_of hb, hc, fun _ => ⟨o, hb, hro⟩⟩
    · rw [Inj.add_ne j _ e] at ha
      obtain ⟨h1, h2⟩ := hlive a e hl
      refine ⟨a, y, h2, ha, fun hw => ?_⟩
      obtain ⟨q, hq, hr'⟩ := hw
      rw [hat a e h1] at hq
      exact ⟨q, hq, hr'⟩
/-- A block is forgotten. -/
theorem Post.kill (hr : Rel P j H w) (b : Nat) : Post P j H w j (H.set b none) w := by
  refine ⟨⟨Inj.le_refl j, hr.forget (Nat.le_refl _) (fun a o ha => ?_), .refl j H w, Nat.le_refl _, fun a c z ha hl hc => ?_⟩, fun _ _ => rfl⟩
  · by_cases e : a = b
    · subst e; rw [AH.set_same] at ha; cases ha
    · rwa [AH.set_ne H _ e] at ha
  · by_cases e : a = b
    · subst e; rw [AH.live, AH.set_same] at hl; cases hl
    · refine ⟨a, z, by rwa [AH.live, AH.set_ne H _ e] at hl, ha, fun hw => ?_⟩
      obtain ⟨q, hq, hr'⟩ := hw
      rw [AH.set_ne H _ e] at hq
      exact ⟨q, hq, hr'⟩

/-! ### Cells written -/
theorem run_storeCells_set {c o : Nat} {t : TypeId} {fz : Nat × Nat} : ∀ (vs : List Value) (i : Nat) (x : Array Value) (w : World), w.heap[c]? = some (.cells x t fz) → o + i + vs.length ≤ x.size →
    (fz.2 ≤ fz.1 ∨ x.size ≤ fz.1) → (vs.all (·.oneCell')) = true →
    ∃ x', (storeCells ⟨c, o, none⟩ vs i).run P w = .ok () { w with heap := w.heap.setIfInBounds c (.cells x' t fz) } ∧ x'.toList = setRangeV x.toList (o + i) vs ∧ x'.size = x.size
  | [], i, x, w, hx, _, _, _ => by
    refine ⟨x, ?_, rfl, rfl⟩
    have hlt : c < w.heap.size := (Array.getElem?_eq_some_iff.1 hx).1
    have e : w.heap.setIfInBounds c (.cells x t fz) = w.heap := by
      apply Array.ext_getElem?
      intro k
      rw [get_set w.heap c k _ hlt]
      split
      · rename_i h; subst h; exact hx.symm
      · rfl
    rw [e]
    rfl
  | v :: vs, i, x, w, hx, hl, hf, h1 => by
    have hlt : c < w.heap.size := (Array.getElem?_eq_some_iff.1 hx).1
    simp only [List.all_cons, Bool.and_eq_true] at h1
    simp only [List.length_cons] at hl
    have hcell : w.cell? ⟨c, o + i, none⟩ = some x[o + i] := by rw [cell_of hx]; exact Array.getElem?_eq_getElem _
    have hfr : w.frozen? ⟨c, o + i, none⟩ = false := by
      simp only [World.frozen?, hx]
      rw [Bool.and_eq_false_iff]
      rcases hf with hf | hf
      · by_cases h : fz.1 ≤ o + i
        · right; simp; omega
        · left; simpa using h
      · left; simp; omega
    have hset : w.setCell ⟨c, o + i, none⟩ v = { w with heap := w.heap.setIfInBounds c (.cells (x.setIfInBounds (o + i) v) t fz) } := by
      simp only [World.setCell]
      congr 1
      apply Array.ext_getElem?
      intro k
      rw [get_set w.heap c k _ hlt, Array.getElem?_modify]
      by_cases e : c = k
      · subst e; rw [if_pos rfl, if_pos rfl, hx]; rfl
      · rw [if_neg e, if_neg (Ne.symm e)]
    have hrun : (store ((⟨c, o, none⟩ : Addr).add i) v).run P w = .ok () (w.setCell ⟨c, o + i, none⟩ v) := by
      rw [add_none, run_store P w _ v .plain h1.1, hcell, hfr]
      rfl
    obtain ⟨x', hr', hx', hs'⟩ := run_storeCells_set (c := c) (o := o) (t := t) (fz := fz) vs (i + 1) (x.setIfInBounds (o + i) v) (w.setCell ⟨c, o + i, none⟩ v) (by rw [hset]; show (w.heap.setIfInBounds c _)[c]? = _; rw [get_set _ _ _ _ hlt, if_pos rfl]) (by simp; omega) (by simpa using hf) h1.2
    refine ⟨x', ?_, ?_, by simpa using hs'⟩
    · rw [storeCells]
      simp only [Sem.run_bind, hrun, Result.andThen_ok]
      rw [hr', hset]
      have e : (w.heap.setIfInBounds c (.cells (x.setIfInBounds (o + i) v) t fz)).setIfInBounds c (.cells x' t fz) = w.heap.setIfInBounds c (.cells x' t fz) := by
        apply Array.ext_getElem?
        intro k
        have hlt2 : c < (w.heap.setIfInBounds c (.cells (x.setIfInBounds (o + i) v) t fz)).size := by simpa using hlt
        rw [get_set _ _ _ _ hlt2, get_set _ _ _ _ hlt, get_set _ _ _ _ hlt]
        split <;> rfl
      simp only [e]
    · rw [hx', setRangeV]
      simp [Nat.add_assoc]
end
end Go.Proofs.YtcgkadfgojmmlaaDoor.Abs
set_option linter.unusedVariables false
set_option linter.unusedSimpArgs false
namespace Go.Proofs.YtcgkadfgojmmlaaDoor.Abs
open Go Go.RowKit

section
variable {P : Program} {j : Inj} {H : AH} {w : World}

theorem Rel.of_heap (hr : Rel P j H w) {w' : World} (h : w'.heap = w.heap) : Rel P j H w' :=
  ⟨fun a c z x => by rw [h]; exact hr.dom a c z x, hr.inj, fun a o ho => by obtain ⟨c, x, h1, h2, h3⟩ := hr.obj a o ho; exact ⟨c, x, h1, by rw [h]; exact h2, h3⟩, hr.glob⟩
theorem Post.of_heap (hr : Rel P j H w) {w' : World} (h : w'.heap = w.heap) (h1 : w'.os = w.os) (h2 : w'.tape = w.tape) (h3 : w'.output = w.output) : Post P j H w j H w' :=
  ⟨⟨Inj.le_refl j, hr.of_heap h, ⟨h1, h2, h3, by rw [h]; exact Nat.le_refl _, fun c _ _ => by rw [h]⟩, Nat.le_refl _, fun a c z hc hl _ => ⟨a, z, hl, hc, id⟩⟩, fun _ _ => rfl⟩

theorem all_one {l : List AV} {r : List Value} (h : VRs j l r) (h1 : l.all AV.one = true) : (r.all (·.oneCell')) = true := by
  induction l generalizing r with
  | nil => rw [h.nil_right]; rfl
  | cons a l ih =>
    obtain ⟨b, r', rfl, hb, hr'⟩ := h.cons_left
    simp only [List.all_cons, Bool.and_eq_true] at h1 ⊢
    exact ⟨by rw [← hb.one]; exact h1.1, ih hr' h1.2⟩
theorem setRange_take : ∀ (ws l : List Value) (o n : Nat), o + ws.length ≤ n → (setRangeV l o ws).take n = setRangeV (l.take n) o ws
  | [], l, o, n, _ => rfl
  | v :: ws, l, o, n, h => by
    rw [setRangeV, setRangeV, setRange_take ws _ (o + 1) n (by simp at h; omega), List.take_set]

/-- A store through an address. -/
theorem storeC_sound (hr : Rel P j H w) {b c z o : Nat} {vs : List AV} {us : List Value} {H' : AH} (hb : j b = some (c, z)) (hv : VRs j vs us) (h : storeC H b o vs = some H') :
    ∃ w', (storeCells ⟨c, o, none⟩ us).run P w = .ok () w' ∧ Post P j H w j H' w' := by
  unfold storeC at h
  split at h
  · rename_i t cs hat
    split at h
    · rename_i hc
      obtain ⟨hle, hone⟩ := hc
      cases h
      obtain ⟨x, fz, hx, hz, hle2, hvs, hfz⟩ := hr.cells hat hb
      have hlen := hv.1
      obtain ⟨x', hrun, hx', hs'⟩ := run_storeCells_set (P := P) (c := c) (o := o) (t := t) (fz := fz) us 0 x w hx (by omega) (hfz rfl) (all_one hv hone)
      refine ⟨_, hrun, Post.update hr hat rfl hb hx ?_ (by simp only [csize]; exact hs')⟩
      have hset : VRs j (setRange cs o vs) (x'.toList.take cs.length) := by
        rw [hx', Nat.add_zero, setRange_take _ _ _ _ (by omega)]
        exact VRs.setRange o hvs hv
      refine ⟨rfl, by rw [setRange_length]; omega, fun i a v ha hv' => ?_, fun _ => by rw [hs']; exact hfz rfl⟩
      have hi : i < cs.length := by have := (List.getElem?_eq_some_iff.1 ha).1; rwa [setRange_length] at this
      refine hset.2 i a v ha ?_
      rw [List.getElem?_take, if_pos hi]
      simpa using hv'
    · cases h
  · cases h
theorem run_storeAt (hr : Rel P j H w) {t : TypeId} {n b o : Nat} {a : Value} {v : AV} {u : Value} {H' : AH} (hs : sizeP P t = some n) (ha : VR j (.ptr b o) a) (hv : VR j v u) (hn : v.cells.length = n) (h : storeC H b o v.cells = some H') :
    ∃ w', (Instr.storeAt t a u).run P w = .ok () w' ∧ Post P j H w j H' w' := by
  obtain ⟨c, z, rfl, hc⟩ := ha.ptr_inv
  obtain ⟨w', hrun, hp⟩ := storeC_sound hr hc hv.cells h
  refine ⟨w', ?_, hp⟩
  have hsz : u.cells.size = n := by rw [← hn]; exact hv.cells.size.symm
  simp [Instr.storeAt, Instr.sureAddr, storeVar, run_sizeOf hs, hsz, hrun]

/-! ### What an append takes -/
theorem run_lenOf {x : Value} {a : AV} {m : Nat} (hx : VR j a x) (h : lenA a = some m) (w : World) : (Builtin.lenOf x).run P w = .ok m w := by
  cases a <;> simp only [lenA] at h <;> first | (cases h; done) | skip
  · cases h
    obtain ⟨s, rfl, rfl⟩ := hx.str_inv
    have : s.data.toList.length = s.size := by rw [Array.length_toList]; rfl
    rw [this]; rfl
  · cases h
    obtain ⟨c, z, k, rfl, _⟩ := hx.slice_inv
    rfl
  · cases h; cases hx; rfl
  · cases h; cases hx; rfl
  · cases h; cases hx; rfl
theorem run_firstCells (hr : Rel P j H w) {x : Value} {a : AV} {m size : Nat} {xs : List AV} (hx : VR j a x) (hl : ∃ k, lenA a = some k ∧ m ≤ k) (h : srcCells H size m a = some xs) :
    ∃ us : List Value, (∀ w1 : World, w1.heap = w.heap → (Builtin.firstCells size m x).run P w1 = .ok us.toArray w1) ∧ VRs j xs us := by
  obtain ⟨k, hl, hm⟩ := hl
  cases a <;> simp only [srcCells] at h <;> first | (cases h; done) | skip
  · cases h
    obtain ⟨s, rfl, rfl⟩ := hx.str_inv
    refine ⟨(s.data.toList.take m).map fun b => .int .u8 b.toNat, fun w1 _ => ?_, ?_⟩
    · have e : ((s.extract 0 m).data.map fun (b : UInt8) => Value.int .u8 b.toNat) = ((s.data.toList.take m).map fun (b : UInt8) => Value.int .u8 b.toNat).toArray := by
        apply Array.toList_inj.1
        rw [Array.toList_map, Go.Lib.extract_data]
        simp
      rw [Builtin.firstCells, e]
      rfl
    · refine ⟨by simp, fun i p q hp hq => ?_⟩
      rw [List.getElem?_map] at hp hq
      cases hc : (s.data.toList.take m)[i]? with
      | none => rw [hc] at hp; cases hp
      | some c => rw [hc] at hp hq; cases hp; cases hq; exact .int _ _
  · split at h
    · rename_i cs hld
      cases h
      obtain ⟨c, z, k', rfl, hc, _, _⟩ := hx.slice_inv
      obtain ⟨us, vs, hvs, hlen, hrel, hcell⟩ := hr.loadC hld hc
      cases hvs
      refine ⟨us, fun w1 hw1 => ?_, hrel⟩
      have hload := run_loadCells_of (P := P) (w := w1) (fun i u hu => by have := hcell i u hu; simp only [World.cell?, hw1] at this ⊢; exact this)
      rw [hlen] at hload
      simp [Builtin.firstCells, hload]
    · cases h
  · cases h
    cases hx
    exact ⟨[], fun _ _ => rfl, .nil⟩
  · cases h
    cases hx
    cases hl
    have : m = 0 := by omega
    subst this
    exact ⟨[], fun _ _ => by simp [Builtin.firstCells, loadCells, loadCellsFrom], .nil⟩
  · cases h
    cases hx
    cases hl
    have : m = 0 := by omega
    subst this
    exact ⟨[], fun _ _ => by simp [Builtin.firstCells, loadCells, loadCellsFrom], .nil⟩
theorem srcCells_length (size m : Nat) {a : AV} {k : Nat} (hl : lenA a = some k) (hm : m ≤ k) {xs : List AV} (h : srcCells H size m a = some xs) (hstr : ∀ l, a = .str l → size = 1) (hnz : a = .snil ∨ a = .sempty ∨ a = .szero → m = 0) : xs.length = m * size := by
  cases a <;> simp only [srcCells] at h <;> first | (cases h; done) | skip
  · cases h
    cases hl
    rw [hstr _ rfl, List.length_map, List.length_take]
    omega
  · split at h
    · rename_i cs hld
      cases h
      simp only [Abs.loadC] at hld
      split at hld
      · split at hld
        · rename_i hle
          cases hld
          rw [List.length_take, List.length_drop]
          omega
        · cases hld
      · split at hld
        · cases hld
        · simp only [Option.map_eq_some_iff] at hld
          obtain ⟨l, hg, e⟩ := hld
          cases e
          exact rowGet_len hg
      · cases hld
    · cases h
  · cases h; rw [hnz (.inl rfl)]; simp
  · cases h; rw [hnz (.inr (.inl rfl))]; simp
  · cases h; rw [hnz (.inr (.inr rfl))]; simp

theorem growBy_bound (n : Nat) : ∀ (r c : Nat), c ≤ 2 * n + 200 → Builtin.growBy n r c ≤ 2 * n + 200
  | 0, c, h => h
  | r + 1, c, h => by
    unfold Builtin.growBy
    split
    · exact h
    · rename_i hlt
      exact growBy_bound n r _ (by omega)
theorem nextcap_bound {need cap bytes : Nat} (h : need * bytes ≤ 70368744177664) (hc : cap < need) : ¬ Builtin.nextslicecap need cap * bytes > 2 ^ 48 := by
  have h3 : need * bytes * 3 ≤ 2 ^ 48 := by omega
  have key : ∀ q, q ≤ 3 * need → ¬ q * bytes > 2 ^ 48 := by
    intro q hq
    have : q * bytes ≤ 3 * need * bytes := Nat.mul_le_mul_right _ hq
    have e : 3 * need * bytes = need * bytes * 3 := by rw [Nat.mul_assoc, Nat.mul_comm]
    omega
  apply key
  unfold Builtin.nextslicecap
  split
  · omega
  · split
    · omega
    · have := growBy_bound need 4 cap (by omega)
      omega

theorem setRange_append : ∀ (ws l : List Value) (o : Nat), o + ws.length ≤ l.length → (setRangeV l o ws).take (o + ws.length) = l.take o ++ ws
  | [], l, o, h => by simp [setRangeV]
  | v :: ws, l, o, h => by
    simp only [List.length_cons] at h ⊢
    rw [setRangeV]
    have := setRange_append ws (l.set o v) (o + 1) (by simp; omega)
    rw [show o + (ws.length + 1) = o + 1 + ws.length by omega, this]
    rw [List.take_add_one, List.take_set_of_le (Nat.le_refl o)]
    rw [List.getElem?_set_self (by omega)]
    simp

/-- An append where there is room. -/
theorem run_append_room {t0 t1 e : TypeId} {ty : TypeId} {i : TypeInfo} {d1 : TypeDesc} (hu : P.underlying t0 = some (.slice e)) (hu1 : P.underlying t1 = some d1) (hd1 : d1 = .string ∨ ∃ e', d1 = .slice e')
    (hi : P.info? e = some i) {base : Option Addr} {n k m : Nat} {x : Value} {us : Array Value} {w' : World} (hlen : (Builtin.lenOf x).run P w = .ok m w) (hle : n + m ≤ k) (hf : (Builtin.firstCells i.size m x).run P w = .ok us w)
    (hst : match base with | some a => (storeCells (a.add (n * i.size)) us.toList).run P w = .ok () w' | none => w' = w) : (Builtin.append_ #[t0, t1] ty #[.slice base n k, x]).run P w = .ok (.slice base (n + m) k) w' := by
  rcases hd1 with rfl | ⟨e', rfl⟩
  all_goals
    cases base with
    | none =>
      subst hst
      simp [Builtin.append_, run_underlying hu, run_underlying hu1, sizeOf, typeInfo, hi, hlen, hle, hf]
    | some a =>
      simp only at hst
      simp [Builtin.append_, run_underlying hu, run_underlying hu1, sizeOf, typeInfo, hi, hlen, hle, hf, hst]
/-- An append that grows. -/
theorem run_append_grow {t0 t1 e : TypeId} {ty : TypeId} {i : TypeInfo} {d1 : TypeDesc} {z : Value} (hu : P.underlying t0 = some (.slice e)) (hu1 : P.underlying t1 = some d1) (hd1 : d1 = .string ∨ ∃ e', d1 = .slice e')
    (hi : P.info? e = some i) (hz : i.zero = some z) {base : Option Addr} {n k m : Nat} {x : Value} {os us : Array Value} (hlen : (Builtin.lenOf x).run P w = .ok m w) (hle : ¬ n + m ≤ k)
    (hf1 : (Builtin.firstCells i.size n (.slice base n k)).run P w.drew = .ok os w.drew) (hf2 : (Builtin.firstCells i.size m x).run P w.drew = .ok us w.drew) (hb1 : (n + m) * i.bytes ≤ 70368744177664) (hb2 : n + m ≤ 70368744177664) :
    (Builtin.append_ #[t0, t1] ty #[.slice base n k, x]).run P w =
      .ok (.slice (some ⟨w.heap.size, 0, none⟩) (n + m) (grownCap w (n + m) k e)) (w.drew.alloc (.cells (os ++ us ++ Builtin.zeroCells z.cells (grownCap w (n + m) k e - (n + m))) e)) := by
  have h63' : ¬ (9223372036854775807 < ((n : Int) + (m : Int))) := by omega
  have h48' : ¬ (281474976710656 < Builtin.nextslicecap (n + m) k * i.bytes) := by have := nextcap_bound hb1 (show k < n + m by omega); omega
  rcases hd1 with rfl | ⟨e', rfl⟩
  all_goals
    simp [Builtin.append_, run_underlying hu, run_underlying hu1, sizeOf, typeInfo, zeroValue, hi, hz, hlen, hle, h63', h48', Question.forced, hf1, hf2, newRow, grownCap]
end
end Go.Proofs.YtcgkadfgojmmlaaDoor.Abs
set_option linter.unusedVariables false
set_option linter.unusedSimpArgs false
namespace Go.Proofs.YtcgkadfgojmmlaaDoor.Abs
open Go Go.RowKit

section
variable {P : Program} {j : Inj} {H : AH} {w : World}

theorem size_zeroCells' (z : Array Value) (n : Nat) : (Builtin.zeroCells z n).size = n * z.size := by simp [Builtin.zeroCells]
theorem drew_alloc_heap (w : World) (o : Obj) : (w.drew.alloc o).heap = w.heap.push o := rfl
theorem orel_new {t : TypeId} {l : List AV} {c : Array Value} (h : VRs j l (c.toList.take l.length)) : ORel j (.cells false t l) (.cells c t (0, 0)) := by
  have := h.1
  have hlt : c.toList.length = c.size := Array.length_toList
  have h2 : (c.toList.take l.length).length ≤ c.toList.length := by rw [List.length_take]; omega
  refine ⟨rfl, by omega, fun i a v ha hv => h.2 i a v ha ?_, fun _ => .inl (Nat.le_refl _)⟩
  have hi : i < l.length := (List.getElem?_eq_some_iff.1 ha).1
  rw [List.getElem?_take, if_pos hi]
  simpa using hv

theorem appendA_sound (hr : Rel P j H w) {t0 t1 e : TypeId} {ty : TypeId} {size bytes : Nat} {z : AV} {d1 : TypeDesc} (hu : P.underlying t0 = some (.slice e)) (hu1 : P.underlying t1 = some d1)
    (hd1 : d1 = .string ∨ ∃ e', d1 = .slice e') (hs : sizeP P e = some size) (hb : bytesP P e = some bytes) (hz : zeroP P e = some z) (hzs : z.cells.length = size) {sA xA v : AV} {s x : Value} {H' : AH} (hvs : VR j sA s) (hvx : VR j xA x)
    (hkind : ∀ l, xA = .str l → size = 1) (h : appendA H e size bytes sA xA = some (v, H')) : ∃ vc w' j', (Builtin.append_ #[t0, t1] ty #[s, x]).run P w = .ok vc w' ∧ Post P j H w j' H' w' ∧ VR j' v vc := by
  obtain ⟨i, hi, hsz⟩ := Option.map_eq_some_iff.1 hs
  obtain ⟨i2, hi2, hbz⟩ := Option.map_eq_some_iff.1 hb
  rw [hi] at hi2
  cases hi2
  obtain ⟨i3, zv, hi3, hzv, hzr⟩ := zeroP_inv (j := j) hz
  rw [hi] at hi3
  cases hi3
  unfold appendA at h
  simp only [Option.bind_eq_some_iff] at h
  obtain ⟨m, hm, h⟩ := h
  have hlen := run_lenOf (P := P) hvx hm
  split at h
  · rename_i hm0
    subst hm0
    have hf0 : (Builtin.firstCells i.size 0 x).run P w = .ok #[] w := by
      cases xA <;> simp only [lenA] at hm <;> first | (cases hm; done) | skip
      · obtain ⟨q, rfl, _⟩ := hvx.str_inv
        have : (q.extract 0 0).data = #[] := by
          apply Array.toList_inj.1
          rw [Go.Lib.extract_data]
          simp
        rw [Builtin.firstCells, this]
        simp
      · obtain ⟨c, y, k, rfl, _⟩ := hvx.slice_inv
        simp [Builtin.firstCells, loadCells, loadCellsFrom]
      · cases hvx; simp [Builtin.firstCells]
      · cases hvx; simp [Builtin.firstCells, loadCells, loadCellsFrom]
      · cases hvx; simp [Builtin.firstCells, loadCells, loadCellsFrom]
    cases sA <;> simp only at h <;> first | (cases h; done) | skip
    · cases h
      have hvs' := hvs
      obtain ⟨c, y, k, rfl, hc, hk, hz'⟩ := hvs.slice_inv
      exact ⟨_, w, j, run_append_room hu hu1 hd1 hi (hlen w) (by omega) hf0 (by simp [storeCells]), Post.refl hr, hvs'⟩
    · cases h
      cases hvs
      exact ⟨_, w, j, run_append_room hu hu1 hd1 hi (hlen w) (by omega) hf0 rfl, Post.refl hr, .snil⟩
    · cases h
      cases hvs
      rename_i ad k
      exact ⟨_, w, j, run_append_room hu hu1 hd1 hi (hlen w) (by omega) hf0 (by simp [storeCells]), Post.refl hr, .sempty⟩
    · cases h
      cases hvs
      rename_i ad
      exact ⟨_, w, j, run_append_room hu hu1 hd1 hi (hlen w) (by omega) hf0 (by simp [storeCells]), Post.refl hr, .szero⟩
  · rename_i hm0
    simp only [Option.bind_eq_some_iff] at h
    obtain ⟨xs, hxs, h⟩ := h
    split at h
    · rename_i hone
      obtain ⟨us, hus, hvr⟩ := run_firstCells hr hvx ⟨m, hm, Nat.le_refl _⟩ hxs
      have hxl : xs.length = m * size := srcCells_length size m hm (Nat.le_refl _) hxs hkind (fun hh => by rcases hh with rfl | rfl | rfl <;> (cases hm; omega))
      have hul : us.length = m * size := by rw [← hvr.1]; exact hxl
      have hus0 := hus w rfl
      have hus1 := hus w.drew rfl
      rw [← hsz] at hus0 hus1
      cases sA <;> simp only at h <;> first | (cases h; done) | skip
      · rename_i b o n es
        split at h
        · rename_i u cs hat
          split at h
          · rename_i hcond
            obtain ⟨rfl, rfl, rfl, hcl, hb1, hb2⟩ := hcond
            cases h
            obtain ⟨c, y, k, rfl, hc, hk, hz'⟩ := hvs.slice_inv
            obtain ⟨xx, fz, hx, hxz, hle2, hvss, hfz⟩ := hr.cells hat hc
            by_cases hroom : n + m ≤ k
            · have hmul : (n + m) * es ≤ k * es := Nat.mul_le_mul_right _ hroom
              have hadd : (n + m) * es = n * es + m * es := Nat.add_mul _ _ _
              obtain ⟨x', hrun, hx', hs'⟩ := run_storeCells_set (P := P) (c := c) (o := 0 + n * i.size) (t := u) (fz := fz) us 0 xx w hx (by rw [hsz]; omega) (hfz rfl) (all_one hvr hone)
              refine ⟨.slice (some ⟨c, 0, none⟩) (n + m) k, _, _, run_append_room hu hu1 hd1 hi (hlen w) hroom hus0 (by show (storeCells ((⟨c, 0, none⟩ : Addr).add (n * i.size)) us).run P w = _; rw [add_none]; exact hrun), Post.move hr hat rfl hc hx ?_ (by simp only [csize]; exact hs'), .slice (Inj.add_same _ _ _) hroom (by omega)⟩
              have hxx : xx.toList.length = xx.size := Array.length_toList
              have htake : x'.toList.take (cs ++ xs).length = xx.toList.take cs.length ++ us := by
                have := setRange_append us xx.toList (n * es) (by rw [hxx]; omega)
                rw [hx', List.length_append, hcl, hxl, ← hul, hsz]
                simpa using this
              refine ⟨rfl, by rw [hs', List.length_append]; omega, fun q a v ha hv => ?_, fun _ => by rw [hs']; exact hfz rfl⟩
              have hq : q < (cs ++ xs).length := (List.getElem?_eq_some_iff.1 ha).1
              have hrel := hvss.append hvr
              refine hrel.2 q a v ha ?_
              rw [← htake, List.getElem?_take, if_pos hq]
              simpa using hv
            · have hold : srcCells H es n (.slice b 0 n es) = some cs := by
                simp only [srcCells, Abs.loadC, hat]
                rw [if_pos (by omega)]
                simp [← hcl]
              obtain ⟨os, hos, hor⟩ := run_firstCells hr hvs ⟨n, rfl, Nat.le_refl _⟩ hold
              have hos1 := hos w.drew rfl
              rw [← hsz] at hos1
              rw [← hbz] at hb1
              refine ⟨_, _, _, run_append_grow hu hu1 hd1 hi hzv (hlen w) hroom hos1 hus1 hb1 hb2, Post.trans (Post.kill hr b) (Post.new (Post.kill hr b).rel (drew_alloc_heap _ _) rfl rfl rfl (orel_new ?_)), ?_⟩
              · have hrel := hor.append hvr
                have hl := hrel.1
                rw [hl]
                have e3 : (os.toArray ++ us.toArray ++ Builtin.zeroCells zv.cells (grownCap w (n + m) k u - (n + m))).toList.take (os ++ us).length = os ++ us := by
                  rw [Array.toList_append, Array.toList_append, List.take_left']
                  simp
                rw [e3]
                exact hrel
              · rw [AH.set_next]
                refine .slice (Inj.add_same _ _ _) (by unfold grownCap; show n + m ≤ n + m + _; omega) ?_
                have hzl := hzr.cells.size
                have h1 := hor.1
                have h2 := hvr.1
                have hcap : n + m ≤ grownCap w (n + m) k u := by unfold grownCap; show n + m ≤ n + m + _; omega
                have e4 : csize (.cells (os.toArray ++ us.toArray ++ Builtin.zeroCells zv.cells (grownCap w (n + m) k u - (n + m))) u (0, 0)) = (n + m) * es + (grownCap w (n + m) k u - (n + m)) * es := by
                  have : (n + m) * es = n * es + m * es := Nat.add_mul _ _ _
                  simp only [csize, Array.size_append, List.size_toArray, size_zeroCells']
                  rw [← hzl, hzs]
                  omega
                have e5 : (n + m) * es + (grownCap w (n + m) k u - (n + m)) * es = grownCap w (n + m) k u * es := by rw [← Nat.add_mul]; congr 1; omega
                show 0 + grownCap w (n + m) k u * es ≤ csize (.cells (os.toArray ++ us.toArray ++ Builtin.zeroCells zv.cells (grownCap w (n + m) k u - (n + m))) u (0, 0))
                omega
          · cases h
        · cases h
      · split at h
        · rename_i hcond
          obtain ⟨hb1, hb2⟩ := hcond
          cases h
          cases hvs
          have hnl : (Builtin.firstCells i.size 0 (.slice none 0 0)).run P w.drew = .ok #[] w.drew := rfl
          rw [← hbz] at hb1
          refine ⟨_, _, _, run_append_grow (n := 0) hu hu1 hd1 hi hzv (hlen w) (by omega) hnl hus1 (by simpa using hb1) (by simpa using hb2), Post.new hr (drew_alloc_heap _ _) rfl rfl rfl (orel_new ?_), ?_⟩
          · rw [hvr.1]
            have e3 : (#[] ++ us.toArray ++ Builtin.zeroCells zv.cells (grownCap w (0 + m) 0 e - (0 + m))).toList.take us.length = us := by
              simp
            rw [e3]
            exact hvr
          · rw [Nat.zero_add]
            refine .slice (Inj.add_same _ _ _) (by unfold grownCap; show m ≤ m + _; omega) ?_
            have hzl := hzr.cells.size
            have hcap : m ≤ grownCap w m 0 e := by unfold grownCap; show m ≤ m + _; omega
            have e4 : csize (.cells (#[] ++ us.toArray ++ Builtin.zeroCells zv.cells (grownCap w m 0 e - m)) e (0, 0)) = m * size + (grownCap w m 0 e - m) * size := by
              simp only [csize, Array.size_append, List.size_toArray, size_zeroCells']
              rw [← hzl, hzs]
              simp
              omega
            have e5 : m * size + (grownCap w m 0 e - m) * size = grownCap w m 0 e * size := by rw [← Nat.add_mul]; congr 1; omega
            show 0 + grownCap w m 0 e * size ≤ csize (.cells (#[] ++ us.toArray ++ Builtin.zeroCells zv.cells (grownCap w m 0 e - m)) e (0, 0))
            omega
        · cases h
      · split at h
        · rename_i hcond
          obtain ⟨hb1, hb2⟩ := hcond
          cases h
          cases hvs
          rename_i ad
          have hnl : (Builtin.firstCells i.size 0 (.slice (some ad) 0 0)).run P w.drew = .ok #[] w.drew := by simp [Builtin.firstCells, loadCells, loadCellsFrom]
          rw [← hbz] at hb1
          refine ⟨_, _, _, run_append_grow (n := 0) hu hu1 hd1 hi hzv (hlen w) (by omega) hnl hus1 (by simpa using hb1) (by simpa using hb2), Post.new hr (drew_alloc_heap _ _) rfl rfl rfl (orel_new ?_), ?_⟩
          · rw [hvr.1]
            have e3 : (#[] ++ us.toArray ++ Builtin.zeroCells zv.cells (grownCap w (0 + m) 0 e - (0 + m))).toList.take us.length = us := by
              simp
            rw [e3]
            exact hvr
          · rw [Nat.zero_add]
            refine .slice (Inj.add_same _ _ _) (by unfold grownCap; show m ≤ m + _; omega) ?_
            have hzl := hzr.cells.size
            have hcap : m ≤ grownCap w m 0 e := by unfold grownCap; show m ≤ m + _; omega
            have e4 : csize (.cells (#[] ++ us.toArray ++ Builtin.zeroCells zv.cells (grownCap w m 0 e - m)) e (0, 0)) = m * size + (grownCap w m 0 e - m) * size := by
              simp only [csize, Array.size_append, List.size_toArray, size_zeroCells']
              rw [← hzl, hzs]
              simp
              omega
            have e5 : m * size + (grownCap w m 0 e - m) * size = grownCap w m 0 e * size := by rw [← Nat.add_mul]; congr 1; omega
            show 0 + grownCap w m 0 e * size ≤ csize (.cells (#[] ++ us.toArray ++ Builtin.zeroCells zv.cells (grownCap w m 0 e - m)) e (0, 0))
            omega
        · cases h
    · cases h
end
end Go.Proofs.YtcgkadfgojmmlaaDoor.Abs

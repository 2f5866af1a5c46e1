/- A region whose order is fixed. No condition. -/
import Derived.Test.YtllkdoefonehoaaGreatDoorA15
set_option linter.unusedVariables false
set_option linter.unusedSimpArgs false
namespace Go.Proofs.YtllkdoefonehoaaGreatDoor.Abs
open Go Go.RowKit

def dstOk (N : Nat) : Option Nat → Bool
  | none => true
  | some d => decide (d < N)
def compG (N : Nat) (ops : Array Oper) : Option (Nat × Bool) → Option Guard
  | none => some none
  | some (k, want) => match (ops[k]?).bind (·.dst) with
    | some g => if g < N then some (some (g, want)) else none
    | none => none
def compStep (P : Program) (N : Nat) (ops : Array Oper) (o : Oper) : Option IStep :=
  if dstOk N o.dst then (compG N ops o.guard).bind fun g => match compN P o.op with
    | some no => some (.n o.dst g no)
    | none => (compE P o.op).map fun eo => .e o.dst g eo []
  else none
def compSteps (P : Program) (N : Nat) (ops : Array Oper) : List Oper → Option (List IStep)
  | [] => some []
  | o :: rest => (compStep P N ops o).bind fun s => (compSteps P N ops rest).map (s :: ·)

section
variable {P : Program} {N : Nat} {ops : Array Oper}

theorem TR.put {j : Inj} {tm : Tms} {a : Act} (h : TR j N tm a) {dst : Option Nat} (hd : dstOk N dst = true) {v : AV} {vc : Value} (hv : VR j v vc) : TR j N (Abs.put tm dst v) (a.put dst vc) := by
  cases dst with
  | none => exact h
  | some d =>
    have hd' : d < N := by simpa [dstOk] using hd
    refine ⟨h.defers, by simp [Act.put, h.size], fun t => ?_⟩
    show VR j (upd tm d v t) ((a.tmps.setIfInBounds d vc).getD t Go.undef)
    by_cases e : t = d
    · subst e
      rw [upd_same]
      have : (a.tmps.setIfInBounds t vc).getD t Go.undef = vc := by
        rw [Array.getD_eq_getD_getElem?, Array.getElem?_setIfInBounds_self_of_lt (by rw [h.size]; exact hd')]
        rfl
      rw [this]
      exact hv
    · rw [upd_ne tm v e]
      have : (a.tmps.setIfInBounds d vc).getD t Go.undef = a.tmps.getD t Go.undef := by
        rw [Array.getD_eq_getD_getElem?, Array.getD_eq_getD_getElem?, Array.getElem?_setIfInBounds_ne (Ne.symm e)]
      rw [this]
      exact h.tmps t
theorem TR.get {j : Inj} {tm : Tms} {a : Act} (h : TR j N tm a) {g : Nat} (hg : g < N) : ∃ v, a.tmps[g]? = some v ∧ VR j (tm g) v := by
  have : g < a.tmps.size := by rw [h.size]; exact hg
  refine ⟨a.tmps[g], Array.getElem?_eq_getElem this, ?_⟩
  have := h.tmps g
  rwa [Array.getD_eq_getD_getElem?, Array.getElem?_eq_getElem ‹_›] at this
theorem wanted_sound {j : Inj} {tm : Tms} {a : Act} (h : TR j N tm a) {o : Oper} {g : Guard} (hg : compG N ops o.guard = some g) {b : Bool} (hw : wantedA tm g = some b) : Region.wanted o (yielded ops a.tmps) = b := by
  unfold Region.wanted
  cases hgo : o.guard with
  | none =>
    rw [hgo] at hg
    cases hg
    cases hw
    rfl
  | some kw =>
    obtain ⟨k, want⟩ := kw
    rw [hgo] at hg
    simp only [compG] at hg
    split at hg
    · rename_i d hd
      split at hg
      · rename_i hlt
        cases hg
        obtain ⟨v, hv, hvr⟩ := h.get hlt
        simp only [wantedA] at hw
        split at hw
        · rename_i c hc
          cases hw
          rw [hc] at hvr
          rw [hvr.bool_inv] at hv
          have hy : yielded ops a.tmps k = some c := by unfold yielded; rw [hd]; simp only [Option.bind_some, hv]
          simp only [hy]
          cases c <;> cases want <;> rfl
        · rename_i hc
          cases hw
          rw [hc] at hvr
          obtain ⟨r, hr, _⟩ := hvr.tuple_inv
          rw [hr] at hv
          have hy : yielded ops a.tmps k = none := by unfold yielded; rw [hd]; simp only [Option.bind_some, hv]
          simp only [hy]
          cases want <;> rfl
        · cases hw
      · cases hg
    · cases hg

theorem irun_sound {K : Tms → AH → Prop} {Q : Exit → Act → World → Prop} : ∀ (l : List Nat) (os : List Oper) (steps : List IStep) (j : Inj) (tm : Tms) (H : AH) (a : Act) (w : World), (∀ k : Nat, os[k]? = (l[k]?).bind (ops[·]?)) → l.length = os.length → compSteps P N ops os = some steps →
    IRun P K steps [] tm H → TR j N tm a → Rel P j H w → (∀ j' tm' H' a' w', K tm' H' → TR j' N tm' a' → Post P j H w j' H' w' → Q .normal a' w') → wpOps P ops Q l a w
  | [], os, steps, j, tm, H, a, w, hos, hlen, hc, hrun, ht, hr, hq => by
    have : os = [] := List.eq_nil_of_length_eq_zero hlen.symm
    subst this
    cases hc
    exact hq j tm H a w hrun ht (Post.refl hr)
  | i :: l, os, steps, j, tm, H, a, w, hos, hlen, hc, hrun, ht, hr, hq => by
    cases os with
    | nil => simp at hlen
    | cons o os =>
      have ho : ops[i]? = some o := by have := hos 0; simpa using this.symm
      have hos' : ∀ k : Nat, os[k]? = (l[k]?).bind (ops[·]?) := fun k => by have := hos (k + 1); simpa using this
      have hlen' : l.length = os.length := by simpa using hlen
      simp only [compSteps, Option.bind_eq_some_iff, Option.map_eq_some_iff] at hc
      obtain ⟨s, hs, rest, hrest, rfl⟩ := hc
      unfold compStep at hs
      split at hs
      · rename_i hd
        simp only [Option.bind_eq_some_iff] at hs
        obtain ⟨g, hg, hs⟩ := hs
        have hev := EvR.of ht hr.globE
        have hskip : wantedA tm g = some false → IRun P K rest [] (Abs.put tm o.dst .undef) H → wpOps P ops Q (i :: l) a w := by
          intro hw hrun'
          have hw' := wanted_sound (ops := ops) ht hg hw
          simp only [wpOps, ho, hw']
          exact irun_sound l os rest j _ H _ w hos' hlen' hrest hrun' (ht.put hd .undef) hr hq
        split at hs
        · rename_i no hno
          cases hs
          simp only [IRun] at hrun
          split at hrun
          · rename_i hw
            have hw' := wanted_sound (ops := ops) ht hg hw
            simp only [wpOps, ho, hw']
            split at hrun
            · rename_i v hv
              obtain ⟨vc, hx, hvr⟩ := nop_sound hno hev hr hv
              left
              unfold Oper.wp
              rw [hx]
              exact irun_sound l os rest j _ H _ w hos' hlen' hrest hrun (ht.put hd hvr) hr hq
            · rename_i v b hv
              obtain ⟨vc, x, w', hx, hh, h1, h2, h3, ho', _, hvr⟩ := nop_sound hno hev hr hv
              have hp := Post.new hr hh h1 h2 h3 ho'
              left
              unfold Oper.wp
              rw [hx]
              exact irun_sound l os rest _ _ _ _ w' hos' hlen' hrest hrun ((ht.mono hp.ext).put hd (hvr _ hp.ext (Inj.add_same _ _ _))) hp.rel (fun j' tm' H' a' w'' hk htr hpp => hq j' tm' H' a' w'' hk htr (hp.trans hpp))
            · exact hrun.elim
          · rename_i hw; exact hskip hw hrun
          · exact hrun.elim
        · rename_i hnn
          simp only [Option.map_eq_some_iff] at hs
          obtain ⟨eo, heo, rfl⟩ := hs
          simp only [IRun] at hrun
          split at hrun
          · rename_i hw
            have hw' := wanted_sound (ops := ops) ht hg hw
            simp only [wpOps, ho, hw']
            left
            refine estep_sound heo hev hr hrun ?_
            rintro v vc j' H' w' ⟨_, hk⟩ hp hvr
            exact irun_sound l os rest j' _ H' _ w' hos' hlen' hrest hk ((ht.mono hp.ext).put hd hvr) hp.rel (fun j2 tm' H2 a' w'' hk htr hpp => hq j2 tm' H2 a' w'' hk htr (hp.trans hpp))
          · rename_i hw; exact hskip hw hrun
          · exact hrun.elim
      · cases hs
end
end Go.Proofs.YtllkdoefonehoaaGreatDoor.Abs

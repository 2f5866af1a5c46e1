/- The first heap of the laws of package pick: nothing is asked of package variables; rows of texts. -/
import Derived.Test.YtfimhkijacamoaaDoorRows
import Derived.Test.YtfimhkijacamoaaDoorA24
set_option linter.unusedVariables false
set_option linter.unusedSimpArgs false
namespace Go.Proofs.YtfimhkijacamoaaDoor.PWalk
open Go Go.RowKit Go.Proofs.YtfimhkijacamoaaDoor Go.Proofs.YtfimhkijacamoaaDoor.Abs
def tabs : Nat → Option AObj := fun _ => none
theorem texts {W : World} {a : Option Addr} {len cap : Nat} {L : List (List AV)} (h : IsFlat W [.str] a len cap L) :
    ∃ (v : AV) (fs : List (List UInt8)), SL (H1 W tabs) v (fs.map AV.str) ∧ VR (j1 W) v (.slice a len cap) ∧ ∀ f ∈ fs, f.length ≤ 9223372036854775807 := by
  obtain ⟨v, h1, h2⟩ := SF.of (P := Tryd.prog) (tabs := tabs) (fun a o h => by cases h) (by simp) h
  have he := h.each
  have key : ∀ l ∈ L.take len, ∃ f : List UInt8, l = [.str f] ∧ f.length ≤ 9223372036854775807 := fun l hl => by
    obtain ⟨e1, e2⟩ := he l (List.mem_of_mem_take hl)
    match l, e1 with
    | [x], _ =>
      obtain ⟨c, hc, hk⟩ := e2 0 x rfl
      simp at hc
      subst hc
      obtain ⟨f, rfl, hf⟩ := ck_str hk
      exact ⟨f, rfl, hf⟩
  obtain ⟨fs, hfs, hfl⟩ : ∃ fs : List (List UInt8), L.take len = fs.map (fun f => [AV.str f]) ∧ ∀ f ∈ fs, f.length ≤ 9223372036854775807 := by
    clear h1 h2
    generalize L.take len = M at *
    induction M with
    | nil => exact ⟨[], rfl, by simp⟩
    | cons l M ih =>
      obtain ⟨f, rfl, hf⟩ := key l (by simp)
      obtain ⟨fs, h1, h2⟩ := ih fun l hl => key l (by simp [hl])
      refine ⟨f :: fs, by simp [h1], fun g hg => ?_⟩
      rcases List.mem_cons.1 hg with rfl | hg
      · exact hf
      · exact h2 g hg
  refine ⟨v, fs, ?_, h2, hfl⟩
  rw [hfs] at h1
  rcases h1 with ⟨h1, h3⟩ | ⟨b, o, rfl, h3, h4⟩
  · exact .inl ⟨by simpa using h1, h3⟩
  · refine .inr ⟨b, o, by simp, by simpa using h3, fun i hi => ?_⟩
    obtain ⟨_, h5⟩ := h4 i (by simpa using hi)
    have := h5 0 (by simp)
    simp at this hi ⊢
    rw [this, List.getElem?_eq_getElem hi]; rfl
theorem walk {f : FuncId} {args : List AV} {cargs : Array Value} {W : World} (hsh : W.ShapedOpen Tryd.prog) (h : ACall Tryd.prog f args (H1 W tabs) fun v H' => v = .bool true ∧ H' = H1 W tabs)
    (hv : VRs (j1 W) args cargs.toList) : Calls Tryd.prog f cargs W fun e W' => e = .returned (.bool true) ∧ Below W.heap.size W W' :=
  calls_true h (rel1 hsh (by kernel_rfl) fun a o ht => by cases ht) hv (H1_ro fun a o h => by cases h)
end Go.Proofs.YtfimhkijacamoaaDoor.PWalk

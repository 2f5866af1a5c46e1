/- Code and calls: what the small code says holds of the model's runs. No condition. -/
import Derived.Test.YtllkdoefonehoaaGreatDoorA17
set_option linter.unusedVariables false
set_option linter.unusedSimpArgs false
namespace Go.Proofs.YtllkdoefonehoaaGreatDoor.Abs
open Go Go.RowKit

def comp (P : Program) (N : Nat) : Code → Option ICode
  | .skip => some .skip
  | .region _ ops false => (compSteps P N ops ops.toList).map .reg
  | .region _ ops true => (compDraw P N ops).map .reg
  | .seq a b => (comp P N a).bind fun x => (comp P N b).map fun y => .seq x y
  | .cond c a b => (compO P c).bind fun c => (comp P N a).bind fun x => (comp P N b).map fun y => .cond c x y
  | .block id a => (comp P N a).map (.block id)
  | .loop a => (comp P N a).map .loop
  | .exit id => some (.exit id)
  | .ret => some .ret
  | _ => some .never

section
variable {P : Program} {N : Nat}

inductive ExR : IEx → Exit → Prop
  | normal : ExR .normal .normal
  | exit (id : Nat) : ExR (.exit id) (.exit id)
  | ret : ExR .ret .ret
/-- What a post of the small code says of the model's. -/
def LQ (P : Program) (N : Nat) (Q : IPost) (j : Inj) (H : AH) (w : World) : Exit → Act → World → Prop := fun e a' w' =>
  ∃ e' j' tm' H', ExR e' e ∧ Q e' tm' H' ∧ TR j' N tm' a' ∧ Post P j H w j' H' w'

theorem wp_loop_ind {c : Code} {Q : Exit → Act → World → Prop} (R : Nat → Act → World → Prop) {n : Nat} {a : Act} {w : World} (h0 : R n a w)
    (round : ∀ n a w, R n a w → c.wp P (Exit.then (fun a' w' => ∃ m, m < n ∧ R m a' w') Q) a w) : (Code.loop c).wp P Q a w := by
  intro b k cs
  have key : ∀ n a w, R n a w → ∃ e a' w', Q e a' w' ∧ Arrives P (lone (b.at a (.code c :: .inLoop c :: k)) cs w) b k cs e a' w' := by
    intro n
    induction n using Nat.strongRecOn with
    | _ n ih =>
      intro a w hR
      obtain ⟨e, a₁, w₁, hq, harr⟩ := round n a w hR b (.inLoop c :: k) cs
      cases e with
      | normal =>
        obtain ⟨m, hlt, hm⟩ := hq
        obtain ⟨e₂, a₂, w₂, hq₂, harr₂⟩ := ih m hlt a₁ w₁ hm
        exact ⟨e₂, a₂, w₂, hq₂, .of_steps (Steps.trans harr (.one step_inLoop)) harr₂⟩
      | exit id => exact ⟨_, a₁, w₁, hq, .pass (x := .inLoop c) rfl (fun _ _ => .inl (by simp)) harr⟩
      | goto l => exact ⟨_, a₁, w₁, hq, .pass (x := .inLoop c) rfl (fun _ _ => .inl (by simp)) harr⟩
      | ret => exact ⟨_, a₁, w₁, hq, .pass (x := .inLoop c) rfl (fun _ _ => .inl (by simp)) harr⟩
      | panic ch => exact ⟨_, a₁, w₁, hq, .pass (x := .inLoop c) rfl (fun _ _ => .inl (by simp)) harr⟩
      | outgrown => exact ⟨_, a₁, w₁, hq, .pass (x := .inLoop c) rfl (fun _ _ => .inl (by simp)) harr⟩
  obtain ⟨e, a', w', hq, harr⟩ := key n a w h0
  exact ⟨e, a', w', hq, .of_steps (.one step_loop) harr⟩

theorem iwp_sound (hm : P.follows .mixedOrders = true) : ∀ (c : Code) (ic : ICode), comp P N c = some ic → ∀ (Q : IPost) (j : Inj) (tm : Tms) (H : AH) (a : Act) (w : World), IWP P ic Q tm H → TR j N tm a → Rel P j H w → c.wp P (LQ P N Q j H w) a w
  | .skip, ic, hc, Q, j, tm, H, a, w, h, ht, hr => by
    cases hc
    exact wp_skip ⟨.normal, j, tm, H, .normal, h, ht, Post.refl hr⟩
  | .region id ops false, ic, hc, Q, j, tm, H, a, w, h, ht, hr => by
    simp only [comp, Option.map_eq_some_iff] at hc
    obtain ⟨steps, hs, rfl⟩ := hc
    refine wp_region (irun_sound (List.range ops.size) ops.toList steps j tm H a w ?_ (by simp) hs h ht hr ?_)
    · intro k
      by_cases hk : k < ops.size
      · rw [List.getElem?_range hk]; simp
      · rw [List.getElem?_eq_none (by simp; omega), List.getElem?_eq_none (by simp; omega)]; rfl
    · intro j' tm' H' a' w' hk htr hp
      exact ⟨.normal, j', tm', H', .normal, hk, htr, hp⟩
  | .region id ops true, ic, hc, Q, j, tm, H, a, w, h, ht, hr => by
    simp only [comp, Option.map_eq_some_iff] at hc
    obtain ⟨steps, hs, rfl⟩ := hc
    refine draw_sound hm hs h ht hr ?_
    intro j' tm' H' a' w' hk htr hp
    exact ⟨.normal, j', tm', H', .normal, hk, htr, hp⟩
  | .seq x y, ic, hc, Q, j, tm, H, a, w, h, ht, hr => by
    simp only [comp, Option.bind_eq_some_iff, Option.map_eq_some_iff] at hc
    obtain ⟨ix, hx, iy, hy, rfl⟩ := hc
    refine wp_seq (wp_mono (iwp_sound hm x ix hx _ j tm H a w h ht hr) ?_)
    rintro e a' w' ⟨e', j', tm', H', he, hq, htr, hp⟩
    cases he with
    | normal =>
      refine wp_mono (iwp_sound hm y iy hy Q j' tm' H' a' w' hq htr hp.rel) ?_
      rintro e a2 w2 ⟨e2, j2, tm2, H2, he2, hq2, htr2, hp2⟩
      exact ⟨e2, j2, tm2, H2, he2, hq2, htr2, hp.trans hp2⟩
    | exit id => exact ⟨_, j', tm', H', .exit id, hq, htr, hp⟩
    | ret => exact ⟨_, j', tm', H', .ret, hq, htr, hp⟩
  | .cond c x y, ic, hc, Q, j, tm, H, a, w, h, ht, hr => by
    simp only [comp, Option.bind_eq_some_iff, Option.map_eq_some_iff] at hc
    obtain ⟨c', hc', ix, hx, iy, hy, rfl⟩ := hc
    have hv : VR j (c'.ev tm) (a.eval c) := EvR.of ht hr.globE c c' hc'
    simp only [IWP] at h
    split at h
    · rename_i hb
      rw [hb] at hv
      exact wp_cond_true hv.bool_inv (iwp_sound hm x ix hx Q j tm H a w h ht hr)
    · rename_i hb
      rw [hb] at hv
      exact wp_cond_false hv.bool_inv (iwp_sound hm y iy hy Q j tm H a w h ht hr)
    · exact h.elim
  | .block id x, ic, hc, Q, j, tm, H, a, w, h, ht, hr => by
    simp only [comp, Option.map_eq_some_iff] at hc
    obtain ⟨ix, hx, rfl⟩ := hc
    refine wp_block (wp_mono (iwp_sound hm x ix hx _ j tm H a w h ht hr) ?_)
    rintro e a' w' ⟨e', j', tm', H', he, hq, htr, hp⟩
    cases he with
    | normal => exact ⟨_, j', tm', H', .normal, hq, htr, hp⟩
    | exit k =>
      simp only [IPost.inBlock] at hq
      simp only [Exit.inBlock]
      split at hq
      · rename_i hk
        rw [if_pos hk]
        exact ⟨_, j', tm', H', .normal, hq, htr, hp⟩
      · rename_i hk
        rw [if_neg hk]
        exact ⟨_, j', tm', H', .exit k, hq, htr, hp⟩
    | ret => exact ⟨_, j', tm', H', .ret, hq, htr, hp⟩
  | .loop x, ic, hc, Q, j, tm, H, a, w, h, ht, hr => by
    simp only [comp, Option.map_eq_some_iff] at hc
    obtain ⟨ix, hx, rfl⟩ := hc
    obtain ⟨I, ⟨n, h0⟩, hround⟩ := h
    refine wp_loop_ind (fun n a' w' => ∃ j' tm' H', I n tm' H' ∧ TR j' N tm' a' ∧ Post P j H w j' H' w') (n := n) ⟨j, tm, H, h0, ht, Post.refl hr⟩ ?_
    rintro n a1 w1 ⟨j1, tm1, H1, hI, ht1, hp1⟩
    refine wp_mono (iwp_sound hm x ix hx _ j1 tm1 H1 a1 w1 (hround n tm1 H1 hI) ht1 hp1.rel) ?_
    rintro e a' w' ⟨e', j', tm', H', he, hq, htr, hp⟩
    cases he with
    | normal =>
      obtain ⟨m, hlt, hI'⟩ := hq
      exact ⟨m, hlt, j', tm', H', hI', htr, hp1.trans hp⟩
    | exit id => exact ⟨_, j', tm', H', .exit id, hq, htr, hp1.trans hp⟩
    | ret => exact ⟨_, j', tm', H', .ret, hq, htr, hp1.trans hp⟩
  | .exit id, ic, hc, Q, j, tm, H, a, w, h, ht, hr => by
    cases hc
    exact wp_exit ⟨_, j, tm, H, .exit id, h, ht, Post.refl hr⟩
  | .ret, ic, hc, Q, j, tm, H, a, w, h, ht, hr => by
    cases hc
    exact wp_ret ⟨_, j, tm, H, .ret, h, ht, Post.refl hr⟩
  | .rangeFunc _ _ _ _, ic, hc, _, _, _, _, _, _, h, _, _ => by cases hc; exact h.elim
  | .scope _, ic, hc, _, _, _, _, _, _, h, _, _ => by cases hc; exact h.elim
  | .label _, ic, hc, _, _, _, _, _, _, h, _, _ => by cases hc; exact h.elim
  | .goto _, ic, hc, _, _, _, _, _, _, h, _, _ => by cases hc; exact h.elim
  | .refuse _, ic, hc, _, _, _, _, _, _, h, _, _ => by cases hc; exact h.elim

/-! ### Calls -/
inductive RV where
  | tmp (t : Nat)
  | cell (t : Nat) (n : Option Nat)
def compR (P : Program) : List ResultVar → Option (List RV)
  | [] => some []
  | .tmp t :: l => (compR P l).map (.tmp t :: ·)
  | .cell a t :: l => (aggP P t).bind fun n => (compR P l).map (.cell a n :: ·)
def resL (tm : Tms) (H : AH) : List RV → Option (List AV)
  | [] => some []
  | .tmp t :: l => (resL tm H l).map (tm t :: ·)
  | .cell t n :: l => match tm t with
    | .ptr b o => (loadC H b o n).bind fun v => (resL tm H l).map (v :: ·)
    | _ => none
def tupA : List AV → AV
  | [v] => v
  | vs => .tuple vs
def resA (tm : Tms) (H : AH) (rs : List RV) : Option AV := (resL tm H rs).map tupA
def resT (tmps : Array Value) : ResultVar → Sem Value
  | .tmp t => pure (tmps.getD t Go.undef)
  | .cell a t => do loadVar t (← asAddr (tmps.getD a Go.undef))
theorem resL_sound {j : Inj} {tm : Tms} {H : AH} {a : Act} {w : World} (ht : TR j N tm a) (hr : Rel P j H w) : ∀ (l : List ResultVar) (rs : List RV) (vs : List AV), compR P l = some rs → resL tm H rs = some vs →
    ∃ us : List Value, (l.mapM (resT a.tmps)).run P w = .ok us w ∧ VRs j vs us
  | [], rs, vs, hc, h => by
    cases hc; cases h
    exact ⟨[], rfl, .nil⟩
  | .tmp t :: l, rs, vs, hc, h => by
    simp only [compR, Option.map_eq_some_iff] at hc
    obtain ⟨rs', hrs, rfl⟩ := hc
    simp only [resL, Option.map_eq_some_iff] at h
    obtain ⟨vs', hvs, rfl⟩ := h
    obtain ⟨us, hus, hv⟩ := resL_sound ht hr l rs' vs' hrs hvs
    exact ⟨a.tmps.getD t Go.undef :: us, by simp [List.mapM_cons, resT, hus], .cons (ht.tmps t) hv⟩
  | .cell t ty :: l, rs, vs, hc, h => by
    simp only [compR, Option.bind_eq_some_iff, Option.map_eq_some_iff] at hc
    obtain ⟨n, hn, rs', hrs, rfl⟩ := hc
    simp only [resL] at h
    split at h
    · rename_i b o hb
      simp only [Option.bind_eq_some_iff, Option.map_eq_some_iff] at h
      obtain ⟨v, hv, vs', hvs, rfl⟩ := h
      obtain ⟨us, hus, hvr⟩ := resL_sound ht hr l rs' vs' hrs hvs
      have hp := ht.tmps t
      rw [hb] at hp
      obtain ⟨c, z, hpe, hc⟩ := hp.ptr_inv
      obtain ⟨u, hu, huv⟩ := run_loadVar hr hn hv hc
      exact ⟨u :: us, by simp only [List.mapM_cons, resT, hpe, asAddr, Sem.run_bind, Sem.run_pure, Result.andThen_ok, hu, hus], .cons huv hvr⟩
    · cases h

def tm0 (args : List AV) : Tms := fun t => args.getD t .undef
structure Fits (P : Program) (f : FuncId) (fn : Func) (ic : ICode) (rs : List RV) : Prop where
  follows : P.follows .mixedOrders = true
  func : P.funcs[f]? = some fn
  name : (fn.name != "runtime.NumGoroutine") = true
  body : (fn.body.bind (comp P fn.ntmps)) = some ic
  res : compR P fn.results.toList = some rs
def fnPost (rs : List RV) (Q : AV → AH → Prop) : IPost
  | .normal, tm, H => ∃ v, resA tm H rs = some v ∧ Q v H
  | .ret, tm, H => ∃ v, resA tm H rs = some v ∧ Q v H
  | .exit _, _, _ => False
theorem acall_of {f : FuncId} {fn : Func} {ic : ICode} {rs : List RV} (hf : Fits P f fn ic rs) {args : List AV} {H : AH} {Q : AV → AH → Prop} (hn : args.length ≤ fn.ntmps) (h : IWP P ic (fnPost rs Q) (tm0 args) H) : ACall P f args H Q := by
  obtain ⟨c, hb, hc⟩ := Option.bind_eq_some_iff.1 hf.body
  refine ⟨by simp only [bodyP, hf.func, hb, hf.name]; rfl, fun j w cargs hr hv => ?_⟩
  refine calls_of_wp hf.func hb ?_
  have hsz := hv.size
  have ht : TR j fn.ntmps (tm0 args) { tmps := cargs ++ Array.replicate (fn.ntmps - cargs.size) Go.undef, defers := [] } := by
    refine ⟨rfl, by simp; omega, fun t => ?_⟩
    simp only [tm0]
    rw [Array.getD_eq_getD_getElem?]
    by_cases hlt : t < cargs.size
    · rw [Array.getElem?_append_left hlt, List.getD_eq_getElem?_getD]
      have hlt' : t < args.length := by omega
      obtain ⟨b, hb', hvr⟩ := hv.get (List.getElem?_eq_getElem hlt')
      have hb2 : cargs[t]? = some b := by simpa using hb'
      rw [hb2, List.getElem?_eq_getElem hlt']
      exact hvr
    · have h1 : args.getD t .undef = .undef := by rw [List.getD_eq_getElem?_getD, List.getElem?_eq_none (by omega)]; rfl
      have h2 : ((cargs ++ Array.replicate (fn.ntmps - cargs.size) Go.undef)[t]?).getD Go.undef = Go.undef := by
        rw [Array.getElem?_append_right (by omega), Array.getElem?_replicate]
        split <;> rfl
      rw [h1, h2]
      exact .undef
  refine wp_mono (iwp_sound hf.follows c ic hc _ j (tm0 args) H _ w h ht hr) ?_
  have fin : ∀ (j' : Inj) (tm' : Tms) (H' : AH) (a' : Act) (w' : World), (∃ v, resA tm' H' rs = some v ∧ Q v H') → TR j' fn.ntmps tm' a' → Post P j H w j' H' w' →
      a'.defers = [] ∧ ∃ v, (results fn a'.tmps).run P w' = .ok v w' ∧ ∃ v1 vc j' H', Ending.returned v = .returned vc ∧ Q v1 H' ∧ Post P j H w j' H' w' ∧ VR j' v1 vc := by
    rintro j' tm' H' a' w' ⟨v, hv, hq⟩ htr hp
    simp only [resA, Option.map_eq_some_iff] at hv
    obtain ⟨vs, hvs, rfl⟩ := hv
    obtain ⟨us, hus, hvr⟩ := resL_sound htr hp.rel fn.results.toList rs vs hf.res hvs
    have hres : (results fn a'.tmps).run P w' = .ok (if h : us.toArray.size = 1 then us.toArray[0] else .tuple us.toArray) w' := by
      have e : results fn a'.tmps = (do
          let vs ← fn.results.mapM (resT a'.tmps)
          pure (if h : vs.size = 1 then vs[0] else .tuple vs)) := rfl
      rw [e, Sem.run_bind, Array.mapM_eq_mapM_toList]
      simp only [Sem.run_map, hus, Result.andThen_ok]
      rfl
    refine ⟨htr.defers, _, hres, tupA vs, _, j', H', rfl, hq, hp, ?_⟩
    match vs, us, hvr with
    | [], us, hvr =>
      rw [hvr.nil_right]
      exact .tuple_list .nil
    | [v], us, hvr =>
      obtain ⟨u, us', rfl, hu, hus'⟩ := hvr.cons_left
      rw [hus'.nil_right]
      exact hu
    | v1 :: v2 :: vs, us, hvr =>
      have hl := hvr.1
      have : ¬ us.toArray.size = 1 := by simp at hl ⊢; omega
      rw [dif_neg this]
      exact .tuple_list (by simpa using hvr)
  rintro e a' w' ⟨e', j', tm', H', he, hq, htr, hp⟩
  cases he with
  | normal => exact fin j' tm' H' a' w' hq htr hp
  | ret => exact fin j' tm' H' a' w' hq htr hp
  | exit id => exact hq.elim
end
end Go.Proofs.YtllkdoefonehoaaGreatDoor.Abs

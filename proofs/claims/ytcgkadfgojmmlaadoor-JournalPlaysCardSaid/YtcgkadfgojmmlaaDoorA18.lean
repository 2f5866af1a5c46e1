/- Code and calls: what the small code says holds of the model's runs. No condition. -/
import Derived.Test.YtcgkadfgojmmlaaDoorA17
import Derived.RangeFuncRecord
import Derived.OrdersIn
set_option linter.unusedVariables false
set_option linter.unusedSimpArgs false
namespace Go.Proofs.YtcgkadfgojmmlaaDoor.Abs
open Go Go.RowKit

/-- No 'defer' statement, no range over a function. -/
def noDefer : Code → Bool
  | .region _ ops _ => ops.all fun o => match o.op with
    | .defer _ => false
    | _ => true
  | .seq a b => noDefer a && noDefer b
  | .cond _ a b => noDefer a && noDefer b
  | .block _ a => noDefer a
  | .loop a => noDefer a
  | .skip => true
  | .exit _ => true
  | .ret => true
  | _ => false
def comp (P : Program) (N : Nat) : Code → Option ICode
  | .skip => some .skip
  | .region _ ops false => (compSteps P N ops ops.toList).map .reg
  | .region _ ops true => (compDraw P N ops).map .reg
  | .seq a b => (comp P N a).bind fun x => (comp P N b).map fun y => .seq x y
  | .cond c a b => (compO P c).bind fun c => (comp P N a).bind fun x => (comp P N b).map fun y => .cond c x y
  | .block id a => (comp P N a).map (.block id)
  | .loop a => (comp P N a).map .loop
  | .exit id => some (.exit id)
  | .ret => some .ret
  | .rangeFunc g ps a b => if (noDefer a && noDefer b && ps.all fun t => decide (t < N)) = true then (compO P g).bind fun g => (comp P N a).bind fun x => (comp P N b).map fun y => .rangeF g ps.toList x y else some .never
  | _ => some .never

/-! ### The fence of a round -/
def wideR (ro : Option Nat) : Fence := { Fence.wide with round := ro }
section
variable {P : Program} {ro : Option Nat} {n : Nat}
theorem callsIn_wideR {f : FuncId} {args : Array Value} {w : World} {R : Ending → World → Prop} (h : Calls P f args w R) : CallsIn (wideR ro) n P f args w R :=
  ⟨trivial, fun cs _ => (callsIn_wide (n := n).2 h).2 cs (room_wide _)⟩
theorem roundIn_wideR {l : Nat} {f : FuncId} {tmps : Array Value} {a b : Code} {w : World} {R : Ending → World → Prop} (h : RoundIn Fence.wide 0 P l f tmps a b w R) : RoundIn (wideR ro) n P l f tmps a b w R :=
  ⟨trivial, fun c cs _ => h.2 c cs (room_wide _)⟩
theorem rowsIn_wideR {row : String} {args : Array Value} {w : World} {R : Value → World → Prop} (h : Rows P row args w R) : RowsIn (wideR ro) n P row args w R :=
  fun c cs _ => let ⟨v, w', r, s⟩ := h c cs; ⟨v, w', r, stepsIn_wide.2 s⟩
theorem opR_in {o : Oper} {a : Act} {w : World} {next next' : Act → World → Prop} {Q : Exit → Act → World → Prop} (hnd : ro = none ∨ ∀ c, o.op ≠ .defer c) (hn : ∀ a w, next a w → next' a w) (h : opR P o a w next Q) : o.wpIn (wideR ro) n P a w next' Q := by
  have hs : o.semAt ro a.eval = execOp a.eval o := by
    rcases hnd with rfl | h
    · rfl
    · exact Oper.semAt_eq ro _ o h
  have hd : (wideR ro).depth.isSome = true → 1 ≤ n := fun h => by cases h
  refine ⟨fun _ _ => trivial, ?_⟩
  show o.uponIn (wideR ro) n P a next' Q ((o.semAt ro a.eval).run P w)
  rw [hs]
  rcases h with h | ⟨c, f, tmps, assign, body, hrun, hround⟩
  · unfold Oper.wp at h
    generalize (execOp a.eval o).run P w = r at h ⊢
    cases r with
    | ok x w' =>
      cases x <;> simp only [Oper.upon, Oper.uponIn] at h ⊢ <;>
        first
          | exact hn _ _ h
          | exact h.elim
          | exact ⟨hd, callsIn_wideR (h.mono fun e w'' he => by cases e <;> first | exact hn _ _ he | exact he)⟩
          | exact ⟨hd, rowsIn_wideR fun c cs => let ⟨v, w', r, s⟩ := h c cs; ⟨v, w', hn _ _ r, s⟩⟩
    | halt x w' => cases x <;> simp only [Oper.upon, Oper.uponIn] at h ⊢ <;> exact h
  · rw [hrun]
    refine ⟨hd, roundIn_wideR (hround.mono ?_)⟩
    rintro e w' ⟨v, rfl, hk⟩
    exact hn _ _ hk
theorem wpOpsR_in {ops : Array Oper} {Q : Exit → Act → World → Prop} (hnd : ro = none ∨ ∀ o ∈ ops, ∀ c, o.op ≠ .defer c) : ∀ (l : List Nat) (a : Act) (w : World), wpOpsR P ops Q l a w → wpOpsIn (wideR ro) n P ops Q l a w
  | [], a, w, h => h
  | i :: l, a, w, h => by
    rw [wpOpsR] at h
    rw [wpOpsIn]
    cases ho : ops[i]? with
    | none => rw [ho] at h; exact wpOpsR_in hnd l a w h
    | some o =>
      rw [ho] at h
      simp only at h ⊢
      split at h
      · rename_i hw; rw [if_pos hw]; exact opR_in (hnd.imp id fun h => h o (Array.mem_of_getElem? ho)) (fun a w h => wpOpsR_in hnd l a w h) h
      · rename_i hw; rw [if_neg hw]; exact ⟨fun _ _ => trivial, wpOpsR_in hnd l _ _ h⟩
theorem wpAnyR_in {ops : Array Oper} {Q : Exit → Act → World → Prop} (hnd : ro = none ∨ ∀ o ∈ ops, ∀ c, o.op ≠ .defer c) : ∀ (fuel : Nat) (listed : Array Bool) (a : Act) (w : World), wpAnyR P .any ops Q fuel listed a w → wpAnyIn (wideR ro) n P .any ops Q fuel listed a w
  | 0, listed, a, w, h => h
  | fuel + 1, listed, a, w, h => by
    refine ⟨h.1, fun i hi => ?_⟩
    have h2 := h.2 i hi
    unfold wpOpR at h2
    unfold wpOpIn
    cases ho : ops[i]? with
    | none => rw [ho] at h2; exact wpAnyR_in hnd fuel _ a w h2
    | some o =>
      rw [ho] at h2
      simp only at h2 ⊢
      split at h2
      · rename_i hw; rw [if_pos hw]; exact opR_in (hnd.imp id fun h => h o (Array.mem_of_getElem? ho)) (fun a w h => wpAnyR_in hnd fuel _ a w h) h2
      · rename_i hw; rw [if_neg hw]; exact ⟨fun _ _ => trivial, wpAnyR_in hnd fuel _ _ _ h2⟩
theorem noDefer_ops {id : Nat} {ops : Array Oper} {dr : Bool} (h : noDefer (.region id ops dr) = true) : ∀ o ∈ ops, ∀ c, o.op ≠ .defer c := by
  intro o ho c e
  have := Array.all_eq_true_iff_forall_mem.1 h o ho
  simp [e] at this
theorem wpIn_loop_ind {F : Fence} {c : Code} {Q : Exit → Act → World → Prop} (R : Nat → Act → World → Prop) {m : Nat} {a : Act} {w : World} (h0 : R m a w)
    (round : ∀ m a w, R m a w → c.wpIn F n P (Exit.then (fun a' w' => ∃ k, k < m ∧ R k a' w') Q) a w) : (Code.loop c).wpIn F n P Q a w := by
  intro b k cs hro hb hr
  have key : ∀ m a w, R m a w → ∃ e a' w', Q e a' w' ∧ ArrivesIn (Machine.fenced P F) P (lone (b.atR a (.code c :: .inLoop c :: k)) cs w) b k cs e a' w' := by
    intro m
    induction m using Nat.strongRecOn with
    | _ m ih =>
      intro a w hR
      obtain ⟨e, a₁, w₁, hq, harr⟩ := round m a w hR b (.inLoop c :: k) cs hro hb hr
      cases e with
      | normal =>
        obtain ⟨m', hlt, hm⟩ := hq
        obtain ⟨e₂, a₂, w₂, hq₂, harr₂⟩ := ih m' hlt a₁ w₁ hm
        exact ⟨e₂, a₂, w₂, hq₂, .of_steps (StepsIn.trans harr (.one (fenced_calm hb hr rfl) stepR_inLoop)) harr₂⟩
      | exit id => exact ⟨_, a₁, w₁, hq, .pass (x := .inLoop c) rfl (fun _ _ => .inl (by simp)) harr⟩
      | goto l => exact ⟨_, a₁, w₁, hq, .pass (x := .inLoop c) rfl (fun _ _ => .inl (by simp)) harr⟩
      | ret => exact ⟨_, a₁, w₁, hq, .pass (x := .inLoop c) rfl (fun _ _ => .inl (by simp)) harr⟩
      | panic ch => exact ⟨_, a₁, w₁, hq, .pass (x := .inLoop c) rfl (fun _ _ => .inl (by simp)) harr⟩
      | outgrown => exact ⟨_, a₁, w₁, hq, .pass (x := .inLoop c) rfl (fun _ _ => .inl (by simp)) harr⟩
  obtain ⟨e, a', w', hq, harr⟩ := key _ a w h0
  exact ⟨e, a', w', hq, .of_steps (.one (fenced_calm hb hr rfl) stepR_loop) harr⟩
end

/-! ### Blocks that no number stands for -/
section
variable {P : Program} {j j' j0 : Inj} {H H' H0 : AH} {w w' w0 : World}
/-- No living number stands for block c. -/
def Hid (j : Inj) (H : AH) (c : Nat) : Prop := ∀ a z, H.live a → j a ≠ some (c, z)
theorem AH.wr_live {H : AH} {a : Nat} (h : H.wr a) : H.live a := by obtain ⟨o, ho, _⟩ := h; exact AH.live_of ho
theorem Hid.post {c : Nat} (h : Hid j H c) (hc : c < w.heap.size) (hp : Post P j H w j' H' w') : Hid j' H' c := fun a z hl e => by
  obtain ⟨b, y, h1, h2, _⟩ := hp.orig a c z e hl hc
  exact h b y h1 h2
theorem Hid.same {c : Nat} (h : Hid j H c) (hc : c < w.heap.size) (hp : Post P j H w j' H' w') : w'.heap[c]? = w.heap[c]? :=
  hp.keeps.block c hc fun a z hw => h a z (AH.wr_live hw)
theorem Hid.of_le {c : Nat} (h : Hid j H c) (hl : ∀ a, H'.live a → H.live a) : Hid j H' c := fun a z hv => h a z (hl a hv)
theorem Rel.hid {c : Nat} {x : Obj} (hr : Rel P j H w) (h : Hid j H c) : Rel P j H (w.putObj c x) := by
  refine ⟨fun a c z ha => ⟨(hr.dom a c z ha).1, by rw [World.putObj_size]; exact (hr.dom a c z ha).2⟩, hr.inj, fun a o ha => ?_, hr.glob⟩
  obtain ⟨c', X, hc, hX, ho⟩ := hr.obj a o ha
  have : c' ≠ c := fun e => h a _ (AH.live_of ha) (e ▸ hc)
  exact ⟨c', X, hc, by rw [World.putObj_heap_other this]; exact hX, ho⟩
theorem Post.hid_put {c : Nat} {x : Obj} (hp : Post P j0 H0 w0 j H w) (h : Hid j H c) (hc : w0.heap.size ≤ c ∨ ∃ a z, H0.wr a ∧ j0 a = some (c, z)) : Post P j0 H0 w0 j H (w.putObj c x) := by
  refine ⟨⟨hp.ext, hp.rel.hid h, ⟨hp.keeps.os, hp.keeps.tape, hp.keeps.output, by rw [World.putObj_size]; exact hp.keeps.size, fun c' hc' hn => ?_⟩, hp.next, hp.orig⟩, hp.fresh⟩
  have : c' ≠ c := fun e => by
    subst e
    rcases hc with hc | ⟨a, z, h1, h2⟩
    · omega
    · exact hn a z h1 h2
  rw [World.putObj_heap_other this]
  exact hp.keeps.block c' hc' hn
theorem Post.relay {b c z : Nat} {X : Obj} {o : AObj} (hp : Post P j0 H0 w0 j H w) (hw : H0.wr b) (hb : j0 b = some (c, z)) (h : Hid j H c) (hX : w.heap[c]? = some X) (hz : csize X = z) (ho : ORel j o X) : Post P j0 H0 w0 j (H.set b (some o)) w := by
  have hjb := hp.ext _ _ hb
  have hlive : ∀ a, a ≠ b → (H.set b (some o)).live a → H.live a := fun a ha hl => by unfold AH.live at hl ⊢; rwa [AH.set_ne H _ ha] at hl
  refine ⟨⟨hp.ext, ⟨hp.rel.dom, fun a b' c0 y y' ha hb' la lb => ?_, fun a q ha => ?_, hp.rel.glob⟩, hp.keeps, hp.next, fun a c0 y ha hl hc => ?_⟩, hp.fresh⟩
  · by_cases ea : a = b
    · by_cases eb : b' = b
      · rw [ea, eb]
      · subst ea
        rw [hjb] at ha
        cases ha
        exact (h b' y' (hlive b' eb lb) hb').elim
    · by_cases eb : b' = b
      · subst eb
        rw [hjb] at hb'
        cases hb'
        exact (h a y (hlive a ea la) ha).elim
      · exact hp.rel.inj a b' c0 y y' ha hb' (hlive a ea la) (hlive b' eb lb)
  · by_cases ea : a = b
    · subst ea
      rw [AH.set_same] at ha
      cases ha
      exact ⟨c, X, by rw [hz]; exact hjb, hX, ho⟩
    · rw [AH.set_ne H _ ea] at ha
      exact hp.rel.obj a q ha
  · by_cases ea : a = b
    · subst ea
      rw [hjb] at ha
      cases ha
      exact ⟨a, z, AH.wr_live hw, hb, fun _ => hw⟩
    · obtain ⟨b', y', h1, h2, h3⟩ := hp.orig a c0 y ha (hlive a ea hl) hc
      refine ⟨b', y', h1, h2, fun ⟨q, hq, hr⟩ => h3 ⟨q, ?_, hr⟩⟩
      rwa [AH.set_ne H _ ea] at hq
theorem Rel.hid_none (hr : Rel P j H w) {b c z : Nat} (hl : H.live b) (hb : j b = some (c, z)) : Hid j (H.set b none) c := by
  intro a y ha e
  have hne : a ≠ b := fun e => by subst e; rw [AH.live, AH.set_same] at ha; cases ha
  rw [AH.live, AH.set_ne H _ hne] at ha
  exact hne (hr.inj a b c y z e hb ha hl)
theorem AH.set_none_le (H : AH) (b : Nat) : ∀ a o, (H.set b none).at_ a = some o → H.at_ a = some o := fun a o h => by
  by_cases e : a = b
  · subst e; rw [AH.set_same] at h; cases h
  · rwa [AH.set_ne H _ e] at h
theorem Post.gone (hp : Post P j0 H0 w0 j H w) (b : Nat) : Post P j0 H0 w0 j (H.set b none) w :=
  ⟨⟨hp.ext, hp.rel.forget (Nat.le_refl _) (AH.set_none_le H b), hp.keeps, hp.next, fun a c z ha hl hc => by
    obtain ⟨o, ho⟩ := AH.live_obj hl
    obtain ⟨b', y, h1, h2, h3⟩ := hp.orig a c z ha (AH.live_of (AH.set_none_le H b a o ho)) hc
    exact ⟨b', y, h1, h2, fun ⟨q, hq, hr⟩ => h3 ⟨q, AH.set_none_le H b a q hq, hr⟩⟩⟩, hp.fresh⟩

/-! ### The marks of loops over functions -/
def markOf (b : Nat) : Deferred := { target := .collected b, args := #[] }
structure Marks (base : Nat) (j : Inj) (H : AH) (w : World) (D : List Deferred) : Prop where
  size : base ≤ w.heap.size
  list : ∃ bs : List Nat, D = bs.map markOf ∧ bs.Nodup ∧ ∀ b ∈ bs, base ≤ b ∧ w.heap[b]? = some (.deferred (some [])) ∧ Hid j H b
theorem Marks.nil {j : Inj} {H : AH} {w : World} {base : Nat} (h : base ≤ w.heap.size) : Marks base j H w [] := ⟨h, [], rfl, List.nodup_nil, by simp⟩
theorem Marks.post {base : Nat} {D : List Deferred} (h : Marks base j H w D) (hp : Post P j H w j' H' w') : Marks base j' H' w' D := by
  obtain ⟨hs, bs, h1, h2, h3⟩ := h
  refine ⟨Nat.le_trans hs hp.keeps.size, bs, h1, h2, fun b hb => ?_⟩
  obtain ⟨h4, h5, h6⟩ := h3 b hb
  have hlt : b < w.heap.size := (Array.getElem?_eq_some_iff.1 h5).1
  exact ⟨h4, (h6.same hlt hp).trans h5, h6.post hlt hp⟩
end

section
variable {P : Program} {N : Nat}

inductive ExR : IEx → Exit → Prop
  | normal : ExR .normal .normal
  | exit (id : Nat) : ExR (.exit id) (.exit id)
  | ret : ExR .ret .ret
/-- What a post of the small code says of the model's. -/
def LQ (P : Program) (N : Nat) (Q : IPost) (base : Nat) (j : Inj) (H : AH) (w : World) : Exit → Act → World → Prop := fun e a' w' =>
  ∃ e' j' tm' H' D', ExR e' e ∧ Q e' tm' H' ∧ TR D' j' N tm' a' ∧ Marks base j' H' w' D' ∧ Post P j H w j' H' w'
def exC : IEx → Code
  | .normal => .skip
  | .exit id => .exit id
  | .ret => .ret
theorem updl_sound {D : List Deferred} {j : Inj} : ∀ (ps : List Nat) (tm : Tms) (args : List AV) (cs : List Value) (tmps : Array Value), (ps.all fun t => decide (t < N)) = true → TR D j N tm { tmps := tmps, defers := D } → VRs j args cs →
    TR D j N (updl tm ps args) { tmps := (ps.zip cs).foldl (fun tmps (t, a) => tmps.setIfInBounds t a) tmps, defers := D }
  | [], tm, args, cs, tmps, _, h, _ => by cases args <;> exact h
  | p :: ps, tm, [], cs, tmps, _, h, hv => by rw [hv.nil_right]; exact h
  | p :: ps, tm, a :: args, cs, tmps, hp, h, hv => by
    obtain ⟨c, cs', rfl, hc, hcs⟩ := hv.cons_left
    simp only [List.all_cons, Bool.and_eq_true] at hp
    have := h.put (dst := some p) (by simpa [dstOk] using hp.1) hc
    exact updl_sound ps (upd tm p a) args cs' (tmps.setIfInBounds p c) hp.2 this hcs

theorem iwp_sound (hm : P.follows .mixedOrders = true) : ∀ (c : Code) (ic : ICode), comp P N c = some ic → ∀ (ro : Option Nat) (n : Nat), (ro = none ∨ noDefer c = true) → ∀ (Q : IPost) (base : Nat) (D : List Deferred) (j : Inj) (tm : Tms) (H : AH) (a : Act) (w : World),
    IWP P ic Q tm H → TR D j N tm a → Marks base j H w D → Rel P j H w → c.wpIn (wideR ro) n P (LQ P N Q base j H w) a w
  | .skip, ic, hc, ro, n, hnd, Q, base, D, j, tm, H, a, w, h, ht, hk, hr => by
    cases hc
    exact wpIn_skip ⟨.normal, j, tm, H, D, .normal, h, ht, hk, Post.refl hr⟩
  | .region id ops false, ic, hc, ro, n, hnd, Q, base, D, j, tm, H, a, w, h, ht, hmk, hr => by
    simp only [comp, Option.map_eq_some_iff] at hc
    obtain ⟨steps, hs, rfl⟩ := hc
    refine wpIn_region (wpOpsR_in (hnd.imp (fun h => h) noDefer_ops) _ _ _ (irun_sound (List.range ops.size) ops.toList steps j tm H a w ?_ (by simp) hs h ht hr ?_))
    · intro k
      by_cases hk : k < ops.size
      · rw [List.getElem?_range hk]; simp
      · rw [List.getElem?_eq_none (by simp; omega), List.getElem?_eq_none (by simp; omega)]; rfl
    · intro j' tm' H' a' w' hk htr hp
      exact ⟨.normal, j', tm', H', D, .normal, hk, htr, hmk.post hp, hp⟩
  | .region id ops true, ic, hc, ro, n, hnd, Q, base, D, j, tm, H, a, w, h, ht, hmk, hr => by
    simp only [comp, Option.map_eq_some_iff] at hc
    obtain ⟨steps, hs, rfl⟩ := hc
    refine wpIn_region_any hm (wpAnyR_in (hnd.imp (fun h => h) noDefer_ops) _ _ _ _ (draw_sound (id := id) hm hs h ht hr ?_))
    intro j' tm' H' a' w' hk htr hp
    exact ⟨.normal, j', tm', H', D, .normal, hk, htr, hmk.post hp, hp⟩
  | .seq x y, ic, hc, ro, n, hnd, Q, base, D, j, tm, H, a, w, h, ht, hmk, hr => by
    simp only [comp, Option.bind_eq_some_iff, Option.map_eq_some_iff] at hc
    obtain ⟨ix, hx, iy, hy, rfl⟩ := hc
    have hn1 : ro = none ∨ noDefer x = true := hnd.imp id fun h => by simp only [noDefer, Bool.and_eq_true] at h; exact h.1
    have hn2 : ro = none ∨ noDefer y = true := hnd.imp id fun h => by simp only [noDefer, Bool.and_eq_true] at h; exact h.2
    refine wpIn_seq (wpIn_mono (iwp_sound hm x ix hx ro n hn1 _ base D j tm H a w h ht hmk hr) ?_)
    rintro e a' w' ⟨e', j', tm', H', D', he, hq, htr, hmk', hp⟩
    cases he with
    | normal =>
      refine wpIn_mono (iwp_sound hm y iy hy ro n hn2 Q base D' j' tm' H' a' w' hq htr hmk' hp.rel) ?_
      rintro e a2 w2 ⟨e2, j2, tm2, H2, D2, he2, hq2, htr2, hmk2, hp2⟩
      exact ⟨e2, j2, tm2, H2, D2, he2, hq2, htr2, hmk2, hp.trans hp2⟩
    | exit id => exact ⟨_, j', tm', H', D', .exit id, hq, htr, hmk', hp⟩
    | ret => exact ⟨_, j', tm', H', D', .ret, hq, htr, hmk', hp⟩
  | .cond c x y, ic, hc, ro, n, hnd, Q, base, D, j, tm, H, a, w, h, ht, hmk, hr => by
    simp only [comp, Option.bind_eq_some_iff, Option.map_eq_some_iff] at hc
    obtain ⟨c', hc', ix, hx, iy, hy, rfl⟩ := hc
    have hn1 : ro = none ∨ noDefer x = true := hnd.imp id fun h => by simp only [noDefer, Bool.and_eq_true] at h; exact h.1
    have hn2 : ro = none ∨ noDefer y = true := hnd.imp id fun h => by simp only [noDefer, Bool.and_eq_true] at h; exact h.2
    have hv : VR j (c'.ev tm) (a.eval c) := EvR.of ht hr.globE c c' hc'
    simp only [IWP] at h
    split at h
    · rename_i hb
      rw [hb] at hv
      exact wpIn_cond_true hv.bool_inv (iwp_sound hm x ix hx ro n hn1 Q base D j tm H a w h ht hmk hr)
    · rename_i hb
      rw [hb] at hv
      exact wpIn_cond_false hv.bool_inv (iwp_sound hm y iy hy ro n hn2 Q base D j tm H a w h ht hmk hr)
    · exact h.elim
  | .block id x, ic, hc, ro, n, hnd, Q, base, D, j, tm, H, a, w, h, ht, hmk, hr => by
    simp only [comp, Option.map_eq_some_iff] at hc
    obtain ⟨ix, hx, rfl⟩ := hc
    refine wpIn_block (wpIn_mono (iwp_sound hm x ix hx ro n (hnd.imp (fun h => h) fun h => h) _ base D j tm H a w h ht hmk hr) ?_)
    rintro e a' w' ⟨e', j', tm', H', D', he, hq, htr, hmk', hp⟩
    cases he with
    | normal => exact ⟨_, j', tm', H', D', .normal, hq, htr, hmk', hp⟩
    | exit k =>
      simp only [IPost.inBlock] at hq
      simp only [Exit.inBlock]
      split at hq
      · rename_i hk
        rw [if_pos hk]
        exact ⟨_, j', tm', H', D', .normal, hq, htr, hmk', hp⟩
      · rename_i hk
        rw [if_neg hk]
        exact ⟨_, j', tm', H', D', .exit k, hq, htr, hmk', hp⟩
    | ret => exact ⟨_, j', tm', H', D', .ret, hq, htr, hmk', hp⟩
  | .loop x, ic, hc, ro, n, hnd, Q, base, D, j, tm, H, a, w, h, ht, hmk, hr => by
    simp only [comp, Option.map_eq_some_iff] at hc
    obtain ⟨ix, hx, rfl⟩ := hc
    obtain ⟨I, ⟨k, h0⟩, hround⟩ := h
    refine wpIn_loop_ind (fun n a' w' => ∃ j' tm' H' D', I n tm' H' ∧ TR D' j' N tm' a' ∧ Marks base j' H' w' D' ∧ Post P j H w j' H' w') (m := k) ⟨j, tm, H, D, h0, ht, hmk, Post.refl hr⟩ ?_
    rintro k a1 w1 ⟨j1, tm1, H1, D1, hI, ht1, hmk1, hp1⟩
    refine wpIn_mono (iwp_sound hm x ix hx ro n (hnd.imp (fun h => h) fun h => h) _ base D1 j1 tm1 H1 a1 w1 (hround k tm1 H1 hI) ht1 hmk1 hp1.rel) ?_
    rintro e a' w' ⟨e', j', tm', H', D', he, hq, htr, hmk', hp⟩
    cases he with
    | normal =>
      obtain ⟨m, hlt, hI'⟩ := hq
      exact ⟨m, hlt, j', tm', H', D', hI', htr, hmk', hp1.trans hp⟩
    | exit id => exact ⟨_, j', tm', H', D', .exit id, hq, htr, hmk', hp1.trans hp⟩
    | ret => exact ⟨_, j', tm', H', D', .ret, hq, htr, hmk', hp1.trans hp⟩
  | .exit id, ic, hc, ro, n, hnd, Q, base, D, j, tm, H, a, w, h, ht, hmk, hr => by
    cases hc
    exact wpIn_exit ⟨_, j, tm, H, D, .exit id, h, ht, hmk, Post.refl hr⟩
  | .ret, ic, hc, ro, n, hnd, Q, base, D, j, tm, H, a, w, h, ht, hmk, hr => by
    cases hc
    exact wpIn_ret ⟨_, j, tm, H, D, .ret, h, ht, hmk, Post.refl hr⟩
  | .rangeFunc g ps x y, ic, hc, ro, n, hnd, Q, base, D, j, tm, H, a, w, h, ht, hmk, hr => by
    have hro : ro = none := hnd.elim id fun h => by cases h
    subst hro
    simp only [comp] at hc
    split at hc
    rotate_left
    · cases hc; exact h.elim
    rename_i hok
    simp only [Bool.and_eq_true] at hok
    obtain ⟨⟨hnx, hny⟩, hps⟩ := hok
    simp only [Option.bind_eq_some_iff, Option.map_eq_some_iff] at hc
    obtain ⟨g', hg', ix, hx, iy, hy, rfl⟩ := hc
    have hv : VR j (g'.ev tm) (a.eval g) := EvR.of ht hr.globE g g' hg'
    simp only [IWP] at h
    split at h
    rotate_left
    · exact h.elim
    rename_i f first captured hev
    rw [hev] at hv
    have hsh : ∃ f2 c2 : Array Value, a.eval g = .func (.func f) f2 c2 ∧ VRs j first f2.toList ∧ VRs j captured c2.toList := by
      cases hq : a.eval g <;> rw [hq] at hv <;> first | (cases hv; done) | skip
      cases hv
      exact ⟨_, _, rfl, VRs.of_agg ‹_› ‹_›, VRs.of_agg ‹_› ‹_›⟩
    obtain ⟨f2, c2, hq, hf2, hc2⟩ := hsh
    have hps' : (ps.toList.all fun t => decide (t < N)) = true := by rw [Array.all_toList]; exact hps
    refine wpIn_rangeFunc fun fn _ => ?_
    let r0 : Loop := { state := .ready, pending := none, fn := fn, tmps := a.tmps, params := ps, assign := x, body := y, defers := w.heap.size }
    let wA : World := w.alloc (.deferred (some []))
    let w1 : World := wA.alloc (.loop r0)
    let l : Nat := w.heap.size + 1
    let o : Option IEx → AObj := fun e => .lrec fn N tm ps x y (e.map exC)
    have hA : Post P j H w j H wA := Post.below hr ((Below.refl w.heap.size w).alloc (Nat.le_refl _) _)
    have hszA : wA.heap.size = w.heap.size + 1 := World.size_alloc w _
    have hsz1 : w1.heap.size = w.heap.size + 2 := (World.size_alloc wA _).trans (by rw [hszA])
    have hB : Post P j H wA (j.add H.next (wA.heap.size, csize (.loop r0))) (H.new (o none)) w1 :=
      Post.new hA.rel rfl rfl rfl rfl ⟨rfl, rfl, rfl, rfl, rfl, rfl, ht.size, ht.tmps⟩
    have h1 := hA.trans hB
    have hjl : (j.add H.next (wA.heap.size, csize (.loop r0))) H.next = some (l, 0) := by rw [Inj.add_same, hszA]; rfl
    generalize hjL : j.add H.next (wA.heap.size, csize (.loop r0)) = jL at hB h1 hjl
    have hY : ∀ (H' : AH) (args : List AV) (K : AV → AH → Prop), H'.at_ H.next = some (o none) → args.length = ps.toList.length →
        IWP P ix (IPost.then (fun t1 H1 => IWP P iy (IPost.round o H.next K) t1 H1) IPost.none) (updl tm ps.toList args) (H'.set H.next none) → AYield P H.next args H' K := by
      intro H' args K hb hlen hwp j2 w2 c z cargs hr2 hj2 hv2
      obtain ⟨c', X, hc', hX, hO⟩ := hr2.obj H.next _ hb
      rw [hj2] at hc'
      have e1 : c = c' := by injection hc' with e; injection e
      have e2 : z = csize X := by injection hc' with e; injection e
      subst e1
      cases X with
      | loop r =>
        obtain ⟨q1, q2, q3, q4, q5, q6, q7, q8⟩ := hO
        have q1' : r.state = .ready := q1
        have hwr : H'.wr H.next := ⟨_, hb, rfl⟩
        have hsz : cargs.size = r.params.size := by
          rw [q4]
          have := hv2.1
          simp only [Array.length_toList] at this hlen
          omega
        have hid0 : Hid j2 (H'.set H.next none) c := hr2.hid_none (AH.live_of hb) hj2
        have hcw : c < w2.heap.size := (hr2.dom _ _ _ hj2).2
        have hp0 : Post P j2 H' w2 j2 (H'.set H.next none) w2 := (Post.refl hr2).gone _
        have ht0 : TR [] j2 N (updl tm ps.toList args) { tmps := (r.params.zip cargs).foldl (fun tmps (t, a) => tmps.setIfInBounds t a) r.tmps, defers := [] } := by
          have := updl_sound (N := N) ps.toList tm args cargs.toList r.tmps hps' (D := []) (j := j2) ⟨rfl, q7, q8⟩ hv2
          have e : (r.params.zip cargs).foldl (fun tmps (t, a) => tmps.setIfInBounds t a) r.tmps = (ps.toList.zip cargs.toList).foldl (fun tmps (t, a) => tmps.setIfInBounds t a) r.tmps := by
            rw [q4, ← Array.foldl_toList, Array.toList_zip]
          rw [e]; exact this
        refine ⟨r.fn, _, r.assign, r.body, run_yield hX hsz, ?_⟩
        rw [q5, q6]
        refine roundIn_of_wpIn (F := Fence.wide) trivial ?_
        show x.wpIn (wideR (some c)) 0 P _ _ w2
        refine wpIn_mono (iwp_sound hm x ix hx (some c) 0 (.inr hnx) _ 0 [] j2 _ _ _ w2 hwp ht0 (Marks.nil (Nat.zero_le _)) hp0.rel) ?_
        rintro e a1 w3 ⟨e', j3, t1, H1, D1, he, hq1, htr1, hmk1, hp1⟩
        have hcell1 : w3.heap[c]? = some (.loop r) := (hid0.same hcw hp1).trans hX
        have hid1 : Hid j3 H1 c := hid0.post hcw hp1
        have hcw3 : c < w3.heap.size := Nat.lt_of_lt_of_le hcw hp1.keeps.size
        cases he with
        | exit id => exact hq1.elim
        | ret => exact hq1.elim
        | normal =>
          refine ⟨_, run_beginRound hcell1 q1', ?_⟩
          have hpA : Post P j2 H' w2 j3 H1 (w3.putObj c (.loop { r with state := .busy })) := (hp0.trans hp1).hid_put hid1 (.inr ⟨H.next, z, hwr, hj2⟩)
          have hmkA : Marks 0 j3 H1 (w3.putObj c (.loop { r with state := .busy })) D1 := by
            obtain ⟨_, bs, k1, k2, k3⟩ := hmk1
            refine ⟨Nat.zero_le _, bs, k1, k2, fun b hb => ?_⟩
            obtain ⟨k4, k5, k6⟩ := k3 b hb
            have hne : b ≠ c := fun e => by rw [e, hcell1] at k5; cases k5
            exact ⟨k4, by rw [World.putObj_heap_other hne]; exact k5, k6⟩
          show y.wpIn (wideR (some c)) 0 P _ _ _
          refine wpIn_mono (iwp_sound hm y iy hy (some c) 0 (.inr hny) _ 0 D1 j3 t1 H1 a1 _ hq1 htr1 hmkA hpA.rel) ?_
          rintro e a2 w4 ⟨e', j4, t2, H2, D2, he, hq2, htr2, hmk2, hp2⟩
          have hsz3 : c < (w3.putObj c (.loop { r with state := .busy })).heap.size := by rw [World.putObj_size]; exact hcw3
          have hcell2 : w4.heap[c]? = some (.loop { r with state := .busy }) := (hid1.same hsz3 hp2).trans (World.putObj_heap_same hcw3)
          have hid2 : Hid j4 H2 c := hid1.post hsz3 hp2
          have hcw4 : c < w4.heap.size := Nat.lt_of_lt_of_le hsz3 hp2.keeps.size
          have hpB := hpA.trans hp2
          have hfin : ∀ (e : Option IEx), Post P j2 H' w2 j4 (H2.set H.next (some (o e))) (w4.putObj c (.loop { { r with state := LoopState.busy } with state := if (e.map exC).isNone then .ready else .done, pending := e.map exC })) := fun e =>
            (hpB.hid_put hid2 (.inr ⟨H.next, z, hwr, hj2⟩)).relay hwr hj2 hid2 (World.putObj_heap_same hcw4) e2.symm ⟨rfl, rfl, q3, q4, q5, q6, q7, fun t => (q8 t).mono (Inj.le_trans hp1.ext hp2.ext)⟩
          cases he with
          | normal => exact ⟨_, _, run_endRound none hcell2, .bool true, .bool true, j4, _, rfl, hq2, hfin none, .bool _⟩
          | ret => exact ⟨_, _, run_endRound (some .ret) hcell2, .bool false, .bool false, j4, _, rfl, hq2, hfin (some .ret), .bool _⟩
          | exit id => exact ⟨_, _, run_endRound (some (.exit id)) hcell2, .bool false, .bool false, j4, _, rfl, hq2, hfin (some (.exit id)), .bool _⟩
      | _ => exact hO.elim
    have hcall := h o (fun _ => rfl) hY
    have hvs : VRs jL (first ++ .yield H.next :: captured) ((f2 ++ #[Value.func (.yield l) #[] #[]]) ++ c2).toList := by
      rw [Array.toList_append, Array.toList_append, List.append_assoc]
      exact (hf2.mono h1.ext).append (.cons (.yield hjl) (hc2.mono h1.ext))
    refine ⟨l, [markOf w.heap.size], w1, { target := .fn (.func f) c2, args := f2 ++ #[Value.func (.yield l) #[] #[]] }, w1, f, (f2 ++ #[Value.func (.yield l) #[] #[]]) ++ c2, w1, run_enterLoop_outer fn a.tmps ps x y, ?_, fun _ _ => trivial, ?_, (fun h => nomatch h), ?_⟩
    · have he : a.eval (.const (.func (.yield l) #[] #[])) = .func (.yield l) #[] #[] := rfl
      simp only [resolve, rangeCall, hq, Deferred.ofValue, List.map_toArray, List.map_cons, List.map_nil, he, Sem.run_bind, Sem.run_pure, Result.andThen_ok]
    · exact run_callFunc hcall.1 _ w1
    refine callsIn_wideR ((hcall.2 jL w1 _ h1.rel hvs).mono ?_)
    rintro e w' ⟨v, vc, j', H', rfl, ⟨ex, hbx, hqx⟩, hp, hvr⟩
    obtain ⟨c', X, hc', hX, hO⟩ := hp.rel.obj H.next _ hbx
    have hext := hp.ext _ _ hjl
    rw [hext] at hc'
    have e1 : l = c' := by injection hc' with e; injection e
    subst e1
    cases X with
    | loop r =>
      obtain ⟨q1, q2, q3, q4, q5, q6, q7, q8⟩ := hO
      have hbusy : r.state ≠ .busy := by rw [q1]; split <;> (intro h; cases h)
      have hidl : Hid j' (H'.set H.next none) l := hp.rel.hid_none (AH.live_of hbx) hext
      have hpw : Post P j H w j' (H'.set H.next none) (w'.putObj l (.loop { r with state := .exhausted })) :=
        ((h1.trans hp).gone _).hid_put hidl (.inl (Nat.le_succ _))
      have hD0 : Hid jL (H.new (o none)) w.heap.size := by
        intro b z hl hb
        by_cases e : b = H.next
        · subst e
          rw [hjl] at hb
          have : l = w.heap.size := by injection hb with e; injection e
          exact absurd this (Nat.succ_ne_self _)
        · rw [← hjL, Inj.add_ne j _ e] at hb
          have := (hr.dom b _ _ hb).2
          omega
      have hD1 : w1.heap[w.heap.size]? = some (.deferred (some [])) := by
        have h1 : wA.heap[w.heap.size]? = some (.deferred (some [])) := World.alloc_heap_new w _
        have : w1.heap = wA.heap.push (.loop r0) := rfl
        rw [this, Array.getElem?_push, if_neg (by omega)]
        exact h1
      have hlt0 : w.heap.size < w1.heap.size := by omega
      have hmk' : Marks base j' (H'.set H.next none) (w'.putObj l (.loop { r with state := .exhausted })) (markOf w.heap.size :: D) := by
        obtain ⟨hs, bs, k1, k2, k3⟩ := hmk
        refine ⟨Nat.le_trans hs hpw.keeps.size, w.heap.size :: bs, by rw [k1]; rfl, ?_, ?_⟩
        · refine List.nodup_cons.2 ⟨fun hm => ?_, k2⟩
          have := (Array.getElem?_eq_some_iff.1 (k3 _ hm).2.1).1
          omega
        · intro b hb
          rcases List.mem_cons.1 hb with rfl | hb
          · refine ⟨hs, ?_, (hD0.post hlt0 hp).of_le fun a ha => ?_⟩
            · rw [World.putObj_heap_other (Nat.ne_of_lt (Nat.lt_succ_self _))]
              exact (hD0.same hlt0 hp).trans hD1
            · obtain ⟨q, hq⟩ := AH.live_obj ha
              exact AH.live_of (AH.set_none_le H' _ a q hq)
          · obtain ⟨k4, k5, k6⟩ := k3 b hb
            have hlt : b < w.heap.size := (Array.getElem?_eq_some_iff.1 k5).1
            exact ⟨k4, (k6.same hlt hpw).trans k5, k6.post hlt hpw⟩
      have htr' : TR (markOf w.heap.size :: D) j' N tm { a with defers := [markOf w.heap.size] ++ a.defers } :=
        ⟨by rw [ht.defers]; rfl, ht.size, fun t => (ht.tmps t).mono (Inj.le_trans h1.ext hp.ext)⟩
      refine ⟨r.pending, _, run_endLoop hX hbusy, ?_⟩
      generalize w'.putObj l (.loop { r with state := .exhausted }) = w4 at hpw hmk' ⊢
      rw [q2]
      cases ex with
      | none => exact ⟨.normal, j', tm, _, _, .normal, hqx, htr', hmk', hpw⟩
      | some e =>
        cases e with
        | normal => exact wpIn_skip ⟨.normal, j', tm, _, _, .normal, hqx, htr', hmk', hpw⟩
        | exit id => exact wpIn_exit ⟨.exit id, j', tm, _, _, .exit id, hqx, htr', hmk', hpw⟩
        | ret => exact wpIn_ret ⟨.ret, j', tm, _, _, .ret, hqx, htr', hmk', hpw⟩
    | _ => exact hO.elim
  | .scope _, ic, hc, _, _, _, _, _, _, _, _, _, _, _, h, _, _, _ => by cases hc; exact h.elim
  | .label _, ic, hc, _, _, _, _, _, _, _, _, _, _, _, h, _, _, _ => by cases hc; exact h.elim
  | .goto _, ic, hc, _, _, _, _, _, _, _, _, _, _, _, h, _, _, _ => by cases hc; exact h.elim
  | .refuse _, ic, hc, _, _, _, _, _, _, _, _, _, _, _, h, _, _, _ => by cases hc; exact h.elim

/-! ### Calls -/
inductive RV where
  | tmp (t : Nat)
  | cell (t : Nat) (n : Option Nat)
def compR (P : Program) : List ResultVar → Option (List RV)
  | [] => some []
  | .tmp t :: l => (compR P l).map (.tmp t :: ·)
  | .cell a t :: l => (aggP P t).bind fun n => (compR P l).map (.cell a n :: ·)
def resL (tm : Tms) (H : AH) : List RV → Option (List AV)
  | [] => some []
  | .tmp t :: l => (resL tm H l).map (tm t :: ·)
  | .cell t n :: l => match tm t with
    | .ptr b o => (loadC H b o n).bind fun v => (resL tm H l).map (v :: ·)
    | _ => none
def tupA : List AV → AV
  | [v] => v
  | vs => .tuple vs
def resA (tm : Tms) (H : AH) (rs : List RV) : Option AV := (resL tm H rs).map tupA
def resT (tmps : Array Value) : ResultVar → Sem Value
  | .tmp t => pure (tmps.getD t Go.undef)
  | .cell a t => do loadVar t (← asAddr (tmps.getD a Go.undef))
theorem resL_sound {D : List Deferred} {j : Inj} {tm : Tms} {H : AH} {a : Act} {w : World} (ht : TR D j N tm a) (hr : Rel P j H w) : ∀ (l : List ResultVar) (rs : List RV) (vs : List AV), compR P l = some rs → resL tm H rs = some vs →
    ∃ us : List Value, (l.mapM (resT a.tmps)).run P w = .ok us w ∧ VRs j vs us
  | [], rs, vs, hc, h => by
    cases hc; cases h
    exact ⟨[], rfl, .nil⟩
  | .tmp t :: l, rs, vs, hc, h => by
    simp only [compR, Option.map_eq_some_iff] at hc
    obtain ⟨rs', hrs, rfl⟩ := hc
    simp only [resL, Option.map_eq_some_iff] at h
    obtain ⟨vs', hvs, rfl⟩ := h
    obtain ⟨us, hus, hv⟩ := resL_sound ht hr l rs' vs' hrs hvs
    exact ⟨a.tmps.getD t Go.undef :: us, by simp [List.mapM_cons, resT, hus], .cons (ht.tmps t) hv⟩
  | .cell t ty :: l, rs, vs, hc, h => by
    simp only [compR, Option.bind_eq_some_iff, Option.map_eq_some_iff] at hc
    obtain ⟨n, hn, rs', hrs, rfl⟩ := hc
    simp only [resL] at h
    split at h
    · rename_i b o hb
      simp only [Option.bind_eq_some_iff, Option.map_eq_some_iff] at h
      obtain ⟨v, hv, vs', hvs, rfl⟩ := h
      obtain ⟨us, hus, hvr⟩ := resL_sound ht hr l rs' vs' hrs hvs
      have hp := ht.tmps t
      rw [hb] at hp
      obtain ⟨c, z, hpe, hc⟩ := hp.ptr_inv
      obtain ⟨u, hu, huv⟩ := run_loadVar hr hn hv hc
      exact ⟨u :: us, by simp only [List.mapM_cons, resT, hpe, asAddr, Sem.run_bind, Sem.run_pure, Result.andThen_ok, hu, hus], .cons huv hvr⟩
    · cases h

def tm0 (args : List AV) : Tms := fun t => args.getD t .undef
structure Fits (P : Program) (f : FuncId) (fn : Func) (ic : ICode) (rs : List RV) : Prop where
  follows : P.follows .mixedOrders = true
  func : P.funcs[f]? = some fn
  name : (fn.name != "runtime.NumGoroutine") = true
  body : (fn.body.bind (comp P fn.ntmps)) = some ic
  res : compR P fn.results.toList = some rs
def fnPost (rs : List RV) (Q : AV → AH → Prop) : IPost
  | .normal, tm, H => ∃ v, resA tm H rs = some v ∧ Q v H
  | .ret, tm, H => ∃ v, resA tm H rs = some v ∧ Q v H
  | .exit _, _, _ => False
theorem acall_of {f : FuncId} {fn : Func} {ic : ICode} {rs : List RV} (hf : Fits P f fn ic rs) {args : List AV} {H : AH} {Q : AV → AH → Prop} (hn : args.length ≤ fn.ntmps) (h : IWP P ic (fnPost rs Q) (tm0 args) H) : ACall P f args H Q := by
  obtain ⟨c, hb, hc⟩ := Option.bind_eq_some_iff.1 hf.body
  refine ⟨by simp only [bodyP, hf.func, hb, hf.name]; rfl, fun j w cargs hr hv => ?_⟩
  refine callsIn_wide (n := 0).1 (callsIn_of_wp_marks hf.func hb trivial ?_ rfl)
  have hsz := hv.size
  have ht : TR [] j fn.ntmps (tm0 args) { tmps := cargs ++ Array.replicate (fn.ntmps - cargs.size) Go.undef, defers := [] } := by
    refine ⟨rfl, by simp; omega, fun t => ?_⟩
    simp only [tm0]
    rw [Array.getD_eq_getD_getElem?]
    by_cases hlt : t < cargs.size
    · rw [Array.getElem?_append_left hlt, List.getD_eq_getElem?_getD]
      have hlt' : t < args.length := by omega
      obtain ⟨b, hb', hvr⟩ := hv.get (List.getElem?_eq_getElem hlt')
      have hb2 : cargs[t]? = some b := by simpa using hb'
      rw [hb2, List.getElem?_eq_getElem hlt']
      exact hvr
    · have h1 : args.getD t .undef = .undef := by rw [List.getD_eq_getElem?_getD, List.getElem?_eq_none (by omega)]; rfl
      have h2 : ((cargs ++ Array.replicate (fn.ntmps - cargs.size) Go.undef)[t]?).getD Go.undef = Go.undef := by
        rw [Array.getElem?_append_right (by omega), Array.getElem?_replicate]
        split <;> rfl
      rw [h1, h2]
      exact .undef
  show c.wpIn (wideR none) 0 P _ _ w
  refine wpIn_mono (iwp_sound hf.follows c ic hc none 0 (.inl rfl) _ w.heap.size [] j (tm0 args) H _ w h ht (Marks.nil (Nat.le_refl _)) hr) ?_
  let R : Ending → World → Prop := fun e w' => ∃ v vc j' H', e = .returned vc ∧ Q v H' ∧ Post P j H w j' H' w' ∧ VR j' v vc
  have fin : ∀ (D : List Deferred) (j' : Inj) (tm' : Tms) (H' : AH) (a' : Act) (w' : World), (∃ v, resA tm' H' rs = some v ∧ Q v H') → TR D j' fn.ntmps tm' a' → Post P j H w j' H' w' →
      LeavesIn Fence.wide 0 P fn a'.tmps R [] .returning w' := by
    rintro D j' tm' H' a' w' ⟨v, hv, hq⟩ htr hp
    simp only [resA, Option.map_eq_some_iff] at hv
    obtain ⟨vs, hvs, rfl⟩ := hv
    obtain ⟨us, hus, hvr⟩ := resL_sound htr hp.rel fn.results.toList rs vs hf.res hvs
    have hres : (results fn a'.tmps).run P w' = .ok (if h : us.toArray.size = 1 then us.toArray[0] else .tuple us.toArray) w' := by
      have e : results fn a'.tmps = (do
          let vs ← fn.results.mapM (resT a'.tmps)
          pure (if h : vs.size = 1 then vs[0] else .tuple vs)) := rfl
      rw [e, Sem.run_bind, Array.mapM_eq_mapM_toList]
      simp only [Sem.run_map, hus, Result.andThen_ok]
      rfl
    refine ⟨_, hres, tupA vs, _, j', H', rfl, hq, hp, ?_⟩
    match vs, us, hvr with
    | [], us, hvr =>
      rw [hvr.nil_right]
      exact .tuple_list .nil
    | [v], us, hvr =>
      obtain ⟨u, us', rfl, hu, hus'⟩ := hvr.cons_left
      rw [hus'.nil_right]
      exact hu
    | v1 :: v2 :: vs, us, hvr =>
      have hl := hvr.1
      have : ¬ us.toArray.size = 1 := by simp at hl ⊢; omega
      rw [dif_neg this]
      exact .tuple_list (by simpa using hvr)
  have finM : ∀ (a' : Act) (tm' : Tms) (D : List Deferred) (j' : Inj) (H' : AH), (∃ v, resA tm' H' rs = some v ∧ Q v H') → TR D j' fn.ntmps tm' a' → ∀ (bs : List Nat) (w' : World), Post P j H w j' H' w' → bs.Nodup →
      (∀ b ∈ bs, w.heap.size ≤ b ∧ w'.heap[b]? = some (.deferred (some [])) ∧ Hid j' H' b) → LeavesInM Fence.wide 0 P fn a'.tmps R (bs.map markOf) .returning w' := by
    intro a' tm' D j' H' hq htr bs
    induction bs with
    | nil => intro w' hp _ _; exact fin D j' tm' H' a' w' hq htr hp
    | cons b bs ih =>
      intro w' hp hnd hall
      obtain ⟨h1, h2, h3⟩ := hall b (List.mem_cons_self ..)
      refine ⟨by simp, .inl ⟨b, w'.putObj b (.deferred none), rfl, run_takeDeferred h2, ih _ (hp.hid_put h3 (.inl h1)) (List.nodup_cons.1 hnd).2 fun b' hb' => ?_⟩⟩
      obtain ⟨k1, k2, k3⟩ := hall b' (List.mem_cons_of_mem _ hb')
      have hne : b' ≠ b := fun e => (List.nodup_cons.1 hnd).1 (e ▸ hb')
      exact ⟨k1, by rw [World.putObj_heap_other hne]; exact k2, k3⟩
  rintro e a' w' ⟨e', j', tm', H', D', he, hq, htr, ⟨_, bs, hD, hnd, hall⟩, hp⟩
  have key : (∃ v, resA tm' H' rs = some v ∧ Q v H') → LeavesInM Fence.wide 0 P fn a'.tmps R a'.defers .returning w' := fun hq => by
    rw [htr.defers, hD]; exact finM a' tm' D' j' H' hq htr bs w' hp hnd hall
  cases he with
  | normal => exact key hq
  | ret => exact key hq
  | exit id => exact hq.elim
end
end Go.Proofs.YtcgkadfgojmmlaaDoor.Abs

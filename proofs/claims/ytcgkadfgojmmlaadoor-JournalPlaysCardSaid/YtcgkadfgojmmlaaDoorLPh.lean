/- A row of structs that hold rows, as a parameter; JournalPlays' walk. No condition. -/
import Derived.Test.YtcgkadfgojmmlaaDoorLPg
set_option linter.unusedVariables false
set_option linter.unusedSimpArgs false
set_option maxRecDepth 10000
set_option maxHeartbeats 4000000
namespace Go.Proofs.YtcgkadfgojmmlaaDoor.JN
open Go Go.RowKit Go.ChangeShapes Go.WideShapes Go.ChangeAt Go.Proofs.YtcgkadfgojmmlaaDoor Go.Proofs.YtcgkadfgojmmlaaDoor.Abs Go.Proofs.YtcgkadfgojmmlaaDoor.Ic Go.Proofs.YtcgkadfgojmmlaaDoor.EAs Go.Proofs.YtcgkadfgojmmlaaDoor.EErr Go.Proofs.YtcgkadfgojmmlaaDoor.DFn
abbrev tOps : Nat := 48
abbrev tRaws : Nat := 51
/-- A step, as the world has it. -/
structure OpV where
  ia : Option Addr
  il : Nat
  ic : Nat
  L : List (List AV)
  fu : Int
  op : Int
def OpAt (W : World) (x : Addr) (i : Nat) (o : OpV) : Prop := W.cell? (x.add (i * 3)) = some (.slice o.ia o.il o.ic) ∧ W.cell? (x.add (i * 3 + 1)) = some (.int .i64 o.fu) ∧ W.cell? (x.add (i * 3 + 2)) = some (.int .i64 o.op) ∧ IsFlat W [.int .i64, .int .i64] o.ia o.il o.ic o.L
def IsOps (W : World) (a : Option Addr) (len cap : Nat) (os : List OpV) : Prop :=
  (a = none ∧ len = 0 ∧ cap = 0 ∧ os = []) ∨ ∃ x, a = some x ∧ len ≤ cap ∧ cap ≤ maxLen ∧ os.length = cap ∧ ∀ i (h : i < os.length), OpAt W x i os[i]
section
variable {H : Type} {enc : TypeId × Value → H} {W : World} {base base' : Nat} {held : Bool}
theorem op_elem {n : Nat} {x : Addr} {i : Nat} {y : DataW H × List MemPlace} (h : (W.cells? base (x.add (i * Tryd.prog.cellsOf tOp)) (Tryd.prog.cellsOf tOp)).bind (DataW.trod enc Tryd.prog W base (fun _ => true) held n tOp) = some y) : ∃ o, OpAt W x i o := by
  have c3 : Tryd.prog.cellsOf tOp = 3 := by kernel_rfl
  rw [c3] at h
  obtain ⟨cs, h1, h2⟩ := Option.bind_eq_some_iff.1 h
  obtain ⟨h3, h4⟩ := cells_get h1
  obtain ⟨x0, x1, x2, rfl⟩ : ∃ x0 x1 x2, cs = [x0, x1, x2] := by
    match cs, h3 with
    | [a, b, c], _ => exact ⟨a, b, c, rfl⟩
  obtain ⟨xs, m, _, _, hlen, hxl, hel⟩ := DataW.trod_struct Tryd.underlying53 h2
  have hx3 : xs.length = 3 := hxl
  have g : ∀ i, i < 3 → ∃ y, xs[i]? = some y := fun i hi => ⟨_, List.getElem?_eq_getElem (by omega)⟩
  have cI : Tryd.prog.cellsOf 3 = 1 := by kernel_rfl
  have cL : Tryd.prog.cellsOf tRaws = 1 := by kernel_rfl
  obtain ⟨y0, g0⟩ := g 0 (by omega)
  obtain ⟨y1, g1⟩ := g 1 (by omega)
  obtain ⟨y2, g2⟩ := g 2 (by omega)
  have e0 : DataW.trod enc Tryd.prog W base (fun _ => true) held m tRaws (([x0, x1, x2].drop 0).take (Tryd.prog.cellsOf tRaws)) = xs[0]? := hel 0 _ rfl
  have e1 : DataW.trod enc Tryd.prog W base (fun _ => true) held m 3 (([x0, x1, x2].drop 1).take (Tryd.prog.cellsOf 3)) = xs[1]? := hel 1 _ rfl
  have e2 : DataW.trod enc Tryd.prog W base (fun _ => true) held m 3 (([x0, x1, x2].drop 2).take (Tryd.prog.cellsOf 3)) = xs[2]? := hel 2 _ rfl
  rw [cL, g0] at e0
  rw [cI, g1] at e1
  rw [cI, g2] at e2
  obtain ⟨fu, hfu, _⟩ := DataW.trod_int Tryd.underlying3 e1
  obtain ⟨op, hop, _⟩ := DataW.trod_int Tryd.underlying3 e2
  have hsl : ∃ a len cap, x0 = .slice a len cap := by
    rcases DataW.trod_slice Tryd.underlying51 e0 with ⟨hcs, _⟩ | ⟨a', len', cap', _, _, _, _, hcs, _⟩
    · injection hcs with h1; exact ⟨_, _, _, h1⟩
    · injection hcs with h1; exact ⟨_, _, _, h1⟩
  obtain ⟨a, len, cap, rfl⟩ := hsl
  obtain ⟨L, hL⟩ := open_flat (cks := [.int .i64, .int .i64]) Tryd.underlying51 (by kernel_rfl) (by kernel_rfl) e0
  injection hfu with hfu
  injection hop with hop
  refine ⟨⟨a, len, cap, L, fu, op⟩, ?_, ?_, ?_, hL⟩
  · have := h4 0 (by omega)
    rw [add_add] at this
    simpa using this
  · have := h4 1 (by omega)
    rw [add_add] at this
    rw [this]
    simp [hfu]
  · have := h4 2 (by omega)
    rw [add_add] at this
    rw [this]
    simp [hop]
theorem open_ops {fuel : Nat} {a : Option Addr} {len cap : Nat} {x : DataW H × List MemPlace} (h : DataW.trod enc Tryd.prog W base (fun _ => true) held fuel tOps [.slice a len cap] = some x) : ∃ os, IsOps W a len cap os := by
  rcases DataW.trod_slice Tryd.underlying48 h with ⟨hcs, _⟩ | ⟨a', len', cap', elems, rest, n, _, hcs, _, _, hl, hm, hlen, hel, hre, _⟩
  · simp at hcs
    obtain ⟨rfl, rfl, rfl⟩ := hcs
    exact ⟨[], .inl ⟨rfl, rfl, rfl, rfl⟩⟩
  · simp at hcs
    obtain ⟨rfl, rfl, rfl⟩ := hcs
    obtain ⟨hr1, hr2⟩ := hre rfl
    have key : ∀ i, i < cap → ∃ o, OpAt W a' i o := fun i hi => by
      by_cases hlt : i < len
      · exact op_elem ((hel i hlt).trans (List.getElem?_eq_getElem (by omega)))
      · have := hr2 (i - len) (by omega)
        rw [show len + (i - len) = i by omega] at this
        exact op_elem (this.trans (List.getElem?_eq_getElem (by omega)))
    let f : Nat → OpV := fun i => if hi : i < cap then Classical.choose (key i hi) else ⟨none, 0, 0, [], 0, 0⟩
    refine ⟨(List.range cap).map f, .inr ⟨a', rfl, hl, hm, by simp, fun i hi => ?_⟩⟩
    have hi' : i < cap := by simpa using hi
    have e : ((List.range cap).map f)[i] = Classical.choose (key i hi') := by simp [f, hi']
    rw [e]
    exact Classical.choose_spec (key i hi')
end
/-! ### The first heap, with the slices of one block told -/
def H3 (W : World) (tabs : Nat → Option AObj) (ov : Nat → Nat → Option AV) : AH := ⟨(H1 W tabs).next, fun b => match (H1 W tabs).at_ b with
  | some (.row g) => some (.row fun k => match g k with
    | some a => some a
    | none => ov b k)
  | o => o⟩
theorem H3_row {W : World} {tabs : Nat → Option AObj} {ov : Nat → Nat → Option AV} {b : Nat} {g : Nat → Option AV} (h : (H1 W tabs).at_ b = some (.row g)) : (H3 W tabs ov).at_ b = some (.row fun k => match g k with
    | some a => some a
    | none => ov b k) := by
  show (match (H1 W tabs).at_ b with
    | some (.row g) => some (AObj.row fun k => match g k with
      | some a => some a
      | none => ov b k)
    | o => o) = _
  rw [h]
theorem H3_oth {W : World} {tabs : Nat → Option AObj} {ov : Nat → Nat → Option AV} {b : Nat} {o : Option AObj} (h : (H1 W tabs).at_ b = o) (hn : ∀ g, o ≠ some (.row g)) : (H3 W tabs ov).at_ b = o := by
  show (match (H1 W tabs).at_ b with
    | some (.row g) => some (AObj.row fun k => match g k with
      | some a => some a
      | none => ov b k)
    | o => o) = _
  rw [h]
  split
  · exact absurd rfl (hn _)
  · rfl
theorem H3_load {W : World} {tabs : Nat → Option AObj} {ov : Nat → Nat → Option AV} {b k : Nat} {a : AV} (h : loadC (H1 W tabs) b k none = some a) : loadC (H3 W tabs ov) b k none = some a := by
  unfold loadC at h ⊢
  cases hb : (H1 W tabs).at_ b with
  | none => rw [hb] at h; cases h
  | some ob =>
    rw [hb] at h
    cases ob with
    | row g =>
      rw [H3_row hb]
      have h' : g k = some a := h
      simp only [h']
    | cells ro t cs => rw [H3_oth hb (by intro g e; cases e)]; exact h
    | map es n => cases h
    | iter s p => cases h
    | lrec _ _ _ _ _ _ _ => cases h
theorem H3_sf {W : World} {tabs : Nat → Option AObj} {ov : Nat → Nat → Option AV} {v : AV} {sz : Nat} {l : List (List AV)} (h : SF (H1 W tabs) v sz l) : SF (H3 W tabs ov) v sz l := by
  rcases h with h | ⟨b, o, h1, h2, h3⟩
  · exact .inl h
  · refine .inr ⟨b, o, h1, h2, fun i hi => ⟨(h3 i hi).1, fun q hq => ?_⟩⟩
    have e := (h3 i hi).1
    rw [List.getElem?_eq_getElem (by omega)]
    exact H3_load (by rw [(h3 i hi).2 q hq, List.getElem?_eq_getElem (by omega)])
theorem rel3 {P : Program} {W : World} {tabs : Nat → Option AObj} {ov : Nat → Nat → Option AV} (h : Rel P (j1 W) (H1 W tabs) W) (hov : ∀ b k a, ov b k = some a → ∃ v, W.cell? ⟨b, k, none⟩ = some v ∧ VR (j1 W) a v) : Rel P (j1 W) (H3 W tabs ov) W := by
  have live : ∀ a, (H3 W tabs ov).live a → (H1 W tabs).live a := fun a ha => by
    unfold AH.live at ha ⊢
    cases hb : (H1 W tabs).at_ a with
    | none => rw [H3_oth hb (by intro g e; cases e)] at ha; exact ha
    | some o => rfl
  refine ⟨h.dom, fun a b c y z ha hb l1 l2 => h.inj a b c y z ha hb (live _ l1) (live _ l2), fun a o ha => ?_, h.glob⟩
  cases hb : (H1 W tabs).at_ a with
  | none => rw [H3_oth hb (by intro g e; cases e)] at ha; cases ha
  | some ob =>
    obtain ⟨c, x, hc, hx, ho⟩ := h.obj a ob hb
    cases ob with
    | row g =>
      rw [H3_row hb] at ha
      cases ha
      refine ⟨c, x, hc, hx, ?_⟩
      cases x with
      | cells cs t fz =>
        intro i b hi
        have ho' : ∀ (i : Nat) a, g i = some a → ∃ v, cs[i]? = some v ∧ VR (j1 W) a v := ho
        cases hg : g i with
        | some b' =>
          simp only [hg] at hi
          cases hi
          exact ho' i _ hg
        | none =>
          simp only [hg] at hi
          obtain ⟨v, hv, hr⟩ := hov a i b hi
          obtain ⟨rfl, _⟩ := j1_some hc
          unfold World.cell? at hv
          simp [hx] at hv
          exact ⟨v, hv, hr⟩
      | _ => exact ho.elim
    | cells ro t cs => rw [H3_oth hb (by intro g e; cases e)] at ha; cases ha; exact ⟨c, x, hc, hx, ho⟩
    | map es n => rw [H3_oth hb (by intro g e; cases e)] at ha; cases ha; exact ⟨c, x, hc, hx, ho⟩
    | iter s p => rw [H3_oth hb (by intro g e; cases e)] at ha; cases ha; exact ⟨c, x, hc, hx, ho⟩
    | lrec _ _ _ _ _ _ _ => rw [H3_oth hb (by intro g e; cases e)] at ha; cases ha; exact ⟨c, x, hc, hx, ho⟩
theorem H3_ro {W : World} {tabs : Nat → Option AObj} {ov : Nat → Nat → Option AV} (h : ∀ a, ¬ (H1 W tabs).wr a) : ∀ a, ¬ (H3 W tabs ov).wr a := fun a ⟨o, ho, hr⟩ => by
  cases hb : (H1 W tabs).at_ a with
  | none => rw [H3_oth hb (by intro g e; cases e)] at ho; cases ho
  | some ob =>
    cases ob with
    | row g => rw [H3_row hb] at ho; cases ho; cases hr
    | cells ro t cs => rw [H3_oth hb (by intro g e; cases e)] at ho; cases ho; exact h a ⟨_, hb, hr⟩
    | map es n => rw [H3_oth hb (by intro g e; cases e)] at ho; cases ho; exact h a ⟨_, hb, hr⟩
    | iter s p => rw [H3_oth hb (by intro g e; cases e)] at ho; cases ho; exact h a ⟨_, hb, hr⟩
    | lrec _ _ _ _ _ _ _ => rw [H3_oth hb (by intro g e; cases e)] at ho; cases ho; exact h a ⟨_, hb, hr⟩
theorem walk3 {f : FuncId} {args : List AV} {cargs : Array Value} {W : World} (hsh : W.ShapedOpen Tryd.prog) (hG : ELaid.G W) {ov : Nat → Nat → Option AV} (hov : ∀ b k a, ov b k = some a → ∃ v, W.cell? ⟨b, k, none⟩ = some v ∧ VR (j1 W) a v)
    (h : ACall Tryd.prog f args (H3 W ELaid.tabs ov) fun v H' => v = .bool true ∧ H' = H3 W ELaid.tabs ov) (hv : VRs (j1 W) args cargs.toList) : Calls Tryd.prog f cargs W fun e W' => e = .returned (.bool true) ∧ Below W.heap.size W W' := by
  refine calls_true h (rel3 (rel1 hsh (by kernel_rfl) fun a o ht => ?_) hov) hv (H3_ro (H1_ro fun a o h => ?_))
  · obtain ⟨t, cs, x, _, h2, h3, _⟩ := ELaid.tabs_ok hsh hG a o ht
    exact ⟨x, h2, h3⟩
  · obtain ⟨t, cs, x, rfl, _⟩ := ELaid.tabs_ok hsh hG a o h
    rfl
/-! ### The script on the first heap -/
theorem raws_of {W : World} {a : Option Addr} {len cap : Nat} {L : List (List AV)} (h : IsFlat W [.int .i64, .int .i64] a len cap L) : ∃ rw : List (Int × Int), L.take len = rw.map rawRow := by
  have each := h.each
  have all : ∀ M : List (List AV), (∀ l ∈ M, ∃ r : Int × Int, l = rawRow r) → ∃ rw : List (Int × Int), M = rw.map rawRow := fun M => by
    induction M with
    | nil => intro _; exact ⟨[], rfl⟩
    | cons l M ih =>
      intro hM
      obtain ⟨r, rfl⟩ := hM l (by simp)
      obtain ⟨rw, rfl⟩ := ih fun q hq => hM q (by simp [hq])
      exact ⟨r :: rw, rfl⟩
  refine all _ fun l hl => ?_
  obtain ⟨h1, h2⟩ := each l (List.mem_of_mem_take hl)
  match l, h1 with
  | [x, y], _ =>
    obtain ⟨c0, e0, v0⟩ := h2 0 x rfl
    obtain ⟨c1, e1, v1⟩ := h2 1 y rfl
    cases e0
    cases e1
    obtain ⟨n, rfl, _⟩ := ck_int v0
    obtain ⟨m, rfl, _⟩ := ck_int v1
    exact ⟨(n, m), rfl⟩
theorem op_on {W : World} (hsh : W.ShapedOpen Tryd.prog) (hG : ELaid.G W) {x : Addr} {i : Nat} {o : OpV} (h : OpAt W x i o) : ∃ p : OpA, p.fu = o.fu ∧ p.op = o.op ∧ VR (j1 W) p.lv (.slice o.ia o.il o.ic) ∧ SF (H1 W ELaid.tabs) p.lv 2 (p.rw.map rawRow) := by
  obtain ⟨v, h1, h2⟩ := SF.of (ELaid.tabs_ok hsh hG) (by decide) h.2.2.2
  obtain ⟨rw, hr⟩ := raws_of h.2.2.2
  rw [hr] at h1
  exact ⟨⟨v, rw, o.fu, o.op⟩, rfl, rfl, h2, h1⟩
theorem tabs_no {W : World} (hsh : W.ShapedOpen Tryd.prog) (hG : ELaid.G W) {b k : Nat} {a : Option Addr} {l c : Nat} (hc : W.cell? ⟨b, k, none⟩ = some (.slice a l c)) : ELaid.tabs b = none := by
  cases ht : ELaid.tabs b with
  | none => rfl
  | some ob =>
    exfalso
    obtain ⟨t, cs, x, rfl, hx, ho, hsz⟩ := ELaid.tabs_ok hsh hG b ob ht
    unfold World.cell? at hc
    split at hc
    · rename_i d t' fz hx'
      simp at hc
      have hx' : W.heap[b]? = some (.cells d t' fz) := hx'
      rw [hx'] at hx
      cases hx
      have hlt : k < cs.length := by
        have := (Array.getElem?_eq_some_iff.1 hc).1
        have e : d.size = cs.length := hsz
        omega
      have hv := ho.2.2.1 k _ _ (List.getElem?_eq_getElem hlt) hc
      unfold ELaid.tabs at ht
      split at ht
      · cases ht
        simp at hlt
        subst hlt
        simp at hv
        cases hv
      · split at ht
        · injection ht with ht
          injection ht with _ _ ht
          subst ht
          simp only [List.getElem_map] at hv
          cases hv
        · cases ht
    · cases hc
theorem ops_arg {W : World} (hsh : W.ShapedOpen Tryd.prog) (hG : ELaid.G W) {a : Option Addr} {len cap : Nat} {os : List OpV} (h : IsOps W a len cap os) : ∃ (ov : Nat → Nat → Option AV) (v : AV) (ops : List OpA),
    (∀ b k a, ov b k = some a → ∃ v, W.cell? ⟨b, k, none⟩ = some v ∧ VR (j1 W) a v) ∧ OpsOk (H3 W ELaid.tabs ov) v ops ∧ VR (j1 W) v (.slice a len cap) := by
  have none_ : ∀ b k a, (fun (_ _ : Nat) => (none : Option AV)) b k = some a → ∃ v, W.cell? ⟨b, k, none⟩ = some v ∧ VR (j1 W) a v := fun _ _ _ h => by cases h
  rcases h with ⟨rfl, rfl, rfl, rfl⟩ | ⟨x, rfl, hle, _, hl, hc⟩
  · exact ⟨fun _ _ => none, .snil, [], none_, ⟨.inl ⟨rfl, .inl rfl⟩, by simp⟩, .snil⟩
  by_cases h0 : len = 0
  · subst h0
    exact ⟨fun _ _ => none, .sempty, [], none_, ⟨.inl ⟨rfl, .inr rfl⟩, by simp⟩, .sempty⟩
  have hcap : 0 < cap := by omega
  have at_ : ∀ i (hi : i < cap), ∃ o, OpAt W x i o := fun i hi => ⟨_, hc i (by omega)⟩
  have key : ∀ i (hi : i < cap), ∃ p : OpA, ∃ o : OpV, OpAt W x i o ∧ p.fu = o.fu ∧ p.op = o.op ∧ VR (j1 W) p.lv (.slice o.ia o.il o.ic) ∧ SF (H1 W ELaid.tabs) p.lv 2 (p.rw.map rawRow) := fun i hi => by
    obtain ⟨o, ho⟩ := at_ i hi
    obtain ⟨p, h1, h2, h3, h4⟩ := op_on hsh hG ho
    exact ⟨p, o, ho, h1, h2, h3, h4⟩
  have hspot : x.spot = none := by
    obtain ⟨o, ho⟩ := at_ 0 hcap
    have hv := ho.1
    rw [show x.add (0 * 3) = x from by unfold Addr.add; simp] at hv
    cases hsp : x.spot with
    | none => rfl
    | some q =>
      unfold World.cell? at hv
      split at hv
      · rw [hsp] at hv
        simp at hv
      · cases hv
  obtain ⟨b, o, sp⟩ := x
  cases hspot
  have hadd : ∀ i, (⟨b, o, none⟩ : Addr).add i = ⟨b, o + i, none⟩ := fun i => by
    unfold Addr.add
    split
    · rename_i h; subst h; rfl
    · rfl
  let p : Nat → OpA := fun i => if hi : i < cap then Classical.choose (key i hi) else ⟨.snil, [], 0, 0⟩
  have hp : ∀ i (hi : i < cap), ∃ o' : OpV, OpAt W ⟨b, o, none⟩ i o' ∧ (p i).fu = o'.fu ∧ (p i).op = o'.op ∧ VR (j1 W) (p i).lv (.slice o'.ia o'.il o'.ic) ∧ SF (H1 W ELaid.tabs) (p i).lv 2 ((p i).rw.map rawRow) := fun i hi => by
    have e : p i = Classical.choose (key i hi) := by simp [p, hi]
    rw [e]
    exact Classical.choose_spec (key i hi)
  let ov : Nat → Nat → Option AV := fun b' k => if b' = b ∧ o ≤ k ∧ (k - o) % 3 = 0 ∧ (k - o) / 3 < cap then some (p ((k - o) / 3)).lv else none
  have hov : ∀ b k a, ov b k = some a → ∃ v, W.cell? ⟨b, k, none⟩ = some v ∧ VR (j1 W) a v := fun b' k a h => by
    simp only [ov] at h
    split at h
    · rename_i hh
      obtain ⟨rfl, h1, h2, h3⟩ := hh
      cases h
      obtain ⟨o', q1, _, _, q4, _⟩ := hp _ h3
      have q0 := q1.1
      rw [hadd, show o + (k - o) / 3 * 3 = k by omega] at q0
      exact ⟨_, q0, q4⟩
    · cases h
  have hovi : ∀ i, i < cap → ov b (o + i * 3) = some (p i).lv := fun i hi => by
    simp only [ov]
    rw [if_pos ⟨trivial, by omega, by omega, by omega⟩]
    congr 3
    omega
  have hnt : ELaid.tabs b = none := by
    obtain ⟨o', q1, _⟩ := hp 0 hcap
    have q0 := q1.1
    rw [hadd] at q0
    exact tabs_no hsh hG q0
  obtain ⟨z, hz1, hzle, hrow⟩ : ∃ z, j1 W b = some (b, z) ∧ o + cap * 3 ≤ z ∧ (H1 W ELaid.tabs).at_ b = some (.row (rowOf W b)) := by
    obtain ⟨o', q1, _⟩ := hp (cap - 1) (by omega)
    have hv := q1.2.2.1
    rw [hadd] at hv
    unfold World.cell? at hv
    split at hv
    · rename_i c t fz hx
      have hx : W.heap[b]? = some (.cells c t fz) := hx
      simp at hv
      refine ⟨c.size, by unfold j1; rw [hx]; rfl, ?_, ?_⟩
      · have := (Array.getElem?_eq_some_iff.1 hv).1
        omega
      · show obj1 W ELaid.tabs b = _
        unfold obj1
        rw [hnt, hx]
    · cases hv
  refine ⟨ov, .slice b o len 3, (List.range len).map p, hov, ⟨.inr ⟨b, o, by simp, ?_, fun i hi => ⟨?_, fun q hq => ?_⟩⟩, fun o' ho' => ?_⟩, .slice hz1 hle hzle⟩
  · intro e
    have : len = 0 := by simpa using congrArg List.length e
    exact h0 this
  · simp [opRow]
  · have hi' : i < len := by simpa using hi
    obtain ⟨o', q1, q2, q3, _, _⟩ := hp i (by omega)
    obtain ⟨c0, c1, c2, _⟩ := q1
    rw [hadd] at c0 c1 c2
    have hovi' := hovi i (by omega)
    have hr : ∀ k, loadC (H3 W ELaid.tabs ov) b k none = match rowOf W b k with
      | some a => some a
      | none => ov b k := fun k => by unfold loadC; rw [H3_row hrow]
    simp only [List.getElem_map, List.getElem_range, opRow]
    match q, hq with
    | 0, _ =>
      rw [hr]
      have : rowOf W b (o + (i * 3 + 0)) = none := by unfold rowOf; rw [Nat.add_zero, c0]; rfl
      rw [this]
      exact hovi'
    | 1, _ =>
      rw [hr]
      have : rowOf W b (o + (i * 3 + 1)) = some (.int .i64 o'.fu) := by unfold rowOf; rw [c1]; rfl
      rw [this, q2]
      rfl
    | 2, _ =>
      rw [hr]
      have : rowOf W b (o + (i * 3 + 2)) = some (.int .i64 o'.op) := by unfold rowOf; rw [c2]; rfl
      rw [this, q3]
      rfl
  · obtain ⟨i, hi, rfl⟩ := List.mem_map.1 ho'
    have hil : i < len := by simpa using hi
    obtain ⟨_, _, _, _, _, h5⟩ := hp i (by omega)
    exact H3_sf h5
theorem JournalPlays.walk (a0 : Option Addr) (l0 c0 : Nat) (os : List OpV) (W : World) (hsh : W.ShapedOpen Tryd.prog) (hG : ELaid.G W) (h0 : IsOps W a0 l0 c0 os) :
    Calls Tryd.prog 6 #[.slice a0 l0 c0] W fun e W' => e = .returned (.bool true) ∧ Below W.heap.size W W' := by
  obtain ⟨ov, v, ops, h1, h2, h3⟩ := ops_arg hsh hG h0
  exact walk3 hsh hG h1 (PlaysC rfl fits6 (by simp) (H3_load (ELaid.H1_err W)) h2) (.cons h3 .nil)
end Go.Proofs.YtcgkadfgojmmlaaDoor.JN

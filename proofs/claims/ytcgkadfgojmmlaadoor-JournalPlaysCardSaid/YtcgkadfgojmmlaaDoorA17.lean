/- A region that draws its order comes to what the canonical order comes to. No condition. -/
import Derived.Test.YtcgkadfgojmmlaaDoorA16
import Derived.Orders
set_option linter.unusedVariables false
set_option linter.unusedSimpArgs false
namespace Go.Proofs.YtcgkadfgojmmlaaDoor.Abs
open Go Go.RowKit

def IOpd.tmps : IOpd → List Nat
  | .tmp t => [t]
  | .const _ => []
def NOp.opds : NOp → List IOpd
  | .mv x | .un _ x | .wrap _ x | .same x | .b2s x | .s2b _ x | .faddr x _ | .fld x _ _ | .ext x _ | .mki _ x | .lens x | .len x | .lenm x | .nilck x | .tas _ _ _ x | .tasi _ _ _ x | .load _ x | .box _ x => [x]
  | .pick c a b => [c, a, b]
  | .bin _ x y | .eq _ _ x y | .eqs _ _ x y | .idxs x y | .idxa _ _ _ x y | .iaddr _ x y | .iaddra _ _ x y | .lkp _ _ x y | .mks _ _ _ _ x y => [x, y]
  | .bld _ ps => ps.map (·.2.2)
  | .slc _ x lo hi m | .sarr _ _ x lo hi m => x :: (lo.toList ++ hi.toList ++ m.toList)
  | .sstr x lo hi => x :: (lo.toList ++ hi.toList)
  | .mkf _ f c => f ++ c
  | .mx l | .mn l => l
  | .bsl _ _ _ _ ps => ps.map (·.2)
  | .new _ _ | .mkm => []
def EOp.opds : EOp → List IOpd
  | .store _ x v => [x, v]
  | .call _ l => l
  | .callv x l => x :: l
  | .invoke _ x l => x :: l
  | .xcall _ l => l
  | .never => []
  | .append _ _ _ _ s x => [s, x]
  | .copy _ d s => [d, s]
  | .clear _ _ x => [x]
  | .cap x => [x]
  | .mapset m k v => [m, k, v]
def NOp.reads : NOp → Bool
  | .load _ _ | .lkp _ _ _ _ | .lenm _ | .b2s _ | .sarr _ _ _ _ _ _ => true
  | _ => false
def NOp.allocs : NOp → Bool
  | .new _ _ | .box _ _ | .bsl _ _ _ _ _ | .mks _ _ _ _ _ _ | .s2b _ _ | .mkm => true
  | _ => false
def touches : AV → Option Nat
  | .ptr b _ => some b
  | .slice b _ _ _ => some b
  | .map b => some b
  | _ => none
theorem touches_dom {j : Inj} {a : AV} {v : Value} {b : Nat} (h : VR j a v) (ht : touches a = some b) : ∃ c, j b = some c := by
  cases h <;> simp only [touches] at ht <;> first | (cases ht; done) | (cases ht; exact ⟨_, ‹_›⟩)

theorem optI_congr {ev ev' : IOpd → AV} {x : Option IOpd} (h : ∀ y ∈ x.toList, ev y = ev' y) : optI ev x = optI ev' x := by
  cases x with
  | none => rfl
  | some y => simp only [optI, h y (by simp)]
theorem nop_congr {ev ev' : IOpd → AV} {H : AH} {id : Nat} {no : NOp} (h : ∀ x ∈ no.opds, ev x = ev' x) : nop ev H id no = nop ev' H id no := by
  cases no <;> simp only [NOp.opds, List.mem_cons, List.not_mem_nil, or_false, forall_eq_or_imp, forall_eq, false_implies, implies_true] at h <;> simp only [nop] <;> first
    | (simp only [h]; done)
    | skip
  · rename_i zero ps
    have e : (ps.map fun x => match x with | (o, s, x) => (o, s, ev x)) = ps.map fun x => match x with | (o, s, x) => (o, s, ev' x) := by
      apply List.map_congr_left
      rintro ⟨o, s, x⟩ hx
      simp only [Prod.mk.injEq, true_and]
      exact h x (List.mem_map.2 ⟨_, hx, rfl⟩)
    rw [e]
  · rename_i size x lo hi mx
    obtain ⟨h0, h1⟩ := h
    rw [optI_congr (x := lo) (fun y hy => h1 y (List.mem_append.2 (.inl (List.mem_append.2 (.inl hy))))), optI_congr (x := hi) (fun y hy => h1 y (List.mem_append.2 (.inl (List.mem_append.2 (.inr hy))))), optI_congr (x := mx) (fun y hy => h1 y (List.mem_append.2 (.inr hy))), h0]
  · rename_i x lo hi
    obtain ⟨h0, h1⟩ := h
    rw [optI_congr (x := lo) (fun y hy => h1 y (List.mem_append.2 (.inl hy))), optI_congr (x := hi) (fun y hy => h1 y (List.mem_append.2 (.inr hy))), h0]
  · rename_i n size x lo hi mx
    obtain ⟨h0, h1⟩ := h
    rw [optI_congr (x := lo) (fun y hy => h1 y (List.mem_append.2 (.inl (List.mem_append.2 (.inl hy))))), optI_congr (x := hi) (fun y hy => h1 y (List.mem_append.2 (.inl (List.mem_append.2 (.inr hy))))), optI_congr (x := mx) (fun y hy => h1 y (List.mem_append.2 (.inr hy))), h0]
  · rename_i fn f c
    rw [List.map_congr_left (fun x hx => h x (List.mem_append.2 (.inl hx))), List.map_congr_left (fun x hx => h x (List.mem_append.2 (.inr hx)))]
  · rw [List.map_congr_left h]
  · rw [List.map_congr_left h]
  · rename_i t size len zero ps
    have e : (ps.map fun x => match x with | (o, x) => (o * size, size, ev x)) = ps.map fun x => match x with | (o, x) => (o * size, size, ev' x) := by
      apply List.map_congr_left
      rintro ⟨o, x⟩ hx
      simp only [Prod.mk.injEq, true_and]
      exact h x (List.mem_map.2 ⟨_, hx, rfl⟩)
    rw [e]
theorem estep_congr {P : Program} {ev ev' : IOpd → AV} {H : AH} {K : AV → AH → Prop} {eo : EOp} (h : ∀ x ∈ eo.opds, ev x = ev' x) : estep P ev H K eo = estep P ev' H K eo := by
  cases eo <;> simp only [EOp.opds, List.mem_cons, List.not_mem_nil, or_false, forall_eq_or_imp, forall_eq] at h <;> simp only [estep]
  · simp only [h]
  · rw [List.map_congr_left h]
  · rw [h.1, List.map_congr_left h.2]
  · rw [h.1, List.map_congr_left h.2]
  · rw [List.map_congr_left h]
  · simp only [h]
  · simp only [h]
  · simp only [h]
  · simp only [h]
  · simp only [h]
theorem nop_alloc {ev : IOpd → AV} {H : AH} {id : Nat} {no : NOp} {v : AV} {b : Option AObj} (h : nop ev H id no = some (v, b)) : b.isSome = no.allocs := by
  cases no <;> simp only [nop, NOp.allocs, Option.map_eq_some_iff, Option.bind_eq_some_iff] at h ⊢
  all_goals first
    | (cases h; rfl)
    | (obtain ⟨_, _, h⟩ := h; cases h; rfl)
    | skip
  all_goals (repeat' (split at h))
  all_goals (try simp only [Option.map_eq_some_iff, Option.bind_eq_some_iff] at h)
  all_goals first
    | (cases h; done)
    | (cases h; rfl)
    | (obtain ⟨_, _, h⟩ := h; cases h; rfl)
    | (obtain ⟨_, _, _, _, h⟩ := h; cases h; rfl)
    | (obtain ⟨_, _, _, _, _, _, h⟩ := h; cases h; rfl)
    | (obtain ⟨_, _, _, _, _, _, _, _, h⟩ := h; cases h; rfl)
    | (obtain ⟨_, _, _, _, h⟩ := h; cases h; done)
    | (obtain ⟨_, _, _, _, _, _, h⟩ := h; cases h; done)
theorem nop_id {ev : IOpd → AV} {H : AH} {id id' : Nat} {no : NOp} (h : no.allocs = false) : nop ev H id no = nop ev H id' no := by
  cases no <;> first | rfl | cases h
/-- What a quiet step answers hangs on the blocks that its operands lead to. -/
theorem loadC_at {H H' : AH} {b o : Nat} {n : Option Nat} {v : AV} (h : loadC H b o n = some v) (hh : ∀ q, H.at_ b = some q → H'.at_ b = some q) : loadC H' b o n = some v := by
  cases n <;> simp only [loadC] at h ⊢
  all_goals
    split at h
    · rename_i ro t cs hb
      rw [hh _ hb]
      exact h
    · rename_i g hb
      rw [hh _ hb]
      exact h
    · cases h
theorem b2sA_at {H H' : AH} {a v : AV} (h : b2sA H a = some v) (hh : ∀ c, touches a = some c → ∀ q, H.at_ c = some q → H'.at_ c = some q) : b2sA H' a = some v := by
  cases a <;> simp only [b2sA] at h ⊢ <;> first | exact h | skip
  split at h
  · rename_i cs hl
    rw [loadC_at hl (hh _ rfl)]
    exact h
  · cases h
theorem nop_at {ev : IOpd → AV} {H H' : AH} {id : Nat} {no : NOp} {v : AV} {b : Option AObj} (h : nop ev H id no = some (v, b)) (hh : ∀ x ∈ no.opds, ∀ c, touches (ev x) = some c → ∀ q, H.at_ c = some q → H'.at_ c = some q) : nop ev H' id no = some (v, b) := by
  cases no <;> first
    | exact h
    | skip
  · rename_i x
    simp only [nop, Option.map_eq_some_iff] at h ⊢
    obtain ⟨r, hb, h⟩ := h
    exact ⟨r, b2sA_at hb (hh x (by simp [NOp.opds])), h⟩
  · rename_i n size x lo hi mx
    have hx := hh x (by simp [NOp.opds])
    simp only [nop, Option.bind_eq_some_iff] at h ⊢
    obtain ⟨l, hl, hi', hhi, m, hm, h⟩ := h
    refine ⟨l, hl, hi', hhi, m, hm, ?_⟩
    split at h
    · rename_i bb o hev
      rw [hev] at hx
      split at h
      · rename_i q hq
        rw [loadC_at hq (hx _ rfl)]
        exact h
      · cases h
    · cases h
  · rename_i x
    have hx := hh x (by simp [NOp.opds])
    simp only [nop] at h ⊢
    split at h
    · exact h
    · rename_i bb hev
      rw [hev] at hx
      split at h
      · rename_i es clock hb
        rw [hx _ rfl _ hb]
        exact h
      · cases h
    · cases h
  · rename_i n x
    have hx := hh x (by simp [NOp.opds])
    simp only [nop] at h ⊢
    split at h
    · rename_i bb o hev
      rw [hev] at hx
      simp only [Option.map_eq_some_iff] at h ⊢
      obtain ⟨r, hb, h⟩ := h
      exact ⟨r, loadC_at hb (hx _ rfl), h⟩
    · cases h
  · rename_i zero ok x key
    have hx := hh x (by simp [NOp.opds])
    simp only [nop, Option.map_eq_some_iff] at h ⊢
    obtain ⟨r, hb, h⟩ := h
    refine ⟨r, ?_, h⟩
    revert hx hb
    generalize ev x = X
    intro hx hb
    unfold lkpA at hb ⊢
    split at hb
    · exact hb
    · rename_i b k n hkey
      split at hb
      · rename_i es clock hq
        have := hx _ rfl _ hq
        simp only [this]
        exact hb
      · cases hb
    · cases hb
theorem nop_pure {ev : IOpd → AV} {H H' : AH} {id : Nat} {no : NOp} (h : no.reads = false) : nop ev H id no = nop ev H' id no := by
  cases no <;> first | rfl | cases h

/-! ### The order that the edges force -/
inductive Anc (ops : Array Oper) : Nat → Nat → Prop
  | edge {i j : Nat} {o : Oper} {e : Edge} (ho : ops[j]? = some o) (he : e ∈ o.after) (hb : Region.binds .any e = true) (hi : e.on = i) : Anc ops i j
  | step {i k j : Nat} {o : Oper} {e : Edge} (h : Anc ops i k) (ho : ops[j]? = some o) (he : e ∈ o.after) (hb : Region.binds .any e = true) (hk : e.on = k) : Anc ops i j
def ancEdges (acc : List Nat) (s : Nat) : List Edge → Nat
  | [] => s
  | e :: es => ancEdges acc (if Region.binds .any e then (s ||| 2 ^ e.on) ||| acc.getD e.on 0 else s) es
def ancGo (acc : List Nat) : List Oper → List Nat
  | [] => acc
  | o :: os => ancGo (acc ++ [ancEdges acc 0 o.after.toList]) os
/-- The bits of those that stand ahead. -/
def ancM (ops : Array Oper) : List Nat := ancGo [] ops.toList
def ancB (M : List Nat) (i j : Nat) : Bool := (M.getD j 0).testBit i
theorem ancEdges_sound {ops : Array Oper} {acc : List Nat} {j : Nat} {o : Oper} (ho : ops[j]? = some o) (hacc : ∀ k i, (acc.getD k 0).testBit i = true → Anc ops i k) : ∀ (es : List Edge) (s : Nat), (∀ e ∈ es, e ∈ o.after) → (∀ i, s.testBit i = true → Anc ops i j) →
    ∀ i, (ancEdges acc s es).testBit i = true → Anc ops i j
  | [], s, _, hs, i, h => hs i h
  | e :: es, s, hes, hs, i, h => by
    refine ancEdges_sound ho hacc es _ (fun e' he' => hes e' (List.mem_cons_of_mem _ he')) ?_ i h
    intro i hi
    split at hi
    · rename_i hb
      rw [Nat.testBit_or, Nat.testBit_or, Bool.or_eq_true, Bool.or_eq_true] at hi
      rcases hi with (hi | hi) | hi
      · exact hs i hi
      · rw [Nat.testBit_two_pow] at hi
        exact .edge ho (hes e (List.mem_cons_self ..)) hb (by simpa using hi)
      · exact .step (hacc _ _ hi) ho (hes e (List.mem_cons_self ..)) hb rfl
    · exact hs i hi
theorem ancGo_sound {ops : Array Oper} : ∀ (os : List Oper) (acc : List Nat), (∀ k, os[k]? = ops[acc.length + k]?) → (∀ k i, (acc.getD k 0).testBit i = true → Anc ops i k) → ∀ k i, ((ancGo acc os).getD k 0).testBit i = true → Anc ops i k
  | [], acc, _, hacc, k, i, h => hacc k i h
  | o :: os, acc, hos, hacc, k, i, h => by
    have ho : ops[acc.length]? = some o := by have := hos 0; simpa using this.symm
    refine ancGo_sound os _ (fun k => ?_) (fun k i hk => ?_) k i h
    · have := hos (k + 1)
      simp only [List.length_append, List.length_cons, List.length_nil]
      rw [show acc.length + (0 + 1) + k = acc.length + (k + 1) by omega, ← this]
      simp
    · by_cases hlt : k < acc.length
      · rw [List.getD_eq_getElem?_getD, List.getElem?_append_left hlt, ← List.getD_eq_getElem?_getD] at hk
        exact hacc k i hk
      · by_cases he : k = acc.length
        · subst he
          rw [List.getD_eq_getElem?_getD, List.getElem?_append_right (Nat.le_refl _)] at hk
          simp only [Nat.sub_self, List.getElem?_cons_zero, Option.getD_some] at hk
          exact ancEdges_sound ho hacc o.after.toList 0 (fun e he => by simpa using he) (fun i hi => by simp at hi) i hk
        · rw [List.getD_eq_getElem?_getD, List.getElem?_eq_none (by simp; omega)] at hk
          simp at hk
theorem ancB_sound {ops : Array Oper} {i j : Nat} (h : ancB (ancM ops) i j = true) : Anc ops i j :=
  ancGo_sound ops.toList [] (fun k => by simp) (fun k i h => by simp at h) j i h

def Done (listed : Array Bool) (i : Nat) : Prop := listed.getD i false = true
def Closed (ops : Array Oper) (S : Nat → Prop) : Prop := ∀ j o, S j → ops[j]? = some o → ∀ e ∈ o.after, Region.binds .any e = true → S e.on
theorem Closed.anc {ops : Array Oper} {S : Nat → Prop} (h : Closed ops S) {i j : Nat} (ha : Anc ops i j) : (∀ o, ops[j]? = some o → ∀ e ∈ o.after, Region.binds .any e = true → S e.on) → S i := by
  induction ha with
  | edge ho he hb hi => intro hj; subst hi; exact hj _ ho _ he hb
  | step h' ho he hb hk ih =>
    intro hj
    subst hk
    have hs := hj _ ho _ he hb
    exact ih (fun o ho' e he' hb' => h _ o hs ho' e he' hb')
theorem Closed.of_mem {ops : Array Oper} {S : Nat → Prop} (h : Closed ops S) {i j : Nat} (ha : Anc ops i j) (hj : S j) : S i := h.anc ha (fun o ho e he hb => h j o hj ho e he hb)
end Go.Proofs.YtcgkadfgojmmlaaDoor.Abs
set_option linter.unusedVariables false
set_option linter.unusedSimpArgs false
namespace Go.Proofs.YtcgkadfgojmmlaaDoor.Abs
open Go Go.RowKit

inductive NE where
  | n (o : NOp)
  | e (o : EOp)
  deriving Inhabited
structure DOp where
  dst : Option Nat
  g : Guard
  op : NE
  deriving Inhabited
def NE.opds : NE → List IOpd
  | .n o => o.opds
  | .e o => o.opds
def guardT : Guard → List Nat
  | none => []
  | some (g, _) => [g]
def DOp.looks (d : DOp) : List Nat := guardT d.g ++ d.op.opds.flatMap IOpd.tmps
def constOk (G : Nat) : IOpd → Bool
  | .tmp _ => true
  | .const v => match touches v with
    | some c => decide (c < G)
    | none => true
def compDOp (P : Program) (N : Nat) (ops : Array Oper) (o : Oper) : Option DOp :=
  if dstOk N o.dst then (compG N ops o.guard).bind fun g => match compN P o.op with
    | some no => if no.opds.all (constOk P.globals.size) then some ⟨o.dst, g, .n no⟩ else none
    | none => (compE P o.op).map fun eo => ⟨o.dst, g, .e eo⟩
  else none
def compDOps (P : Program) (N : Nat) (ops : Array Oper) : List Oper → Option (List DOp)
  | [] => some []
  | o :: os => (compDOp P N ops o).bind fun d => (compDOps P N ops os).map (d :: ·)
theorem compDOps_get {P : Program} {N : Nat} {ops : Array Oper} : ∀ {os : List Oper} {D : List DOp}, compDOps P N ops os = some D → D.length = os.length ∧ ∀ (i : Nat) (d : DOp), D[i]? = some d → ∃ o, os[i]? = some o ∧ compDOp P N ops o = some d
  | [], D, h => by cases h; exact ⟨rfl, fun i d hd => by simp at hd⟩
  | o :: os, D, h => by
    simp only [compDOps, Option.bind_eq_some_iff, Option.map_eq_some_iff] at h
    obtain ⟨d, hd, D', hD', rfl⟩ := h
    obtain ⟨h1, h2⟩ := compDOps_get hD'
    refine ⟨by simp [h1], fun i d' hi => ?_⟩
    cases i with
    | zero => simp at hi; subst hi; exact ⟨o, rfl, hd⟩
    | succ i => simp at hi; simpa using h2 i d' hi

def dstOf (D : List DOp) (k : Nat) : Option Nat := (D[k]?).bind (·.dst)
def isE (D : List DOp) (k : Nat) : Bool :=
  match D[k]? with
  | some d => match d.op with
    | .e _ => true
    | .n _ => false
  | none => false
def conflict (a b : DOp) : Bool :=
  (match a.dst with
    | some d => b.looks.contains d || b.dst == some d
    | none => false) ||
  (match b.dst with
    | some d => a.looks.contains d
    | none => false)

inductive DStep where
  | op (i : Nat)
  | late (i : Nat)
  | act (i : Nat)
  deriving Inhabited

def predsIn (ops : Array Oper) (Cd : List Nat) (i : Nat) : Bool :=
  match ops[i]? with
  | some o => o.after.all fun e => !Region.binds .any e || Cd.contains e.on
  | none => false
def mayCome (ops : Array Oper) (D : List DOp) (M : List Nat) (Cd : List Nat) (i : Nat) (d : DOp) : Bool :=
  !Cd.contains i && predsIn ops Cd i && (Cd.all fun k => match D[k]? with
    | some dk => !conflict dk d || ancB M k i
    | none => false) && (Cd.all fun k => !isE D k || ancB M k i)
/-- The reading steps that may come behind step i: they are asked again there. -/
def reGo (D : List DOp) (M : List Nat) (i : Nat) : List Nat → Option (List (Nat × Guard × NOp))
  | [] => some []
  | k :: rest => (reGo D M i rest).bind fun re => match D[k]? with
    | some d => match d.op with
      | .n no => if no.reads && !ancB M k i then (match d.dst with
          | some t => if !d.looks.contains t && (rest ++ [i]).all (fun q => match dstOf D q with
              | some x => !d.looks.contains x && x != t
              | none => true) then some ((t, d.g, no) :: re) else none
          | none => none) else some re
      | .e _ => some re
    | none => none
def drawGo (ops : Array Oper) (D : List DOp) (M : List Nat) : List DStep → List Nat → List Nat → Option (List IStep)
  | [], Cd, ac => if (List.range D.length).all Cd.contains then some [] else none
  | .op i :: rest, Cd, ac => match D[i]? with
    | some d => if mayCome ops D M Cd i d then (match d.op with
      | .n no => (drawGo ops D M rest (Cd ++ [i]) (if no.allocs then i :: ac else ac)).map (.n d.dst d.g no :: ·)
      | .e eo => if ac.all (ancB M · i) then (reGo D M i Cd).bind fun re => (drawGo ops D M rest (Cd ++ [i]) ac).map (.e d.dst d.g eo re :: ·) else none) else none
    | none => none
  | .late i :: rest, Cd, ac => match D[i]? with
    | some d => if mayCome ops D M Cd i d then (match d.op with
      | .n no => if no.allocs then (drawGo ops D M rest (Cd ++ [i]) ac).map (.late i d.dst d.g no :: ·) else none
      | .e eo => none) else none
    | none => none
  | .act i :: rest, Cd, ac => if Cd.contains i && !ac.contains i then (drawGo ops D M rest Cd (i :: ac)).map (.act i :: ·) else none

/-! The order itself: each quiet step as early as the acting ones let it; a new block is laid behind all acting steps that may come ahead of it. -/
def phaseOf (D : List DOp) (M : List Nat) (i : Nat) : Nat := ((List.range D.length).filter fun k => isE D k && ancB M k i).length
def crosses (D : List DOp) (M : List Nat) (i : Nat) : Bool := (List.range D.length).any fun k => isE D k && !ancB M i k && !ancB M k i
def isAlloc (D : List DOp) (k : Nat) : Bool :=
  match D[k]? with
  | some d => match d.op with
    | .n no => no.allocs
    | .e _ => false
  | none => false
def orderGo (D : List DOp) (M : List Nat) (es : List Nat) : List Nat → Nat → List Nat → List DStep
  | [], ph, lates => ((List.range D.length).filter fun i => !isE D i && phaseOf D M i == ph).map (fun i => if isAlloc D i && crosses D M i then DStep.late i else DStep.op i) ++ lates.map .act
  | e :: rest, ph, lates =>
    let here := (List.range D.length).filter fun i => !isE D i && phaseOf D M i == ph
    let nl := here.filter fun i => isAlloc D i && crosses D M i
    let all := lates ++ nl
    here.map (fun i => if isAlloc D i && crosses D M i then DStep.late i else DStep.op i) ++ (all.filter fun i => ancB M i e).map .act ++ [.op e] ++ orderGo D M es rest (ph + 1) (all.filter fun i => !ancB M i e)
def orderOf (D : List DOp) (M : List Nat) : List DStep := orderGo D M [] ((List.range D.length).filter (isE D)) 0 []
def compDraw (P : Program) (N : Nat) (ops : Array Oper) : Option (List IStep) :=
  (compDOps P N ops ops.toList).bind fun D => drawGo ops D (ancM ops) (orderOf D (ancM ops)) [] []

/-! ### Temporaries behind some of the steps -/
def foldA (D : List DOp) (val : Nat → AV) (p : Nat → Bool) : List Nat → Tms → Tms
  | [], tm => tm
  | k :: L, tm => foldA D val p L (if p k then put tm (dstOf D k) (val k) else tm)
section
variable {D : List DOp} {val val' : Nat → AV} {p q : Nat → Bool}
theorem put_at (tm tm' : Tms) (d : Option Nat) (v : AV) {t : Nat} (h : tm t = tm' t) : put tm d v t = put tm' d v t := by
  cases d with
  | none => exact h
  | some d =>
    show upd tm d v t = upd tm' d v t
    by_cases e : t = d
    · subst e; rw [upd_same, upd_same]
    · rw [upd_ne tm v e, upd_ne tm' v e]; exact h
theorem put_far (tm : Tms) {d : Option Nat} (v : AV) {t : Nat} (h : d ≠ some t) : put tm d v t = tm t := by
  cases d with
  | none => rfl
  | some d => exact upd_ne tm v (fun e => h (by rw [e]))
theorem foldA_agree : ∀ {L : List Nat} {tm tm' : Tms} {t : Nat}, (∀ k ∈ L, dstOf D k = some t → p k = q k) → tm t = tm' t → foldA D val p L tm t = foldA D val q L tm' t
  | [], tm, tm', t, _, h => h
  | k :: L, tm, tm', t, hk, h => by
    simp only [foldA]
    refine foldA_agree (L := L) (fun k hk' => hk k (List.mem_cons_of_mem _ hk')) ?_
    by_cases hd : dstOf D k = some t
    · rw [hk k (List.mem_cons_self ..) hd]
      split
      · exact put_at tm tm' _ _ h
      · exact h
    · have h1 : (if p k then put tm (dstOf D k) (val k) else tm) t = tm t := by
        split
        · exact put_far tm _ hd
        · rfl
      have h2 : (if q k then put tm' (dstOf D k) (val k) else tm') t = tm' t := by
        split
        · exact put_far tm' _ hd
        · rfl
      rw [h1, h2]; exact h
theorem foldA_append (L1 L2 : List Nat) (tm : Tms) : foldA D val p (L1 ++ L2) tm = foldA D val p L2 (foldA D val p L1 tm) := by
  induction L1 generalizing tm with
  | nil => rfl
  | cons k L ih => exact ih _
theorem foldA_val : ∀ {L : List Nat} {tm : Tms}, (∀ k ∈ L, p k = true → val k = val' k) → foldA D val p L tm = foldA D val' p L tm
  | [], tm, _ => rfl
  | k :: L, tm, h => by
    simp only [foldA]
    rw [foldA_val (L := L) (fun k hk => h k (List.mem_cons_of_mem _ hk))]
    congr 1
    split
    · rename_i hp; rw [h k (List.mem_cons_self ..) hp]
    · rfl
theorem foldA_none : ∀ {L : List Nat} {tm : Tms} {t : Nat}, (∀ k ∈ L, dstOf D k = some t → p k = false) → foldA D val p L tm t = tm t
  | [], tm, t, _ => rfl
  | k :: L, tm, t, h => by
    simp only [foldA]
    rw [foldA_none (fun k hk => h k (List.mem_cons_of_mem _ hk))]
    split
    · rename_i hp
      by_cases hd : dstOf D k = some t
      · rw [h k (List.mem_cons_self ..) hd] at hp; cases hp
      · exact put_far tm _ hd
    · rfl
theorem foldA_congr_p : ∀ {L : List Nat} {tm : Tms}, (∀ k ∈ L, p k = q k) → foldA D val p L tm = foldA D val q L tm
  | [], tm, _ => rfl
  | k :: L, tm, h => by
    simp only [foldA]
    rw [h k (List.mem_cons_self ..), foldA_congr_p (fun k hk => h k (List.mem_cons_of_mem _ hk))]
end
end Go.Proofs.YtcgkadfgojmmlaaDoor.Abs
set_option linter.unusedVariables false
set_option linter.unusedSimpArgs false
namespace Go.Proofs.YtcgkadfgojmmlaaDoor.Abs
open Go Go.RowKit

def AH.le (H H' : AH) : Prop := ∀ b o, H.at_ b = some o → H'.at_ b = some o
section
variable {P : Program} {j j' j0 : Inj} {H H' H0 HS : AH} {w w' w0 : World}
theorem AH.le_live (h : H.le H') {a : Nat} (hl : H.live a) : H'.live a := by obtain ⟨o, ho⟩ := AH.live_obj hl; exact AH.live_of (h a o ho)
theorem AH.le_wr (h : H.le H') {a : Nat} (hl : H.wr a) : H'.wr a := by obtain ⟨o, ho, hr⟩ := hl; exact ⟨o, h a o ho, hr⟩
theorem Post.forget (h : Post P j0 H0 w0 j HS w) (hle : H.le HS) (hn : HS.next ≤ H.next) : Post P j0 H0 w0 j H w :=
  ⟨⟨h.ext, h.rel.forget hn hle, h.keeps, Nat.le_trans h.next hn, fun a c z ha hl hc => by
    obtain ⟨b, y, h1, h2, h3⟩ := h.orig a c z ha (AH.le_live hle hl) hc
    exact ⟨b, y, h1, h2, fun hw => h3 (AH.le_wr hle hw)⟩⟩, h.fresh⟩

/-- Blocks that an acting step does not know of stay as they are. -/
def AH.plus (H' H HS : AH) : AH := ⟨H'.next, fun b => match H'.at_ b with
  | some o => some o
  | none => match H.at_ b with
    | some _ => none
    | none => HS.at_ b⟩
theorem AH.plus_at {b : Nat} {o : AObj} (h : (AH.plus H' H HS).at_ b = some o) : H'.at_ b = some o ∨ (H'.at_ b = none ∧ H.at_ b = none ∧ HS.at_ b = some o) := by
  simp only [AH.plus] at h
  split at h
  · rename_i q hq; cases h; exact .inl hq
  · rename_i hq
    split at h
    · cases h
    · rename_i h2; exact .inr ⟨hq, h2, h⟩
theorem AH.plus_le : H'.le (AH.plus H' H HS) := fun b o h => by simp only [AH.plus, h]
theorem Post.readd (hS : Rel P j HS w) (hle : H.le HS) (hnx : HS.next = H.next) (hn : HS.next ≤ H'.next) (h : Post P j H w j' H' w') : Post P j HS w j' (AH.plus H' H HS) w' := by
  have hkeep : ∀ b o c z, H.at_ b = none → HS.at_ b = some o → j b = some (c, z) → w'.heap[c]? = w.heap[c]? := by
    intro b o c z hb ho hc
    refine h.keeps.block c (hS.dom b c z hc).2 (fun a y hw ha => ?_)
    obtain ⟨q, hq, _⟩ := hw
    have := hS.inj a b c y z ha hc (AH.live_of (hle a q hq)) (AH.live_of ho)
    subst this
    rw [hb] at hq; cases hq
  -- a block of H' and one that H did not know are two
  have hapart : ∀ a b c y z o o', H'.at_ a = some o → H.at_ b = none → HS.at_ b = some o' → j' a = some (c, y) → j b = some (c, z) → False := by
    intro a b c y z o o' ha hb hb' hac hbc
    obtain ⟨d, x, hl, hd, _⟩ := h.orig a c y hac (AH.live_of ha) (hS.dom b c z hbc).2
    have := hS.inj d b c x z hd hbc (AH.le_live hle hl) (AH.live_of hb')
    subst this
    rw [AH.live, hb] at hl; cases hl
  have hold : ∀ b o, HS.at_ b = some o → ∃ c z, j b = some (c, z) := fun b o ho => by obtain ⟨c, x, hc, _⟩ := hS.obj b o ho; exact ⟨c, _, hc⟩
  refine ⟨⟨h.ext, ⟨fun a c z ha => h.rel.dom a c z ha, ?_, ?_, h.rel.glob⟩, ⟨h.keeps.os, h.keeps.tape, h.keeps.output, h.keeps.size, ?_⟩, hn, ?_⟩, fun a ha => h.fresh a (by omega)⟩
  · intro a b c y z ha hb la lb
    obtain ⟨o1, h1⟩ := AH.live_obj la
    obtain ⟨o2, h2⟩ := AH.live_obj lb
    rcases AH.plus_at h1 with h1 | ⟨n1, n1', h1⟩ <;> rcases AH.plus_at h2 with h2 | ⟨n2, n2', h2⟩
    · exact h.rel.inj a b c y z ha hb (AH.live_of h1) (AH.live_of h2)
    · obtain ⟨c2, z2, hc2⟩ := hold b o2 h2
      have := h.ext _ _ hc2
      rw [hb] at this
      cases this
      exact (hapart a b c y z o1 o2 h1 n2' h2 ha hc2).elim
    · obtain ⟨c1, z1, hc1⟩ := hold a o1 h1
      have := h.ext _ _ hc1
      rw [ha] at this
      cases this
      exact (hapart b a c z y o2 o1 h2 n1' h1 hb hc1).elim
    · obtain ⟨c1, z1, hc1⟩ := hold a o1 h1
      obtain ⟨c2, z2, hc2⟩ := hold b o2 h2
      have e1 := h.ext _ _ hc1
      have e2 := h.ext _ _ hc2
      rw [ha] at e1
      rw [hb] at e2
      cases e1
      cases e2
      exact hS.inj a b c y z hc1 hc2 (AH.live_of h1) (AH.live_of h2)
  · intro a o ha
    rcases AH.plus_at ha with h1 | ⟨n1, n1', h1⟩
    · exact h.rel.obj a o h1
    · obtain ⟨c, x, hc, hx, ho⟩ := hS.obj a o h1
      exact ⟨c, x, h.ext _ _ hc, (hkeep a o c _ n1' h1 hc).trans hx, ho.mono h.ext⟩
  · intro c hc hnw
    exact h.keeps.block c hc (fun a z hw => hnw a z (AH.le_wr hle hw))
  · intro a c z ha hl hc
    obtain ⟨o, ho⟩ := AH.live_obj hl
    rcases AH.plus_at ho with h1 | ⟨n1, n1', h1⟩
    · obtain ⟨b, y, h2, h3, h4⟩ := h.orig a c z ha (AH.live_of h1) hc
      refine ⟨b, y, AH.le_live hle h2, h3, fun hw => AH.le_wr hle (h4 ?_)⟩
      obtain ⟨q, hq, hr⟩ := hw
      have := AH.plus_le (H := H) (HS := HS) a o h1
      rw [this] at hq
      cases hq
      exact ⟨o, h1, hr⟩
    · obtain ⟨c2, z2, hc2⟩ := hold a o h1
      have := h.ext _ _ hc2
      rw [ha] at this
      cases this
      refine ⟨a, z, AH.live_of h1, hc2, fun hw => ?_⟩
      obtain ⟨q, hq, hr⟩ := hw
      rw [ho] at hq
      cases hq
      exact ⟨o, h1, hr⟩
end

/-- Static facts of what has been told so far. -/
structure Stat (ops : Array Oper) (D : List DOp) (Cd : List Nat) : Prop where
  lt : ∀ i ∈ Cd, i < ops.size
  nodup : Cd.Nodup
  preds : ∀ L1 i L2, Cd = L1 ++ i :: L2 → ∀ o, ops[i]? = some o → ∀ e ∈ o.after, Region.binds .any e = true → e.on ∈ L1
  conf : ∀ L1 i L2, Cd = L1 ++ i :: L2 → ∀ k ∈ L1, ∀ di dk, D[i]? = some di → D[k]? = some dk → conflict dk di = true → Anc ops k i
  acts : ∀ L1 i L2, Cd = L1 ++ i :: L2 → ∀ k ∈ L1, isE D k = true → Anc ops k i
theorem split_snoc {Cd L1 L2 : List Nat} {i k : Nat} (h : Cd ++ [k] = L1 ++ i :: L2) : (L2 = [] ∧ L1 = Cd ∧ i = k) ∨ ∃ L3, L2 = L3 ++ [k] ∧ Cd = L1 ++ i :: L3 := by
  rcases List.eq_nil_or_concat L2 with rfl | ⟨L3, x, rfl⟩
  · left
    have h' : Cd ++ [k] = L1 ++ [i] := h
    have := List.append_inj' h' rfl
    exact ⟨rfl, this.1.symm, by simpa using this.2.symm⟩
  · right
    have h' : Cd ++ [k] = (L1 ++ i :: L3) ++ [x] := by rw [h]; simp
    have := List.append_inj' h' rfl
    have hx : k = x := by simpa using this.2
    exact ⟨L3, by rw [hx]; simp, this.1⟩
theorem Stat.nil {ops : Array Oper} {D : List DOp} : Stat ops D [] :=
  ⟨fun i h => by simp at h, List.nodup_nil, fun L1 i L2 h => by simp at h, fun L1 i L2 h => by simp at h, fun L1 i L2 h => by simp at h⟩
theorem Stat.snoc {ops : Array Oper} {D : List DOp} {Cd : List Nat} (h : Stat ops D Cd) {i : Nat} {d : DOp} (hi : i < ops.size) (hd : D[i]? = some d) (hm : mayCome ops D (ancM ops) Cd i d = true) : Stat ops D (Cd ++ [i]) := by
  simp only [mayCome, Bool.and_eq_true, Bool.not_eq_true', List.all_eq_true] at hm
  obtain ⟨⟨⟨h1, h2⟩, h3⟩, h4⟩ := hm
  have hni : i ∉ Cd := fun hh => by rw [List.contains_iff_mem.2 hh] at h1; cases h1
  refine ⟨fun k hk => ?_, ?_, ?_, ?_, ?_⟩
  · rcases List.mem_append.1 hk with hk | hk
    · exact h.lt k hk
    · simp at hk; subst hk; exact hi
  · rw [List.nodup_append]
    exact ⟨h.nodup, by simp, fun a ha b hb => by simp at hb; subst hb; exact fun e => hni (e ▸ ha)⟩
  · intro L1 k L2 he o ho e hee hb
    rcases split_snoc he with ⟨rfl, rfl, rfl⟩ | ⟨L3, rfl, he2⟩
    · simp only [predsIn, ho] at h2
      have := Array.all_eq_true_iff_forall_mem.1 h2 e hee
      rw [hb] at this
      simpa [List.contains_iff_mem] using this
    · exact h.preds L1 k L3 he2 o ho e hee hb
  · intro L1 k L2 he q hq di dk hdi hdk hc
    rcases split_snoc he with ⟨rfl, rfl, rfl⟩ | ⟨L3, rfl, he2⟩
    · have := h3 q hq
      rw [hdk] at this
      rw [hd] at hdi
      cases hdi
      simp only [hc, Bool.not_true, Bool.false_or] at this
      exact ancB_sound this
    · exact h.conf L1 k L3 he2 q hq di dk hdi hdk hc
  · intro L1 k L2 he q hq hE
    rcases split_snoc he with ⟨rfl, rfl, rfl⟩ | ⟨L3, rfl, he2⟩
    · have := h4 q hq
      rw [hE] at this
      exact ancB_sound (by simpa using this)
    · exact h.acts L1 k L3 he2 q hq hE
/-- What is forced ahead of a step that was told was told ahead of it. -/
theorem Stat.anc_mem {ops : Array Oper} {D : List DOp} {Cd : List Nat} (h : Stat ops D Cd) {i k : Nat} (ha : Anc ops k i) : ∀ L1 L2, Cd = L1 ++ i :: L2 → k ∈ L1 := by
  induction ha with
  | edge ho he hb hi => intro L1 L2 hc; subst hi; exact h.preds L1 _ L2 hc _ ho _ he hb
  | @step k0 jj o0 e0 h' ho he hb hk ih =>
    intro L1 L2 hc
    subst hk
    have hm := h.preds L1 _ L2 hc _ ho _ he hb
    obtain ⟨A, B, rfl⟩ := List.append_of_mem hm
    have := ih A (B ++ jj :: L2) (by rw [hc]; simp)
    exact List.mem_append.2 (.inl this)

/-- What was told of a quiet step that may still be to come. -/
def NInfo (D : List DOp) (val : Nat → AV) (eff : Nat → Option (Nat × AObj)) (H : AH) (i : Nat) (tm : Tms) : Prop :=
  ∃ d no, D[i]? = some d ∧ d.op = .n no ∧
    ((wantedA tm d.g = some false ∧ val i = .undef ∧ eff i = none) ∨
     (wantedA tm d.g = some true ∧ ((no.reads = false ∧ ∃ id, (∀ H', nop (·.ev tm) H' id no = some (val i, (eff i).map (·.2))) ∧ ∀ q, eff i = some q → q.1 = id) ∨
        (no.reads = true ∧ eff i = none ∧ nop (·.ev tm) H 0 no = some (val i, none)))))

structure Inv (P : Program) (dfs : List Deferred) (N : Nat) (ops : Array Oper) (D : List DOp) (K : Tms → AH → Prop) (j0 : Inj) (H0 : AH) (w0 : World) (tmI : Tms)
    (S : Nat → Bool) (a : Act) (w : World) (Cd ac : List Nat) (rest : List DStep) (steps : List IStep) (val : Nat → AV) (eff : Nat → Option (Nat × AObj)) (H HS : AH) (pd : Pend) (j : Inj) : Prop where
  go : drawGo ops D (ancM ops) rest Cd ac = some steps
  run : IRun P K steps pd (foldA D val (fun _ => true) Cd tmI) H
  stat : Stat ops D Cd
  sub : ∀ i, S i = true → i ∈ Cd
  eS : ∀ i ∈ Cd, isE D i = true → S i = true
  closed : Closed ops (fun i => S i = true)
  tr : TR dfs j N (foldA D val S Cd tmI) a
  post : Post P j0 H0 w0 j HS w
  next : HS.next = H.next
  x1 : ∀ b o, H.at_ b = some o → HS.at_ b = some o ∨ ∃ i ∈ ac, i ∈ Cd ∧ S i = false ∧ eff i = some (b, o)
  x2 : ∀ i ∈ Cd, S i = false → ∀ b o, eff i = some (b, o) → j b = none ∧ b < H.next ∧ H0.next ≤ b
  x3 : ∀ i ∈ Cd, ∀ k ∈ Cd, S i = false → S k = false → ∀ b o q, eff i = some (b, o) → eff k = some (b, q) → i = k
  x4 : ∀ i b o, pd.lookup i = some (b, o) → i ∈ Cd ∧ eff i = some (b, o) ∧ b < H.next ∧ (i ∉ ac → H.at_ b = none ∧ (S i = true → HS.at_ b = some o))
  x5 : ∀ i k b o q, pd.lookup i = some (b, o) → pd.lookup k = some (b, q) → i = k
  info : ∀ L1 i L2, Cd = L1 ++ i :: L2 → S i = false → NInfo D val eff H i (foldA D val (fun _ => true) L1 tmI)

section
variable {P : Program} {dfs : List Deferred} {N : Nat} {ops : Array Oper} {D : List DOp} {K : Tms → AH → Prop} {j0 : Inj} {H0 : AH} {w0 : World} {tmI : Tms}
  {S : Nat → Bool} {a : Act} {w : World} {Cd ac : List Nat} {rest : List DStep} {steps : List IStep} {val : Nat → AV} {eff : Nat → Option (Nat × AObj)} {H HS : AH} {pd : Pend} {j : Inj}

theorem NInfo.grow {i : Nat} {tm : Tms} {H' : AH} (h : NInfo D val eff H i tm) (hle : H.le H') : NInfo D val eff H' i tm := by
  obtain ⟨d, no, hd, ho, h⟩ := h
  refine ⟨d, no, hd, ho, h.imp id (fun ⟨hw, h⟩ => ⟨hw, h.imp id (fun ⟨hr, he, hn⟩ => ⟨hr, he, nop_at hn (fun x _ c _ q hq => hle c q hq)⟩)⟩)⟩
theorem NInfo.congr {i : Nat} {tm : Tms} {val' : Nat → AV} {eff' : Nat → Option (Nat × AObj)} (h : NInfo D val eff H i tm) (hv : val' i = val i) (he : eff' i = eff i) : NInfo D val' eff' H i tm := by
  unfold NInfo at h ⊢
  rw [hv, he]
  exact h
theorem Inv.live_next (h : Inv P dfs N ops D K j0 H0 w0 tmI S a w Cd ac rest steps val eff H HS pd j) {b : Nat} {o : AObj} (hb : H.at_ b = some o) : b < H.next := by
  rcases h.x1 b o hb with hs | ⟨i, _, hi, hS, he⟩
  · obtain ⟨c, x, hc, _⟩ := h.post.rel.obj b o hs
    rw [← h.next]
    exact (h.post.rel.dom b c _ hc).1
  · exact (h.x2 i hi hS b o he).2.1
end
end Go.Proofs.YtcgkadfgojmmlaaDoor.Abs
set_option linter.unusedVariables false
set_option linter.unusedSimpArgs false
namespace Go.Proofs.YtcgkadfgojmmlaaDoor.Abs
open Go Go.RowKit

section
variable {P : Program} {dfs : List Deferred} {N : Nat} {ops : Array Oper} {D : List DOp} {K : Tms → AH → Prop} {j0 : Inj} {H0 : AH} {w0 : World} {tmI : Tms}
  {S : Nat → Bool} {a : Act} {w : World} {Cd ac : List Nat} {rest : List DStep} {steps : List IStep} {val : Nat → AV} {eff : Nat → Option (Nat × AObj)} {H HS : AH} {pd : Pend} {j : Inj}

def setF {α : Type} (f : Nat → α) (i : Nat) (v : α) : Nat → α := fun k => if k = i then v else f k
theorem setF_same {α : Type} (f : Nat → α) (i : Nat) (v : α) : setF f i v i = v := if_pos rfl
theorem setF_ne {α : Type} (f : Nat → α) {i k : Nat} (v : α) (h : k ≠ i) : setF f i v k = f k := if_neg h
theorem fold_snoc {i : Nat} (hni : i ∉ Cd) (v : AV) (p : Nat → Bool) (tm : Tms) : foldA D (setF val i v) p (Cd ++ [i]) tm = (if p i then put (foldA D val p Cd tm) (dstOf D i) v else foldA D val p Cd tm) := by
  rw [foldA_append]
  have e : foldA D (setF val i v) p Cd tm = foldA D val p Cd tm := foldA_val (fun k hk _ => setF_ne val v (fun e => hni (e ▸ hk)))
  rw [e]
  simp only [foldA, setF_same]

/-- One quiet step more is told: its answer, and its block (none: there is no new one). -/
theorem Inv.told {st : DStep} (h : Inv P dfs N ops D K j0 H0 w0 tmI S a w Cd ac (st :: rest) steps val eff H HS pd j) {i : Nat} (hi : i < ops.size) {d : DOp} {no : NOp} (hd : D[i]? = some d) (ho : d.op = .n no) (hm : mayCome ops D (ancM ops) Cd i d = true)
    {v : AV} {ef : Option (Nat × AObj)} {H' : AH} {ac' : List Nat} {steps' : List IStep} {pd' : Pend} (hgo : drawGo ops D (ancM ops) rest (Cd ++ [i]) ac' = some steps') (hrun : IRun P K steps' pd' (put (foldA D val (fun _ => true) Cd tmI) d.dst v) H')
    (hac : ∀ k ∈ ac, k ∈ ac') (hef : ∀ q, ef = some q → q.1 = H.next ∧ H'.next = H.next + 1) (hle : H.le H') (hn : H.next ≤ H'.next)
    (hx1 : ∀ b o, H'.at_ b = some o → H.at_ b = some o ∨ (i ∈ ac' ∧ ef = some (b, o)))
    (hpd : ∀ k b o, pd'.lookup k = some (b, o) → pd.lookup k = some (b, o) ∨ (k = i ∧ ef = some (b, o) ∧ H'.at_ b = none))
    (hax : ∀ k ∈ ac', k ∈ ac ∨ k = i) (hfar : ∀ b, b < H.next → H.at_ b = none → H'.at_ b = none)
    (hinfo : NInfo D (setF val i v) (setF eff i ef) H' i (foldA D val (fun _ => true) Cd tmI)) :
    Inv P dfs N ops D K j0 H0 w0 tmI S a w (Cd ++ [i]) ac' rest steps' (setF val i v) (setF eff i ef) H' ⟨H'.next, HS.at_⟩ pd' j := by
  have hm' := hm
  simp only [mayCome, Bool.and_eq_true, Bool.not_eq_true'] at hm'
  have hni : i ∉ Cd := fun hh => by rw [List.contains_iff_mem.2 hh] at hm'; exact absurd hm'.1.1.1 (by simp)
  have hSi : S i = false := by
    cases hs : S i with
    | false => rfl
    | true => exact absurd (h.sub i hs) hni
  have hne : ∀ k ∈ Cd, k ≠ i := fun k hk e => hni (e ▸ hk)
  have hE : isE D i = false := by simp [isE, hd, ho]
  have hdst : dstOf D i = d.dst := by simp [dstOf, hd]
  have hnextS : HS.next ≤ H'.next := by rw [h.next]; exact hn
  refine ⟨hgo, ?_, h.stat.snoc hi hd hm, ?_, ?_, h.closed, ?_, h.post.forget (fun b o hb => hb) hnextS, rfl, ?_, ?_, ?_, ?_, ?_, ?_⟩
  · rw [fold_snoc hni, if_pos rfl, hdst]; exact hrun
  · intro k hk; exact List.mem_append.2 (.inl (h.sub k hk))
  · intro k hk hEk
    rcases List.mem_append.1 hk with hk | hk
    · exact h.eS k hk hEk
    · simp at hk; subst hk; rw [hE] at hEk; cases hEk
  · rw [fold_snoc hni, hSi]; exact h.tr
  · intro b o hb
    rcases hx1 b o hb with hb | ⟨hi', he⟩
    · rcases h.x1 b o hb with hs | ⟨k, hk1, hk2, hk3, hk4⟩
      · exact .inl hs
      · exact .inr ⟨k, hac k hk1, List.mem_append.2 (.inl hk2), hk3, by rw [setF_ne eff ef (hne k hk2)]; exact hk4⟩
    · exact .inr ⟨i, hi', List.mem_append.2 (.inr (by simp)), hSi, by rw [setF_same]; exact he⟩
  · intro k hk hS b o he
    rcases List.mem_append.1 hk with hk | hk
    · rw [setF_ne eff ef (hne k hk)] at he
      have := h.x2 k hk hS b o he
      exact ⟨this.1, Nat.lt_of_lt_of_le this.2.1 hn, this.2.2⟩
    · simp at hk
      subst hk
      rw [setF_same] at he
      obtain ⟨q1, q2⟩ := hef _ he
      simp only at q1
      subst q1
      have hnn := h.post.next
      rw [h.next] at hnn
      exact ⟨h.post.rel.fresh (by rw [h.next]; exact Nat.le_refl _), by omega, hnn⟩
  · intro p hp q hq hSp hSq b o o' he1 he2
    rcases List.mem_append.1 hp with hp1 | hp1 <;> rcases List.mem_append.1 hq with hq1 | hq1
    · rw [setF_ne eff ef (hne p hp1)] at he1
      rw [setF_ne eff ef (hne q hq1)] at he2
      exact h.x3 p hp1 q hq1 hSp hSq b o o' he1 he2
    · simp at hq1
      subst hq1
      rw [setF_ne eff ef (hne p hp1)] at he1
      rw [setF_same] at he2
      have := (hef _ he2).1
      simp only at this
      have := (h.x2 p hp1 hSp b o he1).2.1
      omega
    · simp at hp1
      subst hp1
      rw [setF_ne eff ef (hne q hq1)] at he2
      rw [setF_same] at he1
      have := (hef _ he1).1
      simp only at this
      have := (h.x2 q hq1 hSq b o' he2).2.1
      omega
    · simp at hp1 hq1
      rw [hp1, hq1]
  · intro k b o hk
    rcases hpd k b o hk with hk | ⟨rfl, he, hb⟩
    · obtain ⟨h1, h2, h3, h4⟩ := h.x4 k b o hk
      refine ⟨List.mem_append.2 (.inl h1), by rw [setF_ne eff ef (hne k h1)]; exact h2, Nat.lt_of_lt_of_le h3 hn, fun hka => ?_⟩
      obtain ⟨h5, h6⟩ := h4 (fun hka' => hka (hac k hka'))
      exact ⟨hfar b h3 h5, h6⟩
    · obtain ⟨q1, q2⟩ := hef _ he
      simp only at q1
      exact ⟨List.mem_append.2 (.inr (by simp)), by rw [setF_same]; exact he, by omega, fun _ => ⟨hb, fun hs => by rw [hSi] at hs; cases hs⟩⟩
  · intro p k b o q hp hk
    rcases hpd p b o hp with hp | ⟨rfl, he, hb⟩ <;> rcases hpd k b q hk with hk | ⟨rfl, he2, hb2⟩
    · exact h.x5 p k b o q hp hk
    · have := (h.x4 p b o hp).2.2.1
      have := (hef _ he2).1
      simp only at this
      omega
    · have := (h.x4 k b q hk).2.2.1
      have := (hef _ he).1
      simp only at this
      omega
    · rfl
  · intro L1 k L2 hsp hS
    rcases split_snoc hsp with ⟨rfl, rfl, rfl⟩ | ⟨L3, rfl, hsp2⟩
    · have e : foldA D (setF val k v) (fun _ => true) L1 tmI = foldA D val (fun _ => true) L1 tmI := foldA_val (fun q hq _ => setF_ne val v (hne q hq))
      rw [e]
      exact hinfo
    · have hk : k ∈ Cd := by rw [hsp2]; simp
      have e : foldA D (setF val i v) (fun _ => true) L1 tmI = foldA D val (fun _ => true) L1 tmI := foldA_val (fun q hq _ => setF_ne val v (hne q (by rw [hsp2]; simp [hq])))
      rw [e]
      exact ((h.info L1 k L3 hsp2 hS).grow hle).congr (setF_ne val v (hne k hk)) (setF_ne eff ef (hne k hk))

theorem reads_alloc {no : NOp} (h : no.reads = true) : no.allocs = false := by cases no <;> first | rfl | cases h
/-- The steps up to the next acting one are told. -/
theorem Inv.adv (hD : D.length = ops.size) : ∀ (rest : List DStep) {Cd ac steps val eff H HS pd}, Inv P dfs N ops D K j0 H0 w0 tmI S a w Cd ac rest steps val eff H HS pd j →
    ∃ Cd ac rest steps val eff H HS pd, Inv P dfs N ops D K j0 H0 w0 tmI S a w Cd ac rest steps val eff H HS pd j ∧ (rest = [] ∨ ∃ e r, rest = .op e :: r ∧ isE D e = true)
  | [], Cd, ac, steps, val, eff, H, HS, pd, h => ⟨_, _, _, _, _, _, _, _, _, h, .inl rfl⟩
  | .op i :: rest, Cd, ac, steps, val, eff, H, HS, pd, h => by
    cases hE : isE D i with
    | true => exact ⟨_, _, _, _, _, _, _, _, _, h, .inr ⟨i, rest, rfl, hE⟩⟩
    | false =>
      have hgo := h.go
      simp only [drawGo] at hgo
      split at hgo
      · rename_i d hd
        have hi : i < ops.size := by rw [← hD]; exact (List.getElem?_eq_some_iff.1 hd).1
        split at hgo
        · rename_i hm
          split at hgo
          · rename_i no ho
            simp only [Option.map_eq_some_iff] at hgo
            obtain ⟨steps', hgo, rfl⟩ := hgo
            have hrun := h.run
            simp only [IRun] at hrun
            have hacx : ∀ k ∈ (if no.allocs then i :: ac else ac), k ∈ ac ∨ k = i := fun k hk => by
              split at hk
              · rcases List.mem_cons.1 hk with hk | hk
                · exact .inr hk
                · exact .inl hk
              · exact .inl hk
            have hacs : ∀ k ∈ ac, k ∈ (if no.allocs then i :: ac else ac) := fun k hk => by split <;> simp [hk]
            split at hrun
            · rename_i hw
              split at hrun
              · rename_i v hv
                have hna := nop_alloc hv
                refine Inv.adv hD rest (h.told (v := v) (ef := none) (H' := H) (pd' := pd) hi hd ho hm hgo hrun hacs (fun q hq => by cases hq) (fun b o hb => hb) (Nat.le_refl _) (fun b o hb => .inl hb) (fun k b o hk => .inl hk) hacx (fun b _ hb => hb) ?_)
                refine ⟨d, no, hd, ho, .inr ⟨hw, ?_⟩⟩
                rw [setF_same, setF_same]
                cases hrd : no.reads with
                | false => exact .inl ⟨rfl, H.next, fun H'' => by rw [nop_pure (H' := H) hrd]; exact hv, fun q hq => by cases hq⟩
                | true => exact .inr ⟨rfl, rfl, by rw [nop_id (id' := H.next) (reads_alloc hrd)]; exact hv⟩
              · rename_i v b hv
                have hna := nop_alloc hv
                have hal : no.allocs = true := by rw [← hna]; rfl
                have hrd : no.reads = false := by
                  cases hr : no.reads with
                  | false => rfl
                  | true => rw [reads_alloc hr] at hal; cases hal
                have hnx : H.at_ H.next = none := by
                  cases hx : H.at_ H.next with
                  | none => rfl
                  | some q => have := h.live_next hx; omega
                refine Inv.adv hD rest (h.told (v := v) (ef := some (H.next, b)) (H' := H.new b) (pd' := pd) hi hd ho hm hgo hrun hacs (fun q hq => by cases hq; exact ⟨rfl, rfl⟩) (fun c o hc => ?_) (Nat.le_succ _) (fun c o hc => ?_) (fun k b o hk => .inl hk) hacx (fun c hc hn => by rw [AH.new_ne H b (by omega)]; exact hn) ?_)
                · have : c ≠ H.next := fun e => by rw [e, hnx] at hc; cases hc
                  rw [AH.new_ne H b this]; exact hc
                · by_cases e : c = H.next
                  · subst e
                    rw [AH.new_same] at hc
                    cases hc
                    exact .inr ⟨by rw [if_pos hal]; simp, rfl⟩
                  · rw [AH.new_ne H b e] at hc; exact .inl hc
                · refine ⟨d, no, hd, ho, .inr ⟨hw, .inl ⟨hrd, H.next, fun H'' => ?_, fun q hq => ?_⟩⟩⟩
                  · rw [setF_same, setF_same, nop_pure (H' := H) hrd]; exact hv
                  · rw [setF_same] at hq; cases hq; rfl
              · exact hrun.elim
            · rename_i hw
              refine Inv.adv hD rest (h.told (v := .undef) (ef := none) (H' := H) (pd' := pd) hi hd ho hm hgo hrun hacs (fun q hq => by cases hq) (fun b o hb => hb) (Nat.le_refl _) (fun b o hb => .inl hb) (fun k b o hk => .inl hk) hacx (fun b _ hb => hb) ?_)
              exact ⟨d, no, hd, ho, .inl ⟨hw, setF_same _ _ _, setF_same _ _ _⟩⟩
            · exact hrun.elim
          · rename_i eo ho
            simp [isE, hd, ho] at hE
        · cases hgo
      · cases hgo
  | .late i :: rest, Cd, ac, steps, val, eff, H, HS, pd, h => by
    have hgo := h.go
    simp only [drawGo] at hgo
    split at hgo
    · rename_i d hd
      have hi : i < ops.size := by rw [← hD]; exact (List.getElem?_eq_some_iff.1 hd).1
      split at hgo
      · rename_i hm
        split at hgo
        · rename_i no ho
          split at hgo
          · rename_i hal
            simp only [Option.map_eq_some_iff] at hgo
            obtain ⟨steps', hgo, rfl⟩ := hgo
            have hrun := h.run
            simp only [IRun] at hrun
            have hnx : H.at_ H.next = none := by
              cases hx : H.at_ H.next with
              | none => rfl
              | some q => have := h.live_next hx; omega
            have hrd : no.reads = false := by
              cases hr : no.reads with
              | false => rfl
              | true => rw [reads_alloc hr] at hal; cases hal
            split at hrun
            · rename_i hw
              split at hrun
              · rename_i v b hv
                refine Inv.adv hD rest (h.told (v := v) (ef := some (H.next, b)) (H' := H.bump) (pd' := (i, H.next, b) :: pd) hi hd ho hm hgo hrun (fun k hk => hk) (fun q hq => by cases hq; exact ⟨rfl, rfl⟩) (fun c o hc => hc) (Nat.le_succ _) (fun c o hc => .inl hc) (fun k c o hk => ?_) (fun k hk => .inl hk) (fun c _ hc => hc) ?_)
                · rw [List.lookup_cons] at hk
                  split at hk
                  · rename_i he
                    cases hk
                    exact .inr ⟨by simpa using he, rfl, hnx⟩
                  · exact .inl hk
                · refine ⟨d, no, hd, ho, .inr ⟨hw, .inl ⟨hrd, H.next, fun H'' => ?_, fun q hq => ?_⟩⟩⟩
                  · rw [setF_same, setF_same, nop_pure (H' := H) hrd]; exact hv
                  · rw [setF_same] at hq; cases hq; rfl
              · exact hrun.elim
            · rename_i hw
              refine Inv.adv hD rest (h.told (v := .undef) (ef := none) (H' := H) (pd' := pd) hi hd ho hm hgo hrun (fun k hk => hk) (fun q hq => by cases hq) (fun b o hb => hb) (Nat.le_refl _) (fun b o hb => .inl hb) (fun k b o hk => .inl hk) (fun k hk => .inl hk) (fun b _ hb => hb) ?_)
              exact ⟨d, no, hd, ho, .inl ⟨hw, setF_same _ _ _, setF_same _ _ _⟩⟩
            · exact hrun.elim
          · cases hgo
        · cases hgo
      · cases hgo
    · cases hgo
  | .act i :: rest, Cd, ac, steps, val, eff, H, HS, pd, h => by
    have hgo := h.go
    simp only [drawGo] at hgo
    split at hgo
    · rename_i hic
      simp only [Option.map_eq_some_iff] at hgo
      obtain ⟨steps', hgo, rfl⟩ := hgo
      simp only [Bool.and_eq_true, Bool.not_eq_true'] at hic
      have hi : i ∈ Cd := List.contains_iff_mem.1 hic.1
      have hia : i ∉ ac := fun hh => by rw [List.contains_iff_mem.2 hh] at hic; exact absurd hic.2 (by simp)
      have hrun := h.run
      simp only [IRun] at hrun
      cases hl : pd.lookup i with
      | none =>
        rw [hl] at hrun
        refine Inv.adv hD rest (Cd := Cd) (ac := i :: ac) (steps := steps') (val := val) (eff := eff) (H := H) (HS := HS) (pd := pd) ⟨hgo, hrun, h.stat, h.sub, h.eS, h.closed, h.tr, h.post, h.next, ?_, h.x2, h.x3, fun k b o hk => ⟨(h.x4 k b o hk).1, (h.x4 k b o hk).2.1, (h.x4 k b o hk).2.2.1, fun hka => (h.x4 k b o hk).2.2.2 (fun hh => hka (List.mem_cons_of_mem _ hh))⟩, h.x5, h.info⟩
        intro b o hb
        rcases h.x1 b o hb with hs | ⟨k, h1, h2⟩
        · exact .inl hs
        · exact .inr ⟨k, List.mem_cons_of_mem _ h1, h2⟩
      | some q =>
        obtain ⟨id, blk⟩ := q
        rw [hl] at hrun
        obtain ⟨_, he, hlt, hS⟩ := h.x4 i id blk hl
        obtain ⟨hnone, hS⟩ := hS hia
        have hle : H.le (H.set id (some blk)) := by
          intro b o hb
          by_cases e : b = id
          · subst e; rw [hnone] at hb; cases hb
          · rw [AH.set_ne H _ e]; exact hb
        refine Inv.adv hD rest (Cd := Cd) (ac := i :: ac) (steps := steps') (val := val) (eff := eff) (H := H.set id (some blk)) (HS := HS) (pd := pd)
          ⟨hgo, hrun, h.stat, h.sub, h.eS, h.closed, h.tr, h.post, h.next, ?_, h.x2, h.x3, fun k b o hk => ⟨(h.x4 k b o hk).1, (h.x4 k b o hk).2.1, (h.x4 k b o hk).2.2.1, fun hka => ?_⟩, h.x5, fun L1 k L2 hsp hSk => (h.info L1 k L2 hsp hSk).grow hle⟩
        rotate_left
        · obtain ⟨h5, h6⟩ := (h.x4 k b o hk).2.2.2 (fun hh => hka (List.mem_cons_of_mem _ hh))
          refine ⟨?_, h6⟩
          have hne : b ≠ id := fun e => by subst e; exact hka (by rw [h.x5 k i b o blk hk hl]; simp)
          rw [AH.set_ne H _ hne]; exact h5
        intro b o hb
        by_cases e : b = id
        · subst e
          rw [AH.set_same] at hb
          cases hb
          cases hSi : S i with
          | true => exact .inl (hS hSi)
          | false => exact .inr ⟨i, List.mem_cons_self .., hi, hSi, he⟩
        · rw [AH.set_ne H _ e] at hb
          rcases h.x1 b o hb with hs | ⟨k, h1, h2⟩
          · exact .inl hs
          · exact .inr ⟨k, List.mem_cons_of_mem _ h1, h2⟩
    · cases hgo
end
end Go.Proofs.YtcgkadfgojmmlaaDoor.Abs
set_option linter.unusedVariables false
set_option linter.unusedSimpArgs false
namespace Go.Proofs.YtcgkadfgojmmlaaDoor.Abs
open Go Go.RowKit

section
variable {P : Program} {dfs : List Deferred} {N : Nat} {ops : Array Oper} {D : List DOp} {K : Tms → AH → Prop} {j0 : Inj} {H0 : AH} {w0 : World} {tmI : Tms}
  {S : Nat → Bool} {a : Act} {w : World} {Cd ac : List Nat} {rest : List DStep} {steps : List IStep} {val : Nat → AV} {eff : Nat → Option (Nat × AObj)} {H HS : AH} {pd : Pend} {j : Inj}

def addS (S : Nat → Bool) (i : Nat) : Nat → Bool := fun k => S k || k == i
theorem addS_same (S : Nat → Bool) (i : Nat) : addS S i i = true := by simp [addS]
theorem addS_ne (S : Nat → Bool) {i k : Nat} (h : k ≠ i) : addS S i k = S k := by simp [addS, h]
theorem addS_false {i k : Nat} (h : addS S i k = false) : k ≠ i ∧ S k = false := by
  simp only [addS, Bool.or_eq_false_iff, beq_eq_false_iff_ne] at h
  exact ⟨h.2, h.1⟩

theorem looks_guard {d : DOp} {g : Nat} {want : Bool} (h : d.g = some (g, want)) : g ∈ d.looks := by simp [DOp.looks, h, guardT]
theorem looks_opd {d : DOp} {t : Nat} (h : IOpd.tmp t ∈ d.op.opds) : t ∈ d.looks := by
  refine List.mem_append.2 (.inr (List.mem_flatMap.2 ⟨_, h, by simp [IOpd.tmps]⟩))
theorem wanted_congr {d : DOp} {tm tm' : Tms} (h : ∀ t ∈ d.looks, tm t = tm' t) : wantedA tm d.g = wantedA tm' d.g := by
  cases hg : d.g with
  | none => rfl
  | some q => obtain ⟨g, want⟩ := q; simp only [wantedA, h g (looks_guard hg)]
theorem ev_congr {d : DOp} {tm tm' : Tms} (h : ∀ t ∈ d.looks, tm t = tm' t) : ∀ x ∈ d.op.opds, x.ev tm = x.ev tm' := by
  intro x hx
  cases x with
  | tmp t => exact h t (looks_opd hx)
  | const v => rfl
theorem conflict_look {a b : DOp} {t : Nat} (h : a.dst = some t) (hb : t ∈ b.looks) : conflict a b = true := by
  unfold conflict
  rw [h]
  simp only [List.contains_iff_mem.2 hb, Bool.true_or]
theorem conflict_dst {a b : DOp} {t : Nat} (h : a.dst = some t) (hb : b.dst = some t) : conflict a b = true := by simp [conflict, h, hb]
theorem conflict_back {a b : DOp} {t : Nat} (h : b.dst = some t) (hb : t ∈ a.looks) : conflict a b = true := by
  unfold conflict
  rw [h]
  simp only [List.contains_iff_mem.2 hb, Bool.or_true]
theorem dstOf_some {k t : Nat} (h : dstOf D k = some t) : ∃ d, D[k]? = some d ∧ d.dst = some t := by
  simp only [dstOf, Option.bind_eq_some_iff] at h; exact h

/-- A step that is behind one that was not run was not run. -/
theorem Inv.later (h : Inv P dfs N ops D K j0 H0 w0 tmI S a w Cd ac rest steps val eff H HS pd j) {L1 L2 : List Nat} {i k : Nat} (hsp : Cd = L1 ++ i :: L2) (hk : k ∈ L2) (hS : S i = false) {di dk : DOp} (hdi : D[i]? = some di) (hdk : D[k]? = some dk) (hc : conflict di dk = true) : S k = false := by
  cases hSk : S k with
  | false => rfl
  | true =>
    obtain ⟨A, B, rfl⟩ := List.append_of_mem hk
    have := h.stat.conf (L1 ++ i :: A) k B (by rw [hsp]; simp) i (by simp) dk di hdk hdi hc
    have := h.closed.of_mem this hSk
    rw [hS] at this; cases this
/-- What a quiet step that is ready looks at is what it was told at. -/
theorem Inv.looks_told (h : Inv P dfs N ops D K j0 H0 w0 tmI S a w Cd ac rest steps val eff H HS pd j) {L1 L2 : List Nat} {i : Nat} (hsp : Cd = L1 ++ i :: L2) (hS : S i = false)
    (hready : ∀ o, ops[i]? = some o → ∀ e ∈ o.after, Region.binds .any e = true → S e.on = true) {di : DOp} (hdi : D[i]? = some di) : ∀ t ∈ di.looks, foldA D val S Cd tmI t = foldA D val (fun _ => true) L1 tmI t := by
  intro t ht
  rw [hsp, foldA_append]
  have h1 : ∀ tm, foldA D val S (i :: L2) tm t = tm t := by
    intro tm
    refine foldA_none (fun k hk hd => ?_)
    rcases List.mem_cons.1 hk with rfl | hk
    · exact hS
    · obtain ⟨dk, hdk, hdt⟩ := dstOf_some hd
      exact h.later hsp hk hS hdi hdk (conflict_back hdt ht)
  rw [h1]
  refine foldA_agree (fun k hk hd => ?_) rfl
  obtain ⟨dk, hdk, hdt⟩ := dstOf_some hd
  exact h.closed.anc (h.stat.conf L1 i L2 hsp k hk di dk hdi hdk (conflict_look hdt ht)) hready
theorem fold_add (h : Inv P dfs N ops D K j0 H0 w0 tmI S a w Cd ac rest steps val eff H HS pd j) {L1 L2 : List Nat} {i : Nat} (hsp : Cd = L1 ++ i :: L2) (hS : S i = false) {di : DOp} (hdi : D[i]? = some di) :
    foldA D val (addS S i) Cd tmI = put (foldA D val S Cd tmI) di.dst (val i) := by
  funext t
  have hdst : dstOf D i = di.dst := by simp [dstOf, hdi]
  have hnd := h.stat.nodup
  rw [hsp] at hnd
  have hiL2 : i ∉ L2 := by
    have := (List.nodup_append.1 hnd).2.1
    exact (List.nodup_cons.1 this).1
  by_cases hd : di.dst = some t
  · have hl2 : ∀ tm, foldA D val (addS S i) L2 tm t = tm t := by
      intro tm
      refine foldA_none (fun k hk hdk => ?_)
      obtain ⟨dk, hdk', hdt⟩ := dstOf_some hdk
      rw [addS_ne S (fun (e : k = i) => hiL2 (by rw [← e]; exact hk))]
      exact h.later hsp hk hS hdi hdk' (conflict_dst hd hdt)
    rw [hsp, foldA_append]
    simp only [foldA, addS_same, if_true]
    rw [hl2, hdst, hd]
    show upd _ t (val i) t = upd _ t (val i) t
    rw [upd_same, upd_same]
  · rw [put_far _ _ hd]
    refine foldA_agree (fun k hk hdk => ?_) rfl
    by_cases e : k = i
    · subst e; rw [hdst] at hdk; exact absurd hdk hd
    · exact addS_ne S e
theorem compD {i : Nat} {d : DOp} (hD : compDOps P N ops ops.toList = some D) (hd : D[i]? = some d) {o : Oper} (ho : ops[i]? = some o) : compDOp P N ops o = some d := by
  obtain ⟨o', ho', hc⟩ := (compDOps_get hD).2 i d hd
  have : ops[i]? = some o' := by simpa using ho'
  rw [ho] at this
  cases this
  exact hc
theorem compD_inv {d : DOp} {o : Oper} (hc : compDOp P N ops o = some d) : dstOk N o.dst = true ∧ d.dst = o.dst ∧ compG N ops o.guard = some d.g ∧
    ((∃ no, d.op = .n no ∧ compN P o.op = some no ∧ no.opds.all (constOk P.globals.size) = true) ∨ ∃ eo, d.op = .e eo ∧ compE P o.op = some eo) := by
  unfold compDOp at hc
  split at hc
  · rename_i hdk
    simp only [Option.bind_eq_some_iff] at hc
    obtain ⟨g, hg, hc⟩ := hc
    split at hc
    · rename_i no hno
      split at hc
      · rename_i hok
        cases hc
        exact ⟨hdk, rfl, hg, .inl ⟨no, rfl, hno, hok⟩⟩
      · cases hc
    · simp only [Option.map_eq_some_iff] at hc
      obtain ⟨eo, heo, rfl⟩ := hc
      exact ⟨hdk, rfl, hg, .inr ⟨eo, rfl, heo⟩⟩
  · cases hc

/-- The state behind a quiet step. -/
theorem Inv.ran (h : Inv P dfs N ops D K j0 H0 w0 tmI S a w Cd ac rest steps val eff H HS pd j) {L1 L2 : List Nat} {i : Nat} (hsp : Cd = L1 ++ i :: L2) (hS : S i = false) (hready : ∀ o, ops[i]? = some o → ∀ e ∈ o.after, Region.binds .any e = true → S e.on = true)
    {di : DOp} (hdi : D[i]? = some di) {j' : Inj} {HS' : AH} {w' : World} {a' : Act} (htr : TR dfs j' N (put (foldA D val S Cd tmI) di.dst (val i)) a') (hpost : Post P j0 H0 w0 j' HS' w') (hnext : HS'.next = HS.next) (hle : HS.le HS')
    (hj : ∀ b, (∀ o, eff i ≠ some (b, o)) → j' b = j b) (heff : ∀ b o, eff i = some (b, o) → HS'.at_ b = some o) :
    Inv P dfs N ops D K j0 H0 w0 tmI (addS S i) a' w' Cd ac rest steps val eff H HS' pd j' := by
  have hi : i ∈ Cd := by rw [hsp]; simp
  refine ⟨h.go, h.run, h.stat, ?_, ?_, ?_, ?_, hpost, by rw [hnext, h.next], ?_, ?_, ?_, ?_, h.x5, ?_⟩
  · intro k hk
    by_cases e : k = i
    · subst e; exact hi
    · rw [addS_ne S e] at hk; exact h.sub k hk
  · intro k hk hE
    by_cases e : k = i
    · subst e; exact addS_same S k
    · rw [addS_ne S e]; exact h.eS k hk hE
  · intro k o hk ho e he hb
    by_cases ek : k = i
    · subst ek
      have := hready o ho e he hb
      simp only [addS, this, Bool.true_or]
    · rw [addS_ne S ek] at hk
      have := h.closed k o hk ho e he hb
      simp only at this
      simp only [addS, this, Bool.true_or]
  · rw [fold_add h hsp hS hdi]; exact htr
  · intro b o hb
    rcases h.x1 b o hb with hs | ⟨k, h1, h2, h3, h4⟩
    · exact .inl (hle b o hs)
    · by_cases e : k = i
      · subst e; exact .inl (heff b o h4)
      · exact .inr ⟨k, h1, h2, by rw [addS_ne S e]; exact h3, h4⟩
  · intro k hk hSk b o he
    obtain ⟨hne, hSk⟩ := addS_false hSk
    obtain ⟨h1, h2, h3⟩ := h.x2 k hk hSk b o he
    refine ⟨?_, h2, h3⟩
    rw [hj b (fun q hq => hne (h.x3 k hk i hi hSk hS b o q he hq))]
    exact h1
  · intro p hp q hq hSp hSq b o o' he1 he2
    exact h.x3 p hp q hq (addS_false hSp).2 (addS_false hSq).2 b o o' he1 he2
  · intro k b o hk
    obtain ⟨h1, h2, h3, h4⟩ := h.x4 k b o hk
    refine ⟨h1, h2, h3, fun hka => ?_⟩
    obtain ⟨h5, h6⟩ := h4 hka
    refine ⟨h5, fun hSk => ?_⟩
    by_cases e : k = i
    · subst e; exact heff b o h2
    · rw [addS_ne S e] at hSk
      exact hle b o (h6 hSk)
  · intro M1 k M2 hsp2 hSk
    exact h.info M1 k M2 hsp2 (addS_false hSk).2

/-- A quiet step that was told is run. -/
theorem Inv.exec_n (hD : compDOps P N ops ops.toList = some D) (h : Inv P dfs N ops D K j0 H0 w0 tmI S a w Cd ac rest steps val eff H HS pd j) {i : Nat} (hi : i ∈ Cd) (hS : S i = false)
    {o : Oper} (ho : ops[i]? = some o) (hready : ∀ e ∈ o.after, Region.binds .any e = true → S e.on = true) {Q : Exit → Act → World → Prop} {next : Act → World → Prop}
    (hn : ∀ a' w' HS' j', Inv P dfs N ops D K j0 H0 w0 tmI (addS S i) a' w' Cd ac rest steps val eff H HS' pd j' → next a' w') : wpOpR P ops Q i next a w := by
  obtain ⟨L1, L2, hsp⟩ := List.append_of_mem hi
  have hready' : ∀ o, ops[i]? = some o → ∀ e ∈ o.after, Region.binds .any e = true → S e.on = true := fun o' ho' => by rw [ho] at ho'; cases ho'; exact hready
  obtain ⟨d, no, hd, hop, hinfo⟩ := h.info L1 i L2 hsp hS
  obtain ⟨hdk, hdst, hg, hk⟩ := compD_inv (compD hD hd ho)
  have hno : compN P o.op = some no ∧ no.opds.all (constOk P.globals.size) = true := by
    rcases hk with ⟨no', h1, h2, h3⟩ | ⟨eo, h1, _⟩
    · rw [hop] at h1; cases h1; exact ⟨h2, h3⟩
    · rw [hop] at h1; cases h1
  have hlook := h.looks_told hsp hS hready' hd
  have hev := EvR.of h.tr h.post.rel.globE
  unfold wpOpR
  rw [ho]
  simp only
  rcases hinfo with ⟨hw, hv, he⟩ | ⟨hw, hinfo⟩
  · have hw' : wantedA (foldA D val S Cd tmI) d.g = some false := by rw [wanted_congr hlook]; exact hw
    rw [wanted_sound (ops := ops) h.tr hg hw']
    simp only [Bool.false_eq_true, if_false]
    refine hn _ _ HS j (h.ran hsp hS hready' hd (by rw [hdst, hv]; exact h.tr.put hdk .undef) h.post rfl (fun b o hb => hb) (fun b _ => rfl) (fun b q hb => by rw [he] at hb; cases hb))
  · have hw' : wantedA (foldA D val S Cd tmI) d.g = some true := by rw [wanted_congr hlook]; exact hw
    rw [wanted_sound (ops := ops) h.tr hg hw']
    simp only [if_true]
    have hevc : ∀ x ∈ no.opds, x.ev (foldA D val (fun _ => true) L1 tmI) = x.ev (foldA D val S Cd tmI) := fun x hx => (ev_congr (d := d) hlook x (by rw [hop]; exact hx)).symm
    have hquiet : ∀ (id : Nat), eff i = none → nop (·.ev (foldA D val S Cd tmI)) HS id no = some (val i, none) → opR P o a w next Q := by
      intro id he hnop
      obtain ⟨vc, hx, hvr⟩ := nop_sound hno.1 hev h.post.rel hnop
      left; unfold Oper.wp
      rw [hx]
      exact hn _ _ HS j (h.ran hsp hS hready' hd (by rw [hdst]; exact h.tr.put hdk hvr) h.post rfl (fun b o hb => hb) (fun b _ => rfl) (fun b q hb => by rw [he] at hb; cases hb))
    rcases hinfo with ⟨hrd, id, hnop, hid⟩ | ⟨hrd, he, hnop⟩
    · have hnop' := hnop HS
      rw [nop_congr hevc] at hnop'
      cases he : eff i with
      | none => rw [he] at hnop'; exact hquiet id he hnop'
      | some q =>
        obtain ⟨b, blk⟩ := q
        have hb := hid _ he
        simp only at hb
        subst hb
        rw [he] at hnop'
        obtain ⟨vc, x, w', hx, hh, h1, h2, h3, hor, _, hvr⟩ := nop_sound hno.1 hev h.post.rel hnop'
        obtain ⟨hjn, hlt, hge⟩ := h.x2 i hi hS b blk he
        have hp := Post.add h.post.rel (id := b) (n := HS.next) hjn (Nat.le_refl _) (by rw [h.next]; exact hlt) hh h1 h2 h3 hor
        left; unfold Oper.wp
        rw [hx]
        refine hn _ w' _ _ (h.ran hsp hS hready' hd (by rw [hdst]; exact (h.tr.mono hp.ext).put hdk (hvr _ hp.ext (Inj.add_same _ _ _))) (h.post.transW hp (fun c hc => Inj.add_ne j _ (by omega))) rfl (fun c q hc => ?_) (fun c hc => Inj.add_ne j _ (fun e => hc blk (by rw [e]; exact he))) (fun c q hc => ?_))
        · have : c ≠ b := fun e => by
            subst e
            obtain ⟨c2, x2, hc2, _⟩ := h.post.rel.obj c q hc
            rw [hjn] at hc2; cases hc2
          simp only [if_neg this]
          exact hc
        · rw [he] at hc
          cases hc
          simp
    · refine hquiet 0 he ?_
      rw [← nop_congr hevc]
      refine nop_at hnop (fun x hx c hc q hq => ?_)
      have hjc : ∃ z, j c = some z := by
        cases x with
        | tmp t =>
          rw [hevc _ hx] at hc
          exact touches_dom (h.tr.tmps t) hc
        | const v =>
          have := List.all_eq_true.1 hno.2 _ hx
          simp only [constOk] at this
          have hc' : touches v = some c := hc
          rw [hc'] at this
          obtain ⟨z, hz⟩ := h.post.rel.globE c (by simpa using this)
          exact ⟨_, hz⟩
      obtain ⟨z, hz⟩ := hjc
      rcases h.x1 c q hq with hs | ⟨k, _, h2, h3, h4⟩
      · exact hs
      · rw [(h.x2 k h2 h3 c q h4).1] at hz; cases hz
end
end Go.Proofs.YtcgkadfgojmmlaaDoor.Abs
set_option linter.unusedVariables false
set_option linter.unusedSimpArgs false
namespace Go.Proofs.YtcgkadfgojmmlaaDoor.Abs
open Go Go.RowKit

theorem reGo_spec {D : List DOp} {M : List Nat} {e : Nat} : ∀ (Cd : List Nat) (re : List (Nat × Guard × NOp)), reGo D M e Cd = some re → ∀ L1 k L2, Cd = L1 ++ k :: L2 → ∀ d no, D[k]? = some d → d.op = .n no → no.reads = true → ancB M k e = false →
    ∃ t, d.dst = some t ∧ (t, d.g, no) ∈ re ∧ t ∉ d.looks ∧ ∀ q ∈ L2 ++ [e], ∀ x, dstOf D q = some x → x ∉ d.looks ∧ x ≠ t
  | [], re, h, L1, k, L2, hs, _, _, _, _, _, _ => by simp at hs
  | c :: rest, re, h, L1, k, L2, hs, d, no, hd, ho, hr, ha => by
    simp only [reGo, Option.bind_eq_some_iff] at h
    obtain ⟨re', hre', h⟩ := h
    cases L1 with
    | nil =>
      simp only [List.nil_append, List.cons.injEq] at hs
      obtain ⟨rfl, rfl⟩ := hs
      rw [hd] at h
      simp only [ho, hr, ha, Bool.not_false, Bool.and_self, if_true] at h
      split at h
      · rename_i t ht
        split at h
        · rename_i hc
          cases h
          simp only [Bool.and_eq_true, Bool.not_eq_true', List.all_eq_true] at hc
          refine ⟨t, ht, List.mem_cons_self .., fun hm => ?_, fun q hq x hx => ?_⟩
          · rw [List.contains_iff_mem.2 hm] at hc; exact absurd hc.1 (by simp)
          · have := hc.2 q hq
            rw [hx] at this
            simp only [Bool.and_eq_true, Bool.not_eq_true', bne_iff_ne, ne_eq] at this
            refine ⟨fun hm => ?_, this.2⟩
            rw [List.contains_iff_mem.2 hm] at this
            exact absurd this.1 (by simp)
        · cases h
      · cases h
    | cons c' L1 =>
      simp only [List.cons_append, List.cons.injEq] at hs
      obtain ⟨rfl, rfl⟩ := hs
      obtain ⟨t, h1, h2, h3⟩ := reGo_spec _ re' hre' L1 k L2 rfl d no hd ho hr ha
      refine ⟨t, h1, ?_, h3⟩
      split at h
      · split at h
        · split at h
          · split at h
            · split at h
              · cases h; exact List.mem_cons_of_mem _ h2
              · cases h
            · cases h
          · cases h; exact h2
        · cases h; exact h2
      · cases h

/-- What is told behind an acting step is forced behind it. -/
theorem drawGo_behind {ops : Array Oper} {D : List DOp} {M : List Nat} (hM : M = ancM ops) {e : Nat} (hE : isE D e = true) : ∀ (rest : List DStep) (Cd ac : List Nat) (steps : List IStep), drawGo ops D M rest Cd ac = some steps → e ∈ Cd →
    ∀ i, i < D.length → i ∉ Cd → Anc ops e i
  | [], Cd, ac, steps, h, he, i, hi, hni => by
    simp only [drawGo] at h
    split at h
    · rename_i hall
      have := List.all_eq_true.1 hall i (List.mem_range.2 hi)
      exact absurd (List.contains_iff_mem.1 this) hni
    · cases h
  | .op k :: rest, Cd, ac, steps, h, he, i, hi, hni => by
    simp only [drawGo] at h
    split at h
    · rename_i d hd
      split at h
      · rename_i hm
        by_cases e1 : i = k
        · subst e1
          simp only [mayCome, Bool.and_eq_true, List.all_eq_true] at hm
          have := hm.2 e he
          rw [hE] at this
          subst hM
          exact ancB_sound (by simpa using this)
        · have hrec : ∀ ac steps, drawGo ops D M rest (Cd ++ [k]) ac = some steps → Anc ops e i := fun ac steps h' =>
            drawGo_behind hM hE rest _ ac steps h' (List.mem_append.2 (.inl he)) i hi (fun hh => by
              rcases List.mem_append.1 hh with hh | hh
              · exact hni hh
              · simp at hh; exact e1 hh)
          split at h
          · simp only [Option.map_eq_some_iff] at h
            obtain ⟨s, hs, _⟩ := h
            exact hrec _ _ hs
          · split at h
            · simp only [Option.bind_eq_some_iff, Option.map_eq_some_iff] at h
              obtain ⟨re, _, s, hs, _⟩ := h
              exact hrec _ _ hs
            · cases h
      · cases h
    · cases h
  | .late k :: rest, Cd, ac, steps, h, he, i, hi, hni => by
    simp only [drawGo] at h
    split at h
    · rename_i d hd
      split at h
      · rename_i hm
        by_cases e1 : i = k
        · subst e1
          simp only [mayCome, Bool.and_eq_true, List.all_eq_true] at hm
          have := hm.2 e he
          rw [hE] at this
          subst hM
          exact ancB_sound (by simpa using this)
        · split at h
          · split at h
            · simp only [Option.map_eq_some_iff] at h
              obtain ⟨s, hs, _⟩ := h
              exact drawGo_behind hM hE rest _ ac s hs (List.mem_append.2 (.inl he)) i hi (fun hh => by
                rcases List.mem_append.1 hh with hh | hh
                · exact hni hh
                · simp at hh; exact e1 hh)
            · cases h
          · cases h
      · cases h
    · cases h
  | .act k :: rest, Cd, ac, steps, h, he, i, hi, hni => by
    simp only [drawGo] at h
    split at h
    · simp only [Option.map_eq_some_iff] at h
      obtain ⟨s, hs, _⟩ := h
      exact drawGo_behind hM hE rest _ _ s hs he i hi hni
    · cases h

section
variable {P : Program} {dfs : List Deferred} {N : Nat} {ops : Array Oper} {D : List DOp} {K : Tms → AH → Prop} {j0 : Inj} {H0 : AH} {w0 : World} {tmI : Tms}
  {S : Nat → Bool} {a : Act} {w : World} {Cd ac : List Nat} {rest : List DStep} {steps : List IStep} {val : Nat → AV} {eff : Nat → Option (Nat × AObj)} {H HS : AH} {pd : Pend} {j : Inj}

/-- The state behind an acting step. -/
theorem Inv.acted {e : Nat} {d : DOp} {steps' : List IStep} (h : Inv P dfs N ops D K j0 H0 w0 tmI S a w Cd ac (.op e :: rest) steps val eff H HS pd j) (hE : isE D e = true) (hd : D[e]? = some d) (hlt : e < ops.size) (hm : mayCome ops D (ancM ops) Cd e d = true)
    (hgo : drawGo ops D (ancM ops) rest (Cd ++ [e]) ac = some steps') (hready : ∀ o, ops[e]? = some o → ∀ x ∈ o.after, Region.binds .any x = true → S x.on = true) (hac : ∀ k ∈ ac, S k = true)
    {v : AV} {j' : Inj} {H' HS' : AH} {a' : Act} {w' : World} (hrun : IRun P K steps' pd (put (foldA D val (fun _ => true) Cd tmI) d.dst v) H') (htr : TR dfs j' N (put (foldA D val S Cd tmI) d.dst v) a') (hpost : Post P j0 H0 w0 j' HS' w') (hnext : HS'.next = H'.next)
    (hH : H.next ≤ H'.next) (hle : H'.le HS') (hfresh : ∀ b, b < H.next → j' b = j b)
    (hpend : ∀ b o z, H.at_ b = none → HS.at_ b = some o → j b = some z → H'.at_ b = none ∧ HS'.at_ b = some o)
    (hre : ∀ L1 k L2, Cd = L1 ++ k :: L2 → S k = false → ∀ dk no, D[k]? = some dk → dk.op = .n no → no.reads = true → wantedA (foldA D val (fun _ => true) L1 tmI) dk.g = some true → nop (·.ev (foldA D val (fun _ => true) L1 tmI)) H 0 no = some (val k, none) →
      nop (·.ev (foldA D val (fun _ => true) L1 tmI)) H' 0 no = some (val k, none)) :
    Inv P dfs N ops D K j0 H0 w0 tmI (addS S e) a' w' (Cd ++ [e]) ac rest steps' (setF val e v) (setF eff e none) H' HS' pd j' := by
  have hm' := hm
  simp only [mayCome, Bool.and_eq_true, Bool.not_eq_true'] at hm'
  have hni : e ∉ Cd := fun hh => by rw [List.contains_iff_mem.2 hh] at hm'; exact absurd hm'.1.1.1 (by simp)
  have hne : ∀ k ∈ Cd, k ≠ e := fun k hk he => hni (he ▸ hk)
  have hdst : dstOf D e = d.dst := by simp [dstOf, hd]
  refine ⟨hgo, ?_, h.stat.snoc hlt hd hm, ?_, ?_, ?_, ?_, hpost, hnext, fun b o hb => .inl (hle b o hb), ?_, ?_, ?_, h.x5, ?_⟩
  · rw [fold_snoc hni, if_pos rfl, hdst]; exact hrun
  · intro k hk
    by_cases ek : k = e
    · subst ek; exact List.mem_append.2 (.inr (by simp))
    · rw [addS_ne S ek] at hk; exact List.mem_append.2 (.inl (h.sub k hk))
  · intro k hk hEk
    by_cases ek : k = e
    · subst ek; exact addS_same S k
    · rw [addS_ne S ek]
      rcases List.mem_append.1 hk with hk | hk
      · exact h.eS k hk hEk
      · simp at hk; exact absurd hk ek
  · intro k o hk ho x hx hb
    by_cases ek : k = e
    · subst ek
      have := hready o ho x hx hb
      simp only [addS, this, Bool.true_or]
    · rw [addS_ne S ek] at hk
      have := h.closed k o hk ho x hx hb
      simp only at this
      simp only [addS, this, Bool.true_or]
  · rw [fold_snoc hni, if_pos (addS_same S e), hdst, foldA_congr_p (q := S) (fun k hk => addS_ne S (hne k hk))]
    exact htr
  · intro k hk hSk b o he
    obtain ⟨hke, hSk⟩ := addS_false hSk
    rcases List.mem_append.1 hk with hk | hk
    · rw [setF_ne eff none hke] at he
      obtain ⟨h1, h2, h3⟩ := h.x2 k hk hSk b o he
      exact ⟨by rw [hfresh b h2]; exact h1, Nat.lt_of_lt_of_le h2 hH, h3⟩
    · simp at hk; exact absurd hk hke
  · intro p hp q hq hSp hSq b o o' he1 he2
    obtain ⟨hpe, hSp⟩ := addS_false hSp
    obtain ⟨hqe, hSq⟩ := addS_false hSq
    rw [setF_ne eff none hpe] at he1
    rw [setF_ne eff none hqe] at he2
    have hp' : p ∈ Cd := by
      rcases List.mem_append.1 hp with hp | hp
      · exact hp
      · simp at hp; exact absurd hp hpe
    have hq' : q ∈ Cd := by
      rcases List.mem_append.1 hq with hq | hq
      · exact hq
      · simp at hq; exact absurd hq hqe
    exact h.x3 p hp' q hq' hSp hSq b o o' he1 he2
  · intro k b o hk
    obtain ⟨h1, h2, h3, h4⟩ := h.x4 k b o hk
    have hke := hne k h1
    refine ⟨List.mem_append.2 (.inl h1), by rw [setF_ne eff none hke]; exact h2, Nat.lt_of_lt_of_le h3 hH, fun hka => ?_⟩
    obtain ⟨h5, h6⟩ := h4 hka
    cases hSk : S k with
    | true =>
      obtain ⟨c, x, hc, _⟩ := h.post.rel.obj b o (h6 hSk)
      obtain ⟨h7, h8⟩ := hpend b o _ h5 (h6 hSk) hc
      exact ⟨h7, fun _ => h8⟩
    | false =>
      obtain ⟨h7, h8, _⟩ := h.x2 k h1 hSk b o h2
      refine ⟨?_, fun hs => ?_⟩
      · cases hb : H'.at_ b with
        | none => rfl
        | some q =>
          obtain ⟨c, x, hc, _⟩ := hpost.rel.obj b q (hle b q hb)
          rw [hfresh b h8, h7] at hc; cases hc
      · rw [addS_ne S hke, hSk] at hs; cases hs
  · intro L1 k L2 hsp hSk
    obtain ⟨hke, hSk⟩ := addS_false hSk
    rcases split_snoc hsp with ⟨rfl, rfl, rfl⟩ | ⟨L3, rfl, hsp2⟩
    · exact absurd rfl hke
    · have hk : k ∈ Cd := by rw [hsp2]; simp
      have ee : foldA D (setF val e v) (fun _ => true) L1 tmI = foldA D val (fun _ => true) L1 tmI := foldA_val (fun q hq _ => setF_ne val v (hne q (by rw [hsp2]; simp [hq])))
      rw [ee]
      have hin := h.info L1 k L3 hsp2 hSk
      refine NInfo.congr (val := val) (eff := eff) ?_ (setF_ne val v hke) (setF_ne eff none hke)
      obtain ⟨dk, no, hdk, hop, hin⟩ := hin
      refine ⟨dk, no, hdk, hop, hin.imp id (fun ⟨hw, hin⟩ => ⟨hw, hin.imp id (fun ⟨hr, he, hn⟩ => ⟨hr, he, hre L1 k L3 hsp2 hSk dk no hdk hop hr hw hn⟩)⟩)⟩

theorem Inv.exec_e {e : Nat} (hD : compDOps P N ops ops.toList = some D) (h : Inv P dfs N ops D K j0 H0 w0 tmI S a w Cd ac (.op e :: rest) steps val eff H HS pd j) (hE : isE D e = true)
    {o : Oper} (ho : ops[e]? = some o) (hready : ∀ x ∈ o.after, Region.binds .any x = true → S x.on = true) {Q : Exit → Act → World → Prop} {next : Act → World → Prop}
    (hn : ∀ a' w' Cd' rest' steps' val' eff' H' HS' j', Inv P dfs N ops D K j0 H0 w0 tmI (addS S e) a' w' Cd' ac rest' steps' val' eff' H' HS' pd j' → next a' w') : wpOpR P ops Q e next a w := by
  have hready' : ∀ o, ops[e]? = some o → ∀ x ∈ o.after, Region.binds .any x = true → S x.on = true := fun o' ho' => by rw [ho] at ho'; cases ho'; exact hready
  have hlt : e < ops.size := (Array.getElem?_eq_some_iff.1 ho).1
  have hgo := h.go
  simp only [drawGo] at hgo
  split at hgo
  case h_2 => cases hgo
  rename_i d hd
  split at hgo
  case isFalse => cases hgo
  rename_i hm
  split at hgo
  · rename_i no hop
    simp [isE, hd, hop] at hE
  rename_i eo hop
  split at hgo
  case isFalse => cases hgo
  rename_i hac
  simp only [Option.bind_eq_some_iff, Option.map_eq_some_iff] at hgo
  obtain ⟨re, hre, steps', hgo, rfl⟩ := hgo
  obtain ⟨hdk, hdst, hg, hk⟩ := compD_inv (compD hD hd ho)
  have heo : compE P o.op = some eo := by
    rcases hk with ⟨no', h1, _⟩ | ⟨eo', h1, h2⟩
    · rw [hop] at h1; cases h1
    · rw [hop] at h1; cases h1; exact h2
  have hacS : ∀ k ∈ ac, S k = true := fun k hk => h.closed.anc (ancB_sound (List.all_eq_true.1 hac k hk)) hready'
  have hle : H.le HS := by
    intro b q hb
    rcases h.x1 b q hb with hs | ⟨k, h1, _, h3, _⟩
    · exact hs
    · rw [hacS k h1] at h3; cases h3
  have hm' := hm
  simp only [mayCome, Bool.and_eq_true, Bool.not_eq_true', List.all_eq_true] at hm'
  have hlook : ∀ t ∈ d.looks, foldA D val S Cd tmI t = foldA D val (fun _ => true) Cd tmI t := by
    intro t ht
    refine foldA_agree (fun k hk hdk' => ?_) rfl
    obtain ⟨dk, hdk2, hdt⟩ := dstOf_some hdk'
    have := hm'.1.2 k hk
    rw [hdk2] at this
    simp only [conflict_look hdt ht, Bool.not_true, Bool.false_or] at this
    exact h.closed.anc (ancB_sound this) hready'
  have hrun := h.run
  simp only [IRun] at hrun
  unfold wpOpR
  rw [ho]
  simp only
  split at hrun
  · rename_i hw
    have hw' : wantedA (foldA D val S Cd tmI) d.g = some true := by rw [wanted_congr hlook]; exact hw
    rw [wanted_sound (ops := ops) h.tr hg hw']
    simp only [if_true]
    have hevc : ∀ x ∈ eo.opds, x.ev (foldA D val (fun _ => true) Cd tmI) = x.ev (foldA D val S Cd tmI) := fun x hx => (ev_congr (d := d) hlook x (by rw [hop]; exact hx)).symm
    rw [estep_congr hevc] at hrun
    have hrel : Rel P j H w := h.post.rel.forget (by rw [h.next]; exact Nat.le_refl _) hle
    refine estep_sound heo (EvR.of h.tr h.post.rel.globE) hrel hrun ?_
    rintro v vc j' H' w' ⟨hst, hrun'⟩ hp hvr
    have hnn : HS.next ≤ H'.next := by rw [h.next]; exact hp.next
    have hpp := Post.readd h.post.rel hle h.next hnn hp
    refine hn _ w' _ _ _ _ _ H' (AH.plus H' H HS) j' (h.acted hE hd hlt hm hgo hready' hacS (v := v) hrun' (by rw [hdst]; exact (h.tr.mono hp.ext).put hdk hvr) (h.post.trans hpp) rfl hp.next AH.plus_le hp.fresh ?_ ?_)
    · intro b q z hb hq hz
      have hnone : H'.at_ b = none := by
        cases hb' : H'.at_ b with
        | none => rfl
        | some q' =>
          exfalso
          obtain ⟨c, y⟩ := z
          have hj' := hp.ext _ _ hz
          obtain ⟨b0, y0, h1, h2, _⟩ := hp.orig b c y hj' (AH.live_of hb') (h.post.rel.dom b c y hz).2
          have := h.post.rel.inj b0 b c y0 y h2 hz (AH.le_live hle h1) (AH.live_of hq)
          subst this
          rw [AH.live, hb] at h1; cases h1
      exact ⟨hnone, by simp only [AH.plus, hnone, hb, hq]⟩
    · intro L1 k L2 hsp hSk dk no hdk2 hopk hr hwk hnk
      have hanc : ancB (ancM ops) k e = false := by
        cases ha : ancB (ancM ops) k e with
        | false => rfl
        | true => have := h.closed.anc (ancB_sound ha) hready'; rw [hSk] at this; cases this
      obtain ⟨t, ht, hmem, htl, hfar⟩ := reGo_spec Cd re hre L1 k L2 hsp dk no hdk2 hopk hr hanc
      have hst' := hst _ hmem
      have hdstk : dstOf D k = some t := by simp [dstOf, hdk2, ht]
      have hde : dstOf D e = d.dst := by simp [dstOf, hd]
      have hagree : ∀ x ∈ dk.looks, put (foldA D val (fun _ => true) Cd tmI) d.dst v x = foldA D val (fun _ => true) L1 tmI x := by
        intro x hx
        rw [put_far _ _ (fun hdx => (hfar e (by simp) x (by rw [hde]; exact hdx)).1 hx), hsp, foldA_append]
        have h0 : ∀ tm, foldA D val (fun _ => true) L2 tm x = tm x := fun tm => by
          have : ∀ L : List Nat, (∀ q ∈ L, dstOf D q ≠ some x) → ∀ tm, foldA D val (fun _ => true) L tm x = tm x := by
            intro L
            induction L with
            | nil => intro _ tm; rfl
            | cons q L ih =>
              intro hq tm
              simp only [foldA, if_true]
              rw [ih (fun q' hq' => hq q' (List.mem_cons_of_mem _ hq'))]
              exact put_far tm _ (hq q (List.mem_cons_self ..))
          exact this L2 (fun q hq hqx => (hfar q (List.mem_append.2 (.inl hq)) x hqx).1 hx) tm
        simp only [foldA, if_true]
        rw [h0, put_far _ _ (fun hdx => by rw [hdstk] at hdx; cases hdx; exact htl hx)]
      have hval : put (foldA D val (fun _ => true) Cd tmI) d.dst v t = val k := by
        rw [put_far _ _ (fun hdx => (hfar e (by simp) t (by rw [hde]; exact hdx)).2 rfl), hsp, foldA_append]
        have h0 : ∀ tm, foldA D val (fun _ => true) L2 tm t = tm t := fun tm => by
          have : ∀ L : List Nat, (∀ q ∈ L, dstOf D q ≠ some t) → ∀ tm, foldA D val (fun _ => true) L tm t = tm t := by
            intro L
            induction L with
            | nil => intro _ tm; rfl
            | cons q L ih =>
              intro hq tm
              simp only [foldA, if_true]
              rw [ih (fun q' hq' => hq q' (List.mem_cons_of_mem _ hq'))]
              exact put_far tm _ (hq q (List.mem_cons_self ..))
          exact this L2 (fun q hq hqx => (hfar q (List.mem_append.2 (.inl hq)) t hqx).2 rfl) tm
        simp only [foldA, if_true]
        rw [h0, hdstk]
        exact upd_same _ _ _
      have hwk2 : wantedA (put (foldA D val (fun _ => true) Cd tmI) d.dst v) dk.g = some true := by
        rw [wanted_congr (d := dk) hagree]; exact hwk
      rcases hst' with hf | hnop
      · have hf' : wantedA (put (foldA D val (fun _ => true) Cd tmI) d.dst v) dk.g = some false := hf
        rw [hwk2] at hf'; cases hf'
      · replace hnop : nop (·.ev (put (foldA D val (fun _ => true) Cd tmI) d.dst v)) H' 0 no = some (put (foldA D val (fun _ => true) Cd tmI) d.dst v t, none) := hnop
        rw [hval] at hnop
        rw [← nop_congr (ev := (·.ev (put (foldA D val (fun _ => true) Cd tmI) d.dst v))) (ev' := (·.ev (foldA D val (fun _ => true) L1 tmI))) (fun x hx => ev_congr (d := dk) hagree x (by rw [hopk]; exact hx))]
        exact hnop
  · rename_i hw
    have hw' : wantedA (foldA D val S Cd tmI) d.g = some false := by rw [wanted_congr hlook]; exact hw
    rw [wanted_sound (ops := ops) h.tr hg hw']
    simp only [Bool.false_eq_true, if_false]
    refine hn _ w _ _ _ _ _ H HS j (h.acted hE hd hlt hm hgo hready' hacS (v := .undef) hrun (by rw [hdst]; exact h.tr.put hdk .undef) h.post h.next (Nat.le_refl _) hle (fun _ _ => rfl) (fun b q z h1 h2 _ => ⟨h1, h2⟩) (fun L1 k L2 _ _ dk no _ _ _ _ hnk => hnk))
  · exact hrun.elim

theorem filter_set_length {l : List Nat} {q : Nat → Bool} {i : Nat} (hnd : l.Nodup) (hi : i ∈ l) (hq : q i = true) {q' : Nat → Bool} (h1 : q' i = false) (h2 : ∀ k, k ≠ i → q' k = q k) : (l.filter q').length + 1 = (l.filter q).length := by
  induction l with
  | nil => simp at hi
  | cons x l ih =>
    obtain ⟨hx, hnd'⟩ := List.nodup_cons.1 hnd
    by_cases e : x = i
    · subst e
      have : l.filter q' = l.filter q := List.filter_congr (fun k hk => h2 k (fun e => hx (e ▸ hk)))
      simp [List.filter_cons, h1, hq, this]
    · have hi' : i ∈ l := by
        rcases List.mem_cons.1 hi with h | h
        · exact absurd h.symm e
        · exact h
      have := ih hnd' hi'
      rw [List.filter_cons, List.filter_cons, h2 x e]
      cases q x
      · simpa using this
      · simp only [if_true, List.length_cons]; omega

theorem wpAny_inv (hD : compDOps P N ops ops.toList = some D) {Q : Exit → Act → World → Prop} (hq : ∀ j' tm' H' a' w', K tm' H' → TR dfs j' N tm' a' → Post P j0 H0 w0 j' H' w' → Q .normal a' w') : ∀ (fuel : Nat) (listed : Array Bool) (a : Act) (w : World) (Cd ac : List Nat) (rest : List DStep) (steps : List IStep) (val : Nat → AV)
    (eff : Nat → Option (Nat × AObj)) (H HS : AH) (pd : Pend) (j : Inj), listed.size = ops.size → ((List.range ops.size).filter fun k => !listed.getD k false).length ≤ fuel →
    Inv P dfs N ops D K j0 H0 w0 tmI (fun k => listed.getD k false) a w Cd ac rest steps val eff H HS pd j → wpAnyR P .any ops Q fuel listed a w := by
  have hlen : D.length = ops.size := by rw [(compDOps_get hD).1]; simp
  have hfin : ∀ (listed : Array Bool) (a : Act) (w : World) (Cd ac : List Nat) (rest : List DStep) (steps : List IStep) (val : Nat → AV) (eff : Nat → Option (Nat × AObj)) (H HS : AH) (pd : Pend) (j : Inj), listed.size = ops.size →
      Inv P dfs N ops D K j0 H0 w0 tmI (fun k => listed.getD k false) a w Cd ac rest steps val eff H HS pd j → Region.ready .any ops listed = [] → Q .normal a w := by
    intro listed a w Cd ac rest steps val eff H HS pd j hsz h hre
    obtain ⟨Cd, ac, rest, steps, val, eff, H, HS, pd, h, hrest⟩ := h.adv hlen
    have hnr : ∀ i, i < ops.size → listed.getD i false = false → (∀ o, ops[i]? = some o → ∀ e ∈ o.after, Region.binds .any e = true → listed.getD e.on false = true) → False := by
      intro i hi hS hp
      have : i ∈ Region.ready .any ops listed := by
        rw [mem_ready]
        refine ⟨?_, ops[i], Array.getElem?_eq_getElem hi, fun e he hb => hp _ (Array.getElem?_eq_getElem hi) e he hb⟩
        rw [Array.getD_eq_getD_getElem?] at hS ⊢
        rw [Array.getElem?_eq_getElem (by omega)] at hS ⊢
        exact hS
      rw [hre] at this
      simp at this
    have hall : ∀ (n : Nat) L1 L2, L1.length = n → Cd = L1 ++ L2 → ∀ i ∈ L1, listed.getD i false = true := by
      intro n
      induction n with
      | zero => intro L1 L2 hl _ i hi; rw [List.eq_nil_of_length_eq_zero hl] at hi; simp at hi
      | succ n ih =>
        intro L1' L2 hl hc i hi
        rcases List.eq_nil_or_concat L1' with rfl | ⟨L1, k, rfl⟩
        · simp at hi
        · have hc2 : Cd = L1 ++ k :: L2 := by rw [hc]; simp
          have hL1 := ih L1 (k :: L2) (by simpa using hl) hc2
          have hi' : i ∈ L1 ++ [k] := by simpa using hi
          rcases List.mem_append.1 hi' with hi | hi
          · exact hL1 i hi
          · simp at hi
            subst hi
            cases hS : listed.getD i false with
            | true => rfl
            | false => exact (hnr i (h.stat.lt i (by rw [hc2]; simp)) hS (fun o ho e he hb => hL1 _ (h.stat.preds L1 i L2 hc2 o ho e he hb))).elim
    have hallCd : ∀ i ∈ Cd, listed.getD i false = true := hall Cd.length Cd [] rfl (by simp)
    rcases hrest with rfl | ⟨e, r, rfl, hE⟩
    · have hrun := h.run
      have hgo := h.go
      simp only [drawGo] at hgo
      split at hgo
      · cases hgo
        have hle : H.le HS := by
          intro b q hb
          rcases h.x1 b q hb with hs | ⟨k, _, h2, h3, _⟩
          · exact hs
          · have h3' : listed.getD k false = false := h3
            rw [hallCd k h2] at h3'; cases h3'
        have hfold : foldA D val (fun k => listed.getD k false) Cd tmI = foldA D val (fun _ => true) Cd tmI := foldA_congr_p (fun k hk => hallCd k hk)
        exact hq j _ H a w hrun (by rw [← hfold]; exact h.tr) (h.post.forget hle (by rw [h.next]; exact Nat.le_refl _))
      · cases hgo
    · exfalso
      have hgo := h.go
      simp only [drawGo] at hgo
      split at hgo
      · rename_i d hd
        split at hgo
        · rename_i hm
          have hlt : e < ops.size := by rw [← hlen]; exact (List.getElem?_eq_some_iff.1 hd).1
          simp only [mayCome, Bool.and_eq_true, Bool.not_eq_true'] at hm
          have hni : e ∉ Cd := fun hh => by rw [List.contains_iff_mem.2 hh] at hm; exact absurd hm.1.1.1 (by simp)
          refine hnr e hlt ?_ (fun o ho x hx hb => ?_)
          · cases hS : listed.getD e false with
            | false => rfl
            | true => exact absurd (h.sub e hS) hni
          · have hp := hm.1.1.2
            simp only [predsIn, ho] at hp
            have := Array.all_eq_true_iff_forall_mem.1 hp x hx
            rw [hb] at this
            exact hallCd _ (List.contains_iff_mem.1 (by simpa using this))
        · cases hgo
      · cases hgo
  intro fuel
  induction fuel with
  | zero =>
    intro listed a w Cd ac rest steps val eff H HS pd j hsz hf h
    have hre : Region.ready .any ops listed = [] := by
      rw [List.eq_nil_iff_forall_not_mem]
      intro i hi
      rw [mem_ready] at hi
      obtain ⟨h0, o, ho, _⟩ := hi
      have hlt : i < ops.size := (Array.getElem?_eq_some_iff.1 ho).1
      have h0' : listed.getD i false = false := by
        rw [Array.getD_eq_getD_getElem?] at h0 ⊢
        rw [Array.getElem?_eq_getElem (by omega)] at h0 ⊢
        exact h0
      have : i ∈ (List.range ops.size).filter fun k => !listed.getD k false := List.mem_filter.2 ⟨List.mem_range.2 hlt, by rw [h0']; rfl⟩
      have hnil : ((List.range ops.size).filter fun k => !listed.getD k false) = [] := List.eq_nil_of_length_eq_zero (by omega)
      rw [hnil] at this
      simp at this
    exact ⟨hre, hfin listed a w _ _ _ _ _ _ _ _ _ _ hsz h hre⟩
  | succ fuel ih =>
    intro listed a w Cd ac rest steps val eff H HS pd j hsz hf h
    refine ⟨fun hre => hfin listed a w _ _ _ _ _ _ _ _ _ _ hsz h hre, fun i hi => ?_⟩
    obtain ⟨Cd, ac, rest, steps, val, eff, H, HS, pd, h, hrest⟩ := h.adv hlen
    rw [mem_ready] at hi
    obtain ⟨h0, o, ho, hpre⟩ := hi
    have hlt : i < ops.size := (Array.getElem?_eq_some_iff.1 ho).1
    have h0' : listed.getD i false = false := by
      rw [Array.getD_eq_getD_getElem?] at h0 ⊢
      rw [Array.getElem?_eq_getElem (by omega)] at h0 ⊢
      exact h0
    have hS' : (fun k => (listed.setIfInBounds i true).getD k false) = addS (fun k => listed.getD k false) i := by
      funext k
      by_cases e : k = i
      · subst e
        rw [addS_same]
        rw [Array.getD_eq_getD_getElem?, Array.getElem?_setIfInBounds_self_of_lt (by omega)]
        rfl
      · rw [addS_ne _ e]
        rw [Array.getD_eq_getD_getElem?, Array.getElem?_setIfInBounds_ne (Ne.symm e), ← Array.getD_eq_getD_getElem?]
    have hcnt : ((List.range ops.size).filter fun k => !(listed.setIfInBounds i true).getD k false).length ≤ fuel := by
      have := filter_set_length (l := List.range ops.size) (q := fun k => !listed.getD k false) (i := i) List.nodup_range (List.mem_range.2 hlt) (by show (!listed.getD i false) = true; rw [h0']; rfl)
        (q' := fun k => !(listed.setIfInBounds i true).getD k false) (by have := congrFun hS' i; show (!(listed.setIfInBounds i true).getD i false) = false; rw [this, addS_same]; rfl) (fun k hk => by have := congrFun hS' k; show (!(listed.setIfInBounds i true).getD k false) = _; rw [this, addS_ne _ hk])
      omega
    by_cases hic : i ∈ Cd
    · refine h.exec_n hD hic h0' ho hpre (fun a' w' HS' j' h' => ?_)
      exact ih _ a' w' _ _ _ _ _ _ _ _ _ _ (by simp [hsz]) hcnt (by rw [hS']; exact h')
    · rcases hrest with rfl | ⟨e, r, rfl, hE⟩
      · exfalso
        have hgo := h.go
        simp only [drawGo] at hgo
        split at hgo
        · rename_i hall
          have := List.all_eq_true.1 hall i (List.mem_range.2 (by omega))
          exact hic (List.contains_iff_mem.1 this)
        · cases hgo
      · by_cases hie : i = e
        · subst hie
          refine h.exec_e hD hE ho hpre (fun a' w' Cd' rest' steps' val' eff' H' HS' j' h' => ?_)
          exact ih _ a' w' _ _ _ _ _ _ _ _ _ _ (by simp [hsz]) hcnt (by rw [hS']; exact h')
        · exfalso
          have hgo := h.go
          simp only [drawGo] at hgo
          split at hgo
          · rename_i d hd
            split at hgo
            · rename_i hm
              split at hgo
              · rename_i no hop
                simp [isE, hd, hop] at hE
              · split at hgo
                · simp only [Option.bind_eq_some_iff, Option.map_eq_some_iff] at hgo
                  obtain ⟨re, _, s, hs, _⟩ := hgo
                  have hanc := drawGo_behind rfl hE r (Cd ++ [e]) ac s hs (by simp) i (by omega) (fun hh => by
                    rcases List.mem_append.1 hh with hh | hh
                    · exact hic hh
                    · simp at hh; exact hie hh)
                  have heS := h.closed.anc hanc (fun o' ho' x hx hb => by rw [ho] at ho'; cases ho'; exact hpre x hx hb)
                  simp only [mayCome, Bool.and_eq_true, Bool.not_eq_true'] at hm
                  have := h.sub e heS
                  rw [List.contains_iff_mem.2 this] at hm
                  exact absurd hm.1.1.1 (by simp)
                · cases hgo
            · cases hgo
          · cases hgo
theorem draw_sound {id : Nat} {steps : List IStep} {Q : Exit → Act → World → Prop} {H : AH} {tm : Tms} (hm : P.follows .mixedOrders = true)
    (hc : compDraw P N ops = some steps) (h : IRun P K steps [] tm H) (ht : TR dfs j N tm a) (hr : Rel P j H w)
    (hq : ∀ j' tm' H' a' w', K tm' H' → TR dfs j' N tm' a' → Post P j H w j' H' w' → Q .normal a' w') : wpAnyR P .any ops Q ops.size (Array.replicate ops.size false) a { w with drawn := w.drawn + 1 } := by
  simp only [compDraw, Option.bind_eq_some_iff] at hc
  obtain ⟨D, hD, hgo⟩ := hc
  have hr' : Rel P j H { w with drawn := w.drawn + 1 } := hr.of_heap rfl
  have hp0 : Post P j H w j H { w with drawn := w.drawn + 1 } := Post.of_heap hr rfl rfl rfl rfl
  refine wpAny_inv (D := D) (K := K) (j0 := j) (H0 := H) (w0 := w) (tmI := tm) hD hq ops.size (Array.replicate ops.size false) a _ [] [] (orderOf D (ancM ops)) steps (fun _ => .undef) (fun _ => none) H H [] j (by simp) ?_ ?_
  · exact Nat.le_trans (List.length_filter_le _ _) (by simp)
  · have hS : ∀ k, (Array.replicate ops.size false).getD k false = false := fun k => by
      rw [Array.getD_eq_getD_getElem?, Array.getElem?_replicate]
      split <;> rfl
    refine ⟨hgo, h, Stat.nil, fun i hi => ?_, fun i hi => by simp at hi, fun i o hi => ?_, ht, hp0, rfl, fun b o hb => .inl hb, fun i hi => by simp at hi, fun i hi => by simp at hi, fun i b o hi => by simp at hi, fun i k b o q hi => by simp at hi, fun L1 i L2 hs => by simp at hs⟩
    · rw [hS] at hi; cases hi
    · simp only at hi; rw [hS] at hi; cases hi
end
end Go.Proofs.YtcgkadfgojmmlaaDoor.Abs

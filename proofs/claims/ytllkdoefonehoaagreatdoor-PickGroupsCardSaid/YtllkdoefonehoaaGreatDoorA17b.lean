/- A region that draws its order: the order in which it is told, and what is asked of it. No condition. -/
import Derived.Test.YtllkdoefonehoaaGreatDoorA17a
set_option linter.unusedVariables false
set_option linter.unusedSimpArgs false
namespace Go.Proofs.YtllkdoefonehoaaGreatDoor.Abs
open Go Go.RowKit

inductive NE where
  | n (o : NOp)
  | e (o : EOp)
  deriving Inhabited
structure DOp where
  dst : Option Nat
  g : Guard
  op : NE
  deriving Inhabited
def NE.opds : NE → List IOpd
  | .n o => o.opds
  | .e o => o.opds
def guardT : Guard → List Nat
  | none => []
  | some (g, _) => [g]
def DOp.looks (d : DOp) : List Nat := guardT d.g ++ d.op.opds.flatMap IOpd.tmps
def constOk (G : Nat) : IOpd → Bool
  | .tmp _ => true
  | .const v => match touches v with
    | some c => decide (c < G)
    | none => true
def compDOp (P : Program) (N : Nat) (ops : Array Oper) (o : Oper) : Option DOp :=
  if dstOk N o.dst then (compG N ops o.guard).bind fun g => match compN P o.op with
    | some no => if no.opds.all (constOk P.globals.size) then some ⟨o.dst, g, .n no⟩ else none
    | none => (compE P o.op).map fun eo => ⟨o.dst, g, .e eo⟩
  else none
def compDOps (P : Program) (N : Nat) (ops : Array Oper) : List Oper → Option (List DOp)
  | [] => some []
  | o :: os => (compDOp P N ops o).bind fun d => (compDOps P N ops os).map (d :: ·)
theorem compDOps_get {P : Program} {N : Nat} {ops : Array Oper} : ∀ {os : List Oper} {D : List DOp}, compDOps P N ops os = some D → D.length = os.length ∧ ∀ (i : Nat) (d : DOp), D[i]? = some d → ∃ o, os[i]? = some o ∧ compDOp P N ops o = some d
  | [], D, h => by cases h; exact ⟨rfl, fun i d hd => by simp at hd⟩
  | o :: os, D, h => by
    simp only [compDOps, Option.bind_eq_some_iff, Option.map_eq_some_iff] at h
    obtain ⟨d, hd, D', hD', rfl⟩ := h
    obtain ⟨h1, h2⟩ := compDOps_get hD'
    refine ⟨by simp [h1], fun i d' hi => ?_⟩
    cases i with
    | zero => simp at hi; subst hi; exact ⟨o, rfl, hd⟩
    | succ i => simp at hi; simpa using h2 i d' hi

def dstOf (D : List DOp) (k : Nat) : Option Nat := (D[k]?).bind (·.dst)
def isE (D : List DOp) (k : Nat) : Bool :=
  match D[k]? with
  | some d => match d.op with
    | .e _ => true
    | .n _ => false
  | none => false
def conflict (a b : DOp) : Bool :=
  (match a.dst with
    | some d => b.looks.contains d || b.dst == some d
    | none => false) ||
  (match b.dst with
    | some d => a.looks.contains d
    | none => false)

inductive DStep where
  | op (i : Nat)
  | late (i : Nat)
  | act (i : Nat)
  deriving Inhabited

def predsIn (ops : Array Oper) (Cd : List Nat) (i : Nat) : Bool :=
  match ops[i]? with
  | some o => o.after.all fun e => !Region.binds .any e || Cd.contains e.on
  | none => false
def mayCome (ops : Array Oper) (D : List DOp) (M : List Nat) (Cd : List Nat) (i : Nat) (d : DOp) : Bool :=
  !Cd.contains i && predsIn ops Cd i && (Cd.all fun k => match D[k]? with
    | some dk => !conflict dk d || ancB M k i
    | none => false) && (Cd.all fun k => !isE D k || ancB M k i)
/-- The reading steps that may come behind step i: they are asked again there. -/
def reGo (D : List DOp) (M : List Nat) (i : Nat) : List Nat → Option (List (Nat × Guard × NOp))
  | [] => some []
  | k :: rest => (reGo D M i rest).bind fun re => match D[k]? with
    | some d => match d.op with
      | .n no => if no.reads && !ancB M k i then (match d.dst with
          | some t => if !d.looks.contains t && (rest ++ [i]).all (fun q => match dstOf D q with
              | some x => !d.looks.contains x && x != t
              | none => true) then some ((t, d.g, no) :: re) else none
          | none => none) else some re
      | .e _ => some re
    | none => none
def drawGo (ops : Array Oper) (D : List DOp) (M : List Nat) : List DStep → List Nat → List Nat → Option (List IStep)
  | [], Cd, ac => if (List.range D.length).all Cd.contains then some [] else none
  | .op i :: rest, Cd, ac => match D[i]? with
    | some d => if mayCome ops D M Cd i d then (match d.op with
      | .n no => (drawGo ops D M rest (Cd ++ [i]) (if no.allocs then i :: ac else ac)).map (.n d.dst d.g no :: ·)
      | .e eo => if ac.all (ancB M · i) then (reGo D M i Cd).bind fun re => (drawGo ops D M rest (Cd ++ [i]) ac).map (.e d.dst d.g eo re :: ·) else none) else none
    | none => none
  | .late i :: rest, Cd, ac => match D[i]? with
    | some d => if mayCome ops D M Cd i d then (match d.op with
      | .n no => if no.allocs then (drawGo ops D M rest (Cd ++ [i]) ac).map (.late i d.dst d.g no :: ·) else none
      | .e eo => none) else none
    | none => none
  | .act i :: rest, Cd, ac => if Cd.contains i && !ac.contains i then (drawGo ops D M rest Cd (i :: ac)).map (.act i :: ·) else none

/-! The order itself: each quiet step as early as the acting ones let it; a new block is laid behind all acting steps that may come ahead of it. -/
def phaseOf (D : List DOp) (M : List Nat) (i : Nat) : Nat := ((List.range D.length).filter fun k => isE D k && ancB M k i).length
def crosses (D : List DOp) (M : List Nat) (i : Nat) : Bool := (List.range D.length).any fun k => isE D k && !ancB M i k && !ancB M k i
def isAlloc (D : List DOp) (k : Nat) : Bool :=
  match D[k]? with
  | some d => match d.op with
    | .n no => no.allocs
    | .e _ => false
  | none => false
def orderGo (D : List DOp) (M : List Nat) (es : List Nat) : List Nat → Nat → List Nat → List DStep
  | [], ph, lates => ((List.range D.length).filter fun i => !isE D i && phaseOf D M i == ph).map (fun i => if isAlloc D i && crosses D M i then DStep.late i else DStep.op i) ++ lates.map .act
  | e :: rest, ph, lates =>
    let here := (List.range D.length).filter fun i => !isE D i && phaseOf D M i == ph
    let nl := here.filter fun i => isAlloc D i && crosses D M i
    let all := lates ++ nl
    here.map (fun i => if isAlloc D i && crosses D M i then DStep.late i else DStep.op i) ++ (all.filter fun i => ancB M i e).map .act ++ [.op e] ++ orderGo D M es rest (ph + 1) (all.filter fun i => !ancB M i e)
def orderOf (D : List DOp) (M : List Nat) : List DStep := orderGo D M [] ((List.range D.length).filter (isE D)) 0 []
def compDraw (P : Program) (N : Nat) (ops : Array Oper) : Option (List IStep) :=
  (compDOps P N ops ops.toList).bind fun D => drawGo ops D (ancM ops) (orderOf D (ancM ops)) [] []

/-! ### Temporaries behind some of the steps -/
def foldA (D : List DOp) (val : Nat → AV) (p : Nat → Bool) : List Nat → Tms → Tms
  | [], tm => tm
  | k :: L, tm => foldA D val p L (if p k then put tm (dstOf D k) (val k) else tm)
section
variable {D : List DOp} {val val' : Nat → AV} {p q : Nat → Bool}
theorem put_at (tm tm' : Tms) (d : Option Nat) (v : AV) {t : Nat} (h : tm t = tm' t) : put tm d v t = put tm' d v t := by
  cases d with
  | none => exact h
  | some d =>
    show upd tm d v t = upd tm' d v t
    by_cases e : t = d
    · subst e; rw [upd_same, upd_same]
    · rw [upd_ne tm v e, upd_ne tm' v e]; exact h
theorem put_far (tm : Tms) {d : Option Nat} (v : AV) {t : Nat} (h : d ≠ some t) : put tm d v t = tm t := by
  cases d with
  | none => rfl
  | some d => exact upd_ne tm v (fun e => h (by rw [e]))
theorem foldA_agree : ∀ {L : List Nat} {tm tm' : Tms} {t : Nat}, (∀ k ∈ L, dstOf D k = some t → p k = q k) → tm t = tm' t → foldA D val p L tm t = foldA D val q L tm' t
  | [], tm, tm', t, _, h => h
  | k :: L, tm, tm', t, hk, h => by
    simp only [foldA]
    refine foldA_agree (L := L) (fun k hk' => hk k (List.mem_cons_of_mem _ hk')) ?_
    by_cases hd : dstOf D k = some t
    · rw [hk k (List.mem_cons_self ..) hd]
      split
      · exact put_at tm tm' _ _ h
      · exact h
    · have h1 : (if p k then put tm (dstOf D k) (val k) else tm) t = tm t := by
        split
        · exact put_far tm _ hd
        · rfl
      have h2 : (if q k then put tm' (dstOf D k) (val k) else tm') t = tm' t := by
        split
        · exact put_far tm' _ hd
        · rfl
      rw [h1, h2]; exact h
theorem foldA_append (L1 L2 : List Nat) (tm : Tms) : foldA D val p (L1 ++ L2) tm = foldA D val p L2 (foldA D val p L1 tm) := by
  induction L1 generalizing tm with
  | nil => rfl
  | cons k L ih => exact ih _
theorem foldA_val : ∀ {L : List Nat} {tm : Tms}, (∀ k ∈ L, p k = true → val k = val' k) → foldA D val p L tm = foldA D val' p L tm
  | [], tm, _ => rfl
  | k :: L, tm, h => by
    simp only [foldA]
    rw [foldA_val (L := L) (fun k hk => h k (List.mem_cons_of_mem _ hk))]
    congr 1
    split
    · rename_i hp; rw [h k (List.mem_cons_self ..) hp]
    · rfl
theorem foldA_none : ∀ {L : List Nat} {tm : Tms} {t : Nat}, (∀ k ∈ L, dstOf D k = some t → p k = false) → foldA D val p L tm t = tm t
  | [], tm, t, _ => rfl
  | k :: L, tm, t, h => by
    simp only [foldA]
    rw [foldA_none (fun k hk => h k (List.mem_cons_of_mem _ hk))]
    split
    · rename_i hp
      by_cases hd : dstOf D k = some t
      · rw [h k (List.mem_cons_self ..) hd] at hp; cases hp
      · exact put_far tm _ hd
    · rfl
theorem foldA_congr_p : ∀ {L : List Nat} {tm : Tms}, (∀ k ∈ L, p k = q k) → foldA D val p L tm = foldA D val q L tm
  | [], tm, _ => rfl
  | k :: L, tm, h => by
    simp only [foldA]
    rw [h k (List.mem_cons_self ..), foldA_congr_p (fun k hk => h k (List.mem_cons_of_mem _ hk))]
end
end Go.Proofs.YtllkdoefonehoaaGreatDoor.Abs

/- The quiet steps without new memory: the model's operation comes to their answer. No condition. -/
import Derived.Test.YtdjlpifikeopdaaDoorA6
set_option linter.unusedVariables false
set_option linter.unusedSimpArgs false
namespace Go.Proofs.YtdjlpifikeopdaaDoor.Abs
open Go Go.RowKit

/-- What a computation of a value comes to. -/
def NV (P : Program) (s : Sem Value) (j : Inj) (w : World) (id : Nat) (v : AV) : Option AObj → Prop
  | none => ∃ vc, s.run P w = .ok vc w ∧ VR j v vc
  | some b => ∃ vc x w', s.run P w = .ok vc w' ∧ w'.heap = w.heap.push x ∧ w'.os = w.os ∧ w'.tape = w.tape ∧ w'.output = w.output ∧ ORel j b x ∧ b.ro = false ∧
      ∀ j' : Inj, j.le j' → j' id = some (w.heap.size, csize x) → VR j' v vc
theorem NV.lift {P : Program} {s : Sem Value} {j : Inj} {w : World} {id : Nat} {v : AV} {b : Option AObj} {o : Oper} {ρ : Operand → Value} (h : NV P s j w id v b)
    (he : execOp ρ o = (do pure (Next.value (← s)))) : NOk P o ρ j w id v b := by
  cases b with
  | none =>
    obtain ⟨vc, h1, h2⟩ := h
    exact ⟨vc, by rw [he]; exact run_v h1, h2⟩
  | some b =>
    obtain ⟨vc, x, w', h1, h2⟩ := h
    exact ⟨vc, x, w', by rw [he]; exact run_v h1, h2⟩

section
variable {P : Program} {j : Inj} {w : World} {id : Nat} {ev : IOpd → AV} {ρ : Operand → Value} {H : AH}

theorem leafK_int {lit : Bool} {t : TypeId} (h : leafK P lit t = some .int) : ∃ q, P.underlying t = some (.int q) := by
  unfold leafK at h
  split at h <;> first | (cases h; done) | skip
  · exact ⟨_, ‹_›⟩
  · simp only [Option.bind_eq_some_iff] at h
    obtain ⟨n, _, h⟩ := h
    split at h <;> cases h
theorem leafK_str {lit : Bool} {t : TypeId} (h : leafK P lit t = some .str) : P.underlying t = some .string := by
  unfold leafK at h
  split at h <;> first | (cases h; done) | skip
  · assumption
  · simp only [Option.bind_eq_some_iff] at h
    obtain ⟨n, _, h⟩ := h
    split at h <;> cases h
theorem leafK_iface {lit c : Bool} {t : TypeId} (h : leafK P lit t = some (.iface c)) : ∃ ms, P.underlying t = some (.interface ms) ∧ c = (lit || ms.isEmpty) := by
  unfold leafK at h
  split at h <;> first | (cases h; done) | skip
  · simp only [Option.bind_eq_some_iff] at h
    obtain ⟨n, _, h⟩ := h
    split at h <;> cases h
  · cases h; exact ⟨_, ‹_›, rfl⟩

/-- '==' and '!=' by the type's own equality. -/
def eqDo (op : BinOp) (t : TypeId) (u v : Value) : Sem Value := if op = .eql then (do pure (.bool (← Op.equal t u v))) else (do pure (.bool (!(← Op.equal t u v))))
theorem run_eqOp {op : BinOp} {t : TypeId} {u v : Value} {c : Bool} (hop : op = .eql ∨ op = .neq) (hs : (Op.equal t u v).run P w = .ok c w)
    (hd : binOp op t u v = eqDo op t u v) :
    (binOp op t u v).run P w = .ok (.bool (if op = .neq then !c else c)) w := by
  rw [hd]
  rcases hop with rfl | rfl
  · simp [eqDo, hs]
  · simp [eqDo, hs]

theorem nv_eq {op : BinOp} {t : TypeId} {x y : Operand} {u v : Value} {a b : AV} {k : EqK} {c : Bool} (hop : op = .eql ∨ op = .neq) (hk : leafK P (isConstO x || isConstO y) t = some k) (ha : VR j a u) (hb : VR j b v) (h : aeq1 k a b = some c)
    (h1 : ∀ q, P.underlying t ≠ some (.int q)) (h2 : P.underlying t ≠ some .string) :
    NV P (do eqGuard op t x y u v; binOp op t u v) j w id (.bool (if op = .neq then !c else c)) none := by
  have hs : (Op.equal t u v).run P w = .ok c w := aeq1_sound (P := P) (w := w) hk h ha hb 9999
  have hgd : (eqGuard op t x y u v).run P w = .ok () w ∧ binOp op t u v = eqDo op t u v := by
    clear hs
    unfold aeq1 at h
    split at h <;> first | (cases h; done) | skip
    case h_2 => obtain ⟨q, hq⟩ := leafK_int hk; exact absurd hq (h1 q)
    case h_3 => exact absurd (leafK_str hk) h2
    case h_19 =>
      cases ha; cases hb
      split at h
      · rename_i hl
        obtain ⟨ms, hu, hc⟩ := leafK_iface hk
        subst hl
        refine ⟨?_, by rcases hop with rfl | rfl <;> rfl⟩
        cases hx : (isConstO x || isConstO y) with
        | true =>
          rcases hop with rfl | rfl <;> (cases x <;> cases y <;> first | rfl | (simp [isConstO] at hx))
        | false =>
          rw [hx, Bool.false_or] at hc
          have hi : (Op.eqGuardIn Op.maxDepth t .nilIface .nilIface).run P w = .ok false w := by
            show (Op.eqGuardIn (9999 + 1) t .nilIface .nilIface).run P w = _
            unfold Op.eqGuardIn
            rw [Sem.run_bind, run_underlying hu]
            show Sem.run P (pure (!ms.isEmpty)) w = _
            rw [← hc]; rfl
          have hx' : isConstO x = false ∧ isConstO y = false := by simpa using hx
          rcases hop with rfl | rfl <;> (cases x <;> cases y <;> first | (simp [isConstO] at hx'; done) | (simp [eqGuard, hi]))
      · cases h
    all_goals (cases ha; cases hb; exact ⟨by rcases hop with rfl | rfl <;> rfl, by rcases hop with rfl | rfl <;> rfl⟩)
  exact ⟨_, by rw [Sem.run_bind, hgd.1]; exact run_eqOp hop hs hgd.2, .bool _⟩
end
end Go.Proofs.YtdjlpifikeopdaaDoor.Abs

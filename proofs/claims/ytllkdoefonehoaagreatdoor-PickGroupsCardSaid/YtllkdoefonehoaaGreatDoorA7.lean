/- The quiet steps without new memory: the model's operation comes to their answer. No condition. -/
import Derived.Test.YtllkdoefonehoaaGreatDoorA6
set_option linter.unusedVariables false
set_option linter.unusedSimpArgs false
namespace Go.Proofs.YtllkdoefonehoaaGreatDoor.Abs
open Go Go.RowKit

/-- What a computation of a value comes to. -/
def NV (P : Program) (s : Sem Value) (j : Inj) (w : World) (id : Nat) (v : AV) : Option AObj → Prop
  | none => ∃ vc, s.run P w = .ok vc w ∧ VR j v vc
  | some b => ∃ vc x w', s.run P w = .ok vc w' ∧ w'.heap = w.heap.push x ∧ w'.os = w.os ∧ w'.tape = w.tape ∧ w'.output = w.output ∧ ORel j b x ∧ b.ro = false ∧
      ∀ j' : Inj, j.le j' → j' id = some (w.heap.size, csize x) → VR j' v vc
theorem NV.lift {P : Program} {s : Sem Value} {j : Inj} {w : World} {id : Nat} {v : AV} {b : Option AObj} {o : Oper} {ρ : Operand → Value} (h : NV P s j w id v b)
    (he : execOp ρ o = (do pure (Next.value (← s)))) : NOk P o ρ j w id v b := by
  cases b with
  | none =>
    obtain ⟨vc, h1, h2⟩ := h
    exact ⟨vc, by rw [he]; exact run_v h1, h2⟩
  | some b =>
    obtain ⟨vc, x, w', h1, h2⟩ := h
    exact ⟨vc, x, w', by rw [he]; exact run_v h1, h2⟩

section
variable {P : Program} {j : Inj} {w : World} {id : Nat} {ev : IOpd → AV} {ρ : Operand → Value} {H : AH}

theorem leafK_int {lit : Bool} {t : TypeId} (h : leafK P lit t = some .int) : ∃ q, P.underlying t = some (.int q) := by
  unfold leafK at h
  split at h <;> first | (cases h; done) | skip
  · exact ⟨_, ‹_›⟩
  · simp only [Option.bind_eq_some_iff] at h
    obtain ⟨n, _, h⟩ := h
    split at h <;> cases h
theorem leafK_str {lit : Bool} {t : TypeId} (h : leafK P lit t = some .str) : P.underlying t = some .string := by
  unfold leafK at h
  split at h <;> first | (cases h; done) | skip
  · assumption
  · simp only [Option.bind_eq_some_iff] at h
    obtain ⟨n, _, h⟩ := h
    split at h <;> cases h
theorem leafK_iface {lit c : Bool} {t : TypeId} {l : List Nat} (h : leafK P lit t = some (.iface c l)) : ∃ ms, P.underlying t = some (.interface ms) ∧ c = (lit || ms.isEmpty) := by
  unfold leafK at h
  split at h <;> first | (cases h; done) | skip
  · simp only [Option.bind_eq_some_iff] at h
    obtain ⟨n, _, h⟩ := h
    split at h <;> cases h
  · cases h; exact ⟨_, ‹_›, rfl⟩

/-- '==' and '!=' by the type's own equality. -/
def eqDo (op : BinOp) (t : TypeId) (u v : Value) : Sem Value := if op = .eql then (do pure (.bool (← Op.equal t u v))) else (do pure (.bool (!(← Op.equal t u v))))
theorem run_eqOp {op : BinOp} {t : TypeId} {u v : Value} {c : Bool} (hop : op = .eql ∨ op = .neq) (hs : (Op.equal t u v).run P w = .ok c w)
    (hd : binOp op t u v = eqDo op t u v) :
    (binOp op t u v).run P w = .ok (.bool (if op = .neq then !c else c)) w := by
  rw [hd]
  rcases hop with rfl | rfl
  · simp [eqDo, hs]
  · simp [eqDo, hs]

theorem nv_eq {op : BinOp} {t : TypeId} {x y : Operand} {u v : Value} {a b : AV} {k : EqK} {c : Bool} (hop : op = .eql ∨ op = .neq) (hk : leafK P (isConstO x || isConstO y) t = some k) (ha : VR j a u) (hb : VR j b v) (h : aeq1 k a b = some c)
    (h1 : ∀ q, P.underlying t ≠ some (.int q)) (h2 : P.underlying t ≠ some .string) :
    NV P (do eqGuard op t x y u v; binOp op t u v) j w id (.bool (if op = .neq then !c else c)) none := by
  have hs : (Op.equal t u v).run P w = .ok c w := aeq1_sound (P := P) (w := w) hk h ha hb 9999
  have hgd : (eqGuard op t x y u v).run P w = .ok () w ∧ binOp op t u v = eqDo op t u v := by
    clear hs
    unfold aeq1 at h
    split at h <;> first | (cases h; done) | skip
    case h_2 => obtain ⟨q, hq⟩ := leafK_int hk; exact absurd hq (h1 q)
    case h_3 => exact absurd (leafK_str hk) h2
    case h_21 =>
      cases ha; cases hb
      split at h
      · rename_i hl
        obtain ⟨ms, hu, hc⟩ := leafK_iface hk
        subst hl
        refine ⟨?_, by rcases hop with rfl | rfl <;> rfl⟩
        cases hx : (isConstO x || isConstO y) with
        | true =>
          rcases hop with rfl | rfl <;> (cases x <;> cases y <;> first | rfl | (simp [isConstO] at hx))
        | false =>
          rw [hx, Bool.false_or] at hc
          have hi : (Op.eqGuardIn Op.maxDepth t .nilIface .nilIface).run P w = .ok false w := by
            show (Op.eqGuardIn (9999 + 1) t .nilIface .nilIface).run P w = _
            unfold Op.eqGuardIn
            rw [Sem.run_bind, run_underlying hu]
            show Sem.run P (pure (!ms.isEmpty)) w = _
            rw [← hc]; rfl
          have hx' : isConstO x = false ∧ isConstO y = false := by simpa using hx
          rcases hop with rfl | rfl <;> (cases x <;> cases y <;> first | (simp [isConstO] at hx'; done) | (simp [eqGuard, hi]))
      · cases h
    all_goals (cases ha; cases hb; exact ⟨by rcases hop with rfl | rfl <;> rfl, by rcases hop with rfl | rfl <;> rfl⟩)
  exact ⟨_, by rw [Sem.run_bind, hgd.1]; exact run_eqOp hop hs hgd.2, .bool _⟩
theorem nv_eqT {op : BinOp} {t : TypeId} {x y : Operand} {u v : Value} {a b : AV} {k : EqK} {c : Bool} (hop : op = .eql ∨ op = .neq) (hk : leafT P (isConstO x || isConstO y) t = some k) (ha : VR j a u) (hb : VR j b v) (h : aeq1 k a b = some c)
    (h1 : ∀ q, P.underlying t ≠ some (.int q)) (h2 : P.underlying t ≠ some .string) :
    NV P (do eqGuard op t x y u v; binOp op t u v) j w id (.bool (if op = .neq then !c else c)) none := by
  unfold leafT at hk
  obtain ⟨k0, hk0, rfl⟩ := Option.map_eq_some_iff.1 hk
  cases k0 with
  | iface l is =>
    by_cases hh : ∃ t1 t2 v1 v2, a = .iface t1 v1 ∧ b = .iface t2 v2 ∧ t1 = t2
    · obtain ⟨t1, t2, v1, v2, rfl, rfl, rfl⟩ := hh
      simp only [withInts, aeq1, if_pos] at h
      split at h
      · rename_i hin
        unfold intEq at h
        split at h
        · rename_i k x1 k' y1
          split at h
          · rename_i hkk
            subst hkk
            cases h
            obtain ⟨u1, rfl, hu1⟩ := ha.iface_inv
            obtain ⟨u2, rfl, hu2⟩ := hb.iface_inv
            cases hu1.int_inv
            cases hu2.int_inv
            have hm : t1 ∈ intTypes P := by simpa using hin
            unfold intTypes at hm
            have hi := (List.mem_filter.1 hm).2
            unfold intT at hi
            simp only [Bool.and_eq_true] at hi
            obtain ⟨hi1, hi2⟩ := hi
            obtain ⟨q, hq⟩ : ∃ q, P.underlying t1 = some (.int q) := by
              split at hi1
              · exact ⟨_, ‹_›⟩
              · cases hi1
            obtain ⟨i, hi3, hi4⟩ : ∃ i, P.info? t1 = some i ∧ i.comparable = true := by
              split at hi2
              · exact ⟨_, ‹_›, hi2⟩
              · cases hi2
            obtain ⟨ms, hu, _⟩ := leafK_iface hk0
            have hti : (typeInfo t1).run P w = .ok i w := by unfold typeInfo; simp [hi3]
            have hs : (Op.equal t (.iface t1 (.int k x1)) (.iface t1 (.int k y1))).run P w = .ok (decide (x1 = y1)) w := by
              show (Op.equalIn (9998 + 1 + 1) t _ _).run P w = _
              have e1 := run_equalIn_int (P := P) w 9998 t1 k q x1 y1 hq
              have e : (x1 == y1) = decide (x1 = y1) := by (rw [Bool.eq_iff_iff]; simp)
              rw [e] at e1
              unfold Op.equalIn
              rw [Sem.run_bind, run_underlying hu]
              simp only [Result.andThen_ok]
              simp [hti, hi4, e1]
            exact ⟨_, by rw [Sem.run_bind, show (eqGuard op t x y (.iface t1 (.int k x1)) (.iface t1 (.int k y1))).run P w = .ok () w by rcases hop with rfl | rfl <;> rfl]; exact run_eqOp hop hs (by rcases hop with rfl | rfl <;> rfl), .bool _⟩
          · cases h
        · cases h
      · cases h
    · refine nv_eq hop hk0 ha hb ?_ h1 h2
      cases a <;> cases b <;> simp only [withInts, aeq1] at h ⊢ <;> first | exact h | skip
      rename_i t1 v1 t2 v2
      split at h
      · rename_i he
        exact absurd ⟨_, _, _, _, rfl, rfl, he⟩ hh
      · rename_i he
        rw [if_neg he]
        exact h
  | _ => exact nv_eq hop hk0 ha hb h h1 h2
end
end Go.Proofs.YtllkdoefonehoaaGreatDoor.Abs

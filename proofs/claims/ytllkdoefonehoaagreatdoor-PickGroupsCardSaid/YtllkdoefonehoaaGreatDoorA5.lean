/- The quiet steps: the model's operation comes to their answer, first part: without new memory. No condition. -/
import Derived.Test.YtllkdoefonehoaaGreatDoorA4
import Derived.Lib.Strings
set_option linter.unusedVariables false
set_option linter.unusedSimpArgs false
namespace Go.Proofs.YtllkdoefonehoaaGreatDoor.Abs
open Go Go.RowKit

def NOk (P : Program) (o : Oper) (ρ : Operand → Value) (j : Inj) (w : World) (id : Nat) (v : AV) : Option AObj → Prop
  | none => ∃ vc, (execOp ρ o).run P w = .ok (.value vc) w ∧ VR j v vc
  | some b => ∃ vc x w', (execOp ρ o).run P w = .ok (.value vc) w' ∧ w'.heap = w.heap.push x ∧ w'.os = w.os ∧ w'.tape = w.tape ∧ w'.output = w.output ∧ ORel j b x ∧ b.ro = false ∧
      ∀ j' : Inj, j.le j' → j' id = some (w.heap.size, csize x) → VR j' v vc

theorem run_v {P : Program} {w w' : World} {s : Sem Value} {v : Value} (h : s.run P w = .ok v w') : (do pure (Next.value (← s)) : Sem Next).run P w = .ok (.value v) w' := by
  rw [Sem.run_bind, h]; rfl
theorem Result.sat_bind : True := trivial

theorem VR.int_inv {j : Inj} {k : IntKind} {n : Int} {v : Value} (h : VR j (.int k n) v) : v = .int k n := by cases h; rfl
theorem VR.bool_inv {j : Inj} {b : Bool} {v : Value} (h : VR j (.bool b) v) : v = .bool b := by cases h; rfl
theorem VR.str_inv {j : Inj} {l : List UInt8} {v : Value} (h : VR j (.str l) v) : ∃ s : ByteArray, v = .string s ∧ s.data.toList = l := by cases h; exact ⟨_, rfl, rfl⟩
theorem VR.ptr_inv {j : Inj} {b o : Nat} {v : Value} (h : VR j (.ptr b o) v) : ∃ c z, v = .pointer (some ⟨c, o, none⟩) ∧ j b = some (c, z) := by cases h; exact ⟨_, _, rfl, ‹_›⟩
theorem VR.slice_inv {j : Inj} {b o n e : Nat} {v : Value} (h : VR j (.slice b o n e) v) : ∃ c z k, v = .slice (some ⟨c, o, none⟩) n k ∧ j b = some (c, z) ∧ n ≤ k ∧ o + k * e ≤ z := by cases h; exact ⟨_, _, _, rfl, ‹_›, ‹_›, ‹_›⟩
theorem VR.agg_inv {j : Inj} {l : List AV} {v : Value} (h : VR j (.agg l) v) : ∃ r : Array Value, v = .agg r ∧ VRs j l r.toList := by cases h; exact ⟨_, rfl, VRs.of_agg ‹_› ‹_›⟩
theorem VR.tuple_inv {j : Inj} {l : List AV} {v : Value} (h : VR j (.tuple l) v) : ∃ r : Array Value, v = .tuple r ∧ VRs j l r.toList := by cases h; exact ⟨_, rfl, VRs.of_agg ‹_› ‹_›⟩
theorem VR.iface_inv {j : Inj} {t : TypeId} {a : AV} {v : Value} (h : VR j (.iface t a) v) : ∃ u, v = .iface t u ∧ VR j a u := by cases h; exact ⟨_, rfl, ‹_›⟩
theorem str_of {j : Inj} {l : List UInt8} {s : ByteArray} (h : s.data.toList = l) : VR j (.str l) (.string s) := by subst h; exact .str s
theorem toList_data (s : ByteArray) : s.toList = s.data.toList := Go.Lib.toList_data s

theorem ibin_sound {P : Program} {j : Inj} {w : World} {op : BinOp} {t : TypeId} {k : IntKind} {a b : Int} {r : AV} (h : ibin op k a b = some r) (h1 : op ≠ .shl) (h2 : op ≠ .shr) :
    ∃ vc, (binOp op t (.int k a) (.int k b)).run P w = .ok vc w ∧ VR j r vc := by
  cases op with
  | shl => exact absurd rfl h1
  | shr => exact absurd rfl h2
  | add => cases h; exact ⟨.int k (k.wrap (a + b)), by simp [binOp, Op.intArith], .int _ _⟩
  | sub => cases h; exact ⟨.int k (k.wrap (a - b)), by simp [binOp, Op.intArith], .int _ _⟩
  | mul => cases h; exact ⟨.int k (k.wrap (a * b)), by simp [binOp, Op.intArith], .int _ _⟩
  | quo => simp only [ibin] at h; split at h; cases h; rename_i h0; cases h; exact ⟨.int k (k.wrap (a.tdiv b)), by simp [binOp, Op.intDiv, h0], .int _ _⟩
  | rem => simp only [ibin] at h; split at h; cases h; rename_i h0; cases h; exact ⟨.int k (a.tmod b), by simp [binOp, Op.intDiv, h0], .int _ _⟩
  | and => cases h; exact ⟨.int k (bits .and k a b), by simp [binOp, intBits_and], .int _ _⟩
  | or => cases h; exact ⟨.int k (bits .or k a b), by simp [binOp, intBits_or], .int _ _⟩
  | xor => cases h; exact ⟨.int k (bits .xor k a b), by simp [binOp, intBits_xor], .int _ _⟩
  | andNot => cases h; exact ⟨.int k (bits .andNot k a b), by simp [binOp, intBits_andNot], .int _ _⟩
  | eql => cases h; exact ⟨.bool (decide (a = b)), by (simp [binOp, Op.intCmp]; rw [Bool.eq_iff_iff]; simp), .bool _⟩
  | neq => cases h; exact ⟨.bool (decide (a ≠ b)), by simp [binOp, Op.intCmp, bne, BEq.beq], .bool _⟩
  | lss => cases h; exact ⟨.bool (decide (a < b)), by simp [binOp, Op.intCmp], .bool _⟩
  | leq => cases h; exact ⟨.bool (decide (a ≤ b)), by simp [binOp, Op.intCmp], .bool _⟩
  | gtr => cases h; exact ⟨.bool (decide (a > b)), by simp [binOp, Op.intCmp], .bool _⟩
  | geq => cases h; exact ⟨.bool (decide (a ≥ b)), by simp [binOp, Op.intCmp], .bool _⟩
/-- A sum, a comparison, .. of two numbers or texts. -/
theorem abin_sound {P : Program} {j : Inj} {w : World} {op : BinOp} {t : TypeId} {x y : AV} {u v : Value} {r : AV} (h : abin op x y = some r) (hx : VR j x u) (hy : VR j y v) :
    ∃ vc, (binOp op t u v).run P w = .ok vc w ∧ VR j r vc := by
  unfold abin at h
  split at h
  · rename_i k a k' b
    cases hx; cases hy
    split at h
    · unfold ishift at h
      split at h
      · cases h
      · rename_i hn
        simp only at h
        cases h
        exact ⟨.int k (k.wrap (a * 2 ^ (min b.toNat k.bits))), by simp [binOp, Op.shift, hn], .int _ _⟩
    · unfold ishift at h
      split at h
      · cases h
      · rename_i hn
        simp only at h
        cases h
        exact ⟨.int k (a.fdiv (2 ^ (min b.toNat k.bits))), by simp [binOp, Op.shift, hn], .int _ _⟩
    · rename_i h1 h2
      split at h
      · rename_i hk
        subst hk
        exact ibin_sound h (fun e => h1 e) (fun e => h2 e)
      · cases h
  · rename_i a b
    obtain ⟨s, rfl, rfl⟩ := hx.str_inv
    obtain ⟨q, rfl, rfl⟩ := hy.str_inv
    have hb : (binOp op t (.string s) (.string q)) = Op.stringOp op s q := by cases op <;> rfl
    rw [hb]
    have e1 : s.data.toList.length = s.size := by (rw [Array.length_toList]; rfl)
    have e2 : q.data.toList.length = q.size := by (rw [Array.length_toList]; rfl)
    have e : (s.toList == q.toList) = decide (s.data.toList = q.data.toList) := by rw [toList_data, toList_data, Bool.eq_iff_iff]; simp
    cases op with
    | add =>
      simp only [sbin] at h
      split at h
      · rename_i hl
        cases h
        refine ⟨.string (s ++ q), ?_, str_of (by simp)⟩
        have : ¬ ((s.size + q.size : Nat) : Int) > IntKind.i64.max := by
          have : IntKind.i64.max = 9223372036854775807 := by decide
          rw [this]; omega
        simp only [Op.stringOp]
        rw [if_neg this]
        rfl
      · cases h
    | eql => cases h; exact ⟨.bool (decide (s.data.toList = q.data.toList)), by (show Sem.run P (pure (Value.bool (s.toList == q.toList))) w = _; rw [e]; rfl), .bool _⟩
    | neq => cases h; exact ⟨.bool (decide (s.data.toList ≠ q.data.toList)), by (show Sem.run P (pure (Value.bool (!(s.toList == q.toList)))) w = _; rw [e]; simp), .bool _⟩
    | lss => cases h; exact ⟨.bool (Op.bytesLess s.data.toList q.data.toList), by (simp only [Op.stringOp, Sem.run_pure]; rw [toList_data, toList_data]), .bool _⟩
    | leq => cases h; exact ⟨.bool (Op.bytesLess s.data.toList q.data.toList || decide (s.data.toList = q.data.toList)), by (show Sem.run P (pure (Value.bool (Op.bytesLess s.toList q.toList || (s.toList == q.toList)))) w = _; rw [e, toList_data, toList_data]; rfl), .bool _⟩
    | gtr => cases h; exact ⟨.bool (!(Op.bytesLess s.data.toList q.data.toList || decide (s.data.toList = q.data.toList))), by (show Sem.run P (pure (Value.bool (!(Op.bytesLess s.toList q.toList || (s.toList == q.toList))))) w = _; rw [e, toList_data, toList_data]; rfl), .bool _⟩
    | geq => cases h; exact ⟨.bool (!Op.bytesLess s.data.toList q.data.toList), by (simp only [Op.stringOp, Sem.run_pure]; rw [toList_data, toList_data]), .bool _⟩
    | _ => cases h
  · cases h

theorem aun_sound {P : Program} {j : Inj} {w : World} {op : UnOp} {x : AV} {u : Value} {r : AV} (h : aun op x = some r) (hx : VR j x u) :
    ∃ vc, (Op.unary op u).run P w = .ok vc w ∧ VR j r vc := by
  unfold aun at h
  split at h
  · cases h; cases hx; exact ⟨_, by simp [Op.unary, Op.intArith], .int _ _⟩
  · cases h; cases hx; exact ⟨_, by simp [Op.unary, intBits_xor], .int _ _⟩
  · cases h; cases hx; exact ⟨_, by simp [Op.unary], .bool _⟩
  · cases h

end Go.Proofs.YtllkdoefonehoaaGreatDoor.Abs

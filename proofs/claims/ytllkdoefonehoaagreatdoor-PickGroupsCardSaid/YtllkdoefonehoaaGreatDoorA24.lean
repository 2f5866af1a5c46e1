/- Rows of the call's own that grow by one; more about blocks that stay. No condition. -/
import Derived.Test.YtllkdoefonehoaaGreatDoorA23
set_option linter.unusedVariables false
set_option linter.unusedSimpArgs false
namespace Go.Proofs.YtllkdoefonehoaaGreatDoor.Abs
open Go Go.RowKit
/-- What lies below a number stays. -/
def KBel (B : Nat) (H H' : AH) : Prop := ∀ b o, b < B → H.at_ b = some o → H'.at_ b = some o
theorem KBel.refl (B : Nat) (H : AH) : KBel B H H := fun _ _ _ h => h
theorem KBel.trans {B : Nat} {H H1 H2 : AH} (h : KBel B H H1) (h' : KBel B H1 H2) : KBel B H H2 := fun b o hb ho => h' b o hb (h b o hb ho)
theorem KBel.of {B : Nat} {H H1 : AH} (h : H.keepsAll H1) : KBel B H H1 := fun b o _ ho => h b o ho
theorem KBel.keepsAll {H0 H H1 : AH} (hk : H0.keepsAll H) (h : KBel H0.next H H1) (hok : H0.ok) : H0.keepsAll H1 := fun b o ho => h b o (hok b o ho) (hk b o ho)
theorem KBel.new {B : Nat} {H H1 : AH} {o : AObj} (h : KBel B H H1) (hB : B ≤ H1.next) : KBel B H (H1.new o) := fun b q hb ho => by rw [AH.new_ne _ _ (by omega)]; exact h b q hb ho
theorem KBel.set {B x : Nat} {H H1 : AH} {o : Option AObj} (h : KBel B H H1) (hB : B ≤ x) : KBel B H (H1.set x o) := fun b q hb ho => by rw [AH.set_ne _ _ (by omega)]; exact h b q hb ho
/-- A slice of the call's own: one-cell elements. -/
def OutS (B : Nat) (H : AH) (t : TypeId) (v : AV) (xs : List AV) : Prop :=
  xs = [] ∧ v = .snil ∨ ∃ q, v = .slice q 0 xs.length 1 ∧ xs ≠ [] ∧ H.at_ q = some (.cells false t xs) ∧ B ≤ q ∧ q < H.next
theorem OutS.sl {B : Nat} {H : AH} {t : TypeId} {v : AV} {xs : List AV} (h : OutS B H t v xs) : SL H v xs := by
  rcases h with ⟨rfl, rfl⟩ | ⟨q, rfl, h1, h2, _⟩
  · exact .inl ⟨rfl, .inl rfl⟩
  · refine .inr ⟨q, 0, rfl, h1, fun i hi => ?_⟩
    unfold loadC
    rw [h2]
    simp
theorem OutS.keeps {B : Nat} {H H1 : AH} {t : TypeId} {v : AV} {xs : List AV} (h : OutS B H t v xs) (hk : H.keepsAll H1) (hn : H.next ≤ H1.next) : OutS B H1 t v xs := by
  rcases h with h | ⟨q, h0, h1, h2, h3, h4⟩
  · exact .inl h
  · exact .inr ⟨q, h0, h1, hk _ _ h2, h3, by omega⟩
/-- One more behind a row of the call's own. -/
theorem appendOut {B : Nat} {H : AH} {t : TypeId} {bytes : Nat} {v x : AV} {xs : List AV} (h : OutS B H t v xs) (hB : B ≤ H.next) (hx : x.one = true) (hb : (xs.length + 1) * bytes ≤ 70368744177664) (hl : xs.length + 1 ≤ 70368744177664) :
    ∃ v' H', appendK (H.new (.cells false t [x])) false t 1 bytes v (.slice H.next 0 1 1) = some (v', H') ∧ OutS B H' t v' (xs ++ [x]) ∧ H'.next = H.next + 2 ∧ KBel B H H' := by
  rcases h with ⟨rfl, rfl⟩ | ⟨q, rfl, h1, h2, h3, h4⟩
  · refine ⟨.slice (H.next + 1) 0 1 1, (H.new (.cells false t [x])).new (.cells false t [x]), ?_, .inr ⟨H.next + 1, by simp, by simp, by simp, by omega, by simp⟩, by simp, ((KBel.refl B H).new hB).new (by simp; omega)⟩
    simp at hb
    simp [appendK, appendA, isStrV, srcCells, hx, hb]
  · have e1 : ¬ (q = H.next) := by omega
    refine ⟨.slice (H.next + 1) 0 (xs.length + 1) 1, ((H.new (.cells false t [x])).set q none).new (.cells false t (xs ++ [x])), ?_, .inr ⟨H.next + 1, by simp, by simp, by simp, by omega, by simp⟩, by simp, (((KBel.refl B H).new hB).set h3).new (by simp; omega)⟩
    simp [appendK, appendA, isStrV, srcCells, hx, hb, hl, h2, e1]
theorem back_bytes (l : List UInt8) : (l.map byteV).map Abs.byteOf = l := by
  rw [List.map_map]
  conv => rhs; rw [← List.map_id l]
  refine List.map_congr_left fun c _ => ?_
  show UInt8.ofNat ((c.toNat : Int)).toNat = c
  simp
theorem all_bytes (l : List UInt8) : (l.map byteV).all isByte = true := by simp [isByte]
/-- A row of bytes, as a text. -/
theorem b2s_own {H : AH} {q o n : Nat} {l : List UInt8} (h : loadC H q o (some n) = some (.agg (l.map byteV))) (e : Nat) : b2sA H (.slice q o n e) = some (.str l) := by
  simp only [b2sA, h]
  rw [if_pos (all_bytes l), back_bytes]
theorem load_own {H : AH} {q n : Nat} {ro : Bool} {t : TypeId} {l : List AV} (h : H.at_ q = some (.cells ro t l)) (hn : l.length = n) : loadC H q 0 (some n) = some (.agg l) := by
  unfold loadC
  rw [h]
  simp [hn, List.take_of_length_le (Nat.le_of_eq hn)]
end Go.Proofs.YtllkdoefonehoaaGreatDoor.Abs

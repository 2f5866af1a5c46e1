/- The law PickGroups, and what the order of candidates says of neighbours. -/
import Derived.Test.YtfimhkijacamoaaGreatDoorPRef
set_option linter.unusedVariables false
set_option linter.unusedSimpArgs false
set_option maxRecDepth 10000
set_option maxHeartbeats 4000000
namespace Go.Proofs.YtfimhkijacamoaaGreatDoor.PPick
open Go Go.RowKit Go.Proofs.YtfimhkijacamoaaGreatDoor Go.Proofs.YtfimhkijacamoaaGreatDoor.Abs Go.Proofs.YtfimhkijacamoaaGreatDoor.Ic Go.Proofs.YtfimhkijacamoaaGreatDoor.Vm Go.Proofs.YtfimhkijacamoaaGreatDoor.Dg Go.Proofs.YtfimhkijacamoaaGreatDoor.PVer Go.Proofs.YtfimhkijacamoaaGreatDoor.CFn Go.Proofs.YtfimhkijacamoaaGreatDoor.CBig Go.Proofs.YtfimhkijacamoaaGreatDoor.Cm Go.Proofs.YtfimhkijacamoaaGreatDoor.SP Go.Proofs.YtfimhkijacamoaaGreatDoor.Srt
/-- The candidate at a place. -/
def el (L : List Cd) (i : Nat) : Cd := L.getD i d0
theorem own_load {H : AH} {q : Nat} {t : TypeId} {L : List Cd} (hq : H.at_ q = some (.cells false t (rowsC L).flatten)) {i : Nat} (hi : i < L.length) : loadC H q (i * 6) (some 6) = some (.agg (cdC (el L i))) ∧ loadC H q (i * 6) none = some (.str (el L i).file) := by
  have h1 := load_flat (k := i) hq (all6 L) (by simpa using hi)
  have h2 := load_flat1 (k := i) (i := 0) hq (all6 L) (by simpa using hi) (by omega)
  have e : el L i = L[i] := by unfold el; rw [List.getD_eq_getElem?_getD, List.getElem?_eq_getElem hi]; rfl
  rw [e]
  refine ⟨by rw [h1]; simp, ?_⟩
  rw [Nat.add_zero] at h2
  rw [h2]
  simp [cdC]
theorem getD_vok {L : List Cd} (hv : ∀ c ∈ L, VOk c) (p : Nat) : VOk (el L p) := by
  unfold el
  rw [List.getD_eq_getElem?_getD]
  cases hx : L[p]? with
  | none => show (0 : Nat) ≤ _; omega
  | some y => exact hv y (List.mem_of_getElem? hx)
theorem cmpC_le {a b : Cd} (h : cmpC a b ≤ 0) : rankC a < rankC b ∨ (rankC a = rankC b ∧ (0 < cmpV a.ver b.ver ∨ (cmpV a.ver b.ver = 0 ∧ (goodC a < goodC b ∨ (goodC a = goodC b ∧ cmpB a.file b.file ≤ 0))))) := by
  have hv := cmpV_ord.anti a.ver b.ver
  unfold cmpC Ord.lexc at h
  simp only [] at h
  by_cases h1 : rankC a = rankC b
  · rw [if_pos (cmpI_zero.2 h1)] at h
    refine .inr ⟨h1, ?_⟩
    by_cases h2 : cmpV a.ver b.ver = 0
    · rw [if_pos (by omega)] at h
      refine .inr ⟨h2, ?_⟩
      by_cases h3 : goodC a = goodC b
      · rw [if_pos (cmpI_zero.2 h3)] at h
        exact .inr ⟨h3, h⟩
      · rw [if_neg (by rw [cmpI_zero]; exact h3)] at h
        unfold cmpI at h
        left
        split at h
        · omega
        · split at h <;> omega
    · rw [if_neg (by omega)] at h
      left
      omega
  · rw [if_neg (by rw [cmpI_zero]; exact h1)] at h
    unfold cmpI at h
    left
    split at h
    · omega
    · split at h <;> omega
theorem stab_le {L M : List Cd} (h : Stab L M) {i : Nat} (hi : i + 1 < M.length) : cmpC (el M i) (el M (i + 1)) ≤ 0 := by
  obtain ⟨ps, hp, hs, rfl⟩ := h
  have hl : ps.length = L.length := by simpa using hp.length_eq
  rw [List.length_map] at hi
  have e : ∀ k, k < ps.length → el (ps.map fun p => L.getD p d0) k = L.getD (gt ps k) d0 := fun k hk => by
    unfold el
    rw [List.getD_eq_getElem?_getD, List.getElem?_map, List.getElem?_eq_getElem hk, gt_of hk]
    rfl
  rw [e i (by omega), e (i + 1) hi]
  rcases hs i (i + 1) (by omega) (by omega) (by omega) with h | h
  · exact Int.le_of_lt h
  · exact Int.le_of_eq h.1
theorem stab_len {L M : List Cd} (h : Stab L M) : M.length = L.length := by
  obtain ⟨ps, hp, _, rfl⟩ := h
  simpa using hp.length_eq
theorem stab_vok {L M : List Cd} (h : Stab L M) (hv : ∀ c ∈ L, VOk c) : ∀ c ∈ M, VOk c := by
  obtain ⟨ps, hp, _, rfl⟩ := h
  intro c hc
  obtain ⟨p, _, rfl⟩ := List.mem_map.1 hc
  rw [List.getD_eq_getElem?_getD]
  cases hx : L[p]? with
  | none => show (0 : Nat) ≤ _; omega
  | some y => exact hv y (List.mem_of_getElem? hx)
end Go.Proofs.YtfimhkijacamoaaGreatDoor.PPick

/- PickPerms, the plain part: candidates of unlike names have one order. -/
import Derived.Test.YtllkdoefonehoaaDoorPTotal
set_option linter.unusedVariables false
set_option linter.unusedSimpArgs false
namespace Go.Proofs.YtllkdoefonehoaaDoor.PPick
open Go Go.RowKit Go.Proofs.YtllkdoefonehoaaDoor Go.Proofs.YtllkdoefonehoaaDoor.Abs Go.Proofs.YtllkdoefonehoaaDoor.Vm Go.Proofs.YtllkdoefonehoaaDoor.Dg Go.Proofs.YtllkdoefonehoaaDoor.PVer Go.Proofs.YtllkdoefonehoaaDoor.SP Go.Proofs.YtllkdoefonehoaaDoor.Srt
def Uniq (L : List Cd) : Prop := (L.map (·.file)).Nodup
theorem stab_perm {L M : List Cd} (h : Stab L M) : M.Perm L := by
  obtain ⟨ps, hp, _, rfl⟩ := h
  have h1 := hp.map (fun p => L.getD p d0)
  rwa [map_getD d0 L] at h1
theorem stab_strict {L M : List Cd} (h : Stab L M) (hu : Uniq L) : M.Pairwise fun a b => cmpC a b < 0 := by
  obtain ⟨ps, hp, hs, rfl⟩ := h
  have hl : ps.length = L.length := by rw [hp.length_eq]; simp
  have hpw : ps.Pairwise (pr fun p q => cmpC (L.getD p d0) (L.getD q d0)) := srt_pairwise (by rw [hl]; exact hs)
  rw [List.pairwise_map]
  refine hpw.imp_of_mem ?_
  intro p q hpm hqm hpr
  have hpl : p < L.length := by simpa using hp.mem_iff.1 hpm
  have hql : q < L.length := by simpa using hp.mem_iff.1 hqm
  rcases hpr with h | ⟨h, hlt⟩
  · exact h
  · exfalso
    have hf := cmpC_file h
    rw [List.getD_eq_getElem?_getD, List.getD_eq_getElem?_getD, List.getElem?_eq_getElem hpl, List.getElem?_eq_getElem hql] at hf
    have := (List.getElem_inj hu (i := p) (j := q) (h₀ := by simpa using hpl) (h₁ := by simpa using hql)).1 (by simpa using hf)
    omega
theorem stab_same {L L' M M' : List Cd} (h : Stab L M) (h' : Stab L' M') (hu : Uniq L) (hp : L'.Perm L) : M' = M := by
  have hu' : Uniq L' := by
    unfold Uniq at hu ⊢
    exact (hp.map (fun x : Cd => x.file)).nodup_iff.2 hu
  refine List.Perm.eq_of_pairwise (le := fun a b => cmpC a b < 0) (fun a b _ _ hab hba => ?_) (stab_strict h' hu') (stab_strict h hu) ((stab_perm h').trans (hp.trans (stab_perm h).symm))
  have := cmpC_ord.anti a b
  omega
/-- Turned about. -/
def rotL (L : List Cd) (T : Nat) : List Cd := L.drop (T % L.length) ++ L.take (T % L.length)
theorem rotL_perm (L : List Cd) (T : Nat) : (rotL L T).Perm L := by
  unfold rotL
  exact List.perm_append_comm.trans (by rw [List.take_append_drop])
theorem rotL_len (L : List Cd) (T : Nat) : (rotL L T).length = L.length := (rotL_perm L T).length_eq
theorem rotL_at (L : List Cd) (T i : Nat) (hi : i < L.length) : (rotL L T)[i]'(by rw [rotL_len]; exact hi) = L[(i + T) % L.length]'(Nat.mod_lt _ (by omega)) := by
  have hT : T % L.length < L.length := Nat.mod_lt _ (by omega)
  have e : (i + T) % L.length = (i + T % L.length) % L.length := by rw [Nat.add_mod_mod]
  unfold rotL
  by_cases h : i + T % L.length < L.length
  · have e2 : (i + T) % L.length = T % L.length + i := by rw [e, Nat.mod_eq_of_lt h]; omega
    rw [List.getElem_append_left (by simp; omega), List.getElem_drop]
    congr 1
    exact e2.symm
  · have e2 : (i + T) % L.length = i + T % L.length - L.length := by rw [e, Nat.mod_eq_sub_mod (by omega), Nat.mod_eq_of_lt (by omega)]
    rw [List.getElem_append_right (by simp; omega), List.getElem_take]
    congr 1
    simp
    omega
/-- Those of new names. -/
def dd (acc : List Cd) (c : Cd) : List Cd := if acc.any (fun x => decide (x.file = c.file)) then acc else acc ++ [c]
theorem dd_uniq {acc : List Cd} {c : Cd} (h : Uniq acc) : Uniq (dd acc c) := by
  unfold dd
  split
  · exact h
  · rename_i hn
    unfold Uniq at h ⊢
    rw [List.map_append, List.nodup_append]
    refine ⟨h, by simp, ?_⟩
    intro a ha b hb e
    subst e
    obtain ⟨x, hx, rfl⟩ := List.mem_map.1 ha
    have hc : x.file = c.file := by simpa using hb
    apply hn
    rw [List.any_eq_true]
    exact ⟨x, hx, by simpa using hc⟩
theorem dd_mem {acc : List Cd} {c x : Cd} (h : x ∈ dd acc c) : x ∈ acc ∨ x = c := by
  unfold dd at h
  split at h
  · exact .inl h
  · simpa using h
theorem dd_len (acc : List Cd) (c : Cd) : (dd acc c).length ≤ acc.length + 1 := by
  unfold dd
  split <;> simp
end Go.Proofs.YtllkdoefonehoaaDoor.PPick

/- What the document fixes of picking. -/
import Derived.Test.YtfimhkijacamoaaGreatDoorPLaw
set_option linter.unusedVariables false
set_option linter.unusedSimpArgs false
set_option maxRecDepth 10000
set_option maxHeartbeats 4000000
namespace Go.Proofs.YtfimhkijacamoaaGreatDoor.PPick
open Go Go.RowKit Go.Proofs.YtfimhkijacamoaaGreatDoor Go.Proofs.YtfimhkijacamoaaGreatDoor.Abs Go.Proofs.YtfimhkijacamoaaGreatDoor.Ic Go.Proofs.YtfimhkijacamoaaGreatDoor.Vm Go.Proofs.YtfimhkijacamoaaGreatDoor.Dg Go.Proofs.YtfimhkijacamoaaGreatDoor.PVer Go.Proofs.YtfimhkijacamoaaGreatDoor.CFn Go.Proofs.YtfimhkijacamoaaGreatDoor.CBig Go.Proofs.YtfimhkijacamoaaGreatDoor.Cm Go.Proofs.YtfimhkijacamoaaGreatDoor.SP Go.Proofs.YtfimhkijacamoaaGreatDoor.Srt
theorem stab_eq {L M : List Cd} (h : Stab L M) {qs : List Nat} (hp : qs.Perm (List.range L.length)) (hs : qs.Pairwise (pr fun p q => cmpC (L.getD p d0) (L.getD q d0))) : M = qs.map fun p => L.getD p d0 := by
  obtain ⟨ps, h1, h2, rfl⟩ := h
  have hl : ps.length = L.length := by rw [h1.length_eq]; simp
  have := srt_unique (cOrd L) (h1.trans hp.symm) (srt_pairwise (by rw [hl]; exact h2)) hs
  rw [this]
def caA : Cd := ⟨[97, 46, 99, 111, 110, 102], [97], false, 0, 0, [49]⟩
def caB : Cd := ⟨[98, 43, 51, 46, 99, 111, 110, 102], [98], true, 3, 0, [50]⟩
theorem tok1 {c : UInt8} (h : 49 ≤ c.toNat) (h9 : c.toNat ≤ 57) : toks [c] = [(3, [c])] := by
  have hc : cls c = 3 := cls_digit ⟨by omega, h9⟩
  have hn : ¬ (c == 48) = true := fun e => by
    have : c = 48 := by simpa using e
    subst this
    revert h; decide
  rw [toks_run (k := 3) (by omega) [c] (by simp) (by simpa using hc)]
  simp [Vm.tok, trim0, hn]
theorem cmpV1 {c d : UInt8} (h : 49 ≤ c.toNat) (h9 : c.toNat ≤ 57) (k : 49 ≤ d.toNat) (k9 : d.toNat ≤ 57) : cmpV [c] [d] = cmpB [c] [d] := by
  unfold cmpV
  rw [tok1 h h9, tok1 k k9, cmpT_num]
  rfl
theorem AB_less : cmpC caB caA < 0 := by
  have : cmpV caB.ver caA.ver = 1 := by
    show cmpV [50] [49] = 1
    rw [cmpV1 (by decide) (by decide) (by decide) (by decide)]
    decide
  exact (cmpC_neg caB caA).2 (.inr (.inl ⟨by decide, by rw [this]; decide, by rw [this]; decide⟩))
theorem AB_stab {M : List Cd} (h : Stab [caA, caB] M) : M = [caB, caA] := by
  have := stab_eq h (qs := [1, 0]) (by decide) (by
    rw [List.pairwise_cons]
    refine ⟨fun x hx => ?_, by simp⟩
    obtain rfl : x = 0 := by simpa using hx
    exact .inl AB_less)
  exact this
theorem Awake (H : AH) : ACall Tryz.prog 7 [] H (fun v H' => v = .bool true ∧ H' = H) := by
  refine acall_enter fits7 (by simp) (by simp) fun hok => ?_
  have hA := Of [97, 46, 99, 111, 110, 102] [49] (by decide)
  have hB := Of [98, 43, 51, 46, 99, 111, 110, 102] [50] (by decide)
  rw [show okF [97, 46, 99, 111, 110, 102] = true by decide +kernel, show candF [97, 46, 99, 111, 110, 102] [49] = caA by decide +kernel] at hA
  rw [show okF [98, 43, 51, 46, 99, 111, 110, 102] = true by decide +kernel, show candF [98, 43, 51, 46, 99, 111, 110, 102] [50] = caB by decide +kernel] at hB
  have hL := Less caB caA (by unfold VOk caB; simp) (by unfold VOk caA; simp)
  rw [decide_eq_true AB_less] at hL
  have hS := Startable caB
  rw [show badC caB = false by decide] at hS
  have hR := Rank caB
  rw [show rankC caB = 0 by decide] at hR
  have hO : ∀ (B : Nat) (H : AH) (v : AV), OutF B H tE 6 v (rowsC [caA, caB]) → ACall Tryz.prog 5 [v] H (fun r H' => H.keepsAll H' ∧ H.next ≤ H'.next ∧ OutF H.next H' tE 6 r (rowsC [caB, caA])) := fun B H v h =>
    (Order h (by simp) (fun c hc => by
      simp at hc
      rcases hc with rfl | rfl
      · unfold VOk caA; simp
      · unfold VOk caB; simp)).mono fun r H' ⟨h1, h2, M, h3, h4⟩ => by rw [AB_stab h3] at h4; exact ⟨h1, h2, h4⟩
  simp only [if_true, cdC, caA, caB, rowsC, List.map] at hA hB hL hS hR hO
  simp (disch := first | omega | (simp; done) | assumption) [wr64, wrU8, wrU64, Nat.add_assoc, -getElem?_pos, List.getElem?_cons_zero, List.getElem?_cons_succ, ic7, rs7]
  refine CallW.val (hA _) ?_
  simp (disch := first | omega | (simp; done) | assumption) [wr64, wrU8, wrU64, Nat.add_assoc, -getElem?_pos, List.getElem?_cons_zero, List.getElem?_cons_succ, ]
  refine CallW.val (hB _) ?_
  simp (disch := first | omega | (simp; done) | assumption) [wr64, wrU8, wrU64, Nat.add_assoc, -getElem?_pos, List.getElem?_cons_zero, List.getElem?_cons_succ, ]
  refine CallW.okof (hO H.next _ _ (.inr ⟨_, rfl, by simp, by simp, by omega, by simp⟩)) ?_
  rintro r H1 ⟨hk1, hn1, ho⟩ hok1
  rcases ho with ⟨h, _⟩ | ⟨q, rfl, _, hq, hqB, hqn⟩
  · cases h
  try simp only [newO_none, newO_some] at hk1
  have b1 := hk1 H.next (.cells false tE [.str [97, 46, 99, 111, 110, 102], .str [97], .bool false, .int .i64 0, .int .i64 0, .str [49]]) (by simp; omega)
  have b3 := hk1 (H.next + 1) (.cells false tE [.str [98, 43, 51, 46, 99, 111, 110, 102], .str [98], .bool true, .int .i64 3, .int .i64 0, .str [50]]) (by simp)
  simp only [List.flatten_cons, List.flatten_nil, List.append_nil, List.cons_append, List.nil_append] at hq
  simp (disch := first | omega | (simp; done) | assumption) [wr64, wrU8, wrU64, Nat.add_assoc, -getElem?_pos, List.getElem?_cons_zero, List.getElem?_cons_succ, hq, b1, b3]
  refine CallW.val (hL _) ?_
  simp (disch := first | omega | (simp; done) | assumption) [wr64, wrU8, wrU64, Nat.add_assoc, -getElem?_pos, List.getElem?_cons_zero, List.getElem?_cons_succ, hq, b1, b3]
  refine CallW.val (hS _) ?_
  simp (disch := first | omega | (simp; done) | assumption) [wr64, wrU8, wrU64, Nat.add_assoc, -getElem?_pos, List.getElem?_cons_zero, List.getElem?_cons_succ, hq, b1, b3]
  refine CallW.val (hR _) ?_
  simp (disch := first | omega | (simp; done) | assumption) [wr64, wrU8, wrU64, Nat.add_assoc, -getElem?_pos, List.getElem?_cons_zero, List.getElem?_cons_succ, ]
  intro x o hx
  have := hok _ _ hx
  refine hk1 x o ?_
  have n1 : ¬ x = H.next := by omega
  have n2 : ¬ x = H.next + 1 := by omega
  have n3 : ¬ x = H.next + 1 + 1 := by omega
  simp [n1, n2, n3, hx]
end Go.Proofs.YtfimhkijacamoaaGreatDoor.PPick

/- The laws' Is and awake. No condition. -/
import Derived.Test.YtkehijlgbfjmkaaGreatDoorKPlain
import Derived.Test.YtkehijlgbfjmkaaGreatDoorKSame
import Derived.Test.YtkehijlgbfjmkaaGreatDoorKR
import Derived.Test.YtkehijlgbfjmkaaGreatDoorEErr2
import Derived.Test.YtkehijlgbfjmkaaGreatDoorDNum
set_option linter.unusedVariables false
set_option linter.unusedSimpArgs false
set_option maxRecDepth 10000
set_option maxHeartbeats 4000000
namespace Go.Proofs.YtkehijlgbfjmkaaGreatDoor.KW
open Go Go.RowKit Go.Proofs.YtkehijlgbfjmkaaGreatDoor Go.Proofs.YtkehijlgbfjmkaaGreatDoor.Abs Go.Proofs.YtkehijlgbfjmkaaGreatDoor.Ic Go.Proofs.YtkehijlgbfjmkaaGreatDoor.St Go.Proofs.YtkehijlgbfjmkaaGreatDoor.EAs Go.Proofs.YtkehijlgbfjmkaaGreatDoor.EErr
structure TOk (H : AH) : Prop where
  err : loadC H 0 0 none = some (rt tErr)
  pow : H.at_ 4 = some powTab
theorem TOk.keeps {H H' : AH} (h : TOk H) (hk : H.keepsAll H') : TOk H' := ⟨loadC_keeps hk h.err, hk _ _ h.pow⟩
def nmQ (code : Int) (at_ : Nat) : List UInt8 := if code = 30 then Lib.itoa (at_ : Int) else []
def isQ (code : Int) (at_ : Nat) (nm : List UInt8) (n : Int) : Bool := if code = 0 then decide (n = 0) else decide (n ≠ 0) && decide (nmQ code at_ = nm) && decide (code = n)
theorem IsQ {H : AH} {err : AV} {code : Int} {at_ : Nat} (hT : TOk H) (h : ErrQ H err code at_) (nm : List UInt8) (n : Int) :
    ACall Tryz.prog 19 [err, .str confB, .str nm, .int .i64 n] H (fun v H' => v = .bool (isQ code at_ nm n) ∧ H' = H) := by
  unfold ErrQ at h
  unfold isQ
  split at h
  · rename_i c
    subst h
    rw [if_pos c]
    exact ELawIs confB nm n hT.err .nil
  · rename_i c
    rw [if_neg c]
    obtain ⟨g, g1, g2, rfl, hc⟩ := h
    have := ELawIs confB nm n hT.err hc
    have e : isV (.iface EErr.tF (.ptr g.b 0)) [g] (some code) confB nm n = (decide (n ≠ 0) && decide (nmQ code at_ = nm) && decide (code = n)) := by
      have g3 : g.name = nmQ code at_ := g2
      generalize nmQ code at_ = X at *
      simp [isV, g1, g3]
    rw [e] at this
    exact this
theorem errq_one {H : AH} {err : AV} {code : Int} {at_ : Nat} (h : ErrQ H err code at_) : err.cells = [err] ∧ err.one = true := by
  unfold ErrQ at h
  split at h
  · subst h; exact ⟨rfl, rfl⟩
  · obtain ⟨g, _, _, rfl, _⟩ := h; exact ⟨rfl, rfl⟩
theorem errq_nil {H : AH} {err : AV} {code : Int} {at_ : Nat} (h : ErrQ H err code at_) (hc : code = 0) : err = .nilIface := by
  unfold ErrQ at h
  rwa [if_pos hc] at h
theorem errq_keeps {H H' : AH} {err : AV} {code : Int} {at_ : Nat} (h : ErrQ H err code at_) (hk : H.keepsAll H') : ErrQ H' err code at_ := by
  unfold ErrQ at *
  split
  · rename_i c; rwa [if_pos c] at h
  · rename_i c
    rw [if_neg c] at h
    obtain ⟨g, a, b, d, e⟩ := h
    exact ⟨g, a, b, d, e.keeps hk⟩
theorem outF_sf {B : Nat} {H : AH} {vx : AV} {ex : List Blb} (h : OutF B H tB 2 vx (rowsB ex)) : SF H vx 2 (rowsB ex) := h.sf (allB ex)
theorem szE_of {e : En} (h : OkP e) : SzE e := by
  have hv := verOk_len h.ver
  have hk := bOk_len h.k
  have ho := optOk_len h.op
  have hn := h.n
  dsimp only at hk
  exact ⟨by omega, ⟨by show e.kn.length ≤ _; omega, by show e.ks.length ≤ _; omega⟩, by omega, fun p hp => by have := bOk_len (h.ex p hp); exact ⟨by omega, by omega⟩, by omega⟩
/-- A variable that holds an entry. -/
def NB (H : AH) (e : En) (vx : AV) : AH := (H.new (.cells false tEn [.str [], .str [], .str [], .snil, .str []])).set H.next (some (.cells false tEn (entC e vx)))
theorem NB_at (H : AH) (e : En) (vx : AV) : (NB H e vx).at_ H.next = some (.cells false tEn (entC e vx)) := AH.set_same _ _ _
theorem NB_next (H : AH) (e : En) (vx : AV) : (NB H e vx).next = H.next + 1 := rfl
theorem NB_keeps {H : AH} (hok : H.ok) (e : En) (vx : AV) : H.keepsAll (NB H e vx) := fun y o h => by
  have := hok _ _ h
  unfold NB
  rw [AH.set_ne _ _ (by omega), AH.new_ne _ _ (by omega)]
  exact h
def aw1 : List UInt8 := [107, 101, 114, 110, 101, 108, 32, 107, 32, 48, 48, 48, 48, 48, 48, 48, 48, 48, 48, 48, 48, 48, 48, 48, 48, 10, 35, 32, 110, 111, 116, 101, 10, 118, 101, 114, 115, 105, 111, 110, 32, 49, 46, 50]
def aw2 : List UInt8 := [118, 101, 114, 115, 105, 111, 110, 32, 49]
def awE : En := ⟨[49, 46, 50], [107], [48, 48, 48, 48, 48, 48, 48, 48, 48, 48, 48, 48, 48, 48, 48, 48], [], []⟩
theorem aw1_p : parseS aw1 = (0, 0, awE) := by decide +kernel
theorem aw2_p : parseS aw2 = (30, 0, e0) := by decide +kernel
theorem awE_ok : okE awE = true := by decide +kernel
theorem awE_pr : printE awE = [118, 101, 114, 115, 105, 111, 110, 32, 49, 46, 50, 10, 107, 101, 114, 110, 101, 108, 32, 107, 32, 48, 48, 48, 48, 48, 48, 48, 48, 48, 48, 48, 48, 48, 48, 48, 48, 10] := by decide +kernel
theorem awE_v : awE.ver = [49, 46, 50] := rfl
theorem awE_k : awE.kn = [107] := rfl
theorem aw_is : isQ 30 0 [48] 30 = true := by decide +kernel
theorem AwakeC {H : AH} (hT : TOk H) : ACall Tryz.prog 13 [] H (fun v H' => v = .bool true ∧ H' = H) := by
  refine acall_enter fits13 (by simp) (by simp) fun hok => ?_
  have hP1 := Parse aw1 (by decide) H hT.pow
  unfold ParseP at hP1
  rw [aw1_p] at hP1
  simp only [aw1] at hP1
  simp (disch := first | omega | (simp; done) | assumption) [wr64, wrU8, wrU64, Nat.add_assoc, -getElem?_pos, List.getElem?_cons_zero, List.getElem?_cons_succ, ic13, rs13]
  refine CallW.okof hP1 ?_
  rintro v H2 ⟨hk2, hn2, vx, err, rfl, ho, hq⟩ hok2
  try simp only [newO_none] at hk2 hn2 ho hq
  obtain rfl := errq_nil hq rfl
  obtain ⟨_, hv1, hv2⟩ := sf_len (outF_sf ho)
  simp only [entC]
  simp (disch := first | omega | (simp; done) | assumption) [wr64, wrU8, wrU64, Nat.add_assoc, -getElem?_pos, List.getElem?_cons_zero, List.getElem?_cons_succ, hv1, hv2]
  have hk3 := NB_keeps hok2 awE vx
  have hPr := PrintC (e := awE) (vx := vx) (H := NB H2 awE vx) ((outF_sf ho).keeps hk3) (szE_of ((okE_iff awE).1 awE_ok))
  unfold PrintP at hPr
  simp only [awE_ok, if_true] at hPr
  refine CallW.okof hPr ?_
  rintro v H3 ⟨hk4, hn4, err, rfl, hq4⟩ hok3
  obtain rfl := errq_nil hq4 rfl
  have hb := hk4 _ _ (NB_at H2 awE vx)
  simp only [entC] at hb
  simp (disch := first | omega | (simp; done) | assumption) [wr64, wrU8, wrU64, Nat.add_assoc, -getElem?_pos, List.getElem?_cons_zero, List.getElem?_cons_succ, hv1, hv2]
  have hk03 : H.keepsAll H3 := fun y o h => hk4 _ _ (hk3 _ _ (hk2 _ _ h))
  have hP2 := Parse aw2 (by decide) H3 (hT.keeps hk03).pow
  unfold ParseP at hP2
  rw [aw2_p] at hP2
  simp only [aw2] at hP2
  refine CallW.okof hP2 ?_
  rintro v H4 ⟨hk5, hn5, vy, err, rfl, hoy, hqy⟩ hok4
  obtain ⟨hz1, hz2⟩ := errq_one hqy
  obtain ⟨_, hw1, hw2⟩ := sf_len (outF_sf hoy)
  simp only [entC]
  simp (disch := first | omega | (simp; done) | assumption) [wr64, wrU8, wrU64, Nat.add_assoc, -getElem?_pos, List.getElem?_cons_zero, List.getElem?_cons_succ, hw1, hw2, hz1, hz2]
  have hb2 := hk5 _ _ hb
  have hne : ¬ H2.next = H4.next := by rw [NB_next] at hn4; omega
  have hIs := IsQ (H := NB H4 e0 vy) ((hT.keeps hk03).keeps (fun y o h => NB_keeps hok4 e0 vy _ _ (hk5 _ _ h))) (errq_keeps hqy (NB_keeps hok4 e0 vy)) [48] 30
  rw [aw_is] at hIs
  simp only [confB] at hIs
  simp (disch := first | omega | (simp; done) | assumption) [wr64, wrU8, wrU64, Nat.add_assoc, -getElem?_pos, List.getElem?_cons_zero, List.getElem?_cons_succ, hw1, hw2, hz1, hz2, hb2, hne, awE_pr, awE_v, awE_k]
  refine CallW.val hIs ?_
  simp (disch := first | omega | (simp; done) | assumption) [wr64, wrU8, wrU64, Nat.add_assoc, -getElem?_pos, List.getElem?_cons_zero, List.getElem?_cons_succ, ]
  exact fun y o h => NB_keeps hok4 e0 vy _ _ (hk5 _ _ (hk03 _ _ h))
end Go.Proofs.YtkehijlgbfjmkaaGreatDoor.KW

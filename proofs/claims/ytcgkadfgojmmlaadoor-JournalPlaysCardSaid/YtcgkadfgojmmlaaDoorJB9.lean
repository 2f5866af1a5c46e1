/- journal.group. No condition. -/
import Derived.Test.YtcgkadfgojmmlaaDoorJB8
set_option linter.unusedVariables false
set_option linter.unusedSimpArgs false
set_option maxRecDepth 10000
set_option maxHeartbeats 4000000
namespace Go.Proofs.YtcgkadfgojmmlaaDoor.JN
open Go Go.RowKit Go.Proofs.YtcgkadfgojmmlaaDoor Go.Proofs.YtcgkadfgojmmlaaDoor.Abs Go.Proofs.YtcgkadfgojmmlaaDoor.Ic Go.Proofs.YtcgkadfgojmmlaaDoor.EAs Go.Proofs.YtcgkadfgojmmlaaDoor.EErr Go.Proofs.YtcgkadfgojmmlaaDoor.DFn
def RdP (H : AH) (r : AV) (H' : AH) : Prop := H.keepsAll H' ∧ H.next ≤ H'.next ∧ ∃ (g : Fl) (e : AV), r = .tuple [.snil, e] ∧ Chain H' e [g] (some 50)
theorem Read_dead {H : AH} {p L : Nat} {s : DK} {i : Nat} (h : DS H p L s) (hi : i < s.ct.length) (hi2 : i < 100) (hd : s.dead = true) : ACall Tryd.prog 34 [.ptr p 0, .int .i64 (i : Int)] H (RdP H) := by
  refine acall_of fits34 (by simp) ?_
  simp (disch := first | omega | (simp; done) | assumption) [wr64, wrU8, wrU64, Nat.add_assoc, -getElem?_pos, List.getElem?_cons_zero, List.getElem?_cons_succ, ic34, rs34]
  refine CallW.of (May_dead h hi hi2 hd) ?_
  rintro v1 H1 hh
  simp only [newO_none] at hh
  obtain ⟨h1, h2, f, h3, h4, rfl, h5⟩ := hh
  simp (disch := first | omega | (simp; done) | assumption) [wr64, wrU8, wrU64, Nat.add_assoc, -getElem?_pos, List.getElem?_cons_zero, List.getElem?_cons_succ, ]
  exact ⟨h1, h2, f, _, rfl, h5⟩
theorem Read {H : AH} {p L : Nat} {s : DK} {i : Nat} (h : DS H p L s) (hi : i < s.ct.length) (hd : s.dead = false) :
    ACall Tryd.prog 34 [.ptr p 0, .int .i64 (i : Int)] H (fun v H' => H.keepsAll H' ∧ H.next ≤ H'.next ∧ ∃ q, H.next ≤ q ∧ q < H'.next ∧ v = .tuple [.slice q 0 128 1, .nilIface] ∧ QOk H' (q, vw s.ct i)) := by
  have e : vw s.ct i = bytesOf s.ct[i] := by unfold vw; rw [List.getD_eq_getElem?_getD, List.getElem?_eq_getElem hi]; rfl
  refine ⟨bodyP_of fits34, fun j w cargs hr hv => ((Read_ok h hi hd).2 j w cargs hr hv).mono fun e' w' ⟨v, vc, j', H', he, ⟨r, hr, ⟨a1, a2, q, a3, a4, a5, a6, a7⟩⟩, p'⟩ => ⟨v, vc, j', H', he, ⟨a1, a2, q, a3, a4, by rw [hr, a5], by rw [e]; exact ⟨a6, a7⟩⟩, p'⟩⟩
theorem b2s_part {H : AH} {q n : Nat} {bs : Bs} (hq : H.at_ q = some (.cells false tU8 (bs.map byteV))) (h : n ≤ bs.length) : b2sA H (.slice q 0 n 1) = some (.str (bs.take n)) := by
  have hld : loadC H q 0 (some n) = some (.agg ((bs.take n).map byteV)) := by
    unfold loadC
    simp only [hq]
    rw [if_pos (by simp; omega)]
    simp [List.map_take]
  have hall : ((bs.take n).map byteV).all isByte = true := by
    rw [List.all_eq_true]
    intro x hx
    obtain ⟨c, _, rfl⟩ := List.mem_map.1 hx
    rfl
  have hback : ((bs.take n).map byteV).map Abs.byteOf = bs.take n := by
    rw [List.map_map]
    conv => rhs; rw [← List.map_id (bs.take n)]
    refine List.map_congr_left fun c _ => ?_
    show UInt8.ofNat ((c.toNat : Int)).toNat = c
    simp
  unfold b2sA
  simp only [hld]
  rw [if_pos hall, hback]
theorem slc8 (b : Nat) : slcA 1 (some 8) none none (.slice b 0 128 1) = some (.slice b 8 120 1) := rfl
theorem slc08 (b : Nat) : slcA 1 none (some 8) none (.slice b 0 128 1) = some (.slice b 0 8 1) := rfl
theorem Group_dead {H : AH} {jb p L at_ most c : Nat} {s : DK} (hd : DS H p L s) (hj : JO H jb p at_ most) (hat : at_ < s.ct.length) (hs : SOk s c) (h : s.dead = true) : ACall Tryd.prog 39 [.ptr jb 0] H (RdP H) := by
  refine acall_of fits39 (by simp) ?_
  have hl : s.ct.length ≤ 100 := by
    rcases hs.die with h' | ⟨h', _⟩
    · exact h'
    · rw [h] at h'; cases h'
  unfold JO at hj
  simp (disch := first | omega | (simp; done) | assumption) [wr64, wrU8, wrU64, Nat.add_assoc, -getElem?_pos, List.getElem?_cons_zero, List.getElem?_cons_succ, ic39, rs39, hj]
  refine CallW.of (Read_dead hd hat (by omega) h) ?_
  rintro v1 H1 ⟨h1, h2, g, e, rfl, hc⟩
  try simp only [newO_none] at h1 h2
  obtain ⟨rfl, _⟩ := chain_live hc
  simp (disch := first | omega | (simp; done) | assumption) [wr64, wrU8, wrU64, Nat.add_assoc, -getElem?_pos, List.getElem?_cons_zero, List.getElem?_cons_succ, ]
  exact ⟨h1, h2, g, _, rfl, hc⟩
theorem Group_none {H : AH} {jb p L at_ most : Nat} {s : DK} (hd : DS H p L s) (hj : JO H jb p at_ most) (hat : at_ < s.ct.length) (h : s.dead = false) (hz : vw s.ct at_ = zer) : ACall Tryd.prog 39 [.ptr jb 0] H (fun r H' => H.keepsAll H' ∧ H.next ≤ H'.next ∧ r = .tuple [.snil, .nilIface]) := by
  refine acall_of fits39 (by simp) ?_
  unfold JO at hj
  simp (disch := first | omega | (simp; done) | assumption) [wr64, wrU8, wrU64, Nat.add_assoc, -getElem?_pos, List.getElem?_cons_zero, List.getElem?_cons_succ, ic39, rs39, hj]
  refine CallW.of (Read hd hat h) ?_
  rintro v1 H1 ⟨h1, h2, q, hq1, hq2, rfl, hq⟩
  rw [hz] at hq
  try simp only [newO_none] at h1 h2
  have hb := b2s_part (n := 8) hq.2 (by rw [hq.1]; omega)
  have hzm : zer.take 8 = [0, 0, 0, 0, 0, 0, 0, 0] := rfl
  dsimp only at hb
  rw [hzm] at hb
  simp (disch := first | omega | (simp; done) | assumption) [wr64, wrU8, wrU64, Nat.add_assoc, -getElem?_pos, List.getElem?_cons_zero, List.getElem?_cons_succ, slc8]
  refine CallW.val (Get (o := 8) (m := 120) hq.2 (by rw [hq.1]; omega) (by omega)) ?_
  simp (disch := first | omega | (simp; done) | assumption) [wr64, wrU8, wrU64, Nat.add_assoc, -getElem?_pos, List.getElem?_cons_zero, List.getElem?_cons_succ, slc08, hb]
  exact ⟨h1, h2⟩
end Go.Proofs.YtcgkadfgojmmlaaDoor.JN

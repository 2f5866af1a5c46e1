/- What the laws share: awake, opened, is. No condition. -/
import Derived.Test.YtcgkadfgojmmlaaDoorJBd
set_option linter.unusedVariables false
set_option linter.unusedSimpArgs false
set_option maxRecDepth 10000
set_option maxHeartbeats 4000000
namespace Go.Proofs.YtcgkadfgojmmlaaDoor.JN
open Go Go.RowKit Go.Proofs.YtcgkadfgojmmlaaDoor Go.Proofs.YtcgkadfgojmmlaaDoor.Abs Go.Proofs.YtcgkadfgojmmlaaDoor.Ic Go.Proofs.YtcgkadfgojmmlaaDoor.EAs Go.Proofs.YtcgkadfgojmmlaaDoor.EErr Go.Proofs.YtcgkadfgojmmlaaDoor.DFn
theorem good_one {at_ most nb i : Nat} {b : Bs} (h1 : i < nb) (h2 : ¬ own at_ most i) (h3 : b.length = 128) : Good at_ most nb [(i, b)] :=
  ⟨by simp, fun x hx => by obtain rfl := List.mem_singleton.1 hx; exact h1, fun x hx => by obtain rfl := List.mem_singleton.1 hx; exact h2, fun x hx => by obtain rfl := List.mem_singleton.1 hx; exact h3⟩
theorem b2s_q {H : AH} {x : Qb} (h : QOk H x) : b2sA H (sl x) = some (.str x.2) := b2s_row (H := H) (v := sl x) (q := x.1) (bs := x.2) ⟨rfl, h.1, h.2⟩
theorem QOk.keeps {H H' : AH} {x : Qb} (hk : H.keepsAll H') (h : QOk H x) : QOk H' x := ⟨h.1, hk _ _ h.2⟩
theorem qok_of {H : AH} {v : AV} {q : Nat} {bs : Bs} (h : Row H v q bs) : v = sl (q, bs) ∧ QOk H (q, bs) := ⟨h.1, h.2.1, h.2.2⟩
theorem JAwake {H : AH} : ACall Tryd.prog 15 [] H (fun v H' => v = .bool true ∧ H' = H) := by
  refine acall_enter fits15 (by simp) (by simp) fun hok => ?_
  simp (disch := first | omega | (simp; done) | assumption) [wr64, wrU8, wrU64, Nat.add_assoc, -getElem?_pos, List.getElem?_cons_zero, List.getElem?_cons_succ, ic15, rs15]
  refine CallW.okof (show ACall Tryd.prog _ [.int .i64 40] _ _ from New (n := 40) (by omega) (by omega) _) ?_
  rintro v H1 ⟨hk1, hn1, p, L, rfl, hp, hL, hp1, hL1, hd1⟩ hok1
  try simp only [newO_none] at hk1 hn1 hp hL
  simp (disch := first | omega | (simp; done) | assumption) [wr64, wrU8, wrU64, Nat.add_assoc, -getElem?_pos, List.getElem?_cons_zero, List.getElem?_cons_succ, ]
  refine CallW.okof (Open0 (at_ := 0) (most := 8) hd1 (by omega) (by simp [need, lists]) (by simp) rfl (vw_fresh _ _)) ?_
  rintro v H2 ⟨hk2, hn2, jb, hjb, hjbn, rfl, hj⟩ hok2
  try simp only [newO_none] at hk2 hn2 hjb
  have hd2 := hd1.keeps hk2
  simp (disch := first | omega | (simp; done) | assumption) [wr64, wrU8, wrU64, Nat.add_assoc, -getElem?_pos, List.getElem?_cons_zero, List.getElem?_cons_succ, ]
  refine CallW.okof (Fill 5 _) ?_
  rintro v H3 ⟨hk3, hn3, q3, hq3, hq3n, hr3⟩ hok3
  try simp only [newO_none] at hk3 hn3 hq3
  obtain ⟨rfl, hQ3⟩ := qok_of hr3
  have hd3 := hd2.keeps hk3
  have hj3 : JO H3 jb p 0 8 := hk3 _ _ hj
  have hk03 : H.keepsAll H3 := fun y o h => hk3 _ _ (hk2 _ _ (hk1 _ _ h))
  have hkB : H3.keepsAll (H3.new (.cells false 35 [.int .i64 30, sl (q3, fill 5)])) := keeps_new hok3 (AH.keepsAll_refl _) (Nat.le_refl _)
  have hBI : BI (H3.new (.cells false 35 [.int .i64 30, sl (q3, fill 5)])) (.slice H3.next 0 1 2) [(30, (q3, fill 5))] := ⟨H3.next, rfl, AH.new_same _ _, fun x hx => by obtain rfl := List.mem_singleton.1 hx; exact hQ3.keeps hkB⟩
  have hG : Geo 0 8 40 ([(30, (q3, fill 5))].map wr) := ⟨by omega, by omega, by decide, by omega, by simp, by simp, good_one (by omega) (by unfold own need lists; omega) (fill_len 5)⟩
  simp (disch := first | omega | (simp; done) | assumption) [wr64, wrU8, wrU64, Nat.add_assoc, -getElem?_pos, List.getElem?_cons_zero, List.getElem?_cons_succ, sl_one, sl_cells]
  refine CallW.okof (Commit (hd3.keeps hkB) (show JO _ jb p 0 8 from hkB _ _ hj3) (by simpa using hG) (sok_fresh 40) (by omega) (st0_fresh _ _ _) hBI) ?_
  rintro v H4 ⟨hn4, hk4, s', hd4, hC, _⟩ hok4
  obtain ⟨rfl, hdd, _⟩ := hC.all rfl (by decide)
  have hct : s'.ct.length = 40 := by rw [hC.ct]; simp
  have hst := (hC.good rfl).2 30 (by unfold own need lists; omega)
  rw [show aft (fun _ => zer) ([(30, (q3, fill 5))].map wr) 30 = fill 5 from rfl] at hst
  have hn4' : H3.next < H4.next := by simp at hn4; omega
  have hk04 : H.keepsAll H4 := hk4.keepsAll (fun y o h => hkB _ _ (hk03 _ _ h)) hok (by omega) (by omega)
  have hj4 : JO H4 jb p 0 8 := JO.kx (hd3.keeps hkB) hk4 (hkB _ _ hj3)
  simp (disch := first | omega | (simp; done) | assumption) [wr64, wrU8, wrU64, Nat.add_assoc, -getElem?_pos, List.getElem?_cons_zero, List.getElem?_cons_succ, ]
  refine CallW.okof (show ACall Tryd.prog _ [.ptr jb 0, .int .i64 30] _ _ from JRead (i := 30) hd4 hj4 (by omega) hdd) ?_
  rintro v H5 ⟨hk5, hn5, q5, hq5, hq5n, rfl, hQ5⟩ hok5
  try simp only [newO_none] at hk5 hn5 hq5
  rw [hst] at hQ5
  have hb5 := b2s_q hQ5
  simp only [sl] at hb5
  simp (disch := first | omega | (simp; done) | assumption) [wr64, wrU8, wrU64, Nat.add_assoc, -getElem?_pos, List.getElem?_cons_zero, List.getElem?_cons_succ, hb5]
  refine CallW.okof (Fill 5 _) ?_
  rintro v H6 ⟨hk6, hn6, q6, hq6, hq6n, hr6⟩ hok6
  try simp only [newO_none] at hk6 hn6 hq6
  obtain ⟨rfl, hQ6⟩ := qok_of hr6
  have hb6 := b2s_q hQ6
  have hb56 := b2s_q (hQ5.keeps hk6)
  simp only [sl] at hb6 hb56
  have hj6 : JO H6 jb p 0 8 := hk6 _ _ (hk5 _ _ hj4)
  simp (disch := first | omega | (simp; done) | assumption) [wr64, wrU8, wrU64, Nat.add_assoc, -getElem?_pos, List.getElem?_cons_zero, List.getElem?_cons_succ, sl, hb6, hb56]
  refine CallW.val (Most hj6) ?_
  simp (disch := first | omega | (simp; done) | assumption) [wr64, wrU8, wrU64, Nat.add_assoc, -getElem?_pos, List.getElem?_cons_zero, List.getElem?_cons_succ, ]
  refine CallW.val (Need (m := 8) (k := 8) (by decide) (by omega) _) ?_
  simp (disch := first | omega | (simp; done) | assumption) [wr64, wrU8, wrU64, Nat.add_assoc, -getElem?_pos, List.getElem?_cons_zero, List.getElem?_cons_succ, need, lists]
  exact fun y o h => hk6 _ _ (hk5 _ _ (hk04 _ _ h))
def isB (n : Int) : Bs := if n = 0 then zer else fill (n - 1)
theorem IsC (n : Int) (h0 : 0 ≤ n) (h1 : n ≤ 100000) (H : AH) : ACall Tryd.prog 23 [.int .i64 n] H (fun v H' => v = .str (isB n) ∧ H' = H) := by
  refine acall_enter fits23 (by simp) (by simp) fun hok => ?_
  by_cases h : n = 0
  · have hQ : QOk (H.new (.cells false 5 (List.replicate 128 (AV.int .u8 0)))) (H.next, zer) := ⟨zer_len, by rw [mgc_bytes]; exact AH.new_same _ _⟩
    have hb := b2s_q hQ
    simp only [sl] at hb
    simp (disch := first | omega | (simp; done) | assumption) [wr64, wrU8, wrU64, Nat.add_assoc, -getElem?_pos, List.getElem?_cons_zero, List.getElem?_cons_succ, ic23, rs23, h, -List.reduceReplicate]
    refine Try.intro hb ?_
    simp (disch := first | omega | (simp; done) | assumption) [wr64, wrU8, wrU64, Nat.add_assoc, -getElem?_pos, List.getElem?_cons_zero, List.getElem?_cons_succ, isB, -List.reduceReplicate]
    exact keeps_new hok (AH.keepsAll_refl _) (Nat.le_refl _)
  · simp (disch := first | omega | (simp; done) | assumption) [wr64, wrU8, wrU64, Nat.add_assoc, -getElem?_pos, List.getElem?_cons_zero, List.getElem?_cons_succ, ic23, rs23, h]
    refine CallW.okof (Fill (n - 1) _) ?_
    rintro v H6 ⟨hk6, hn6, q6, hq6, hq6n, hr6⟩ hok6
    try simp only [newO_none] at hk6 hn6 hq6
    obtain ⟨rfl, hQ6⟩ := qok_of hr6
    have hb6 := b2s_q hQ6
    simp (disch := first | omega | (simp; done) | assumption) [wr64, wrU8, wrU64, Nat.add_assoc, -getElem?_pos, List.getElem?_cons_zero, List.getElem?_cons_succ, isB, h, hb6]
    exact hk6
end Go.Proofs.YtcgkadfgojmmlaaDoor.JN

/- What package line's document fixes; LineBuilds. -/
import Derived.Test.YtiopaoclcafkcaaDoorLRef
set_option linter.unusedVariables false
set_option linter.unusedSimpArgs false
set_option maxRecDepth 10000
set_option maxHeartbeats 4000000
namespace Go.Proofs.YtiopaoclcafkcaaDoor.LLaw1
open Go Go.RowKit Go.Proofs.YtiopaoclcafkcaaDoor Go.Proofs.YtiopaoclcafkcaaDoor.Abs Go.Proofs.YtiopaoclcafkcaaDoor.Ic Go.Proofs.YtiopaoclcafkcaaDoor.EAs Go.Proofs.YtiopaoclcafkcaaDoor.EErr Go.Proofs.YtiopaoclcafkcaaDoor.LPcs Go.Proofs.YtiopaoclcafkcaaDoor.LLib Go.Proofs.YtiopaoclcafkcaaDoor.LWords Go.Proofs.YtiopaoclcafkcaaDoor.LBuild Go.Proofs.YtiopaoclcafkcaaDoor.LRef
theorem isV_len {e : AV} {l : List Fl} {r : Option Int} {o n : List UInt8} {k : Int} (h : e = .nilIface ↔ k = 0) : (e = .nilIface) = (k = 0) := propext h
theorem sl_own {H : AH} {q : Nat} {t : TypeId} {ro : Bool} {l : List AV} (h : H.at_ q = some (.cells ro t l)) (hl : l ≠ []) : SL H (.slice q 0 l.length 1) l :=
  .inr ⟨q, 0, rfl, hl, fun i hi => by unfold loadC; rw [h]; simp⟩
theorem it32 : Lib.itoa 32 = [51, 50] := by
  rw [show (32 : Int) = ((32 : Nat) : Int) from rfl, Lib.itoa_nonneg, CNum.dec_big (by omega), CNum.dec_small (by omega)]; rfl
theorem it7 : Lib.itoa 7 = [55] := by
  rw [show (7 : Int) = ((7 : Nat) : Int) from rfl, Lib.itoa_nonneg, CNum.dec_small (by omega)]; rfl
theorem nil_of {H' : AH} {e : AV} {l : List Fl} {r : Option Int} {c : Int} (h : e = .nilIface ↔ c = 0) (hc : c = 0) : e = .nilIface := h.2 hc
theorem Awake {H : AH} (hP : H.at_ 2 = some powTab) : ACall Tryd.prog 7 [] H (fun v H' => v = .bool true ∧ H' = H) := by
  refine acall_enter fits7 (by simp) (by simp) fun hok => ?_
  have hn := hok _ _ hP
  simp (disch := first | omega | (simp; done) | assumption) [wr64, wrU8, wrU64, Nat.add_assoc, -getElem?_pos, List.getElem?_cons_zero, List.getElem?_cons_succ, ic7, rs7]
  have hk1 : H.keepsAll ((H.new (.cells false 3 [.int .i64 16])).new (.cells false 3 [.int .i64 5])) := keeps_new hok (keeps_new hok (AH.keepsAll_refl _) (Nat.le_refl _)) (by simp)
  have hP1 := hk1 _ _ hP
  refine CallW.ofk (Build (a := [16]) (s := [5]) (sl_own (ro := false) (t := 3) (l := [.int .i64 16]) (by simp) (by simp)) (sl_own (ro := false) (t := 3) (l := [.int .i64 5]) (by simp) (by simp)) (by simp) (by simp) (by simp) (by simp) (by simp) (by simp) (by simpa using hP1)) ?_
  rintro v1 H1 ⟨hk2, hn2, e1, l1, r1, rfl, hc1, hi1, hz1, _, _⟩ hok1
  try simp only [newO_none, newO_some] at hk2 hn2
  have c1 : codeOf [113, 117, 105, 101, 116] [97, 46, 99, 111, 110, 102] false [16] [5] = 0 := by decide
  have hl1 : lineOf [113, 117, 105, 101, 116] [97, 46, 99, 111, 110, 102] false [16] [5] = [113, 117, 105, 101, 116, 32, 101, 110, 116, 114, 121, 61, 97, 46, 99, 111, 110, 102] := by decide
  obtain rfl := hz1.2 c1
  have hk02 : H.keepsAll H1 := fun x o hx => hk2 x o (hk1 x o hx)
  simp (disch := first | omega | (simp; done) | assumption) [wr64, wrU8, wrU64, Nat.add_assoc, -getElem?_pos, List.getElem?_cons_zero, List.getElem?_cons_succ, c1, hl1]
  have hk3 : H.keepsAll ((H1.new (.cells false 3 [.int .i64 0, .int .i64 32])).new (.cells false 3 [.int .i64 9, .int .i64 7])) := keeps_new hok (keeps_new hok hk02 (by simp at hn2; omega)) (by simp at hn2 ⊢; omega)
  refine CallW.ofk (Build (a := [0, 32]) (s := [9, 7]) (sl_own (ro := false) (t := 3) (l := [.int .i64 0, .int .i64 32]) (by simp) (by simp)) (sl_own (ro := false) (t := 3) (l := [.int .i64 9, .int .i64 7]) (by simp) (by simp)) (by simp) (by simp) (by simp) (by simp) (by simp) (by simp) (by simpa using hk3 _ _ hP)) ?_
  rintro v2 H2 ⟨hk4, hn4, e2, l2, r2, rfl, hc2, hi2, hz2, _, _⟩ hok2
  try simp only [newO_none, newO_some] at hk4 hn4
  have hl2 : lineOf [] [98, 43, 49, 46, 99, 111, 110, 102] true [0, 32] [9, 7] = [101, 110, 116, 114, 121, 61, 98, 43, 49, 46, 99, 111, 110, 102, 32, 116, 114, 121, 105, 110, 103, 32, 101, 120, 116, 114, 97, 61, 51, 50, 58, 55] := by
    have e : exts [0, 32] [9, 7] = [ext 32 7] := rfl
    unfold lineOf allL
    rw [e]
    unfold ext
    rw [it32, it7]
    rfl
  have c2 : codeOf [] [98, 43, 49, 46, 99, 111, 110, 102] true [0, 32] [9, 7] = 0 := by
    unfold codeOf
    rw [hl2]
    decide
  obtain rfl := hz2.2 c2
  simp (disch := first | omega | (simp; done) | assumption) [wr64, wrU8, wrU64, Nat.add_assoc, -getElem?_pos, List.getElem?_cons_zero, List.getElem?_cons_succ, c2, hl2]
  exact fun x o hx => hk4 x o (hk3 x o hx)
theorem LawBuilds (o f : List UInt8) (t : Bool) (a s : List Int) (v w : AV) (H : AH) (hv : SL H v (a.map (AV.int .i64))) (hw : SL H w (s.map (AV.int .i64)))
    (hra : ∀ x ∈ a, -9223372036854775808 ≤ x ∧ x ≤ 9223372036854775807) (hrs : ∀ x ∈ s, -9223372036854775808 ≤ x ∧ x ≤ 9223372036854775807) (hP : H.at_ 2 = some powTab) (hE : loadC H 0 0 none = some (rt tErr)) :
    ACall Tryd.prog 5 [.str o, .str f, .bool t, v, w] H (fun v H' => v = .bool true ∧ H' = H) := by
  have hl1 := SL.lenS hv
  have hl2 := SL.lenS hw
  rw [List.length_map] at hl1 hl2
  refine acall_enter fits5 (by simp) (by simp) fun hok => ?_
  change IWP Tryd.prog (.seq (part_ [0] ic5) (.seq (part_ [1, 0] ic5) (part_ [1, 1] ic5))) _ _ _
  generalize hX : part_ [1, 1] ic5 = X
  by_cases q1 : 600 < o.length
  · have q1' : (600 : Int) < (o.length : Int) := by omega
    simp (disch := first | omega | (simp; done) | assumption) [wr64, wrU8, wrU64, Nat.add_assoc, -getElem?_pos, List.getElem?_cons_zero, List.getElem?_cons_succ, part_, ic5, rs5, q1, q1']
    refine CallW.val (Awake hP) ?_
    simp (disch := first | omega | (simp; done) | assumption) [wr64, wrU8, wrU64, Nat.add_assoc, -getElem?_pos, List.getElem?_cons_zero, List.getElem?_cons_succ, ]
    exact AH.keepsAll_refl _
  have q1' : ¬ (600 : Int) < (o.length : Int) := by omega
  by_cases q2 : 600 < f.length
  · have q2' : (600 : Int) < (f.length : Int) := by omega
    simp (disch := first | omega | (simp; done) | assumption) [wr64, wrU8, wrU64, Nat.add_assoc, -getElem?_pos, List.getElem?_cons_zero, List.getElem?_cons_succ, part_, ic5, rs5, q1, q1', q2, q2']
    refine CallW.val (Awake hP) ?_
    simp (disch := first | omega | (simp; done) | assumption) [wr64, wrU8, wrU64, Nat.add_assoc, -getElem?_pos, List.getElem?_cons_zero, List.getElem?_cons_succ, ]
    exact AH.keepsAll_refl _
  have q2' : ¬ (600 : Int) < (f.length : Int) := by omega
  by_cases q3 : 40 < a.length
  · have q3' : (40 : Int) < (a.length : Int) := by omega
    simp (disch := first | omega | (simp; done) | assumption) [wr64, wrU8, wrU64, Nat.add_assoc, -getElem?_pos, List.getElem?_cons_zero, List.getElem?_cons_succ, part_, ic5, rs5, q1, q1', q2, q2', hl1, q3, q3']
    refine CallW.val (Awake hP) ?_
    simp (disch := first | omega | (simp; done) | assumption) [wr64, wrU8, wrU64, Nat.add_assoc, -getElem?_pos, List.getElem?_cons_zero, List.getElem?_cons_succ, ]
    exact AH.keepsAll_refl _
  have q3' : ¬ (40 : Int) < (a.length : Int) := by omega
  by_cases q4 : 40 < s.length
  · have q4' : (40 : Int) < (s.length : Int) := by omega
    simp (disch := first | omega | (simp; done) | assumption) [wr64, wrU8, wrU64, Nat.add_assoc, -getElem?_pos, List.getElem?_cons_zero, List.getElem?_cons_succ, part_, ic5, rs5, q1, q1', q2, q2', hl1, q3, q3', hl2, q4, q4']
    refine CallW.val (Awake hP) ?_
    simp (disch := first | omega | (simp; done) | assumption) [wr64, wrU8, wrU64, Nat.add_assoc, -getElem?_pos, List.getElem?_cons_zero, List.getElem?_cons_succ, ]
    exact AH.keepsAll_refl _
  have q4' : ¬ (40 : Int) < (s.length : Int) := by omega
  simp (disch := first | omega | (simp; done) | assumption) [wr64, wrU8, wrU64, Nat.add_assoc, -getElem?_pos, List.getElem?_cons_zero, List.getElem?_cons_succ, part_, ic5, rs5, q1, q1', q2, q2', hl1, q3, q3', hl2, q4, q4']
  rw [← hX]
  simp (disch := first | omega | (simp; done) | assumption) [wr64, wrU8, wrU64, Nat.add_assoc, -getElem?_pos, List.getElem?_cons_zero, List.getElem?_cons_succ, part_, ic5]
  refine CallW.ofk (Build hv hw (by omega) (by omega) (by omega) (by omega) hra hrs hP) ?_
  rintro v1 H1 ⟨hk1, hn1, e1, l1, r1, rfl, hc1, hi1, hz1, _, _⟩ hok1
  try simp only [newO_none] at hk1 hn1
  have hE1 := loadC_keeps hk1 hE
  have hP1 := hk1 _ _ hP
  simp (disch := first | omega | (simp; done) | assumption) [wr64, wrU8, wrU64, Nat.add_assoc, -getElem?_pos, List.getElem?_cons_zero, List.getElem?_cons_succ, ]
  refine CallW.val (RBuild (hv.keeps hk1) (hw.keeps hk1) (by omega) (by omega) (by omega) (by omega) hra hrs) ?_
  simp (disch := first | omega | (simp; done) | assumption) [wr64, wrU8, wrU64, Nat.add_assoc, -getElem?_pos, List.getElem?_cons_zero, List.getElem?_cons_succ, ]
  refine CallW.val (ELawIs _ _ _ hE1 hc1) ?_
  have hi1' : isV e1 l1 r1 [108, 105, 110, 101] [] (codeOf o f t a s) = true := hi1
  simp (disch := first | omega | (simp; done) | assumption) [wr64, wrU8, wrU64, Nat.add_assoc, -getElem?_pos, List.getElem?_cons_zero, List.getElem?_cons_succ, hi1']
  refine CallW.val (Awake hP1) ?_
  simp (disch := first | omega | (simp; done) | assumption) [wr64, wrU8, wrU64, Nat.add_assoc, -getElem?_pos, List.getElem?_cons_zero, List.getElem?_cons_succ, ]
  exact hk1
theorem row_range {W : World} {a : Option Addr} {l c : Nat} {z : List Int} (h : Abs.IsRow .i64 W a l c z) : ∀ x ∈ z.take l, -9223372036854775808 ≤ x ∧ x ≤ 9223372036854775807 := fun x hx => by
  rcases h with ⟨_, _, _, rfl⟩ | ⟨_, _, _, _, _, _, hw⟩
  · simp at hx
  · exact wf_i64 (hw x (List.mem_of_mem_take hx))
theorem LineBuilds.walk (a0 a1 : ByteArray) (a2 : Bool) (a3 : Option Addr) (l3 c3 : Nat) (z3 : List Int) (a4 : Option Addr) (l4 c4 : Nat) (z4 : List Int) (W : World) (hsh : W.ShapedOpen Tryd.prog) (hG : ELaid.G W) (_ : a0.size ≤ 140737488351232) (_ : a1.size ≤ 140737488351232) (h3 : Abs.IsRow .i64 W a3 l3 c3 z3) (h4 : Abs.IsRow .i64 W a4 l4 c4 z4) :
    Calls Tryd.prog 5 #[.string a0, .string a1, .bool a2, .slice a3 l3 c3, .slice a4 l4 c4] W fun e W' => e = .returned (.bool true) ∧ Below W.heap.size W W' := by
  obtain ⟨v, h1, h2⟩ := SL.ints (ELaid.tabs_ok hsh hG) h3
  obtain ⟨w, h5, h6⟩ := SL.ints (ELaid.tabs_ok hsh hG) h4
  exact ELaid.walk hsh hG (LawBuilds _ _ a2 _ _ v w _ h1 h5 (row_range h3) (row_range h4) (ELaid.H1_pow W) (ELaid.H1_err W)) (.cons (.str _) (.cons (.str _) (.cons (.bool _) (.cons h2 (.cons h6 .nil)))))
end Go.Proofs.YtiopaoclcafkcaaDoor.LLaw1

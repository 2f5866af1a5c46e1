/- What the laws of package pick share: candidates of files and versions, what the document fixes. -/
import Derived.Test.YtfimhkijacamoaaGreatDoorPPick
import Derived.Test.YtfimhkijacamoaaGreatDoorCRefs
import Derived.Test.YtfimhkijacamoaaGreatDoorDNum
set_option linter.unusedVariables false
set_option linter.unusedSimpArgs false
set_option maxRecDepth 10000
set_option maxHeartbeats 4000000
namespace Go.Proofs.YtfimhkijacamoaaGreatDoor.PPick
open Go Go.RowKit Go.Proofs.YtfimhkijacamoaaGreatDoor Go.Proofs.YtfimhkijacamoaaGreatDoor.Abs Go.Proofs.YtfimhkijacamoaaGreatDoor.Ic Go.Proofs.YtfimhkijacamoaaGreatDoor.Vm Go.Proofs.YtfimhkijacamoaaGreatDoor.Dg Go.Proofs.YtfimhkijacamoaaGreatDoor.PVer Go.Proofs.YtfimhkijacamoaaGreatDoor.CFn Go.Proofs.YtfimhkijacamoaaGreatDoor.CBig Go.Proofs.YtfimhkijacamoaaGreatDoor.Cm Go.Proofs.YtfimhkijacamoaaGreatDoor.SP Go.Proofs.YtfimhkijacamoaaGreatDoor.Srt
def okF (l : List UInt8) : Bool := Lib.hasSuffix l conf && decide (Lib.trimSuffix l conf ≠ [])
def stemF (l : List UInt8) : List UInt8 × Bool × Nat × Nat := res (Lib.trimSuffix l conf)
def candF (f v : List UInt8) : Cd := ⟨f, (stemF f).1, (stemF f).2.1, ((stemF f).2.2.1 : Int), ((stemF f).2.2.2 : Int), v⟩
theorem splitV_ok {l : List UInt8} (h : okF l = true) : splitV l = .tuple [.str (stemF l).1, cnt (stemF l).2.1 (stemF l).2.2.1 (stemF l).2.2.2, .bool true] := by
  unfold okF at h
  simp only [Bool.and_eq_true, decide_eq_true_eq] at h
  unfold splitV
  rw [if_pos h]
  rfl
theorem splitV_no {l : List UInt8} (h : okF l = false) : splitV l = .tuple [.str [], cnt false 0 0, .bool false] := by
  unfold okF at h
  unfold splitV
  rw [if_neg]
  rintro ⟨h1, h2⟩
  rw [h1, decide_eq_true h2] at h
  cases h
theorem Of (f v : List UInt8) (hf : f.length ≤ 1000000) (H : AH) : ACall Tryz.prog 15 [.str f, .str v] H (fun r H' => r = .tuple [.agg (cdC (if okF f then candF f v else d0)), .bool (okF f)] ∧ H' = H) := by
  refine acall_enter fits15 (by simp) (by simp [cdC]) fun hok => ?_
  have hS := CBig.Split f hf
  cases hb : okF f with
  | true =>
    rw [splitV_ok hb] at hS
    simp (disch := first | omega | (simp; done) | assumption) [wr64, wrU8, wrU64, Nat.add_assoc, -getElem?_pos, List.getElem?_cons_zero, List.getElem?_cons_succ, ic15, rs15]
    refine CallW.val (hS _) ?_
    simp (disch := first | omega | (simp; done) | assumption) [wr64, wrU8, wrU64, Nat.add_assoc, -getElem?_pos, List.getElem?_cons_zero, List.getElem?_cons_succ, cdC, candF]
    ((repeat (first | exact AH.keepsAll_refl _ | refine keeps_set hok ?_ (by first | omega | (simp; done) | (simp; omega)) | refine keeps_new hok ?_ (by first | omega | (simp; done) | (simp; omega)))); done)
  | false =>
    rw [splitV_no hb] at hS
    simp (disch := first | omega | (simp; done) | assumption) [wr64, wrU8, wrU64, Nat.add_assoc, -getElem?_pos, List.getElem?_cons_zero, List.getElem?_cons_succ, ic15, rs15]
    refine CallW.val (hS _) ?_
    simp (disch := first | omega | (simp; done) | assumption) [wr64, wrU8, wrU64, Nat.add_assoc, -getElem?_pos, List.getElem?_cons_zero, List.getElem?_cons_succ, cdC, d0]
    ((repeat (first | exact AH.keepsAll_refl _ | refine keeps_set hok ?_ (by first | omega | (simp; done) | (simp; omega)) | refine keeps_new hok ?_ (by first | omega | (simp; done) | (simp; omega)))); done)
/-! ### Candidates of rows -/
def keepF (p : List UInt8 × List UInt8) : Bool := okF p.1 && decide (p.1.length ≤ 100) && decide (p.2.length ≤ 60)
def candsOf (l : List (List UInt8 × List UInt8)) : List Cd := (l.filter keepF).map fun p => candF p.1 p.2
theorem candsOf_snoc (l : List (List UInt8 × List UInt8)) (p : List UInt8 × List UInt8) : candsOf (l ++ [p]) = candsOf l ++ (if keepF p then [candF p.1 p.2] else []) := by
  unfold candsOf
  rw [List.filter_append, List.map_append]
  congr 1
  simp only [List.filter_cons, List.filter_nil]
  split <;> rfl
theorem candsOf_len (l : List (List UInt8 × List UInt8)) : (candsOf l).length ≤ l.length := by
  unfold candsOf
  rw [List.length_map]
  exact List.length_filter_le _ _
theorem candsOf_vok (l : List (List UInt8 × List UInt8)) : ∀ c ∈ candsOf l, VOk c := fun c hc => by
  obtain ⟨p, hp, rfl⟩ := List.mem_map.1 hc
  have := (List.mem_filter.1 hp).2
  simp [keepF] at this
  show p.2.length ≤ _
  omega
abbrev prs (fs vs : List (List UInt8)) : List (List UInt8 × List UInt8) := (fs.zip vs).take 40
def CaI (fs vs : List (List UInt8)) (v w : AV) (H : AH) (kk : Nat) (tm : Tms) (H' : AH) : Prop := H.keepsAll H' ∧ H.next ≤ H'.next ∧ ∃ i : Nat, kk = 40 - i ∧ i ≤ 40 ∧ i ≤ fs.length ∧ i ≤ vs.length ∧
  OutF H.next H' tE 6 (tm 5) (rowsC (candsOf ((prs fs vs).take i))) ∧ tm 0 = v ∧ tm 1 = w ∧ tm 6 = .int .i64 (i : Int)
theorem Cands {fs vs : List (List UInt8)} {v w : AV} {H : AH} (hv : SL H v (fs.map AV.str)) (hw : SL H w (vs.map AV.str)) (hf : ∀ f ∈ fs, f.length ≤ 9223372036854775807) (hvl : ∀ f ∈ vs, f.length ≤ 9223372036854775807) :
    ACall Tryz.prog 4 [v, w] H (fun r H' => H.keepsAll H' ∧ H.next ≤ H'.next ∧ OutF H.next H' tE 6 r (rowsC (candsOf (prs fs vs)))) := by
  refine acall_ok (bodyP_of fits4) fun hok => acall_of fits4 (by simp) ?_
  simp (disch := first | omega | (simp; done) | assumption) [wr64, wrU8, wrU64, Nat.add_assoc, -getElem?_pos, List.getElem?_cons_zero, List.getElem?_cons_succ, ic4, rs4]
  refine iwp_loop (CaI fs vs v w H) 40 ⟨AH.keepsAll_refl _, Nat.le_refl _, 0, rfl, by omega, by omega, by omega, .inl ⟨by simp [candsOf], by simp⟩, by simp, by simp, by simp⟩ ?_
  rintro kk tm H1 ⟨hk, hn, i, rfl, hi, hif, hiv, hd, t0, t1, t6⟩
  have lv := hv.lenS
  have lw := hw.lenS
  rw [List.length_map] at lv lw
  have hpl : (prs fs vs).length = min 40 (min fs.length vs.length) := by simp [prs]
  by_cases c1 : i < fs.length
  · have c1' : (i : Int) < (fs.length : Int) := by omega
    by_cases c2 : i < vs.length
    · have c2' : (i : Int) < (vs.length : Int) := by omega
      by_cases c3 : i < 40
      · have c3' : (i : Int) < 40 := by omega
        have hv0 := hv.get i (by simpa using c1)
        have hw0 := hw.get i (by simpa using c2)
        obtain ⟨b, o, rfl, g1⟩ := (hv.keeps hk).get i (by simpa using c1)
        obtain ⟨b2, o2, rfl, g2⟩ := (hw.keeps hk).get i (by simpa using c2)
        have hff := hf fs[i] (List.getElem_mem c1)
        have hvf := hvl vs[i] (List.getElem_mem c2)
        have hsn : (prs fs vs).take (i + 1) = (prs fs vs).take i ++ [(fs[i], vs[i])] := by
          have hlt : i < (prs fs vs).length := by rw [hpl]; omega
          rw [← List.take_append_getElem hlt]
          congr 2
          simp [prs]
        have hcs := candsOf_snoc ((prs fs vs).take i) (fs[i], vs[i])
        rw [← hsn] at hcs
        have hcl : (candsOf ((prs fs vs).take i)).length ≤ 40 := by
          have := candsOf_len ((prs fs vs).take i)
          simp at this ⊢
          omega
        simp only [List.getElem_map] at g1 g2
        rw [List.length_map] at t0 t1
        clear hsn hpl lv lw hv hw hf hvl
        generalize hdef : candsOf ((prs fs vs).take (i + 1)) = cs1 at *
        generalize candsOf ((prs fs vs).take i) = cs at *
        generalize fs[i] = f at *
        generalize vs[i] = vv at *
        have ne1 : ¬ b = H1.next := by
          intro e
          obtain ⟨b', o', e1, e2⟩ := hv0
          cases e1
          unfold loadC at e2
          cases hx : H.at_ b with
          | none => rw [hx] at e2; cases e2
          | some x => have := hok _ _ hx; omega
        have ne2 : ¬ b2 = H1.next := by
          intro e
          obtain ⟨b', o', e1, e2⟩ := hw0
          cases e1
          unfold loadC at e2
          cases hx : H.at_ b2 with
          | none => rw [hx] at e2; cases e2
          | some x => have := hok _ _ hx; omega
        clear hv0 hw0
        unfold loadC at g1 g2
        have hS := CRefs.SplitFile f hff
        have hkf : keepF (f, vv) = (okF f && decide (f.length ≤ 100) && decide (vv.length ≤ 60)) := rfl
        cases hb : okF f with
        | true =>
          rw [splitV_ok hb] at hS
          by_cases hl1 : f.length ≤ 100
          · have hl1' : (f.length : Int) ≤ 100 := by omega
            by_cases hl2 : vv.length ≤ 60
            · have hl2' : (vv.length : Int) ≤ 60 := by omega
              rw [hkf, hb, decide_eq_true hl1, decide_eq_true hl2] at hcs
              simp only [Bool.and_self, if_true] at hcs
              have hX : OutF H.next ((H1.new (.cells false 27 [.bool false, .int .i64 0, .int .i64 0])).set H1.next (some (.cells false 27 [.bool (stemF f).2.1, .int .i64 ((stemF f).2.2.1 : Int), .int .i64 ((stemF f).2.2.2 : Int)]))) tE 6 (tm 5) (rowsC cs) :=
                hd.same (by simp) (fun q hq => by have hne := Nat.ne_of_lt hq; simp [hne])
              obtain ⟨v1, H3, a1, o1, n1, k1⟩ := appendOutF (bytes := 72) (x := cdC (candF f vv)) hX (all6 _) (by omega) (by simp; omega) rfl rfl (by simp; omega) (by simp; omega)
              simp only [cdC, candF] at a1
              simp (disch := first | omega | (simp; done) | assumption) [wr64, wrU8, wrU64, Nat.add_assoc, -getElem?_pos, List.getElem?_cons_zero, List.getElem?_cons_succ, t0, t1, t6, c1, c1', c2, c2', c3, c3']
              refine Try.intro g1 ?_
              simp (disch := first | omega | (simp; done) | assumption) [wr64, wrU8, wrU64, Nat.add_assoc, -getElem?_pos, List.getElem?_cons_zero, List.getElem?_cons_succ, t0, t1, t6, c1, c1', c2, c2', c3, c3']
              refine CallW.val (hS _) ?_
              simp (disch := first | omega | (simp; done) | assumption) [wr64, wrU8, wrU64, Nat.add_assoc, -getElem?_pos, List.getElem?_cons_zero, List.getElem?_cons_succ, t0, t1, t6, c1, c1', c2, c2', c3, c3', ne1, ne2]
              refine Try.intro g1 ?_
              simp (disch := first | omega | (simp; done) | assumption) [wr64, wrU8, wrU64, Nat.add_assoc, -getElem?_pos, List.getElem?_cons_zero, List.getElem?_cons_succ, t0, t1, t6, c1, c1', c2, c2', c3, c3', ne1, ne2, hl1, hl1']
              refine Try.intro g2 ?_
              simp (disch := first | omega | (simp; done) | assumption) [wr64, wrU8, wrU64, Nat.add_assoc, -getElem?_pos, List.getElem?_cons_zero, List.getElem?_cons_succ, t0, t1, t6, c1, c1', c2, c2', c3, c3', ne1, ne2, hl1, hl1', hl2, hl2']
              refine Try.intro g1 ?_
              simp (disch := first | omega | (simp; done) | assumption) [wr64, wrU8, wrU64, Nat.add_assoc, -getElem?_pos, List.getElem?_cons_zero, List.getElem?_cons_succ, t0, t1, t6, c1, c1', c2, c2', c3, c3', ne1, ne2, hl1, hl1', hl2, hl2']
              refine Try.intro g2 ?_
              simp (disch := first | omega | (simp; done) | assumption) [wr64, wrU8, wrU64, Nat.add_assoc, -getElem?_pos, List.getElem?_cons_zero, List.getElem?_cons_succ, t0, t1, t6, c1, c1', c2, c2', c3, c3', ne1, ne2, hl1, hl1', hl2, hl2']
              refine Try.intro a1 ?_
              simp (disch := first | omega | (simp; done) | assumption) [wr64, wrU8, wrU64, Nat.add_assoc, -getElem?_pos, List.getElem?_cons_zero, List.getElem?_cons_succ, t0, t1, t6]
              refine ⟨40 - (i + 1), by omega, k1.keepsAll (by ((repeat (first | exact hk | refine keeps_set hok ?_ (by first | omega | (simp; done) | (simp; omega)) | refine keeps_new hok ?_ (by first | omega | (simp; done) | (simp; omega)))); done)) hok, by simp at n1; omega, i + 1, rfl, by omega, by omega, by omega, ?_, by simp [t0], by simp [t1], by simp⟩
              rw [hdef, hcs]
              simpa [rowsC] using o1
            · have hl2' : ¬ (vv.length : Int) ≤ 60 := by omega
              rw [hkf, decide_eq_false hl2] at hcs
              simp only [Bool.and_false, Bool.false_eq_true, if_false, List.append_nil] at hcs
              simp (disch := first | omega | (simp; done) | assumption) [wr64, wrU8, wrU64, Nat.add_assoc, -getElem?_pos, List.getElem?_cons_zero, List.getElem?_cons_succ, t0, t1, t6, c1, c1', c2, c2', c3, c3']
              refine Try.intro g1 ?_
              simp (disch := first | omega | (simp; done) | assumption) [wr64, wrU8, wrU64, Nat.add_assoc, -getElem?_pos, List.getElem?_cons_zero, List.getElem?_cons_succ, t0, t1, t6, c1, c1', c2, c2', c3, c3']
              refine CallW.val (hS _) ?_
              simp (disch := first | omega | (simp; done) | assumption) [wr64, wrU8, wrU64, Nat.add_assoc, -getElem?_pos, List.getElem?_cons_zero, List.getElem?_cons_succ, t0, t1, t6, c1, c1', c2, c2', c3, c3', ne1, ne2]
              refine Try.intro g1 ?_
              simp (disch := first | omega | (simp; done) | assumption) [wr64, wrU8, wrU64, Nat.add_assoc, -getElem?_pos, List.getElem?_cons_zero, List.getElem?_cons_succ, t0, t1, t6, c1, c1', c2, c2', c3, c3', ne1, ne2, hl1, hl1']
              refine Try.intro g2 ?_
              simp (disch := first | omega | (simp; done) | assumption) [wr64, wrU8, wrU64, Nat.add_assoc, -getElem?_pos, List.getElem?_cons_zero, List.getElem?_cons_succ, t0, t1, t6, c1, c1', c2, c2', c3, c3', ne1, ne2, hl1, hl1', hl2, hl2']
              refine ⟨40 - (i + 1), by omega, by ((repeat (first | exact hk | refine keeps_set hok ?_ (by first | omega | (simp; done) | (simp; omega)) | refine keeps_new hok ?_ (by first | omega | (simp; done) | (simp; omega)))); done), by simp; omega, i + 1, rfl, by omega, by omega, by omega, ?_, by simp [t0], by simp [t1], by simp⟩
              rw [hdef, hcs]
              exact hd.same (by simp) (fun q hq => by have hne := Nat.ne_of_lt hq; simp [hne])
          · have hl1' : ¬ (f.length : Int) ≤ 100 := by omega
            rw [hkf, decide_eq_false hl1] at hcs
            simp only [Bool.and_false, Bool.false_and, Bool.false_eq_true, if_false, List.append_nil] at hcs
            simp (disch := first | omega | (simp; done) | assumption) [wr64, wrU8, wrU64, Nat.add_assoc, -getElem?_pos, List.getElem?_cons_zero, List.getElem?_cons_succ, t0, t1, t6, c1, c1', c2, c2', c3, c3']
            refine Try.intro g1 ?_
            simp (disch := first | omega | (simp; done) | assumption) [wr64, wrU8, wrU64, Nat.add_assoc, -getElem?_pos, List.getElem?_cons_zero, List.getElem?_cons_succ, t0, t1, t6, c1, c1', c2, c2', c3, c3']
            refine CallW.val (hS _) ?_
            simp (disch := first | omega | (simp; done) | assumption) [wr64, wrU8, wrU64, Nat.add_assoc, -getElem?_pos, List.getElem?_cons_zero, List.getElem?_cons_succ, t0, t1, t6, c1, c1', c2, c2', c3, c3', ne1, ne2]
            refine Try.intro g1 ?_
            simp (disch := first | omega | (simp; done) | assumption) [wr64, wrU8, wrU64, Nat.add_assoc, -getElem?_pos, List.getElem?_cons_zero, List.getElem?_cons_succ, t0, t1, t6, c1, c1', c2, c2', c3, c3', ne1, ne2, hl1, hl1']
            refine ⟨40 - (i + 1), by omega, by ((repeat (first | exact hk | refine keeps_set hok ?_ (by first | omega | (simp; done) | (simp; omega)) | refine keeps_new hok ?_ (by first | omega | (simp; done) | (simp; omega)))); done), by simp; omega, i + 1, rfl, by omega, by omega, by omega, ?_, by simp [t0], by simp [t1], by simp⟩
            rw [hdef, hcs]
            exact hd.same (by simp) (fun q hq => by have hne := Nat.ne_of_lt hq; simp [hne])
        | false =>
          rw [splitV_no hb] at hS
          rw [hkf, hb] at hcs
          simp only [Bool.false_and, Bool.false_eq_true, if_false, List.append_nil] at hcs
          simp (disch := first | omega | (simp; done) | assumption) [wr64, wrU8, wrU64, Nat.add_assoc, -getElem?_pos, List.getElem?_cons_zero, List.getElem?_cons_succ, t0, t1, t6, c1, c1', c2, c2', c3, c3']
          refine Try.intro g1 ?_
          simp (disch := first | omega | (simp; done) | assumption) [wr64, wrU8, wrU64, Nat.add_assoc, -getElem?_pos, List.getElem?_cons_zero, List.getElem?_cons_succ, t0, t1, t6, c1, c1', c2, c2', c3, c3']
          refine CallW.val (hS _) ?_
          simp (disch := first | omega | (simp; done) | assumption) [wr64, wrU8, wrU64, Nat.add_assoc, -getElem?_pos, List.getElem?_cons_zero, List.getElem?_cons_succ, t0, t1, t6, c1, c1', c2, c2', c3, c3', ne1, ne2]
          refine ⟨40 - (i + 1), by omega, by ((repeat (first | exact hk | refine keeps_set hok ?_ (by first | omega | (simp; done) | (simp; omega)) | refine keeps_new hok ?_ (by first | omega | (simp; done) | (simp; omega)))); done), by simp; omega, i + 1, rfl, by omega, by omega, by omega, ?_, by simp [t0], by simp [t1], by simp⟩
          rw [hdef, hcs]
          exact hd.same (by simp) (fun q hq => by have hne := Nat.ne_of_lt hq; simp [hne])
      · have c3' : ¬ (i : Int) < 40 := by omega
        rw [List.take_of_length_le (by rw [hpl]; omega)] at hd
        simp (disch := first | omega | (simp; done) | assumption) [wr64, wrU8, wrU64, Nat.add_assoc, -getElem?_pos, List.getElem?_cons_zero, List.getElem?_cons_succ, t0, t1, t6, lv, lw, c1, c1', c2, c2', c3, c3']
        exact ⟨hk, hn, hd⟩
    · have c2' : ¬ (i : Int) < (vs.length : Int) := by omega
      rw [List.take_of_length_le (by rw [hpl]; omega)] at hd
      simp (disch := first | omega | (simp; done) | assumption) [wr64, wrU8, wrU64, Nat.add_assoc, -getElem?_pos, List.getElem?_cons_zero, List.getElem?_cons_succ, t0, t1, t6, lv, lw, c1, c1', c2, c2']
      exact ⟨hk, hn, hd⟩
  · have c1' : ¬ (i : Int) < (fs.length : Int) := by omega
    rw [List.take_of_length_le (by rw [hpl]; omega)] at hd
    simp (disch := first | omega | (simp; done) | assumption) [wr64, wrU8, wrU64, Nat.add_assoc, -getElem?_pos, List.getElem?_cons_zero, List.getElem?_cons_succ, t0, t1, t6, lv, lw, c1, c1']
    exact ⟨hk, hn, hd⟩
end Go.Proofs.YtfimhkijacamoaaGreatDoor.PPick

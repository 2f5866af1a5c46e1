/- DiskPlays, second part: the loop over the script, the law. -/
import Derived.Test.YteaecdakffjneaaDoorDPl1
set_option linter.unusedVariables false
set_option linter.unusedSimpArgs false
set_option maxRecDepth 10000
set_option maxHeartbeats 8000000
namespace Go.Proofs.YteaecdakffjneaaDoor.DPl2
open Go Go.RowKit Go.Proofs.YteaecdakffjneaaDoor Go.Proofs.YteaecdakffjneaaDoor.Abs Go.Proofs.YteaecdakffjneaaDoor.Ic Go.Proofs.YteaecdakffjneaaDoor.EAs Go.Proofs.YteaecdakffjneaaDoor.EErr Go.Proofs.YteaecdakffjneaaDoor.DFn Go.Proofs.YteaecdakffjneaaDoor.DCuts Go.Proofs.YteaecdakffjneaaDoor.DCopies Go.Proofs.YteaecdakffjneaaDoor.CNum Go.Proofs.YteaecdakffjneaaDoor.DPl1
abbrev C : ICode := ic7
abbrev PB : List Nat := [1,1,1,1,1,1,1,0,1,0,0,1,0,0]
abbrev PH : List Nat := [1,1,1,1,1,1,1,0,1,0,0,0]
abbrev PI : List Nat := [1,1,1,1,1,1,1,0,1,0,0,1,1]
abbrev PL1 : List Nat := [1,1,1,1,1,1,1,0,1]
abbrev PE : List Nat := [1,1,1,1,1,1,1,1]
theorem Tail {H H4 : AH} {v : AV} {nb p L A i : Nat} {wb : Int} {tm : Tms} (h : Sx v nb p L A i wb H tm H4) : IWP Tryd.prog (part_ PT C) (Nx v nb p L A i wb H) tm H4 := by
  obtain ⟨hk, hok4, hp4, hL4, hA4, now, w, f, dead, hnow, hall, hw0, hw1, hf0, hf1, hd, hA, t0, t1, t5, t7, t8, t9, t10, t11⟩ := h
  simp (disch := first | omega | (simp; done) | assumption) [wr64, wrU8, wrU64, Nat.add_assoc, -getElem?_pos, List.getElem?_cons_zero, List.getElem?_cons_succ, part_, C, ic7, t0, t1, t5, t7, t8, t9, t10, t11]
  refine CallW.val (Dead hd) ?_
  simp (disch := first | omega | (simp; done) | assumption) [wr64, wrU8, wrU64, Nat.add_assoc, -getElem?_pos, List.getElem?_cons_zero, List.getElem?_cons_succ, t0, t1, t5, t7, t8, t9, t10, t11]
  refine CallW.val (Writes hd) ?_
  simp (disch := first | omega | (simp; done) | assumption) [wr64, wrU8, wrU64, Nat.add_assoc, -getElem?_pos, List.getElem?_cons_zero, List.getElem?_cons_succ, t0, t1, t5, t7, t8, t9, t10, t11]
  refine CallW.val (Blocks hd) ?_
  simp (disch := first | omega | (simp; done) | assumption) [wr64, wrU8, wrU64, Nat.add_assoc, -getElem?_pos, List.getElem?_cons_zero, List.getElem?_cons_succ, t0, t1, t5, t7, t8, t9, t10, t11, hnow]
  exact ⟨hk, hok4, hp4, hL4, hA4, now, w, f, dead, hnow, hall, hw0, hw1, hf0, hf1, hd, hA, by simp [t0], by simp [t1], by simp [t5], by simp [t7], by simp [t8], by simp [t9], by simp [t10], by simp [t11]⟩
def Ry (v : AV) (nb p L A i : Nat) (H : AH) (ok_ oi on_ : Int) (sh : Bool) (tm' : Tms) (H' : AH) : Prop := Sx v nb p L A i i H tm' H' ∧ ∃ q, tm' 12 = .ptr q 0 ∧ tm' 13 = .bool (decide (0 ≤ oi ∧ oi < (nb : Int))) ∧ H'.at_ q = some (.cells false tOp [.int .i64 ok_, .int .i64 oi, .int .i64 on_, .bool sh]) ∧ H.next ≤ q ∧ q ≠ p ∧ q ≠ L ∧ q ≠ A ∧ q < H'.next
theorem Body {H H4 : AH} {v : AV} {l : List OpV} {nb p L A i b o : Nat} {tm : Tms} (E : Env H nb p L A) (hi : i < 60) (hil : i < l.length) (hv : v = .slice b o l.length 4) (hld : loadC H b (o + i * 4) (some 4) = some (.agg l[i].cells))
    (hb : -9223372036854775808 ≤ l[i].i ∧ l[i].i ≤ 9223372036854775807 ∧ -9223372036854775808 ≤ l[i].n ∧ l[i].n ≤ 9223372036854775807) (h : Sx v nb p L A i i H tm H4) : IWP Tryd.prog (part_ PB C) (Nx v nb p L A i (i + 1) H) tm H4 := by
  subst hv
  generalize l[i] = op at hld hb
  obtain ⟨ok_, oi, on_, sh⟩ := op
  simp only [OpV.cells] at hld hb
  obtain ⟨hb0, hb1, hn0, hn1⟩ := hb
  change IWP Tryd.prog (.seq (part_ (PB ++ [0]) C) (.seq (part_ (PB ++ [1, 0]) C) (.seq (part_ PS C) (part_ PT C)))) _ _ _
  refine iwp_cut2 (Ry (.slice b o l.length 4) nb p L A i H ok_ oi on_ sh) ?_ ?_
  · obtain ⟨hk, hok4, hp4, hL4, hA4, now, w, f, dead, hnow, hall, hw0, hw1, hf0, hf1, hd, hA, t0, t1, t5, t7, t8, t9, t10, t11⟩ := h
    have hld4 := loadC_keeps hk hld
    have hE1 := E.hp
    have hE2 := E.hL
    have hE3 := E.hA
    simp (disch := first | omega | (simp; done) | assumption) [wr64, wrU8, wrU64, Nat.add_assoc, -getElem?_pos, List.getElem?_cons_zero, List.getElem?_cons_succ, part_, C, ic7, t0, t1, t5, t7, t8, t9, t10, t11, hil]
    refine Try.intro hld4 ?_
    have hn4 : H.next ≤ H4.next := by omega
    have fin : ∀ tm' : Tms, tm' 12 = .ptr H4.next 0 → tm' 13 = .bool (decide (0 ≤ oi ∧ oi < (nb : Int))) → Fr (.slice b o l.length 4) nb p A i w f dead tm' → 
        Ry (.slice b o l.length 4) nb p L A i H ok_ oi on_ sh tm' ((H4.new (.cells false tOp [.int .i64 0, .int .i64 0, .int .i64 0, .bool false])).set H4.next (some (.cells false tOp [.int .i64 ok_, .int .i64 oi, .int .i64 on_, .bool sh]))) := fun tm' h12 h13 hfr => by
      have hk34 : H4.keepsAll ((H4.new (.cells false tOp [.int .i64 0, .int .i64 0, .int .i64 0, .bool false])).set H4.next (some (.cells false tOp [.int .i64 ok_, .int .i64 oi, .int .i64 on_, .bool sh]))) := keeps_set hok4 (keeps_new hok4 (AH.keepsAll_refl _) (Nat.le_refl _)) (Nat.le_refl _)
      exact ⟨⟨fun x o hx => hk34 x o (hk x o hx), ok_set' (AH.ok_new hok4) (by simp), by simp; omega, by simp; omega, by simp; omega, now, w, f, dead, hnow, hall, hw0, hw1, hf0, hf1, hd.keeps hk34, hk34 _ _ hA, hfr⟩, H4.next, h12, h13, by simp, hn4, by omega, by omega, by omega, by simp⟩
    by_cases a1 : 0 ≤ oi
    · by_cases a2 : oi < (nb : Int)
      · simp (disch := first | omega | (simp; done) | assumption) [wr64, wrU8, wrU64, Nat.add_assoc, -getElem?_pos, List.getElem?_cons_zero, List.getElem?_cons_succ, t0, t1, t5, t7, t8, t9, t10, t11, a1, a2]
        exact fin _ (by simp) (by simp [a1, a2]) ⟨by simp [t0], by simp [t1], by simp [t5], by simp [t7], by simp [t8], by simp [t9], by simp [t10], by simp [t11]⟩
      · simp (disch := first | omega | (simp; done) | assumption) [wr64, wrU8, wrU64, Nat.add_assoc, -getElem?_pos, List.getElem?_cons_zero, List.getElem?_cons_succ, t0, t1, t5, t7, t8, t9, t10, t11, a1, a2]
        exact fin _ (by simp) (by simp [a1, a2]) ⟨by simp [t0], by simp [t1], by simp [t5], by simp [t7], by simp [t8], by simp [t9], by simp [t10], by simp [t11]⟩
    · simp (disch := first | omega | (simp; done) | assumption) [wr64, wrU8, wrU64, Nat.add_assoc, -getElem?_pos, List.getElem?_cons_zero, List.getElem?_cons_succ, t0, t1, t5, t7, t8, t9, t10, t11, a1]
      exact fin _ (by simp) (by simp [a1]) ⟨by simp [t0], by simp [t1], by simp [t5], by simp [t7], by simp [t8], by simp [t9], by simp [t10], by simp [t11]⟩
  · rintro tm1 H1 ⟨h, q, t12, t13, hO, e1, e2, e3, e4, e5⟩
    refine iwp_cut (fun tm' H' => Sx (.slice b o l.length 4) nb p L A i (i + 1) H tm' H') (iwp_post (Nx (.slice b o l.length 4) nb p L A i (i + 1) H) ?_ (by rintro e tm' H' ⟨rfl, h⟩; exact h)) fun tm' H' h => Tail h
    have hkd : ok_ = 0 ∨ ok_ = 1 ∨ ok_ = 2 ∨ ok_ = 3 ∨ (¬ ok_ = 0 ∧ ¬ ok_ = 1 ∧ ¬ ok_ = 2 ∧ ¬ ok_ = 3) := by omega
    by_cases hin : 0 ≤ oi ∧ oi < (nb : Int)
    · obtain ⟨ii, rfl, hii⟩ : ∃ ii : Nat, oi = (ii : Int) ∧ ii < nb := ⟨oi.toNat, by omega, by omega⟩
      rw [decide_eq_true hin] at t13
      rcases hkd with rfl | rfl | rfl | rfl | ⟨k0, k1, k2, k3⟩
      · cases sh
        · exact SwW E hi hii hO e1 e2 e3 e4 e5 hb0 hb1 hn0 hn1 t12 t13 h
        · exact SwWs E hi hii hO e1 e2 e3 e4 e5 hb0 hb1 hn0 hn1 t12 t13 h
      · exact SwR E hi hii hO e1 e2 e3 e4 e5 hb0 hb1 hn0 hn1 t12 t13 h
      · exact SwF E hi hii hO e1 e2 e3 e4 e5 hb0 hb1 hn0 hn1 t12 t13 h
      · exact SwP E hi hii hO e1 e2 e3 e4 e5 hb0 hb1 hn0 hn1 t12 t13 h
      · exact SwC E hi hii hO e1 e2 e3 e4 e5 hb0 hb1 hn0 hn1 k0 k1 k2 k3 t12 t13 h
    · rw [decide_eq_false hin] at t13
      have hin : oi < 0 ∨ (nb : Int) ≤ oi := by omega
      rcases hkd with rfl | rfl | rfl | rfl | ⟨k0, k1, k2, k3⟩
      · cases sh
        · exact SwWo E hi hO e1 e2 e3 e4 e5 hb0 hb1 hn0 hn1 hin t12 t13 h
        · exact SwWos E hi hO e1 e2 e3 e4 e5 hb0 hb1 hn0 hn1 hin t12 t13 h
      · exact SwRo E hi hO e1 e2 e3 e4 e5 hb0 hb1 hn0 hn1 hin t12 t13 h
      · exact SwFo E hi hO e1 e2 e3 e4 e5 hb0 hb1 hn0 hn1 hin t12 t13 h
      · exact SwPo E hi hO e1 e2 e3 e4 e5 hb0 hb1 hn0 hn1 hin t12 t13 h
      · exact SwCo E hi hO e1 e2 e3 e4 e5 hb0 hb1 hn0 hn1 hin k0 k1 k2 k3 t12 t13 h
def Hx (v : AV) (nb p L A i n : Nat) (wb : Int) (H : AH) : IPost := fun e tm' H' => Sx v nb p L A i wb H tm' H' ∧ ((e = .normal ∧ i < 60 ∧ i < n) ∨ (e = .exit 0 ∧ ¬ (i < 60 ∧ i < n)))
@[simp] theorem Hx_normal (v : AV) (nb p L A i n : Nat) (wb : Int) (H : AH) (tm : Tms) (H' : AH) : Hx v nb p L A i n wb H .normal tm H' = (Sx v nb p L A i wb H tm H' ∧ i < 60 ∧ i < n) := by simp [Hx]
@[simp] theorem Hx_exit (v : AV) (nb p L A i n : Nat) (wb : Int) (H : AH) (tm : Tms) (H' : AH) : Hx v nb p L A i n wb H (.exit 0) tm H' = (Sx v nb p L A i wb H tm H' ∧ ¬ (i < 60 ∧ i < n)) := by simp [Hx]
theorem Head {H H4 : AH} {v : AV} {n : Nat} {nb p L A i : Nat} {wb : Int} {tm : Tms} (hl : (v = .snil ∧ n = 0) ∨ (v = .sempty ∧ n = 0) ∨ ∃ b o, v = .slice b o n 4) (h : Sx v nb p L A i wb H tm H4) : IWP Tryd.prog (part_ PH C) (Hx v nb p L A i n wb H) tm H4 := by
  obtain ⟨hk, hok4, hp4, hL4, hA4, now, w, f, dead, hnow, hall, hw0, hw1, hf0, hf1, hd, hA, t0, t1, t5, t7, t8, t9, t10, t11⟩ := h
  have hfr : ∀ tm' : Tms, Fr v nb p A i w f dead tm' → Sx v nb p L A i wb H tm' H4 := fun tm' hf => ⟨hk, hok4, hp4, hL4, hA4, now, w, f, dead, hnow, hall, hw0, hw1, hf0, hf1, hd, hA, hf⟩
  rcases hl with ⟨rfl, rfl⟩ | ⟨rfl, rfl⟩ | ⟨b, o, rfl⟩
  · have g1 : ¬ (i : Int) < 0 := by omega
    simp (disch := first | omega | (simp; done) | assumption) [wr64, wrU8, wrU64, Nat.add_assoc, -getElem?_pos, List.getElem?_cons_zero, List.getElem?_cons_succ, part_, C, ic7, t0, t1, t5, t7, t8, t9, t10, t11, g1]
    exact hfr _ ⟨by simp [t0], by simp [t1], by simp [t5], by simp [t7], by simp [t8], by simp [t9], by simp [t10], by simp [t11]⟩
  · have g1 : ¬ (i : Int) < 0 := by omega
    simp (disch := first | omega | (simp; done) | assumption) [wr64, wrU8, wrU64, Nat.add_assoc, -getElem?_pos, List.getElem?_cons_zero, List.getElem?_cons_succ, part_, C, ic7, t0, t1, t5, t7, t8, t9, t10, t11, g1]
    exact hfr _ ⟨by simp [t0], by simp [t1], by simp [t5], by simp [t7], by simp [t8], by simp [t9], by simp [t10], by simp [t11]⟩
  · by_cases g1 : i < n
    · have g1' : (i : Int) < (n : Int) := by omega
      by_cases g2 : i < 60
      · have g2' : (i : Int) < 60 := by omega
        simp (disch := first | omega | (simp; done) | assumption) [wr64, wrU8, wrU64, Nat.add_assoc, -getElem?_pos, List.getElem?_cons_zero, List.getElem?_cons_succ, part_, C, ic7, t0, t1, t5, t7, t8, t9, t10, t11, g1, g2, g1', g2']
        exact hfr _ ⟨by simp [t0], by simp [t1], by simp [t5], by simp [t7], by simp [t8], by simp [t9], by simp [t10], by simp [t11]⟩
      · have g2' : ¬ (i : Int) < 60 := by omega
        simp (disch := first | omega | (simp; done) | assumption) [wr64, wrU8, wrU64, Nat.add_assoc, -getElem?_pos, List.getElem?_cons_zero, List.getElem?_cons_succ, part_, C, ic7, t0, t1, t5, t7, t8, t9, t10, t11, g1, g2, g1', g2']
        exact hfr _ ⟨by simp [t0], by simp [t1], by simp [t5], by simp [t7], by simp [t8], by simp [t9], by simp [t10], by simp [t11]⟩
    · have g1' : ¬ (i : Int) < (n : Int) := by omega
      simp (disch := first | omega | (simp; done) | assumption) [wr64, wrU8, wrU64, Nat.add_assoc, -getElem?_pos, List.getElem?_cons_zero, List.getElem?_cons_succ, part_, C, ic7, t0, t1, t5, t7, t8, t9, t10, t11, g1, g1']
      exact hfr _ ⟨by simp [t0], by simp [t1], by simp [t5], by simp [t7], by simp [t8], by simp [t9], by simp [t10], by simp [t11]⟩
def Inc (v : AV) (nb p L A i : Nat) (wb : Int) (H : AH) : IPost := fun e tm H' => e = .normal ∧ Sx v nb p L A (i + 1) wb H tm H'
theorem IncP {H H4 : AH} {v : AV} {nb p L A i : Nat} {wb : Int} {tm : Tms} (hi : i < 60) (h : Sx v nb p L A i wb H tm H4) : IWP Tryd.prog (part_ PI C) (Inc v nb p L A i wb H) tm H4 := by
  obtain ⟨hk, hok4, hp4, hL4, hA4, now, w, f, dead, hnow, hall, hw0, hw1, hf0, hf1, hd, hA, t0, t1, t5, t7, t8, t9, t10, t11⟩ := h
  simp (disch := first | omega | (simp; done) | assumption) [wr64, wrU8, wrU64, Nat.add_assoc, -getElem?_pos, List.getElem?_cons_zero, List.getElem?_cons_succ, part_, C, ic7, t0, t1, t5, t7, t8, t9, t10, t11]
  exact ⟨rfl, hk, hok4, hp4, hL4, hA4, now, w, f, dead, hnow, hall, hw0, hw1, hf0, hf1, hd, hA, by simp [t0], by simp [t1], by simp [t5], by simp [t7], by simp [t8], by simp [t9], by simp [t10], by simp⟩
def Lx (v : AV) (nb p L A : Nat) (H : AH) : IPost := fun e tm H' => e = .normal ∧ ∃ i wb, Sx v nb p L A i wb H tm H'
theorem Loop1 {H H4 : AH} {v : AV} {l : List OpV} {nb p L A : Nat} {tm : Tms} (E : Env H nb p L A) (hl : SLs H v l) (hb : ∀ o ∈ l, -9223372036854775808 ≤ o.i ∧ o.i ≤ 9223372036854775807 ∧ -9223372036854775808 ≤ o.n ∧ o.n ≤ 9223372036854775807) (h : Sx v nb p L A 0 0 H tm H4) :
    IWP Tryd.prog (part_ PL1 C) (Lx v nb p L A H) tm H4 := by
  have hv : (v = .snil ∧ l.length = 0) ∨ (v = .sempty ∧ l.length = 0) ∨ ∃ b o, v = .slice b o l.length 4 := by
    rcases hl with ⟨h1, rfl | rfl⟩ | ⟨b, o, rfl, _⟩
    · exact .inl ⟨rfl, by rw [h1]; rfl⟩
    · exact .inr (.inl ⟨rfl, by rw [h1]; rfl⟩)
    · exact .inr (.inr ⟨b, o, rfl⟩)
  change IWP Tryd.prog (.block 0 (.loop (.seq (part_ PH C) (.seq (.block 1 (part_ PB C)) (part_ PI C))))) _ _ _
  rw [iwp_block, iwp_loopW]
  refine iwp_loop (fun k tm' H' => ∃ i : Nat, k = 60 - i ∧ Sx v nb p L A i i H tm' H') 60 ⟨0, rfl, by simpa using h⟩ ?_
  rintro k tm1 H1 ⟨i, rfl, h1⟩
  refine iwp_cut (fun tm' H' => Sx v nb p L A i i H tm' H' ∧ i < 60 ∧ i < l.length) (iwp_post (Hx v nb p L A i l.length i H) (Head hv h1) ?_) ?_
  · rintro e tm' H' ⟨h2, ⟨rfl, h3⟩ | ⟨rfl, h3⟩⟩
    · exact ⟨h2, h3⟩
    · exact ⟨rfl, i, i, h2⟩
  rintro tm2 H2 ⟨h2, h3, h4⟩
  obtain ⟨b, o, hvs, hld⟩ : ∃ b o, v = .slice b o l.length 4 ∧ loadC H b (o + i * 4) (some 4) = some (.agg l[i].cells) := by
    rcases hl with ⟨h1, _⟩ | ⟨b, o, rfl, h5⟩
    · rw [h1] at h4; simp at h4
    · exact ⟨b, o, rfl, h5 i h4⟩
  refine iwp_cut (fun tm' H' => Sx v nb p L A i (i + 1) H tm' H') ?_ ?_
  · rw [iwp_block]
    exact iwp_post _ (Body E h3 h4 hvs hld (hb _ (List.getElem_mem h4)) h2) (by rintro e tm' H' ⟨rfl, h⟩; exact h)
  · intro tm3 H3 h3'
    exact iwp_post _ (IncP h3 h3') (by rintro e tm' H' ⟨rfl, h⟩; exact ⟨60 - (i + 1), by omega, i + 1, rfl, by simpa using h⟩)
/-! ### Behind the loop -/
def I2 (p L A nb : Nat) (now : List Int) (H : AH) (k : Nat) (tm : Tms) (H' : AH) : Prop :=
  H.keepsAll H' ∧ H'.ok ∧ ∃ (i : Nat) (w : Int), k = nb - i ∧ i ≤ nb ∧ DS H' p L ⟨now.map slotOf, w, -1, false⟩ ∧ H'.at_ A = some (.cells false tI (now.map (AV.int .i64))) ∧ tm 0 = .int .i64 (nb : Int) ∧ tm 5 = .ptr p 0 ∧ tm 7 = .slice A 0 nb 1 ∧ tm 20 = .int .i64 (i : Int)
theorem Rest {H H3 : AH} {v : AV} {nb p L A i : Nat} {wb : Int} {tm : Tms} (E : Env H nb p L A) (h : Sx v nb p L A i wb H tm H3) : IWP Tryd.prog (part_ PE C) (fnPost rs7 fun v H' => v = .bool true ∧ H.keepsAll H') tm H3 := by
  obtain ⟨hk3, hok3, hp3, hL3, hA3n, now, w, f, dead, hnow, hall, hw0, hw1, hf0, hf1, hd3, hA3, t0, t1, t5, t7, t8, t9, t10, t11⟩ := h
  have hE := E.hE
  have hn60 := E.n2
  simp (disch := first | omega | (simp; done) | assumption) [wr64, wrU8, wrU64, Nat.add_assoc, -getElem?_pos, List.getElem?_cons_zero, List.getElem?_cons_succ, part_, C, ic7, rs7, t0, t1, t5, t7, t8, t9, t10, t11]
  refine CallW.ofk (Power hd3) ?_
  rintro v4 H4 ⟨rfl, hn4, hx4, hd4⟩ hok4
  try simp only [newO_none] at hx4 hn4
  have hk4 := hx4.keepsAll hk3 E.ok E.hp E.hL
  have hA4 := hx4 _ _ (fun e => E.pA e.symm) (fun e => E.LA e.symm) hA3
  simp (disch := first | omega | (simp; done) | assumption) [wr64, wrU8, wrU64, Nat.add_assoc, -getElem?_pos, List.getElem?_cons_zero, List.getElem?_cons_succ, t0, t1, t5, t7, t8, t9, t10, t11]
  refine iwp_loop (I2 p L A nb now H) nb ⟨hk4, hok4, 0, w, rfl, by omega, hd4, hA4, by simp [t0], by simp [t5], by simp [t7], by simp⟩ ?_
  rintro k tm' H5 ⟨hk5, hok5, j, w2, rfl, hj, hd5, hA5, s0, s5, s7, s20⟩
  by_cases hj20 : j < nb
  · have hj' : (j : Int) < (nb : Int) := by omega
    simp (disch := first | omega | (simp; done) | assumption) [wr64, wrU8, wrU64, Nat.add_assoc, -getElem?_pos, List.getElem?_cons_zero, List.getElem?_cons_succ, s0, s5, s7, s20, hj20, hj']
    refine CallW.ofk (Read_ok (i := j) hd5 (by simp [hnow]; omega) rfl) ?_
    rintro v6 H6 ⟨r6, rfl, hk6, hn6, q6, hq6, hq6n, hr6⟩ hok6
    try simp only [newO_none] at hk6 hn6 hq6
    have hk06 : H.keepsAll H6 := fun x o hx => hk6 x o (hk5 x o hx)
    replace hr6 : Row H6 r6 q6 (isB (now[j]'(by omega))) := by simpa [bytes_slot] using hr6
    have hb6 := b2s_row hr6
    have hA6 := hk6 _ _ hA5
    have hcell : (now.map (AV.int .i64))[j]? = some (.int .i64 (now[j]'(by omega))) := by rw [List.getElem?_map, List.getElem?_eq_getElem (by omega)]; rfl
    have hAl : (now.map (AV.int .i64)).length = nb := by simp [hnow]
    simp (disch := first | omega | (simp; done) | assumption) [wr64, wrU8, wrU64, Nat.add_assoc, -getElem?_pos, List.getElem?_cons_zero, List.getElem?_cons_succ, s0, s5, s7, s20, hb6, hA6, hcell, hAl, hj20, hj']
    have hzz := hall _ (List.getElem_mem (show j < now.length by omega))
    refine CallW.ofk (Is_ hzz.1 (by omega) _) ?_
    rintro v7 H7 ⟨hk7, hn7, q7, hq7, hq7n, hr7⟩ hok7
    try simp only [newO_none] at hk7 hn7 hq7
    have hk07 : H.keepsAll H7 := fun x o hx => hk7 x o (hk06 x o hx)
    have hk57 : H5.keepsAll H7 := fun x o hx => hk7 x o (hk6 x o hx)
    have hb7 := b2s_row hr7
    have hb67 := b2s_row (hr6.keeps hk7)
    simp (disch := first | omega | (simp; done) | assumption) [wr64, wrU8, wrU64, Nat.add_assoc, -getElem?_pos, List.getElem?_cons_zero, List.getElem?_cons_succ, s0, s5, s7, s20, hb7, hb67]
    exact ⟨nb - (j + 1), by omega, hk07, hok7, j + 1, w2, rfl, by omega, hd5.keeps hk57, hk57 _ _ hA5, by simp [s0], by simp [s5], by simp [s7], by simp⟩
  · obtain rfl : j = nb := by omega
    simp (disch := first | omega | (simp; done) | assumption) [wr64, wrU8, wrU64, Nat.add_assoc, -getElem?_pos, List.getElem?_cons_zero, List.getElem?_cons_succ, s0, s5, s7, s20]
    refine CallW.val (Awake (loadC_keeps hk5 hE)) ?_
    simp (disch := first | omega | (simp; done) | assumption) [wr64, wrU8, wrU64, Nat.add_assoc, -getElem?_pos, List.getElem?_cons_zero, List.getElem?_cons_succ, s0, s5, s7, s20]
    exact hk5
theorem Good (v : AV) (l : List OpV) (nb : Nat) (H : AH) (n1 : 16 ≤ nb) (n2 : nb ≤ 60) (hok : H.ok) (hb : ∀ o ∈ l, -9223372036854775808 ≤ o.i ∧ o.i ≤ 9223372036854775807 ∧ -9223372036854775808 ≤ o.n ∧ o.n ≤ 9223372036854775807) (hl : SLs H v l) (hP : H.at_ 1 = some powTab) (hE : loadC H 0 0 none = some (rt tErr))
    {tm : Tms} (t0 : tm 0 = .int .i64 (nb : Int)) (t1 : tm 1 = v) : IWP Tryd.prog (part_ [1, 1] C) (fnPost rs7 fun v H' => v = .bool true ∧ H.keepsAll H') tm H := by
  change IWP Tryd.prog (.seq (part_ [1,1,0] C) (.seq (part_ [1,1,1,0] C) (.seq (part_ [1,1,1,1,0] C) (.seq (part_ [1,1,1,1,1,0] C) (.seq (part_ [1,1,1,1,1,1,0] C) (.seq (.seq (part_ [1,1,1,1,1,1,1,0,0] C) (part_ PL1 C)) (part_ PE C))))))) _ _ _
  generalize hX : (ICode.seq (.seq (part_ [1,1,1,1,1,1,1,0,0] C) (part_ PL1 C)) (part_ PE C)) = X
  have g7 : ¬ ((nb : Int) < 16) := by omega
  have g8 : ¬ (2048 < (nb : Int)) := by omega
  have g9 : ¬ nb < 16 := by omega
  have g10 : ¬ 2048 < nb := by omega
  simp (disch := first | omega | (simp; done) | assumption) [wr64, wrU8, wrU64, Nat.add_assoc, -getElem?_pos, List.getElem?_cons_zero, List.getElem?_cons_succ, part_, C, ic7, t0, t1]
  refine CallW.ofk (New (n := nb) (by omega) (by omega) _) ?_
  rintro v1 H1 ⟨hk1, hn1, p, L, rfl, hp, hL, hp1, hL1, hd1⟩ hok1
  try simp only [newO_none] at hk1 hn1 hp hL
  simp (disch := first | omega | (simp; done) | assumption) [wr64, wrU8, wrU64, Nat.add_assoc, -getElem?_pos, List.getElem?_cons_zero, List.getElem?_cons_succ, t0, t1, g7, g8, g9, g10]
  refine Try.guard (by omega) ?_
  simp (disch := first | omega | (simp; done) | assumption) [wr64, wrU8, wrU64, Nat.add_assoc, -getElem?_pos, List.getElem?_cons_zero, List.getElem?_cons_succ, t0, t1, g7, g8]
  rw [← hX]
  have hk2 : H.keepsAll (H1.new (.cells false tI ((List.replicate nb (0 : Int)).map (AV.int .i64)))) := keeps_new hok hk1 (by omega)
  have hk12 : H1.keepsAll (H1.new (.cells false tI ((List.replicate nb (0 : Int)).map (AV.int .i64)))) := keeps_new hok1 (AH.keepsAll_refl _) (Nat.le_refl _)
  have E : Env H nb p L H1.next := ⟨hok, hp, hL, hn1, by omega, by omega, n1, n2, hP, hE⟩
  refine iwp_cut (fun tm' H' => ∃ i wb, Sx v nb p L H1.next i wb H tm' H') ?_ (fun tm' H' ⟨i, wb, h⟩ => Rest E h)
  refine iwp_cut (fun tm' H' => Sx v nb p L H1.next 0 0 H tm' H') ?_ (fun tm' H' h => iwp_post _ (Loop1 E hl hb h) (by rintro e tm' H' ⟨rfl, h⟩; exact h))
  have hdx := hd1.keeps hk12
  simp (disch := first | omega | (simp; done) | assumption) [wr64, wrU8, wrU64, Nat.add_assoc, -getElem?_pos, List.getElem?_cons_zero, List.getElem?_cons_succ, part_, C, ic7, t0, t1]
  refine ⟨by simpa using hk2, by simpa using AH.ok_new hok1, by simp; omega, by simp; omega, by simp, List.replicate nb 0, 0, -1, false, by simp, by simp, by omega, by omega, by omega, by omega, ?_, by simp, by simp [t0], by simp [t1], by simp, by simp, by simp, by simp, by simp, by simp⟩
  have e3 : ((List.replicate nb (0 : Int)).map slotOf) = List.replicate nb none := by simp [slotOf]
  rw [e3]
  simpa using hdx
theorem Bad (v : AV) (blocks : Int) (H : AH) (h0 : -9223372036854775808 ≤ blocks) (h1 : blocks ≤ 9223372036854775807) (hbad : blocks < 16 ∨ 2048 < blocks) (hok : H.ok) (hP : H.at_ 1 = some powTab) (hE : loadC H 0 0 none = some (rt tErr))
    {tm : Tms} (t0 : tm 0 = .int .i64 blocks) (t1 : tm 1 = v) : IWP Tryd.prog (part_ [1, 1] C) (fnPost rs7 fun v H' => v = .bool true ∧ H.keepsAll H') tm H := by
  simp (disch := first | omega | (simp; done) | assumption) [wr64, wrU8, wrU64, Nat.add_assoc, -getElem?_pos, List.getElem?_cons_zero, List.getElem?_cons_succ, part_, C, ic7, t0, t1]
  refine CallW.ofk (New_bad hbad (.inr ⟨by simpa using hP, h0, h1⟩)) ?_
  rintro v1 H1 ⟨e1, rfl, hk1, hn1, f1, ho1, hm1, rfl, hc1⟩ hok1
  try simp only [newO_none] at hk1 hn1
  have his := isErr ho1 hm1 (show (1 : Int) ≠ 0 by decide)
  by_cases g2 : blocks < 16
  · simp (disch := first | omega | (simp; done) | assumption) [wr64, wrU8, wrU64, Nat.add_assoc, -getElem?_pos, List.getElem?_cons_zero, List.getElem?_cons_succ, t0, t1, g2]
    refine CallW.val (CNum.Num blocks h0 h1 _) ?_
    simp (disch := first | omega | (simp; done) | assumption) [wr64, wrU8, wrU64, Nat.add_assoc, -getElem?_pos, List.getElem?_cons_zero, List.getElem?_cons_succ, ]
    refine CallW.val (ELawIs _ _ 1 (loadC_keeps hk1 hE) hc1) ?_
    simp (disch := first | omega | (simp; done) | assumption) [wr64, wrU8, wrU64, Nat.add_assoc, -getElem?_pos, List.getElem?_cons_zero, List.getElem?_cons_succ, his]
    refine CallW.val (Awake (loadC_keeps hk1 hE)) ?_
    simp (disch := first | omega | (simp; done) | assumption) [wr64, wrU8, wrU64, Nat.add_assoc, -getElem?_pos, List.getElem?_cons_zero, List.getElem?_cons_succ, rs7]
    exact hk1
  · have g5 : 2048 < blocks := by omega
    simp (disch := first | omega | (simp; done) | assumption) [wr64, wrU8, wrU64, Nat.add_assoc, -getElem?_pos, List.getElem?_cons_zero, List.getElem?_cons_succ, t0, t1, g2, g5]
    refine CallW.val (CNum.Num blocks h0 h1 _) ?_
    simp (disch := first | omega | (simp; done) | assumption) [wr64, wrU8, wrU64, Nat.add_assoc, -getElem?_pos, List.getElem?_cons_zero, List.getElem?_cons_succ, ]
    refine CallW.val (ELawIs _ _ 1 (loadC_keeps hk1 hE) hc1) ?_
    simp (disch := first | omega | (simp; done) | assumption) [wr64, wrU8, wrU64, Nat.add_assoc, -getElem?_pos, List.getElem?_cons_zero, List.getElem?_cons_succ, his]
    refine CallW.val (Awake (loadC_keeps hk1 hE)) ?_
    simp (disch := first | omega | (simp; done) | assumption) [wr64, wrU8, wrU64, Nat.add_assoc, -getElem?_pos, List.getElem?_cons_zero, List.getElem?_cons_succ, rs7]
    exact hk1
theorem Law (v : AV) (l : List OpV) (blocks : Int) (H : AH) (h0 : -9223372036854775808 ≤ blocks) (h1 : blocks ≤ 9223372036854775807) (hb : ∀ o ∈ l, -9223372036854775808 ≤ o.i ∧ o.i ≤ 9223372036854775807 ∧ -9223372036854775808 ≤ o.n ∧ o.n ≤ 9223372036854775807) (hl : SLs H v l) (hP : H.at_ 1 = some powTab) (hE : loadC H 0 0 none = some (rt tErr)) :
    ACall Tryd.prog 7 [.int .i64 blocks, v] H (fun v H' => v = .bool true ∧ H' = H) := by
  refine acall_enter fits7 (by simp) (by simp) fun hok => ?_
  change IWP Tryd.prog (.seq (part_ [0] C) (.seq (part_ [1, 0] C) (part_ [1, 1] C))) _ _ _
  generalize hX : part_ [1, 1] C = X
  by_cases g3 : 60 < blocks
  · by_cases g4 : blocks ≤ 2048
    · obtain ⟨nb, hnb, n1, n2⟩ : ∃ nb : Nat, blocks.tmod 45 + 16 = (nb : Int) ∧ 16 ≤ nb ∧ nb ≤ 60 := ⟨(blocks % 45 + 16).toNat, by rw [Int.tmod_eq_emod_of_nonneg (by omega)]; omega, by omega, by omega⟩
      simp (disch := first | omega | (simp; done) | assumption) [wr64, wrU8, wrU64, Nat.add_assoc, -getElem?_pos, List.getElem?_cons_zero, List.getElem?_cons_succ, part_, C, ic7, g3, g4, hnb]
      rw [← hX]
      exact Good v l nb H n1 n2 hok hb hl hP hE (by simp) (by simp)
    · simp (disch := first | omega | (simp; done) | assumption) [wr64, wrU8, wrU64, Nat.add_assoc, -getElem?_pos, List.getElem?_cons_zero, List.getElem?_cons_succ, part_, C, ic7, g3, g4]
      rw [← hX]
      exact Bad v blocks H h0 h1 (by omega) hok hP hE (by simp) (by simp)
  · simp (disch := first | omega | (simp; done) | assumption) [wr64, wrU8, wrU64, Nat.add_assoc, -getElem?_pos, List.getElem?_cons_zero, List.getElem?_cons_succ, part_, C, ic7, g3]
    rw [← hX]
    by_cases g2 : blocks < 16
    · exact Bad v blocks H h0 h1 (by omega) hok hP hE (by simp) (by simp)
    · obtain ⟨nb, rfl⟩ : ∃ nb : Nat, blocks = (nb : Int) := ⟨blocks.toNat, by omega⟩
      exact Good v l nb H (by omega) (by omega) hok hb hl hP hE (by simp) (by simp)
theorem opOf (l : List AV) (h : l.length = 4) (hc : ∀ (q : Nat) (b : AV), l[q]? = some b → ∃ c, ([.int .i64, .int .i64, .int .i64, .bool] : List CK)[q]? = some c ∧ CkV c b) : ∃ o : OpV, l = o.cells ∧ -9223372036854775808 ≤ o.i ∧ o.i ≤ 9223372036854775807 ∧ -9223372036854775808 ≤ o.n ∧ o.n ≤ 9223372036854775807 := by
  obtain ⟨x0, x1, x2, x3, rfl⟩ : ∃ a b c d, l = [a, b, c, d] := by
    match l, h with
    | [a, b, c, d], _ => exact ⟨a, b, c, d, rfl⟩
  obtain ⟨c0, e0, k0⟩ := hc 0 x0 rfl
  obtain ⟨c1, e1, k1⟩ := hc 1 x1 rfl
  obtain ⟨c2, e2, k2⟩ := hc 2 x2 rfl
  obtain ⟨c3, e3, k3⟩ := hc 3 x3 rfl
  cases e0; cases e1; cases e2; cases e3
  obtain ⟨n0, rfl, _, _⟩ := ck_int k0
  obtain ⟨n1, rfl, a1, b1⟩ := ck_int k1
  obtain ⟨n2, rfl, a2, b2⟩ := ck_int k2
  obtain ⟨b3, rfl⟩ := ck_bool k3
  exact ⟨⟨n0, n1, n2, b3⟩, rfl, a1, b1, a2, b2⟩
theorem sls_of {H : AH} {v : AV} {L : List (List AV)} {cks : List CK} (hk : cks = [.int .i64, .int .i64, .int .i64, .bool]) (h : SF H v cks.length L) (he : ∀ l ∈ L, l.length = cks.length ∧ ∀ (q : Nat) (b : AV), l[q]? = some b → ∃ c, cks[q]? = some c ∧ CkV c b) :
    ∃ l : List OpV, SLs H v l ∧ ∀ o ∈ l, -9223372036854775808 ≤ o.i ∧ o.i ≤ 9223372036854775807 ∧ -9223372036854775808 ≤ o.n ∧ o.n ≤ 9223372036854775807 := by
  subst hk
  obtain ⟨l, rfl, hb⟩ : ∃ l : List OpV, L = l.map OpV.cells ∧ ∀ o ∈ l, -9223372036854775808 ≤ o.i ∧ o.i ≤ 9223372036854775807 ∧ -9223372036854775808 ≤ o.n ∧ o.n ≤ 9223372036854775807 := by
    clear h
    induction L with
    | nil => exact ⟨[], rfl, by simp⟩
    | cons x L ih =>
      obtain ⟨l, rfl, h2⟩ := ih fun y hy => he y (List.mem_cons_of_mem _ hy)
      obtain ⟨o, rfl, h3⟩ := opOf x (he x (List.mem_cons_self ..)).1 (he x (List.mem_cons_self ..)).2
      exact ⟨o :: l, rfl, by intro y hy; rcases List.mem_cons.1 hy with rfl | hy; exact h3; exact h2 y hy⟩
  refine ⟨l, ?_, hb⟩
  by_cases h0 : l = []
  · subst h0
    rcases h with ⟨_, h⟩ | ⟨_, _, _, h, _⟩
    · exact .inl ⟨rfl, h⟩
    · exact absurd rfl h
  · have hpos : 0 < l.length := List.length_pos_iff.2 h0
    obtain ⟨b, o, rfl, _⟩ := h.get (by decide) 0 (by simpa using hpos)
    refine .inr ⟨b, o, by simp, fun i hi => ?_⟩
    obtain ⟨b', o', e, h2, _⟩ := h.get (by decide) i (by simpa using hi)
    cases e
    simpa using h2
theorem DiskPlays.walk (a0 : Int) (a1 : Option Addr) (l1 c1 : Nat) (L1 : List (List AV)) (W : World) (hsh : W.ShapedOpen Tryd.prog) (hG : ELaid.G W) (h0 : (Lit.int .i64 a0).wf = true) (h1 : IsFlat W [.int .i64, .int .i64, .int .i64, .bool] a1 l1 c1 L1) :
    Calls Tryd.prog 7 #[.int .i64 a0, .slice a1 l1 c1] W fun e W' => e = .returned (.bool true) ∧ Below W.heap.size W W' := by
  obtain ⟨v, h2, h3⟩ := SF.of (ELaid.tabs_ok hsh hG) (by decide) h1
  obtain ⟨l, h4, h5⟩ := sls_of rfl h2 fun x hx => h1.each x (List.mem_of_mem_take hx)
  have hb := wf_i64 h0
  exact ELaid.walk hsh hG (Law v l a0 _ hb.1 hb.2 h5 h4 (ELaid.H1_pow W) (ELaid.H1_err W)) (.cons (.int ..) (.cons h3 .nil))
end Go.Proofs.YteaecdakffjneaaDoor.DPl2

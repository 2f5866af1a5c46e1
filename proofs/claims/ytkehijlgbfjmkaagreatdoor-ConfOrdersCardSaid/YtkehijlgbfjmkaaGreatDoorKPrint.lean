/- conf.Print and the document's. No condition. -/
import Derived.Test.YtkehijlgbfjmkaaGreatDoorKOk
import Derived.Test.YtkehijlgbfjmkaaGreatDoorBld
import Derived.Test.YtkehijlgbfjmkaaGreatDoorKPars
set_option linter.unusedVariables false
set_option linter.unusedSimpArgs false
set_option maxRecDepth 10000
set_option maxHeartbeats 4000000
namespace Go.Proofs.YtkehijlgbfjmkaaGreatDoor.KW
open Go Go.RowKit Go.Proofs.YtkehijlgbfjmkaaGreatDoor Go.Proofs.YtkehijlgbfjmkaaGreatDoor.Abs Go.Proofs.YtkehijlgbfjmkaaGreatDoor.Ic Go.Proofs.YtkehijlgbfjmkaaGreatDoor.St Go.Proofs.YtkehijlgbfjmkaaGreatDoor.EAs Go.Proofs.YtkehijlgbfjmkaaGreatDoor.EErr
def headP (e : En) : List UInt8 := wVer ++ 32 :: (e.ver ++ 10 :: (wKer ++ 32 :: (e.kn ++ 32 :: (e.ks ++ [10]))))
def xLine (p : Blb) : List UInt8 := wExt ++ 32 :: (p.1 ++ 32 :: (p.2 ++ [10]))
def optL (e : En) : List UInt8 := if e.op = [] then [] else wOpt ++ 32 :: (e.op ++ [10])
def printE (e : En) : List UInt8 := headP e ++ e.ex.flatMap xLine ++ optL e
structure OkP (e : En) : Prop where
  ver : verOk e.ver = true
  n : e.ex.length ≤ 8
  op : optOk e.op = true
  k : bOk (e.kn, e.ks) = true
  ex : ∀ p ∈ e.ex, bOk p = true
theorem okE_iff (e : En) : okE e = true ↔ OkP e := by
  unfold okE
  simp only [Bool.and_eq_true, decide_eq_true_eq, List.all_eq_true]
  exact ⟨fun ⟨a, b, c, d, f⟩ => ⟨a, b, c, d, f⟩, fun h => ⟨h.ver, h.n, h.op, h.k, h.ex⟩⟩
theorem bOk_len {p : Blb} (h : bOk p = true) : 1 ≤ p.1.length ∧ p.1.length ≤ 27 ∧ p.2.length = 16 := by
  unfold bOk blobOk hexOk nameOk at h
  simp only [Bool.and_eq_true, decide_eq_true_eq] at h
  omega
theorem verOk_len {s : List UInt8} (h : verOk s = true) : 1 ≤ s.length ∧ s.length ≤ 40 := by
  unfold verOk at h
  simp only [Bool.and_eq_true, decide_eq_true_eq] at h
  omega
theorem optOk_len {s : List UInt8} (h : optOk s = true) : s.length ≤ 200 := by
  unfold optOk at h
  simp only [Bool.and_eq_true, decide_eq_true_eq] at h
  omega
theorem xLine_len {p : Blb} (h : bOk p = true) : (xLine p).length ≤ 60 := by
  have := bOk_len h
  unfold xLine wExt
  simp
  omega
theorem fm_len : ∀ {ps : List Blb}, (∀ p ∈ ps, bOk p = true) → (ps.flatMap xLine).length ≤ ps.length * 60
  | [], _ => by simp
  | p :: ps, h => by
    have h1 := xLine_len (h p (by simp))
    have h2 := fm_len (ps := ps) (fun q hq => h q (by simp [hq]))
    rw [List.flatMap_cons, List.length_append, List.length_cons]
    omega
theorem headP_len {e : En} (h : OkP e) : (headP e).length ≤ 120 := by
  have h1 := bOk_len h.k
  have h2 := verOk_len h.ver
  dsimp only at h1
  unfold headP wVer wKer
  simp
  omega
theorem printE_len {e : En} (h : OkP e) : (printE e).length ≤ 900 := by
  have h1 := headP_len h
  have h2 := fm_len h.ex
  have h3 := h.n
  have h4 := optOk_len h.op
  have h5 : (optL e).length ≤ 210 := by
    unfold optL wOpt
    split
    · simp
    · simp; omega
  unfold printE
  rw [List.length_append, List.length_append]
  omega
theorem BS.new {B b : Nat} {H : AH} {l : List UInt8} (h : BS B H b l) (o : AObj) : BS B (H.new o) b l := by
  obtain ⟨h1, h2, a, buf, h3, h4, h5⟩ := h
  refine ⟨h1, by simp; omega, a, buf, by rw [AH.new_ne _ _ (by omega)]; exact h3, h4, ?_⟩
  rcases h5 with h5 | ⟨q, h5, h6, h7, h8⟩
  · exact .inl h5
  · exact .inr ⟨q, h5, by rw [AH.new_ne _ _ (by omega)]; exact h6, h7, by simp; omega⟩
theorem BS.newset {B b : Nat} {H : AH} {l : List UInt8} (h : BS B H b l) (o : AObj) (o' : Option AObj) : BS B ((H.new o).set H.next o') b l := by
  obtain ⟨h1, h2, a, buf, h3, h4, h5⟩ := h
  refine ⟨h1, by simp; omega, a, buf, by rw [AH.set_ne _ _ (by omega), AH.new_ne _ _ (by omega)]; exact h3, h4, ?_⟩
  rcases h5 with h5 | ⟨q, h5, h6, h7, h8⟩
  · exact .inl h5
  · exact .inr ⟨q, h5, by rw [AH.set_ne _ _ (by omega), AH.new_ne _ _ (by omega)]; exact h6, h7, by simp; omega⟩
def rprintV (e : En) : AV := if okE e then .tuple [.str (printE e), .bool true] else .tuple [.str [], .bool false]
theorem rprint_plain (e : En) : Plain (rprintV e) := by unfold rprintV; split <;> simp
def RqI (e : En) (vx : AV) (H : AH) (kk : Nat) (tm : Tms) (H' : AH) : Prop := H' = H.new (.cells false tEn (entC e vx)) ∧ ∃ i : Nat, kk = e.ex.length - i ∧ i ≤ e.ex.length ∧ tm 1 = .ptr H.next 0 ∧ tm 4 = .str (headP e ++ (e.ex.take i).flatMap xLine) ∧ tm 5 = .int .i64 (i : Int)
theorem RPrintC {e : En} {vx : AV} {H : AH} (hx : SF H vx 2 (rowsB e.ex)) (hz : SzE e) : ACall Tryz.prog 18 [.agg (entC e vx)] H (fun v H' => v = rprintV e ∧ H' = H) := by
  refine acall_enter fits18 (by simp) (rprint_plain e) fun hok => ?_
  obtain ⟨hxl, hv1, hv2⟩ := sf_len hx
  have hkH : ∀ o, H.keepsAll (H.new o) := fun o y q h => by have := hok _ _ h; rw [AH.new_ne _ _ (by omega)]; exact h
  have hO := ROkC (vx := vx) (e := e) (H := H.new (.cells false tEn (entC e vx))) (hx.keeps (hkH _)) hz
  unfold rprintV
  cases hb : okE e
  · rw [hb] at hO
    unfold entC at *
    simp (disch := first | omega | (simp; done) | assumption) [wr64, wrU8, wrU64, Nat.add_assoc, -getElem?_pos, List.getElem?_cons_zero, List.getElem?_cons_succ, ic18, rs18, hv1, hv2]
    refine CallW.val hO ?_
    simp (disch := first | omega | (simp; done) | assumption) [wr64, wrU8, wrU64, Nat.add_assoc, -getElem?_pos, List.getElem?_cons_zero, List.getElem?_cons_succ, hv1, hv2]
    ((repeat (first | exact AH.keepsAll_refl _ | refine keeps_set hok ?_ (by first | omega | (simp; done) | (simp; omega)) | refine keeps_new hok ?_ (by first | omega | (simp; done) | (simp; omega)))); done)
  have hP := (okE_iff e).1 hb
  have k1 := bOk_len hP.k
  have k2 := verOk_len hP.ver
  have k3 := optOk_len hP.op
  dsimp only at k1
  have n8 := hP.n
  rw [hb] at hO
  have hhead := headP_len hP
  unfold entC at *
  simp (disch := first | omega | (simp; done) | assumption) [wr64, wrU8, wrU64, Nat.add_assoc, -getElem?_pos, List.getElem?_cons_zero, List.getElem?_cons_succ, ic18, rs18, hv1, hv2]
  refine CallW.val hO ?_
  simp (disch := first | omega | (simp; done) | assumption) [wr64, wrU8, wrU64, Nat.add_assoc, -getElem?_pos, List.getElem?_cons_zero, List.getElem?_cons_succ, hv1, hv2]
  repeat' (refine Try.guard (by first | omega | (simp; omega)) ?_; simp (disch := first | omega | (simp; done) | assumption) [wr64, wrU8, wrU64, Nat.add_assoc, -getElem?_pos, List.getElem?_cons_zero, List.getElem?_cons_succ, hv1, hv2])
  refine iwp_loop (RqI e vx H) e.ex.length ⟨rfl, 0, rfl, by omega, by simp, by simp [headP, wVer, wKer], by simp⟩ ?_
  rintro kk tm H1 ⟨rfl, i, rfl, hi, t1, t4, t5⟩
  simp only [entC]
  have htl : ((e.ex.take i).flatMap xLine).length ≤ 480 := by
    have := fm_len (ps := e.ex.take i) (fun p hp => hP.ex p (List.mem_of_mem_take hp))
    have h2 : (e.ex.take i).length ≤ 8 := by simp; omega
    omega
  by_cases hlt : i < e.ex.length
  · have hlt' : (i : Int) < (e.ex.length : Int) := by omega
    obtain ⟨b, o, rfl, _, l1, l2⟩ := sf_at (hx.keeps (hkH (.cells false tEn [.str e.ver, .str e.kn, .str e.ks, vx, .str e.op]))) hlt
    have hp := bOk_len (hP.ex _ (List.getElem_mem hlt))
    have hnx : (e.ex.take (i + 1)).flatMap xLine = (e.ex.take i).flatMap xLine ++ xLine e.ex[i] := by
      rw [← List.take_append_getElem hlt, List.flatMap_append]; simp
    generalize e.ex[i] = p at *
    generalize hA : headP e ++ (e.ex.take i).flatMap xLine = A at *
    have hAl : A.length ≤ 600 := by rw [← hA, List.length_append]; omega
    simp (disch := first | omega | (simp; done) | assumption) [wr64, wrU8, wrU64, Nat.add_assoc, -getElem?_pos, List.getElem?_cons_zero, List.getElem?_cons_succ, t1, t4, t5, hlt, hlt', Abs.bounds]
    repeat' (first | (refine Try.guard (by first | omega | (simp; omega)) ?_; simp (disch := first | omega | (simp; done) | assumption) [wr64, wrU8, wrU64, Nat.add_assoc, -getElem?_pos, List.getElem?_cons_zero, List.getElem?_cons_succ, t1, t4, t5, hlt, hlt', Abs.bounds]) | (refine Try.intro (by simpa [Nat.add_assoc] using l1) ?_; simp (disch := first | omega | (simp; done) | assumption) [wr64, wrU8, wrU64, Nat.add_assoc, -getElem?_pos, List.getElem?_cons_zero, List.getElem?_cons_succ, t1, t4, t5, hlt, hlt', Abs.bounds]) | (refine Try.intro (by simpa [Nat.add_assoc] using l2) ?_; simp (disch := first | omega | (simp; done) | assumption) [wr64, wrU8, wrU64, Nat.add_assoc, -getElem?_pos, List.getElem?_cons_zero, List.getElem?_cons_succ, t1, t4, t5, hlt, hlt', Abs.bounds]))
    exact ⟨e.ex.length - (i + 1), by omega, rfl, i + 1, rfl, by omega, by simp [t1], by rw [hnx, ← List.append_assoc, hA]; simp [xLine, wExt], by simp⟩
  · have hlt' : ¬ (i : Int) < (e.ex.length : Int) := by omega
    rw [List.take_of_length_le (by omega)] at t4 htl
    have hpr : printE e = (headP e ++ e.ex.flatMap xLine) ++ optL e := rfl
    rw [hpr]
    have hAl : (headP e ++ e.ex.flatMap xLine).length ≤ 600 := by rw [List.length_append]; omega
    generalize headP e ++ e.ex.flatMap xLine = A at *
    by_cases ho : e.op = []
    · rw [show optL e = [] by unfold optL; rw [if_pos ho], List.append_nil]
      simp (disch := first | omega | (simp; done) | assumption) [wr64, wrU8, wrU64, Nat.add_assoc, -getElem?_pos, List.getElem?_cons_zero, List.getElem?_cons_succ, t1, t4, t5, hlt, hlt', hv1, hv2, hxl, ho]
      ((repeat (first | exact AH.keepsAll_refl _ | refine keeps_set hok ?_ (by first | omega | (simp; done) | (simp; omega)) | refine keeps_new hok ?_ (by first | omega | (simp; done) | (simp; omega)))); done)
    · rw [show optL e = wOpt ++ 32 :: (e.op ++ [10]) by unfold optL; rw [if_neg ho]]
      simp (disch := first | omega | (simp; done) | assumption) [wr64, wrU8, wrU64, Nat.add_assoc, -getElem?_pos, List.getElem?_cons_zero, List.getElem?_cons_succ, t1, t4, t5, hlt, hlt', hv1, hv2, hxl, ho]
      repeat' (refine Try.guard (by first | omega | (simp; omega)) ?_; simp (disch := first | omega | (simp; done) | assumption) [wr64, wrU8, wrU64, Nat.add_assoc, -getElem?_pos, List.getElem?_cons_zero, List.getElem?_cons_succ, t1, t4, t5, hlt, hlt', hv1, hv2, hxl, ho])
      exact ⟨rfl, hkH _⟩
def PrintP (e : En) (H : AH) (v : AV) (H' : AH) : Prop := H.keepsAll H' ∧ H.next ≤ H'.next ∧ ∃ err, v = .tuple [.str (if okE e then printE e else []), err] ∧ ErrQ H' err (if okE e then 0 else 1) 0
def PqI (e : En) (vx : AV) (H : AH) (kk : Nat) (tm : Tms) (H' : AH) : Prop := H.keepsAll H' ∧ H'.at_ H.next = some (.cells false tEn (entC e vx)) ∧ ∃ i : Nat, kk = e.ex.length - i ∧ i ≤ e.ex.length ∧ BS (H.next + 2) H' (H.next + 1) (headP e ++ (e.ex.take i).flatMap xLine) ∧
  tm 1 = .ptr H.next 0 ∧ tm 4 = .ptr (H.next + 1) 0 ∧ tm 27 = vx ∧ tm 28 = .int .i64 (e.ex.length : Int) ∧ tm 29 = .int .i64 (i : Int)
theorem PrintC {e : En} {vx : AV} {H : AH} (hx : SF H vx 2 (rowsB e.ex)) (hz : SzE e) : ACall Tryz.prog 14 [.agg (entC e vx)] H (PrintP e H) := by
  refine acall_ok (bodyP_of fits14) fun hok => acall_of fits14 (by simp) ?_
  obtain ⟨hxl, hv1, hv2⟩ := sf_len hx
  have hkH : ∀ o, H.keepsAll (H.new o) := fun o y q h => by have := hok _ _ h; rw [AH.new_ne _ _ (by omega)]; exact h
  have hO := OkC (vx := vx) (e := e) (H := H.new (.cells false tEn (entC e vx))) (hx.keeps (hkH _)) hz
  cases hb : okE e
  · rw [hb] at hO
    have hN := ENewD confB [] (n := 1) (by omega)
    simp only [confB] at hN
    unfold entC at *
    simp (disch := first | omega | (simp; done) | assumption) [wr64, wrU8, wrU64, Nat.add_assoc, -getElem?_pos, List.getElem?_cons_zero, List.getElem?_cons_succ, ic14, rs14, hv1, hv2]
    refine CallW.val hO ?_
    simp (disch := first | omega | (simp; done) | assumption) [wr64, wrU8, wrU64, Nat.add_assoc, -getElem?_pos, List.getElem?_cons_zero, List.getElem?_cons_succ, hv1, hv2]
    refine CallW.ofk (hN _) ?_
    rintro v H4 ⟨hk4, hn4, g, gb, g1, g2, rfl, hch⟩ hok4
    have hn5 : H4.next = H.next + 1 + 1 := hn4
    simp (disch := first | omega | (simp; done) | assumption) [wr64, wrU8, wrU64, Nat.add_assoc, -getElem?_pos, List.getElem?_cons_zero, List.getElem?_cons_succ, hv1, hv2]
    refine ⟨fun y o h => hk4 _ _ (hkH _ _ _ h), by omega, _, by rw [hb]; rfl, ?_⟩
    rw [hb]
    unfold ErrQ
    rw [if_neg (by simp)]
    exact ⟨g, g1, by simpa using g2, rfl, hch⟩
  have hP := (okE_iff e).1 hb
  have k1 := bOk_len hP.k
  have k2 := verOk_len hP.ver
  have k3 := optOk_len hP.op
  dsimp only at k1
  have n8 := hP.n
  rw [hb] at hO
  have hhead := headP_len hP
  unfold PrintP
  rw [hb, if_pos rfl, if_pos rfl]
  have hW0 : BS (H.next + 2) ((H.new (.cells false tEn (entC e vx))).new (.cells false EErr.tB [.pnil, .snil])) (H.next + 1) [] := ⟨by omega, by simp, .pnil, .snil, by rw [show H.next + 1 = (H.new (.cells false tEn (entC e vx))).next from rfl, AH.new_same], .inl rfl, .inl ⟨rfl, rfl⟩⟩
  have hW1 := WriteString (s := headP e) hW0 (by simp; omega)
  simp only [headP, wVer, wKer, List.cons_append, List.nil_append] at hW1
  unfold entC at *
  simp (disch := first | omega | (simp; done) | assumption) [wr64, wrU8, wrU64, Nat.add_assoc, -getElem?_pos, List.getElem?_cons_zero, List.getElem?_cons_succ, ic14, rs14, hv1, hv2]
  refine CallW.val hO ?_
  simp (disch := first | omega | (simp; done) | assumption) [wr64, wrU8, wrU64, Nat.add_assoc, -getElem?_pos, List.getElem?_cons_zero, List.getElem?_cons_succ, hv1, hv2]
  repeat' (refine Try.guard (by first | omega | (simp; omega)) ?_; simp (disch := first | omega | (simp; done) | assumption) [wr64, wrU8, wrU64, Nat.add_assoc, -getElem?_pos, List.getElem?_cons_zero, List.getElem?_cons_succ, hv1, hv2])
  refine CallW.ofk hW1 ?_
  rintro v H2 ⟨hbs, hkb, hn2⟩ hok2
  try simp only [newO_none] at hbs hkb hn2
  have hks2 : H.keepsAll H2 := fun y o h => hkb y o (by have := hok _ _ h; omega) (by have := hok _ _ h; omega) (by have := hok _ _ h; show (AH.new _ _).at_ y = _; rw [AH.new_ne _ _ (by simp; omega), AH.new_ne _ _ (by omega)]; exact h)
  have hbx : H2.at_ H.next = some (.cells false tEn [.str e.ver, .str e.kn, .str e.ks, vx, .str e.op]) := hkb _ _ (by omega) (by omega) (by show (AH.new _ _).at_ _ = _; rw [AH.new_ne _ _ (by simp), AH.new_same])
  clear hW1 hW0 hkb hn2
  simp (disch := first | omega | (simp; done) | assumption) [wr64, wrU8, wrU64, Nat.add_assoc, -getElem?_pos, List.getElem?_cons_zero, List.getElem?_cons_succ, hv1, hv2, hbx, hxl]
  refine iwp_loop (PqI e vx H) e.ex.length ⟨hks2, by simpa [entC] using hbx, 0, rfl, by omega, by simpa [headP, wVer, wKer] using hbs, by simp, by simp, by simp, by simp, by simp⟩ ?_
  clear hbs hbx hks2 hok2
  clear H2 v
  rintro kk tm H1 ⟨hk1, hbx, i, rfl, hi, hbs, t1, t4, t27, t28, t29⟩
  simp only [entC] at hbx
  have htl : ((e.ex.take i).flatMap xLine).length ≤ 480 := by
    have := fm_len (ps := e.ex.take i) (fun p hp => hP.ex p (List.mem_of_mem_take hp))
    have h2 : (e.ex.take i).length ≤ 8 := by simp; omega
    omega
  have hnB := hbs.2.1
  by_cases hlt : i < e.ex.length
  · have hlt' : (i : Int) < (e.ex.length : Int) := by omega
    obtain ⟨b, o, rfl, l0, l1, l2⟩ := sf_at (hx.keeps hk1) hlt
    have hp := bOk_len (hP.ex _ (List.getElem_mem hlt))
    have hnx : (e.ex.take (i + 1)).flatMap xLine = (e.ex.take i).flatMap xLine ++ xLine e.ex[i] := by
      rw [← List.take_append_getElem hlt, List.flatMap_append]; simp
    generalize e.ex[i] = p at *
    generalize hA : headP e ++ (e.ex.take i).flatMap xLine = A at *
    have hAl : A.length ≤ 600 := by rw [← hA, List.length_append]; omega
    have hxl9 : (xLine p).length ≤ 60 := by
      unfold xLine wExt
      simp
      omega
    have hW := WriteString (s := xLine p) (BS.newset hbs (.cells false tB [.str [], .str []]) (some (.cells false tB [.str p.1, .str p.2]))) (by omega)
    simp only [xLine, wExt, List.cons_append, List.nil_append] at hW
    simp only [blobC] at l0
    simp [-loadC, t1, t4, t27, t28, t29, hlt, hlt']
    refine Try.intro l0 ?_
    simp (disch := first | omega | (simp; done) | assumption) [wr64, wrU8, wrU64, Nat.add_assoc, -getElem?_pos, List.getElem?_cons_zero, List.getElem?_cons_succ, t1, t4, t27, t28, t29, hlt, hlt']
    repeat' (refine Try.guard (by first | omega | (simp; omega)) ?_; simp (disch := first | omega | (simp; done) | assumption) [wr64, wrU8, wrU64, Nat.add_assoc, -getElem?_pos, List.getElem?_cons_zero, List.getElem?_cons_succ, t1, t4, t27, t28, t29, hlt, hlt'])
    refine CallW.ofk hW ?_
    rintro v H2 ⟨hbs2, hkb, hn2⟩ hok2
    try simp only [newO_none] at hbs2 hkb hn2
    simp (disch := first | omega | (simp; done) | assumption) [wr64, wrU8, wrU64, Nat.add_assoc, -getElem?_pos, List.getElem?_cons_zero, List.getElem?_cons_succ, t1, t4, t27, t28, t29, hlt, hlt']
    have hst : ∀ y o, y < H.next + 1 → H1.at_ y = some o → H2.at_ y = some o := fun y o hy h => hkb y o (by omega) (by omega) (by rw [AH.set_ne _ _ (by omega), AH.new_ne _ _ (by omega)]; exact h)
    exact ⟨e.ex.length - (i + 1), by omega, fun y o h => hst y o (by have := hok _ _ h; omega) (hk1 _ _ h), by simp only [entC]; exact hst _ _ (by omega) hbx, i + 1, rfl, by omega, by rw [hnx, ← List.append_assoc, hA]; simpa [xLine, wExt] using hbs2, by simp [t1], by simp [t4], by simp [t27], by simp [t28], by simp⟩
  · have hlt' : ¬ (i : Int) < (e.ex.length : Int) := by omega
    rw [List.take_of_length_le (by omega)] at hbs htl
    have hpr : printE e = (headP e ++ e.ex.flatMap xLine) ++ optL e := rfl
    rw [hpr]
    have hAl : (headP e ++ e.ex.flatMap xLine).length ≤ 600 := by rw [List.length_append]; omega
    have hA0 : headP e ++ e.ex.flatMap xLine ≠ [] := by simp [headP, wVer]
    generalize headP e ++ e.ex.flatMap xLine = A at *
    by_cases ho : e.op = []
    · rw [show optL e = [] by unfold optL; rw [if_pos ho], List.append_nil]
      simp (disch := first | omega | (simp; done) | assumption) [wr64, wrU8, wrU64, Nat.add_assoc, -getElem?_pos, List.getElem?_cons_zero, List.getElem?_cons_succ, t1, t4, t27, t28, t29, hlt, hlt', hv1, hv2, hbx, ho]
      refine CallW.ofk (BString hbs hA0 (by omega)) ?_
      rintro v H2 ⟨rfl, hkb, hn2⟩ hok2
      try simp only [newO_none] at hkb hn2
      simp (disch := first | omega | (simp; done) | assumption) [wr64, wrU8, wrU64, Nat.add_assoc, -getElem?_pos, List.getElem?_cons_zero, List.getElem?_cons_succ, ]
      refine ⟨fun y o h => hkb _ _ (by have := hok _ _ h; omega) (by have := hok _ _ h; omega) (hk1 _ _ h), by omega, ?_⟩
      unfold ErrQ
      rw [if_pos rfl]
    · rw [show optL e = wOpt ++ 32 :: (e.op ++ [10]) by unfold optL; rw [if_neg ho]]
      have hW := WriteString (s := wOpt ++ 32 :: (e.op ++ [10])) hbs (by simp [wOpt]; omega)
      simp only [wOpt, List.cons_append, List.nil_append] at hW ⊢
      simp (disch := first | omega | (simp; done) | assumption) [wr64, wrU8, wrU64, Nat.add_assoc, -getElem?_pos, List.getElem?_cons_zero, List.getElem?_cons_succ, t1, t4, t27, t28, t29, hlt, hlt', hv1, hv2, hbx, ho]
      repeat' (refine Try.guard (by first | omega | (simp; omega)) ?_; simp (disch := first | omega | (simp; done) | assumption) [wr64, wrU8, wrU64, Nat.add_assoc, -getElem?_pos, List.getElem?_cons_zero, List.getElem?_cons_succ, t1, t4, t27, t28, t29, hlt, hlt', hv1, hv2, hbx, ho])
      refine CallW.ofk hW ?_
      rintro v H2 ⟨hbs2, hkb, hn2⟩ hok2
      try simp only [newO_none] at hbs2 hkb hn2
      simp (disch := first | omega | (simp; done) | assumption) [wr64, wrU8, wrU64, Nat.add_assoc, -getElem?_pos, List.getElem?_cons_zero, List.getElem?_cons_succ, t1, t4, t27, t28, t29, hlt, hlt']
      refine CallW.ofk (BString hbs2 (by simp) (by simp; omega)) ?_
      rintro v H3 ⟨rfl, hkb3, hn3⟩ hok3
      try simp only [newO_none] at hkb3 hn3
      simp (disch := first | omega | (simp; done) | assumption) [wr64, wrU8, wrU64, Nat.add_assoc, -getElem?_pos, List.getElem?_cons_zero, List.getElem?_cons_succ, ]
      refine ⟨fun y o h => hkb3 _ _ (by have := hok _ _ h; omega) (by have := hok _ _ h; omega) (hkb _ _ (by have := hok _ _ h; omega) (by have := hok _ _ h; omega) (hk1 _ _ h)), by omega, ?_⟩
      unfold ErrQ
      rw [if_pos rfl]
end Go.Proofs.YtkehijlgbfjmkaaGreatDoor.KW

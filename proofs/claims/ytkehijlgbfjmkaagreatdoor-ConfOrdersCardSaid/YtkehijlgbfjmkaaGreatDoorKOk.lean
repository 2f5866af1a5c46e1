/- conf.Ok and the document's. No condition. -/
import Derived.Test.YtkehijlgbfjmkaaGreatDoorKL2
import Derived.Test.YtkehijlgbfjmkaaGreatDoorKG
set_option linter.unusedVariables false
set_option linter.unusedSimpArgs false
set_option maxRecDepth 10000
set_option maxHeartbeats 4000000
namespace Go.Proofs.YtkehijlgbfjmkaaGreatDoor.KW
open Go Go.RowKit Go.Proofs.YtkehijlgbfjmkaaGreatDoor Go.Proofs.YtkehijlgbfjmkaaGreatDoor.Abs Go.Proofs.YtkehijlgbfjmkaaGreatDoor.Ic Go.Proofs.YtkehijlgbfjmkaaGreatDoor.St
abbrev Blb := List UInt8 × List UInt8
def bOk (p : Blb) : Bool := blobOk p.1 p.2
def LB (p : Blb) : Prop := p.1.length ≤ 9223372036854775807 ∧ p.2.length ≤ 9223372036854775807
def bIdx : Nat → List Blb → Int
  | _, [] => -1
  | i, p :: ps => if bOk p then bIdx (i + 1) ps else (i : Int)
theorem bIdx_all : ∀ (ps : List Blb) (i : Nat), decide (0 ≤ bIdx i ps) = !ps.all bOk
  | [], i => rfl
  | p :: ps, i => by
    cases h : bOk p
    · simp only [bIdx, h, if_neg Bool.false_ne_true, List.all_cons, Bool.false_and, Bool.not_false]
      exact decide_eq_true (by omega)
    · simp only [bIdx, h, if_true, List.all_cons, Bool.true_and]
      exact bIdx_all ps (i + 1)
def okE (e : En) : Bool := verOk e.ver && (decide (e.ex.length ≤ 8) && (optOk e.op && (bOk (e.kn, e.ks) && e.ex.all bOk)))
structure SzE (e : En) : Prop where
  ver : e.ver.length ≤ 9223372036854775000
  k : LB (e.kn, e.ks)
  op : e.op.length ≤ 9223372036854775000
  ex : ∀ p ∈ e.ex, LB p
  n : e.ex.length ≤ 100000
theorem OkF (p : Blb) (hp : LB p) (H : AH) : ACall Tryz.prog 39 [.agg (blobC p)] H (fun v H' => v = .bool (!bOk p) ∧ H' = H) := by
  refine acall_enter fits39 (by simp) (by simp) fun hok => ?_
  unfold bOk blobC
  simp (disch := first | omega | (simp; done) | assumption) [wr64, wrU8, wrU64, Nat.add_assoc, -getElem?_pos, List.getElem?_cons_zero, List.getElem?_cons_succ, ic39, rs39]
  refine CallW.val (Blob_ _ _ _ hp.1 hp.2) ?_
  simp (disch := first | omega | (simp; done) | assumption) [wr64, wrU8, wrU64, Nat.add_assoc, -getElem?_pos, List.getElem?_cons_zero, List.getElem?_cons_succ, ]
  ((repeat (first | exact AH.keepsAll_refl _ | refine keeps_set hok ?_ (by first | omega | (simp; done) | (simp; omega)) | refine keeps_new hok ?_ (by first | omega | (simp; done) | (simp; omega)))); done)
def IfI (q : Nat) (ps : List Blb) (H : AH) (kk : Nat) (tm : Tms) (H' : AH) : Prop := H' = H ∧ ∃ i : Nat, kk = ps.length - i ∧ i ≤ ps.length ∧ bIdx i (ps.drop i) = bIdx 0 ps ∧ tm 0 = .slice q 0 ps.length 2 ∧ tm 1 = .func (.func 39) [] [] ∧ tm 7 = .int .i64 (ps.length : Int) ∧ tm 8 = .int .i64 (i : Int)
theorem IndexB {q : Nat} {ps : List Blb} {H : AH} (hq : H.at_ q = some (.cells false tB (rowsB ps).flatten)) (hp : ∀ p ∈ ps, LB p) (hn : ps.length ≤ 1000000) :
    ACall Tryz.prog 57 [.slice q 0 ps.length 2, .func (.func 39) [] []] H (fun v H' => v = .int .i64 (bIdx 0 ps) ∧ H' = H) := by
  refine acall_enter fits57 (by simp) (by simp) fun hok => ?_
  simp (disch := first | omega | (simp; done) | assumption) [wr64, wrU8, wrU64, Nat.add_assoc, -getElem?_pos, List.getElem?_cons_zero, List.getElem?_cons_succ, ic57, rs57]
  refine iwp_loop (IfI q ps H) ps.length ⟨rfl, 0, rfl, by omega, rfl, by simp, by simp, by simp, by simp⟩ ?_
  rintro kk tm H1 ⟨rfl, i, rfl, hi, hid, t0, t1, t7, t8⟩
  by_cases hlt : i < ps.length
  · have hlt' : (i : Int) < (ps.length : Int) := by omega
    have hld : loadC H1 q (i * 2) (some 2) = some (.agg (blobC ps[i])) := by
      have := load_flat hq (allB ps) (k := i) (by simpa [rowsB] using hlt)
      simpa [rowsB] using this
    have hd : ps.drop i = ps[i] :: ps.drop (i + 1) := List.drop_eq_getElem_cons hlt
    rw [hd] at hid
    have hpi := hp _ (List.getElem_mem hlt)
    generalize ps[i] = p at *
    simp [-loadC, -storeC, t0, t1, t7, t8, hlt, hlt']
    refine Try.intro (by simpa using hld) ?_
    simp (disch := first | omega | (simp; done) | assumption) [wr64, wrU8, wrU64, Nat.add_assoc, -getElem?_pos, List.getElem?_cons_zero, List.getElem?_cons_succ, t0, t1, t7, t8, hlt, hlt']
    refine CallW.val (OkF p hpi _) ?_
    cases hb : bOk p
    · rw [← hid]
      simp (disch := first | omega | (simp; done) | assumption) [wr64, wrU8, wrU64, Nat.add_assoc, -getElem?_pos, List.getElem?_cons_zero, List.getElem?_cons_succ, t0, t1, t7, t8, hlt, hlt', bIdx, hb]
      exact AH.keepsAll_refl _
    · simp (disch := first | omega | (simp; done) | assumption) [wr64, wrU8, wrU64, Nat.add_assoc, -getElem?_pos, List.getElem?_cons_zero, List.getElem?_cons_succ, t0, t1, t7, t8, hlt, hlt']
      exact ⟨ps.length - (i + 1), by omega, rfl, i + 1, rfl, by omega, by rw [← hid, bIdx, if_pos hb], by simp [t0], by simp [t1], by simp [t7], by simp⟩
  · have hlt' : ¬ (i : Int) < (ps.length : Int) := by omega
    rw [List.drop_of_length_le (by omega)] at hid
    rw [← hid]
    simp (disch := first | omega | (simp; done) | assumption) [wr64, wrU8, wrU64, Nat.add_assoc, -getElem?_pos, List.getElem?_cons_zero, List.getElem?_cons_succ, t0, t1, t7, t8, hlt, hlt']
    exact ⟨rfl, AH.keepsAll_refl _⟩
theorem ContB {q : Nat} {ps : List Blb} {H : AH} (hq : H.at_ q = some (.cells false tB (rowsB ps).flatten)) (hp : ∀ p ∈ ps, LB p) (hn : ps.length ≤ 1000000) :
    ACall Tryz.prog 38 [.slice q 0 ps.length 2, .func (.func 39) [] []] H (fun v H' => v = .bool (!ps.all bOk) ∧ H' = H) := by
  refine acall_enter fits38 (by simp) (by simp) fun hok => ?_
  rw [← bIdx_all ps 0]
  simp (disch := first | omega | (simp; done) | assumption) [wr64, wrU8, wrU64, Nat.add_assoc, -getElem?_pos, List.getElem?_cons_zero, List.getElem?_cons_succ, ic38, rs38]
  refine CallW.val (IndexB hq hp hn) ?_
  simp (disch := first | omega | (simp; done) | assumption) [wr64, wrU8, wrU64, Nat.add_assoc, -getElem?_pos, List.getElem?_cons_zero, List.getElem?_cons_succ, ]
  exact AH.keepsAll_refl _
theorem OkC {e : En} {vx : AV} {H : AH} (hx : SF H vx 2 (rowsB e.ex)) (hz : SzE e) : ACall Tryz.prog 17 [.agg (entC e vx)] H (fun v H' => v = .bool (okE e) ∧ H' = H) := by
  refine acall_enter fits17 (by simp) (by simp) fun hok => ?_
  have hv1 : vx.cells = [vx] ∧ vx.one = true := by
    rcases hx with ⟨_, rfl | rfl⟩ | ⟨_, _, rfl, _⟩ <;> exact ⟨rfl, rfl⟩
  have hlen : (rowsB e.ex).length = e.ex.length := by simp [rowsB]
  have hlens : lenS vx = some e.ex.length := by
    rcases hx with ⟨h, rfl | rfl⟩ | ⟨_, _, rfl, _⟩
    · rw [← hlen, h]; rfl
    · rw [← hlen, h]; rfl
    · rw [← hlen]; rfl
  have hW := Within e.ver 1 40 33
  simp only [verOk_eq] at hW
  have hO := Options e.op
  unfold entC okE
  simp (disch := first | omega | (simp; done) | assumption) [wr64, wrU8, wrU64, Nat.add_assoc, -getElem?_pos, List.getElem?_cons_zero, List.getElem?_cons_succ, ic17, rs17, hv1.1, hv1.2]
  refine CallW.val (hW _ (by have := hz.ver; omega)) ?_
  by_cases c1 : verOk e.ver = true
  case neg =>
    have c1 : verOk e.ver = false := by simpa using c1
    simp (disch := first | omega | (simp; done) | assumption) [wr64, wrU8, wrU64, Nat.add_assoc, -getElem?_pos, List.getElem?_cons_zero, List.getElem?_cons_succ, c1, hv1.1, hv1.2]
    ((repeat (first | exact AH.keepsAll_refl _ | refine keeps_set hok ?_ (by first | omega | (simp; done) | (simp; omega)) | refine keeps_new hok ?_ (by first | omega | (simp; done) | (simp; omega)))); done)
  by_cases c2 : e.ex.length ≤ 8
  case neg =>
    have c2' : ¬ (e.ex.length : Int) ≤ 8 := by omega
    have c2'' : ¬ (e.ex.length : Int) < 9 := by omega
    simp (disch := first | omega | (simp; done) | assumption) [wr64, wrU8, wrU64, Nat.add_assoc, -getElem?_pos, List.getElem?_cons_zero, List.getElem?_cons_succ, c1, c2, c2', c2'', hv1.1, hv1.2, hlens]
    ((repeat (first | exact AH.keepsAll_refl _ | refine keeps_set hok ?_ (by first | omega | (simp; done) | (simp; omega)) | refine keeps_new hok ?_ (by first | omega | (simp; done) | (simp; omega)))); done)
  have c2' : (e.ex.length : Int) ≤ 8 := by omega
  by_cases c3 : optOk e.op = true
  case neg =>
    have c3 : optOk e.op = false := by simpa using c3
    simp (disch := first | omega | (simp; done) | assumption) [wr64, wrU8, wrU64, Nat.add_assoc, -getElem?_pos, List.getElem?_cons_zero, List.getElem?_cons_succ, c1, c2, c2', c3, hv1.1, hv1.2, hlens]
    refine CallW.val (hO _ (by have := hz.op; omega)) ?_
    simp (disch := first | omega | (simp; done) | assumption) [wr64, wrU8, wrU64, Nat.add_assoc, -getElem?_pos, List.getElem?_cons_zero, List.getElem?_cons_succ, c1, c2, c2', c3, hv1.1, hv1.2, hlens]
    ((repeat (first | exact AH.keepsAll_refl _ | refine keeps_set hok ?_ (by first | omega | (simp; done) | (simp; omega)) | refine keeps_new hok ?_ (by first | omega | (simp; done) | (simp; omega)))); done)
  have hB := BlobsC (vx := vx) (e := e) (H := H.new (.cells false tEn [.str e.ver, .str e.kn, .str e.ks, vx, .str e.op])) (hx.keeps (by intro y o h; have := hok _ _ h; rw [AH.new_ne _ _ (by omega)]; exact h)) (by omega)
  unfold entC at hB
  simp (disch := first | omega | (simp; done) | assumption) [wr64, wrU8, wrU64, Nat.add_assoc, -getElem?_pos, List.getElem?_cons_zero, List.getElem?_cons_succ, c1, c2, c2', c3, hv1.1, hv1.2, hlens]
  refine CallW.val (hO _ (by have := hz.op; omega)) ?_
  simp (disch := first | omega | (simp; done) | assumption) [wr64, wrU8, wrU64, Nat.add_assoc, -getElem?_pos, List.getElem?_cons_zero, List.getElem?_cons_succ, c1, c2, c2', c3, hv1.1, hv1.2, hlens]
  refine CallW.of hB ?_
  rintro v H2 ⟨hk, hn2, q, rfl, hq, _, _⟩
  try simp only [newO_none] at hk hn2
  simp (disch := first | omega | (simp; done) | assumption) [wr64, wrU8, wrU64, Nat.add_assoc, -getElem?_pos, List.getElem?_cons_zero, List.getElem?_cons_succ, c1, c2, c2', c3, hv1.1, hv1.2, hlens]
  have hC := ContB (ps := (e.kn, e.ks) :: e.ex) (q := q) (H := H2) (by simpa using hq) (by intro p hp; rcases List.mem_cons.1 hp with rfl | hp; exact hz.k; exact hz.ex p hp) (by simp; omega)
  simp only [List.length_cons, rowsB, List.length_map] at hC ⊢
  refine CallW.val (by simpa using hC) ?_
  simp (disch := first | omega | (simp; done) | assumption) [wr64, wrU8, wrU64, Nat.add_assoc, -getElem?_pos, List.getElem?_cons_zero, List.getElem?_cons_succ, c1, c2, c2', c3, hv1.1, hv1.2, hlens]
  exact fun y o h => hk y o (by have := hok _ _ h; rw [AH.new_ne _ _ (by omega)]; exact h)
theorem sf_len {vx : AV} {H : AH} {ex : List Blb} (hx : SF H vx 2 (rowsB ex)) : lenS vx = some ex.length ∧ vx.cells = [vx] ∧ vx.one = true := by
  have hlen : (rowsB ex).length = ex.length := by simp [rowsB]
  rcases hx with ⟨h, rfl | rfl⟩ | ⟨_, _, rfl, _⟩
  · rw [← hlen, h]; exact ⟨rfl, rfl, rfl⟩
  · rw [← hlen, h]; exact ⟨rfl, rfl, rfl⟩
  · rw [← hlen]; exact ⟨rfl, rfl, rfl⟩
theorem sf_at {vx : AV} {H : AH} {ex : List Blb} (hx : SF H vx 2 (rowsB ex)) {i : Nat} (hi : i < ex.length) : ∃ b o, vx = .slice b o ex.length 2 ∧ loadC H b (o + i * 2) (some 2) = some (.agg (blobC ex[i])) ∧
    loadC H b (o + i * 2) none = some (.str ex[i].1) ∧ loadC H b (o + i * 2 + 1) none = some (.str ex[i].2) := by
  have hlen : (rowsB ex).length = ex.length := by simp [rowsB]
  obtain ⟨b, o, rfl, h1, h2⟩ := hx.get (by omega) i (by rw [hlen]; exact hi)
  refine ⟨b, o, by rw [hlen], by simpa [rowsB] using h1, by simpa [rowsB, blobC] using h2, ?_⟩
  rcases hx with ⟨h, h' | h'⟩ | ⟨b', o', h', _, h3⟩
  · cases h'
  · cases h'
  · injection h' with h'1 h'2
    subst h'1 h'2
    have := (h3 i (by rw [hlen]; exact hi)).2 1 (by omega)
    rw [Nat.add_assoc]
    simpa [rowsB, blobC] using this
def RoI (e : En) (vx : AV) (H : AH) (kk : Nat) (tm : Tms) (H' : AH) : Prop := H' = H.new (.cells false tEn (entC e vx)) ∧ ∃ i : Nat, kk = e.ex.length - i ∧ i ≤ e.ex.length ∧ (e.ex.take i).all bOk = true ∧ tm 1 = .ptr H.next 0 ∧ tm 3 = .int .i64 (i : Int)
theorem bok_take {ps : List Blb} {i : Nat} (hi : i < ps.length) : (ps.take (i + 1)).all bOk = ((ps.take i).all bOk && bOk ps[i]) := by
  rw [← List.take_append_getElem hi, List.all_append, List.all_cons, List.all_nil, Bool.and_true]
theorem bok_false {ps : List Blb} {i : Nat} (hi : i < ps.length) (h : bOk ps[i] = false) : ps.all bOk = false := by
  rw [List.all_eq_false]; exact ⟨ps[i], List.getElem_mem hi, by simp [h]⟩
theorem ROkC {e : En} {vx : AV} {H : AH} (hx : SF H vx 2 (rowsB e.ex)) (hz : SzE e) : ACall Tryz.prog 12 [.agg (entC e vx)] H (fun v H' => v = .bool (okE e) ∧ H' = H) := by
  refine acall_enter fits12 (by simp) (by simp) fun hok => ?_
  obtain ⟨hlens, hv1, hv2⟩ := sf_len hx
  have hW := VerOk e.ver
  have hB := RBlobOk e.kn e.ks
  have hO := ROptions e.op
  have hkH : ∀ o, H.keepsAll (H.new o) := fun o y q h => by have := hok _ _ h; rw [AH.new_ne _ _ (by omega)]; exact h
  unfold entC okE
  simp (disch := first | omega | (simp; done) | assumption) [wr64, wrU8, wrU64, Nat.add_assoc, -getElem?_pos, List.getElem?_cons_zero, List.getElem?_cons_succ, ic12, rs12, hv1, hv2]
  refine CallW.val (hW _ (by have := hz.ver; omega)) ?_
  by_cases c1 : verOk e.ver = true
  case neg =>
    have c1 : verOk e.ver = false := by simpa using c1
    simp (disch := first | omega | (simp; done) | assumption) [wr64, wrU8, wrU64, Nat.add_assoc, -getElem?_pos, List.getElem?_cons_zero, List.getElem?_cons_succ, c1, hv1, hv2]
    ((repeat (first | exact AH.keepsAll_refl _ | refine keeps_set hok ?_ (by first | omega | (simp; done) | (simp; omega)) | refine keeps_new hok ?_ (by first | omega | (simp; done) | (simp; omega)))); done)
  simp (disch := first | omega | (simp; done) | assumption) [wr64, wrU8, wrU64, Nat.add_assoc, -getElem?_pos, List.getElem?_cons_zero, List.getElem?_cons_succ, c1, hv1, hv2]
  refine CallW.val (hB _ hz.k.1 hz.k.2) ?_
  by_cases c0 : bOk (e.kn, e.ks) = true
  case neg =>
    have c0 : blobOk e.kn e.ks = false := by simpa [bOk] using c0
    have c0' : bOk (e.kn, e.ks) = false := c0
    simp (disch := first | omega | (simp; done) | assumption) [wr64, wrU8, wrU64, Nat.add_assoc, -getElem?_pos, List.getElem?_cons_zero, List.getElem?_cons_succ, c1, c0, c0', hv1, hv2]
    ((repeat (first | exact AH.keepsAll_refl _ | refine keeps_set hok ?_ (by first | omega | (simp; done) | (simp; omega)) | refine keeps_new hok ?_ (by first | omega | (simp; done) | (simp; omega)))); done)
  have c0' : blobOk e.kn e.ks = true := c0
  by_cases c2 : e.ex.length ≤ 8
  case neg =>
    have c2' : (8 : Int) < (e.ex.length : Int) := by omega
    simp (disch := first | omega | (simp; done) | assumption) [wr64, wrU8, wrU64, Nat.add_assoc, -getElem?_pos, List.getElem?_cons_zero, List.getElem?_cons_succ, c1, c0, c0', c2, c2', hv1, hv2, hlens]
    ((repeat (first | exact AH.keepsAll_refl _ | refine keeps_set hok ?_ (by first | omega | (simp; done) | (simp; omega)) | refine keeps_new hok ?_ (by first | omega | (simp; done) | (simp; omega)))); done)
  have c2' : ¬ (8 : Int) < (e.ex.length : Int) := by omega
  by_cases c3 : optOk e.op = true
  case neg =>
    have c3 : optOk e.op = false := by simpa using c3
    simp (disch := first | omega | (simp; done) | assumption) [wr64, wrU8, wrU64, Nat.add_assoc, -getElem?_pos, List.getElem?_cons_zero, List.getElem?_cons_succ, c1, c0, c0', c2, c2', c3, hv1, hv2, hlens]
    refine CallW.val (hO _ (by have := hz.op; omega)) ?_
    simp (disch := first | omega | (simp; done) | assumption) [wr64, wrU8, wrU64, Nat.add_assoc, -getElem?_pos, List.getElem?_cons_zero, List.getElem?_cons_succ, c1, c0, c0', c2, c2', c3, hv1, hv2, hlens]
    ((repeat (first | exact AH.keepsAll_refl _ | refine keeps_set hok ?_ (by first | omega | (simp; done) | (simp; omega)) | refine keeps_new hok ?_ (by first | omega | (simp; done) | (simp; omega)))); done)
  simp (disch := first | omega | (simp; done) | assumption) [wr64, wrU8, wrU64, Nat.add_assoc, -getElem?_pos, List.getElem?_cons_zero, List.getElem?_cons_succ, c1, c0, c0', c2, c2', c3, hv1, hv2, hlens]
  refine CallW.val (hO _ (by have := hz.op; omega)) ?_
  simp (disch := first | omega | (simp; done) | assumption) [wr64, wrU8, wrU64, Nat.add_assoc, -getElem?_pos, List.getElem?_cons_zero, List.getElem?_cons_succ, c1, c0, c0', c2, c2', c3, hv1, hv2, hlens]
  refine iwp_loop (RoI e vx H) e.ex.length ⟨rfl, 0, rfl, by omega, by simp, by simp, by simp⟩ ?_
  rintro kk tm H1 ⟨rfl, i, rfl, hi, hall, t1, t3⟩
  simp only [entC]
  by_cases hlt : i < e.ex.length
  · have hlt' : (i : Int) < (e.ex.length : Int) := by omega
    obtain ⟨b, o, rfl, l1, _, _⟩ := sf_at (hx.keeps (hkH (.cells false tEn [.str e.ver, .str e.kn, .str e.ks, vx, .str e.op]))) hlt
    have hp := hz.ex _ (List.getElem_mem hlt)
    have hat := bok_take hlt
    rw [hall, Bool.true_and] at hat
    have hf := bok_false hlt
    generalize e.ex[i] = p at *
    have hR := RBlobOk p.1 p.2
    simp (disch := first | omega | (simp; done) | assumption) [wr64, wrU8, wrU64, Nat.add_assoc, -getElem?_pos, List.getElem?_cons_zero, List.getElem?_cons_succ, t1, t3, hlt, hlt', Abs.bounds]
    refine Try.intro (by simpa [blobC, Nat.add_assoc] using l1) ?_
    cases hb : bOk p
    · have hb' : blobOk p.1 p.2 = false := hb
      rw [hf hb]
      simp (disch := first | omega | (simp; done) | assumption) [wr64, wrU8, wrU64, Nat.add_assoc, -getElem?_pos, List.getElem?_cons_zero, List.getElem?_cons_succ, t1, t3]
      refine CallW.val (hR _ hp.1 hp.2) ?_
      simp (disch := first | omega | (simp; done) | assumption) [wr64, wrU8, wrU64, Nat.add_assoc, -getElem?_pos, List.getElem?_cons_zero, List.getElem?_cons_succ, t1, t3, hb']
      ((repeat (first | exact AH.keepsAll_refl _ | refine keeps_set hok ?_ (by first | omega | (simp; done) | (simp; omega)) | refine keeps_new hok ?_ (by first | omega | (simp; done) | (simp; omega)))); done)
    · have hb' : blobOk p.1 p.2 = true := hb
      rw [hb] at hat
      simp (disch := first | omega | (simp; done) | assumption) [wr64, wrU8, wrU64, Nat.add_assoc, -getElem?_pos, List.getElem?_cons_zero, List.getElem?_cons_succ, t1, t3]
      refine CallW.val (hR _ hp.1 hp.2) ?_
      simp (disch := first | omega | (simp; done) | assumption) [wr64, wrU8, wrU64, Nat.add_assoc, -getElem?_pos, List.getElem?_cons_zero, List.getElem?_cons_succ, t1, t3, hb']
      exact ⟨e.ex.length - (i + 1), by omega, rfl, i + 1, rfl, by omega, hat, by simp [t1], by simp⟩
  · have hlt' : ¬ (i : Int) < (e.ex.length : Int) := by omega
    rw [List.take_of_length_le (by omega)] at hall
    rw [hall]
    simp (disch := first | omega | (simp; done) | assumption) [wr64, wrU8, wrU64, Nat.add_assoc, -getElem?_pos, List.getElem?_cons_zero, List.getElem?_cons_succ, t1, t3, hlt, hlt', hv1, hv2, hlens, c1, c0, c2, c3]
    ((repeat (first | exact AH.keepsAll_refl _ | refine keeps_set hok ?_ (by first | omega | (simp; done) | (simp; omega)) | refine keeps_new hok ?_ (by first | omega | (simp; done) | (simp; omega)))); done)
end Go.Proofs.YtkehijlgbfjmkaaGreatDoor.KW

/- The law VersionSorts: put in order as the document says; the newest is found. No condition. -/
import Derived.Test.YtfimhkijacamoaaDoorVRef
import Derived.Test.YtfimhkijacamoaaDoorSrt3
import Derived.Test.YtfimhkijacamoaaDoorInsP
import Derived.Test.YtfimhkijacamoaaDoorIns3
import Derived.Test.YtfimhkijacamoaaDoorPWalk
set_option linter.unusedVariables false
set_option linter.unusedSimpArgs false
set_option maxRecDepth 10000
set_option maxHeartbeats 4000000
namespace Go.Proofs.YtfimhkijacamoaaDoor.VSorts
open Go Go.RowKit Go.Proofs.YtfimhkijacamoaaDoor Go.Proofs.YtfimhkijacamoaaDoor.Abs Go.Proofs.YtfimhkijacamoaaDoor.Ic Go.Proofs.YtfimhkijacamoaaDoor.Vm Go.Proofs.YtfimhkijacamoaaDoor.Dg Go.Proofs.YtfimhkijacamoaaDoor.St Go.Proofs.YtfimhkijacamoaaDoor.PVer Go.Proofs.YtfimhkijacamoaaDoor.PRef Go.Proofs.YtfimhkijacamoaaDoor.SP Go.Proofs.YtfimhkijacamoaaDoor.Srt
def el (fs : List (List UInt8)) (i : Nat) : List UInt8 := fs.getD i []
theorem el_of {fs : List (List UInt8)} {i : Nat} (h : i < fs.length) : el fs i = fs[i] := by
  unfold el; rw [List.getD_eq_getElem?_getD, List.getElem?_eq_getElem h]; rfl
theorem el_len {fs : List (List UInt8)} {n : Nat} (h : ∀ f ∈ fs, f.length ≤ n) (i : Nat) : (el fs i).length ≤ n := by
  unfold el
  rw [List.getD_eq_getElem?_getD]
  cases hx : fs[i]? with
  | none => simp
  | some y => exact h y (List.mem_of_getElem? hx)
abbrev cc (fs : List (List UInt8)) (p q : Nat) : Int := cmpV (el fs p) (el fs q)
theorem cmpV_ord : Ord cmpV := cmpT_ord.on toks
theorem ccOrd (fs : List (List UInt8)) : COrd (cc fs) := ⟨fun a b => cmpV_ord.anti _ _, fun a b d => cmpV_ord.tr _ _ _⟩
/-- A slice that reads as a row of texts. -/
def RowV (H : AH) (v : AV) (fs : List (List UInt8)) : Prop :=
  (fs = [] ∧ (v = .snil ∨ v = .sempty ∨ v = .szero)) ∨ ∃ b o, v = .slice b o fs.length 1 ∧ fs ≠ [] ∧ ∀ i, i < fs.length → loadC H b (o + i) none = some (.str (el fs i))
theorem RowV.len {H : AH} {v : AV} {fs : List (List UInt8)} (h : RowV H v fs) : lenS v = some fs.length := by
  rcases h with ⟨rfl, rfl | rfl | rfl⟩ | ⟨b, o, rfl, _⟩ <;> rfl
theorem RowV.get {H : AH} {v : AV} {fs : List (List UInt8)} (h : RowV H v fs) {i : Nat} (hi : i < fs.length) : ∃ b o, v = .slice b o fs.length 1 ∧ ∀ i, i < fs.length → loadC H b (o + i) none = some (.str (el fs i)) := by
  rcases h with ⟨rfl, _⟩ | ⟨b, o, h1, _, h2⟩
  · simp at hi
  · exact ⟨b, o, h1, h2⟩
theorem RowV.keeps {H H1 : AH} {v : AV} {fs : List (List UInt8)} (h : RowV H v fs) (hk : H.keepsAll H1) : RowV H1 v fs := by
  rcases h with h | ⟨b, o, h1, h2, h3⟩
  · exact .inl h
  · exact .inr ⟨b, o, h1, h2, fun i hi => loadC_keeps hk (h3 i hi)⟩
theorem RowV.of {H : AH} {v : AV} {fs : List (List UInt8)} (h : SL H v (fs.map AV.str)) : RowV H v fs := by
  rcases h with ⟨h1, h2⟩ | ⟨b, o, rfl, h1, h2⟩
  · exact .inl ⟨by simpa using h1, h2.elim .inl fun h => .inr (.inl h)⟩
  · refine .inr ⟨b, o, by simp, by simpa using h1, fun i hi => ?_⟩
    rw [h2 i (by simpa using hi), List.getElem?_map, List.getElem?_eq_getElem hi, el_of hi]
    rfl
def rowsS (fs : List (List UInt8)) : List (List AV) := fs.map fun f => [AV.str f]
theorem all1 (fs : List (List UInt8)) : All 1 (rowsS fs) := fun l hl => by obtain ⟨f, _, rfl⟩ := List.mem_map.1 hl; rfl
theorem rowsS_flat (fs : List (List UInt8)) : (rowsS fs).flatten = fs.map AV.str := by
  induction fs with
  | nil => rfl
  | cons f fs ih => simp only [rowsS, List.map_cons, List.flatten_cons] at ih ⊢; rw [ih]; rfl
theorem rows_one (fs : List (List UInt8)) : (rowsS fs).flatten.all AV.one = true := by
  rw [rowsS_flat, List.all_map]
  simp [AV.one]
theorem RowV.out {B : Nat} {H : AH} {v : AV} {fs : List (List UInt8)} (h : OutF B H tE 1 v (rowsS fs)) : RowV H v fs := by
  rcases h with ⟨h1, rfl⟩ | ⟨q, rfl, h1, h2, _, _⟩
  · exact .inl ⟨by simpa [rowsS] using h1, .inl rfl⟩
  · refine .inr ⟨q, 0, by simp [rowsS], by simpa [rowsS] using h1, fun i hi => ?_⟩
    unfold loadC
    rw [h2]
    simp only
    rw [rowsS_flat, Nat.zero_add, List.getElem?_map, List.getElem?_eq_getElem hi, el_of hi]
    rfl
/-- The row of places. -/
abbrev pick_ (fs : List (List UInt8)) (ps : List Nat) : List (List UInt8) := ps.map fun p => el fs p
theorem pick_range (fs : List (List UInt8)) : pick_ fs (List.range fs.length) = fs := by
  apply List.ext_getElem
  · simp
  · intro i h1 h2
    simp at h1 ⊢
    rw [el_of h1]
theorem rowsE_eq (fs : List (List UInt8)) (ps : List Nat) : rowsE (el fs) ps = (rowsS (pick_ fs ps)).flatten := by
  unfold rowsE rowsS
  rw [List.map_map]
  rfl
theorem el_pick (fs : List (List UInt8)) (ps : List Nat) {k : Nat} (hk : k < ps.length) : el (pick_ fs ps) k = el fs (gt ps k) := by
  unfold el
  rw [List.getD_eq_getElem?_getD, List.getElem?_map, List.getElem?_eq_getElem hk, gt_of hk]
  rfl
/-! ### The sort -/
theorem InsNil {v : AV} (cf : FuncId) (H : AH) : ACall Tryd.prog 40 [v, .int .i64 0, .int .i64 0, .func (.func cf) [] []] H (fun v H' => v = .tuple [] ∧ H' = H) := by
  refine acall_of fits40 (by simp) ?_
  simp (disch := first | omega | (simp; done) | assumption) [wr64, wrU8, wrU64, Nat.add_assoc, -getElem?_pos, List.getElem?_cons_zero, List.getElem?_cons_succ, ic40, rs40]
  refine iwp_loop (fun n tm H' => H' = H ∧ tm 2 = .int .i64 0 ∧ tm 8 = .int .i64 1) 0 ⟨rfl, by simp, by simp⟩ ?_
  rintro n tm H' ⟨rfl, t2, t8⟩
  simp (disch := first | omega | (simp; done) | assumption) [wr64, wrU8, wrU64, Nat.add_assoc, -getElem?_pos, List.getElem?_cons_zero, List.getElem?_cons_succ, t2, t8]
theorem StableNil {v : AV} (hv : v = .snil ∨ v = .szero) (cf : FuncId) (H : AH) : ACall Tryd.prog 17 [v, .func (.func cf) [] []] H (fun v H' => v = .tuple [] ∧ H' = H) := by
  have hS : ACall Tryd.prog 24 [v, .int .i64 0, .func (.func cf) [] []] H (fun v H' => v = .tuple [] ∧ H' = H) := by
    refine acall_of fits24 (by simp) ?_
    simp (disch := first | omega | (simp; done) | assumption) [wr64, wrU8, wrU64, Nat.add_assoc, -getElem?_pos, List.getElem?_cons_zero, List.getElem?_cons_succ, ic24, rs24]
    refine iwp_loop (fun n tm H' => n = 0 ∧ H' = H ∧ tm 0 = v ∧ tm 1 = .int .i64 0 ∧ tm 2 = .func (.func cf) [] [] ∧ tm 6 = .int .i64 20 ∧ tm 7 = .int .i64 0 ∧ tm 8 = .int .i64 20) 0 ⟨rfl, rfl, by simp, by simp, by simp, by simp, by simp, by simp⟩ ?_
    rintro n tm H' ⟨rfl, rfl, t0, t1, t2, t6, t7, t8⟩
    simp (disch := first | omega | (simp; done) | assumption) [wr64, wrU8, wrU64, Nat.add_assoc, -getElem?_pos, List.getElem?_cons_zero, List.getElem?_cons_succ, t0, t1, t2, t6, t7, t8]
    refine CallW.val (InsNil _ _) ?_
    simp (disch := first | omega | (simp; done) | assumption) [wr64, wrU8, wrU64, Nat.add_assoc, -getElem?_pos, List.getElem?_cons_zero, List.getElem?_cons_succ, t0, t1, t2, t6, t7, t8]
    refine iwp_loop (fun n tm H2 => n = 0 ∧ H2 = H' ∧ tm 1 = .int .i64 0 ∧ tm 6 = .int .i64 20) 0 ⟨rfl, rfl, by simp [t1], by simp [t6]⟩ ?_
    clear t0 t1 t2 t6 t7 t8 tm
    rintro n tm H2 ⟨rfl, rfl, t1, t6⟩
    simp (disch := first | omega | (simp; done) | assumption) [wr64, wrU8, wrU64, Nat.add_assoc, -getElem?_pos, List.getElem?_cons_zero, List.getElem?_cons_succ, t1, t6]
  refine acall_of fits17 (by simp) ?_
  rcases hv with rfl | rfl
  · simp (disch := first | omega | (simp; done) | assumption) [wr64, wrU8, wrU64, Nat.add_assoc, -getElem?_pos, List.getElem?_cons_zero, List.getElem?_cons_succ, ic17, rs17]
    refine CallW.val hS ?_
    simp (disch := first | omega | (simp; done) | assumption) [wr64, wrU8, wrU64, Nat.add_assoc, -getElem?_pos, List.getElem?_cons_zero, List.getElem?_cons_succ, ]
  · simp (disch := first | omega | (simp; done) | assumption) [wr64, wrU8, wrU64, Nat.add_assoc, -getElem?_pos, List.getElem?_cons_zero, List.getElem?_cons_succ, ic17, rs17]
    refine CallW.val hS ?_
    simp (disch := first | omega | (simp; done) | assumption) [wr64, wrU8, wrU64, Nat.add_assoc, -getElem?_pos, List.getElem?_cons_zero, List.getElem?_cons_succ, ]
theorem Clone0 {H : AH} {v : AV} (h : v = .snil ∨ v = .sempty ∨ v = .szero) :
    ACall Tryd.prog 16 [v] H (fun r H' => H.keepsAll H' ∧ H.next ≤ H'.next ∧ (r = .snil ∨ ∃ q, r = .slice q 0 0 1)) := by
  refine acall_ok (bodyP_of fits16) fun hok => acall_of fits16 (by simp) ?_
  rcases h with rfl | rfl | rfl
  · simp (disch := first | omega | (simp; done) | assumption) [wr64, wrU8, wrU64, Nat.add_assoc, -getElem?_pos, List.getElem?_cons_zero, List.getElem?_cons_succ, ic16, rs16]
    ((repeat (first | exact AH.keepsAll_refl _ | refine keeps_set hok ?_ (by first | omega | (simp; done) | (simp; omega)) | refine keeps_new hok ?_ (by first | omega | (simp; done) | (simp; omega)))); done)
  · simp (disch := first | omega | (simp; done) | assumption) [wr64, wrU8, wrU64, Nat.add_assoc, -getElem?_pos, List.getElem?_cons_zero, List.getElem?_cons_succ, ic16, rs16]
    refine Try.intro (show _ = some (.slice H.next 0 0 1, H.new (.cells false tE [])) from rfl) ?_
    simp (disch := first | omega | (simp; done) | assumption) [wr64, wrU8, wrU64, Nat.add_assoc, -getElem?_pos, List.getElem?_cons_zero, List.getElem?_cons_succ, ]
    ((repeat (first | exact AH.keepsAll_refl _ | refine keeps_set hok ?_ (by first | omega | (simp; done) | (simp; omega)) | refine keeps_new hok ?_ (by first | omega | (simp; done) | (simp; omega)))); done)
  · simp (disch := first | omega | (simp; done) | assumption) [wr64, wrU8, wrU64, Nat.add_assoc, -getElem?_pos, List.getElem?_cons_zero, List.getElem?_cons_succ, ic16, rs16]
    refine Try.intro (show _ = some (.slice H.next 0 0 1, H.new (.cells false tE [])) from rfl) ?_
    simp (disch := first | omega | (simp; done) | assumption) [wr64, wrU8, wrU64, Nat.add_assoc, -getElem?_pos, List.getElem?_cons_zero, List.getElem?_cons_succ, ]
    ((repeat (first | exact AH.keepsAll_refl _ | refine keeps_set hok ?_ (by first | omega | (simp; done) | (simp; omega)) | refine keeps_new hok ?_ (by first | omega | (simp; done) | (simp; omega)))); done)
theorem Clip0 {H : AH} {v : AV} (h : v = .snil ∨ ∃ q, v = .slice q 0 0 1) : ACall Tryd.prog 15 [v] H (fun r H' => (r = .snil ∨ r = .szero) ∧ H' = H) := by
  refine acall_of fits15 (by simp) ?_
  rcases h with rfl | ⟨q, rfl⟩
  · simp (disch := first | omega | (simp; done) | assumption) [wr64, wrU8, wrU64, Nat.add_assoc, -getElem?_pos, List.getElem?_cons_zero, List.getElem?_cons_succ, ic15, rs15, slcA, Abs.bounds]
  · simp (disch := first | omega | (simp; done) | assumption) [wr64, wrU8, wrU64, Nat.add_assoc, -getElem?_pos, List.getElem?_cons_zero, List.getElem?_cons_succ, ic15, rs15, slcA, Abs.bounds]
theorem Clone1 {H : AH} {b o : Nat} {fs : List (List UInt8)} (hne : fs ≠ []) (hl : fs.length ≤ 1000) (h : ∀ i, i < fs.length → loadC H b (o + i) none = some (.str (el fs i))) :
    ACall Tryd.prog 16 [.slice b o fs.length 1] H (fun r H' => H.keepsAll H' ∧ H.next ≤ H'.next ∧ OutF H.next H' tE 1 r (rowsS fs)) := by
  refine acall_ok (bodyP_of fits16) fun hok => acall_of fits16 (by simp) ?_
  have hn0 : ¬ fs.length = 0 := fun e => hne (List.eq_nil_of_length_eq_zero e)
  have hbl : b < H.next := by
    have := h 0 (by omega)
    cases hb : H.at_ b with
    | none => unfold loadC at this; rw [hb] at this; cases this
    | some ob => exact hok b ob hb
  have hsrc : loadC (H.new (.cells false tE [])) b o (some fs.length) = some (.agg (fs.map AV.str)) := by
    have e : fs.length = (fs.map AV.str).length := by simp
    rw [e]
    refine load_many (by simpa using hne) fun i hi => ?_
    have hi' : i < fs.length := by simpa using hi
    have := h i hi'
    unfold loadC at this ⊢
    rw [AH.new_ne _ _ (by omega)]
    rw [List.getElem?_map, List.getElem?_eq_getElem hi']
    rw [el_of hi'] at this
    exact this
  have hap : appendK (H.new (.cells false tE [])) false tE 1 16 (.slice H.next 0 0 1) (.slice b o fs.length 1) = some (.slice (H.next + 1) 0 fs.length 1, ((H.new (.cells false tE [])).set H.next none).new (.cells false tE (fs.map AV.str))) := by
    have hs2 : srcCells (H.new (.cells false tE [])) 1 fs.length (.slice b o fs.length 1) = some (fs.map AV.str) := by
      simp only [srcCells, Nat.mul_one, hsrc]
    have hone := rows_one fs
    rw [rowsS_flat] at hone
    simp only [appendK, isStrV, if_true, appendA, lenA, Option.bind_some, if_neg hn0, hs2, hone]
    simp
    omega
  have hn0' : ¬ (fs.length : Int) = 0 := by omega
  simp (disch := first | omega | (simp; done) | assumption) [wr64, wrU8, wrU64, Nat.add_assoc, -getElem?_pos, List.getElem?_cons_zero, List.getElem?_cons_succ, -loadC, ic16, rs16]
  refine Try.intro hap ?_
  simp (disch := first | omega | (simp; done) | assumption) [wr64, wrU8, wrU64, Nat.add_assoc, -getElem?_pos, List.getElem?_cons_zero, List.getElem?_cons_succ, ]
  refine ⟨by ((repeat (first | exact AH.keepsAll_refl _ | refine keeps_set hok ?_ (by first | omega | (simp; done) | (simp; omega)) | refine keeps_new hok ?_ (by first | omega | (simp; done) | (simp; omega)))); done), .inr ⟨H.next + 1, by simp [rowsS], by simpa [rowsS] using hne, ?_, by omega, by simp⟩⟩
  rw [rowsS_flat]
  simp
theorem Clip1 {B : Nat} {H : AH} {v : AV} {fs : List (List UInt8)} (hne : fs ≠ []) (h : OutF B H tE 1 v (rowsS fs)) : ACall Tryd.prog 15 [v] H (fun r H' => r = v ∧ H' = H) := by
  refine acall_of fits15 (by simp) ?_
  have h0 : ¬ fs.length = 0 := fun e => hne (List.eq_nil_of_length_eq_zero e)
  rcases h with ⟨h1, rfl⟩ | ⟨q, rfl, _⟩
  · exact absurd (by simpa [rowsS] using h1) hne
  · rw [show (rowsS fs).length = fs.length by simp [rowsS]]
    simp (disch := first | omega | (simp; done) | assumption) [wr64, wrU8, wrU64, Nat.add_assoc, -getElem?_pos, List.getElem?_cons_zero, List.getElem?_cons_succ, ic15, rs15, slcA, Abs.bounds, h0, hne]
theorem Sort_ {H : AH} {v : AV} {fs : List (List UInt8)} (h : RowV H v fs) (hl : fs.length ≤ 40) (hv : ∀ f ∈ fs, f.length ≤ 60) :
    ACall Tryd.prog 6 [v] H (fun r H' => H.keepsAll H' ∧ H.next ≤ H'.next ∧ ∃ ps : List Nat, ps.Perm (List.range fs.length) ∧ ps.Pairwise (pr (cc fs)) ∧ RowV H' r (pick_ fs ps)) := by
  refine acall_ok (bodyP_of fits6) fun hok => acall_of fits6 (by simp) ?_
  rcases h with ⟨rfl, hn⟩ | ⟨b, o, rfl, hne, hld⟩
  · simp (disch := first | omega | (simp; done) | assumption) [wr64, wrU8, wrU64, Nat.add_assoc, -getElem?_pos, List.getElem?_cons_zero, List.getElem?_cons_succ, ic6, rs6]
    refine CallW.okof (Clone0 hn) ?_
    rintro r H1 ⟨hk1, hn1, ho1⟩ hok1
    try simp only [newO_none] at hk1 hn1
    simp (disch := first | omega | (simp; done) | assumption) [wr64, wrU8, wrU64, Nat.add_assoc, -getElem?_pos, List.getElem?_cons_zero, List.getElem?_cons_succ, ]
    refine CallW.of (Clip0 ho1) ?_
    rintro r2 H2 ⟨ho2, rfl⟩
    simp (disch := first | omega | (simp; done) | assumption) [wr64, wrU8, wrU64, Nat.add_assoc, -getElem?_pos, List.getElem?_cons_zero, List.getElem?_cons_succ, ]
    refine CallW.val (StableNil ho2 _ _) ?_
    simp (disch := first | omega | (simp; done) | assumption) [wr64, wrU8, wrU64, Nat.add_assoc, -getElem?_pos, List.getElem?_cons_zero, List.getElem?_cons_succ, ]
    exact ⟨hk1, hn1, .inl ⟨rfl, ho2.elim .inl fun h => .inr (.inr h)⟩⟩
  · simp (disch := first | omega | (simp; done) | assumption) [wr64, wrU8, wrU64, Nat.add_assoc, -getElem?_pos, List.getElem?_cons_zero, List.getElem?_cons_succ, ic6, rs6]
    refine CallW.okof (Clone1 hne (by omega) hld) ?_
    rintro r H1 ⟨hk1, hn1, ho1⟩ hok1
    try simp only [newO_none] at hk1 hn1 ho1
    simp (disch := first | omega | (simp; done) | assumption) [wr64, wrU8, wrU64, Nat.add_assoc, -getElem?_pos, List.getElem?_cons_zero, List.getElem?_cons_succ, ]
    refine CallW.val (Clip1 hne ho1) ?_
    simp (disch := first | omega | (simp; done) | assumption) [wr64, wrU8, wrU64, Nat.add_assoc, -getElem?_pos, List.getElem?_cons_zero, List.getElem?_cons_succ, ]
    have E : Env (el fs) (cc fs) 11 := ⟨fun p q H => Compare _ _ (Nat.le_trans (el_len hv p) (by omega)) (Nat.le_trans (el_len hv q) (by omega)) H, ccOrd fs⟩
    rcases ho1 with ⟨h2, _⟩ | ⟨q, rfl, h2, hq, hB, hqn⟩
    · exact absurd (by simpa [rowsS] using h2) hne
    have hA : Srt.At (el fs) q (List.range fs.length) H1 := by unfold Srt.At; rw [rowsE_eq, pick_range]; exact hq
    rw [show (rowsS fs).length = fs.length by simp [rowsS]]
    refine CallW.of (SortStable E hA hl) ?_
    rintro u H2 ⟨rfl, ps, rfl, w1, w2, w3⟩
    simp (disch := first | omega | (simp; done) | assumption) [wr64, wrU8, wrU64, Nat.add_assoc, -getElem?_pos, List.getElem?_cons_zero, List.getElem?_cons_succ, ]
    refine ⟨?_, by show H.next ≤ H1.next; exact hn1, ps, w2, srt_pairwise (by rw [w1]; exact w3), RowV.out (B := H.next) (.inr ⟨q, by simp [rowsS, w1], ?_, ?_, hB, by show q < H1.next; exact hqn⟩)⟩
    · intro x o hx
      have := hok _ _ hx
      unfold Srt.Set
      rw [AH.set_ne _ _ (by omega)]
      exact hk1 x o hx
    · intro e
      have := congrArg List.length e
      simp [rowsS, w1] at this
      exact hne this
    · unfold Srt.Set
      rw [AH.set_same, rowsE_eq]
/-! ### The document's sort -/
def OrK (fs : List (List UInt8)) (ps : List Nat) (v vo : AV) (i : Nat) (H1 : AH) (kk : Nat) (tm : Tms) (H' : AH) : Prop := H1.keepsAll H' ∧ H1.next ≤ H'.next ∧ ∃ k : Nat, kk = ps.length - k ∧ k ≤ ps.length ∧ (∀ p ∈ ps.take k, ¬ cc fs i p < 0) ∧
  tm 0 = v ∧ tm 3 = vo ∧ tm 4 = .int .i64 (i : Int) ∧ tm 5 = .int .i64 (k : Int)
def OrKR (fs : List (List UInt8)) (ps : List Nat) (v vo : AV) (i : Nat) (H1 : AH) (tm : Tms) (H' : AH) : Prop := H1.keepsAll H' ∧ H1.next ≤ H'.next ∧ ∃ k : Nat, k ≤ ps.length ∧ (∀ p ∈ ps.take k, ¬ cc fs i p < 0) ∧ (∀ p, (ps.drop k).head? = some p → cc fs i p < 0) ∧
  tm 0 = v ∧ tm 3 = vo ∧ tm 4 = .int .i64 (i : Int) ∧ tm 5 = .int .i64 (k : Int)
def OrI (fs : List (List UInt8)) (v : AV) (H : AH) (kk : Nat) (tm : Tms) (H' : AH) : Prop := H.keepsAll H' ∧ H.next ≤ H'.next ∧ ∃ (i : Nat) (ps : List Nat), kk = fs.length - i ∧ i ≤ fs.length ∧ ps.Perm (List.range i) ∧ ps.Pairwise (pr (cc fs)) ∧
  OutF H.next H' tE 1 (tm 3) (rowsS (pick_ fs ps)) ∧ tm 0 = v ∧ tm 4 = .int .i64 (i : Int)
theorem RSort {H : AH} {v : AV} {fs : List (List UInt8)} (h : RowV H v fs) (hl : fs.length ≤ 40) (hv : ∀ f ∈ fs, f.length ≤ 60) :
    ACall Tryd.prog 8 [v] H (fun r H' => H.keepsAll H' ∧ H.next ≤ H'.next ∧ ∃ ps : List Nat, ps.Perm (List.range fs.length) ∧ ps.Pairwise (pr (cc fs)) ∧ RowV H' r (pick_ fs ps)) := by
  refine acall_ok (bodyP_of fits8) fun hok => acall_of fits8 (by simp) ?_
  have hlv := h.len
  have hV := fun p => Nat.le_trans (el_len hv p) (by omega : 60 ≤ 1000000)
  simp (disch := first | omega | (simp; done) | assumption) [wr64, wrU8, wrU64, Nat.add_assoc, -getElem?_pos, List.getElem?_cons_zero, List.getElem?_cons_succ, -loadC, -storeC, ic8, rs8]
  refine iwp_loop (OrI fs v H) fs.length ⟨AH.keepsAll_refl _, Nat.le_refl _, 0, [], rfl, by omega, by simp, by simp, .inl ⟨by simp [rowsS], by simp⟩, by simp, by simp⟩ ?_
  rintro kk tm H1 ⟨hk1, hn1, i, ps, rfl, hi, hp, hs, ho, u0, u4⟩
  have hpl : ps.length = i := by simpa using hp.length_eq
  have hlo := ho.lenS
  rw [show (rowsS (pick_ fs ps)).length = ps.length by simp [rowsS]] at hlo
  by_cases hlt : i < fs.length
  · have hlt' : (i : Int) < (fs.length : Int) := by omega
    obtain ⟨bv, ov, hqv, lall⟩ := h.get hlt
    have lv := loadC_keeps hk1 (lall i hlt)
    generalize u3 : tm 3 = vo at *
    simp (disch := first | omega | (simp; done) | assumption) [wr64, wrU8, wrU64, Nat.add_assoc, -getElem?_pos, List.getElem?_cons_zero, List.getElem?_cons_succ, -loadC, -storeC, u0, u4, hlv, hlt, hlt']
    refine LoopW.exit 2 (OrKR fs ps v vo i H1) ?_ ?_
    · refine iwp_loop (OrK fs ps v vo i H1) ps.length ⟨AH.keepsAll_refl _, Nat.le_refl _, 0, rfl, by omega, by simp, by simp [u0], by simp [u3], by simp [u4], by simp⟩ ?_
      clear u0 u3 u4 tm
      rintro kk tm H2 ⟨hk2, hn2, k, rfl, hk, hbe, w0, w3, w4, w5⟩
      by_cases hkl : k < ps.length
      · have hkl' : (k : Int) < (ps.length : Int) := by omega
        obtain ⟨bo, oo, hqo, loall⟩ := (RowV.out ho).get (i := k) (by simpa using hkl)
        have lo := loadC_keeps hk2 (loall k (by simpa using hkl))
        rw [el_pick fs ps hkl] at lo
        rw [show (pick_ fs ps).length = ps.length by simp] at hqo
        have lv2 := loadC_keeps hk2 lv
        have hls := RCompare (el fs (gt ps k)) (el fs i) (hV _) (hV _)
        have hbe2 : ¬ cc fs i (gt ps k) < 0 → ∀ p ∈ ps.take (k + 1), ¬ cc fs i p < 0 := fun hh p hp => by
          rw [← List.take_append_getElem hkl] at hp
          rcases List.mem_append.1 hp with hp | hp
          · exact hbe p hp
          · have : p = ps[k] := by simpa using hp
            rw [this, ← gt_of hkl]; exact hh
        have hat : (ps.drop k).head? = some (gt ps k) := by rw [List.drop_eq_getElem_cons hkl, gt_of hkl]; rfl
        have hanti : cmpV (el fs (gt ps k)) (el fs i) = - cc fs i (gt ps k) := cmpV_ord.anti _ _
        rw [hanti] at hls
        generalize hcc : cc fs i (gt ps k) = q at *
        clear lall loall hanti
        subst hqv
        subst hqo
        generalize el fs i = ca at *
        generalize el fs (gt ps k) = cb at *
        simp (disch := first | omega | (simp; done) | assumption) [wr64, wrU8, wrU64, Nat.add_assoc, -getElem?_pos, List.getElem?_cons_zero, List.getElem?_cons_succ, -loadC, -storeC, w0, w3, w4, w5, hlo, hkl, hkl', hlt, hlt', lv2, lo]
        refine CallW.val (hls _) ?_
        by_cases hcmp : q < 0
        · have hc1 : ¬ -q ≤ 0 := by omega
          have hc2 : ¬ 0 ≤ q := by omega
          simp (disch := first | omega | (simp; done) | assumption) [wr64, wrU8, wrU64, Nat.add_assoc, -getElem?_pos, List.getElem?_cons_zero, List.getElem?_cons_succ, -loadC, -storeC, w0, w3, w4, w5, hc1, hc2]
          exact ⟨hk2, hn2, k, hk, hbe, (fun p hp => by rw [hat] at hp; cases hp; rw [hcc]; exact hcmp), by simp [w0], by simp [w3], by simp [w4], by simp [w5]⟩
        · have hc1 : -q ≤ 0 := by omega
          have hc2 : 0 ≤ q := by omega
          simp (disch := first | omega | (simp; done) | assumption) [wr64, wrU8, wrU64, Nat.add_assoc, -getElem?_pos, List.getElem?_cons_zero, List.getElem?_cons_succ, -loadC, -storeC, w0, w3, w4, w5, hc1, hc2]
          exact ⟨ps.length - (k + 1), by omega, hk2, hn2, k + 1, rfl, by omega, hbe2 hcmp, by simp [w0], by simp [w3], by simp [w4], by simp⟩
      · have hkl' : ¬ (k : Int) < (ps.length : Int) := by omega
        simp (disch := first | omega | (simp; done) | assumption) [wr64, wrU8, wrU64, Nat.add_assoc, -getElem?_pos, List.getElem?_cons_zero, List.getElem?_cons_succ, -loadC, -storeC, w0, w3, w4, w5, hlo, hkl, hkl']
        exact ⟨hk2, hn2, k, hk, hbe, (fun p hp => by rw [List.drop_of_length_le (by omega)] at hp; cases hp), by simp [w0], by simp [w3], by simp [w4], by simp [w5]⟩
    clear u0 u3 u4 tm
    rintro tm H2 ⟨hk2, hn2, k, hk, hbe, haf, w0, w3, w4, w5⟩
    obtain ⟨hp2, hs2⟩ := ins_step (ccOrd fs) hp hs (k := k) hbe haf
    have hrl : (rowsS (pick_ fs ps)).length = ps.length := by simp [rowsS]
    obtain ⟨x0, x1, v1, H3, v2, H4, v3, H5, s0, s1, a1, f1, a2, a3, o3, n3, k3⟩ := ins3 (bytes := 16) (e := [.str (el fs i)]) (k := k) (ho.keeps hk2 hn2) (all1 _) (rows_one _) (by rw [hrl]; exact hk) (by omega) rfl rfl (by rw [hrl]; omega) (by rw [hrl]; omega)
    have hrow : (rowsS (pick_ fs ps)).take k ++ [.str (el fs i)] :: (rowsS (pick_ fs ps)).drop k = rowsS (pick_ fs (ps.take k ++ i :: ps.drop k)) := by
      simp only [rowsS, pick_, ← List.map_take, ← List.map_drop, List.map_append, List.map_cons]
    rw [hrow] at o3
    clear hrow
    have hkH : H.keepsAll H5 := fun x o hx => k3 x o (hok _ _ hx) (hk2 x o (hk1 x o hx))
    have lv2 := loadC_keeps hk2 lv
    have hqv1 : bv < H2.next := by
      have := lall i hlt
      cases hb : H.at_ bv with
      | none => unfold loadC at this; rw [hb] at this; cases this
      | some ob => have := hok bv ob hb; omega
    have lv3 : loadC H3 bv (ov + i) none = some (.str (el fs i)) := by
      cases hb : H2.at_ bv with
      | none => unfold loadC at lv2; rw [hb] at lv2; cases lv2
      | some ob => unfold loadC at lv2 ⊢; rw [f1 bv ob hqv1 hb]; rw [hb] at lv2; exact lv2
    have lvn : ∀ o, loadC (H2.new o) bv (ov + i) none = some (.str (el fs i)) := fun o => by
      unfold loadC at lv2 ⊢
      rw [AH.new_ne _ _ (by omega)]
      exact lv2
    clear lall
    subst hqv
    generalize hce : el fs i = ca at *
    simp (disch := first | omega | (simp; done) | assumption) [wr64, wrU8, wrU64, Nat.add_assoc, -getElem?_pos, List.getElem?_cons_zero, List.getElem?_cons_succ, -loadC, -storeC, w0, w3, w4, w5]
    refine Try.intro s0 ?_
    simp (disch := first | omega | (simp; done) | assumption) [wr64, wrU8, wrU64, Nat.add_assoc, -getElem?_pos, List.getElem?_cons_zero, List.getElem?_cons_succ, -loadC, -storeC, w0, w3, w4, w5, hlt, hlt', lvn]
    refine Try.intro s1 ?_
    simp (disch := first | omega | (simp; done) | assumption) [wr64, wrU8, wrU64, Nat.add_assoc, -getElem?_pos, List.getElem?_cons_zero, List.getElem?_cons_succ, -loadC, -storeC, w0, w3, w4, w5, hlt, hlt', lvn]
    refine Try.intro a1 ?_
    simp (disch := first | omega | (simp; done) | assumption) [wr64, wrU8, wrU64, Nat.add_assoc, -getElem?_pos, List.getElem?_cons_zero, List.getElem?_cons_succ, -loadC, -storeC, w0, w3, w4, w5, hlt, hlt', lv3]
    refine Try.intro a2 ?_
    simp (disch := first | omega | (simp; done) | assumption) [wr64, wrU8, wrU64, Nat.add_assoc, -getElem?_pos, List.getElem?_cons_zero, List.getElem?_cons_succ, -loadC, -storeC, w0, w3, w4, w5]
    refine Try.intro a3 ?_
    simp (disch := first | omega | (simp; done) | assumption) [wr64, wrU8, wrU64, Nat.add_assoc, -getElem?_pos, List.getElem?_cons_zero, List.getElem?_cons_succ, -loadC, -storeC, w0, w3, w4, w5]
    exact ⟨fs.length - (i + 1), by omega, hkH, by omega, i + 1, _, rfl, by omega, hp2, hs2, by simpa using o3, by simp [w0], by simp⟩
  · have hlt' : ¬ (i : Int) < (fs.length : Int) := by omega
    obtain rfl : i = fs.length := by omega
    simp (disch := first | omega | (simp; done) | assumption) [wr64, wrU8, wrU64, Nat.add_assoc, -getElem?_pos, List.getElem?_cons_zero, List.getElem?_cons_succ, -loadC, -storeC, u0, u4, hlv, hlt, hlt']
    exact ⟨hk1, hn1, ps, hp, hs, RowV.out ho⟩
/-! ### The newest -/
/-- Where the newest of the first i stands. -/
def nb (fs : List (List UInt8)) : Nat → Int
  | 0 => -1
  | i + 1 => if nb fs i < 0 ∨ 0 < cmpV (el fs i) (el fs (nb fs i).toNat) then (i : Int) else nb fs i
theorem nb_rng (fs : List (List UInt8)) : ∀ i, -1 ≤ nb fs i ∧ nb fs i < i + 1 ∧ (nb fs i < 0 ∨ nb fs i < i)
  | 0 => by simp [nb]
  | i + 1 => by
    have := nb_rng fs i
    unfold nb
    split <;> omega
def NwI (fs : List (List UInt8)) (v : AV) (H : AH) (kk : Nat) (tm : Tms) (H' : AH) : Prop := H.keepsAll H' ∧ ∃ i : Nat, kk = fs.length - i ∧ i ≤ fs.length ∧ tm 0 = v ∧ tm 3 = .int .i64 (nb fs i) ∧ tm 6 = v ∧ tm 7 = .int .i64 (fs.length : Int) ∧ tm 8 = .int .i64 (i : Int)
theorem Newest {H : AH} {v : AV} {fs : List (List UInt8)} (h : RowV H v fs) (hl : fs.length ≤ 1000) (hv : ∀ f ∈ fs, f.length ≤ 60) :
    ACall Tryd.prog 9 [v] H (fun r H' => r = .int .i64 (nb fs fs.length) ∧ H' = H) := by
  refine acall_enter fits9 (by simp) (by simp) fun hok => ?_
  have hlv := h.len
  have hV := fun p => Nat.le_trans (el_len hv p) (by omega : 60 ≤ 1000000)
  simp (disch := first | omega | (simp; done) | assumption) [wr64, wrU8, wrU64, Nat.add_assoc, -getElem?_pos, List.getElem?_cons_zero, List.getElem?_cons_succ, -loadC, -storeC, ic9, rs9, hlv]
  refine iwp_loop (NwI fs v H) fs.length ⟨AH.keepsAll_refl _, 0, rfl, by omega, by simp, by simp [nb], by simp, by simp, by simp⟩ ?_
  rintro kk tm H1 ⟨hk1, i, rfl, hi, t0, t3, t6, t7, t8⟩
  by_cases hlt : i < fs.length
  · have hlt' : (i : Int) < (fs.length : Int) := by omega
    obtain ⟨b, o, rfl, hld⟩ := h.get hlt
    have l1 := loadC_keeps hk1 (hld i hlt)
    obtain ⟨r1, r2, r3⟩ := nb_rng fs i
    have e1 : nb fs (i + 1) = if nb fs i < 0 ∨ 0 < cmpV (el fs i) (el fs (nb fs i).toNat) then (i : Int) else nb fs i := rfl
    by_cases hn : nb fs i < 0
    · rw [if_pos (.inl hn)] at e1
      generalize nb fs i = x at *
      simp (disch := first | omega | (simp; done) | assumption) [wr64, wrU8, wrU64, Nat.add_assoc, -getElem?_pos, List.getElem?_cons_zero, List.getElem?_cons_succ, -loadC, -storeC, t0, t3, t6, t7, t8, hlt, hlt', l1, hn]
      exact ⟨fs.length - (i + 1), by omega, hk1, i + 1, rfl, by omega, by simp [t0], by simp [e1], by simp [t6], by simp [t7], by simp⟩
    · obtain ⟨x, hx⟩ : ∃ x : Nat, nb fs i = (x : Int) := ⟨(nb fs i).toNat, by omega⟩
      rw [hx] at e1 r3 hn t3
      have hxi : x < fs.length := by omega
      have hxI : (x : Int) < (fs.length : Int) := by omega
      have l2 := loadC_keeps hk1 (hld x hxi)
      have hC := Compare (el fs i) (el fs x) (hV _) (hV _)
      rw [Int.toNat_natCast] at e1
      generalize cmpV (el fs i) (el fs x) = kv at *
      generalize el fs i = ca at *
      generalize el fs x = cb at *
      simp (disch := first | omega | (simp; done) | assumption) [wr64, wrU8, wrU64, Nat.add_assoc, -getElem?_pos, List.getElem?_cons_zero, List.getElem?_cons_succ, -loadC, -storeC, t0, t3, t6, t7, t8, hlt, hlt', l1, l2, hn, hxi, hxI]
      refine CallW.val (hC _) ?_
      by_cases hk : 0 < kv
      · rw [if_pos (.inr hk)] at e1
        simp (disch := first | omega | (simp; done) | assumption) [wr64, wrU8, wrU64, Nat.add_assoc, -getElem?_pos, List.getElem?_cons_zero, List.getElem?_cons_succ, -loadC, -storeC, t0, t3, t6, t7, t8, hk]
        exact ⟨fs.length - (i + 1), by omega, hk1, i + 1, rfl, by omega, by simp [t0], by simp [e1], by simp [t6], by simp [t7], by simp⟩
      · rw [if_neg (fun h => h.elim hn hk)] at e1
        simp (disch := first | omega | (simp; done) | assumption) [wr64, wrU8, wrU64, Nat.add_assoc, -getElem?_pos, List.getElem?_cons_zero, List.getElem?_cons_succ, -loadC, -storeC, t0, t3, t6, t7, t8, hk]
        exact ⟨fs.length - (i + 1), by omega, hk1, i + 1, rfl, by omega, by simp [t0], by simp [e1, t3], by simp [t6], by simp [t7], by simp⟩
  · have hlt' : ¬ (i : Int) < (fs.length : Int) := by omega
    obtain rfl : i = fs.length := by omega
    simp (disch := first | omega | (simp; done) | assumption) [wr64, wrU8, wrU64, Nat.add_assoc, -getElem?_pos, List.getElem?_cons_zero, List.getElem?_cons_succ, -loadC, -storeC, t0, t3, t6, t7, t8, hlt, hlt']
    exact hk1
def RnI (fs : List (List UInt8)) (v : AV) (H : AH) (kk : Nat) (tm : Tms) (H' : AH) : Prop := H.keepsAll H' ∧ ∃ i : Nat, kk = fs.length - i ∧ i ≤ fs.length ∧ tm 0 = v ∧ tm 3 = .int .i64 (nb fs i) ∧ tm 4 = .int .i64 (i : Int)
theorem RNewest {H : AH} {v : AV} {fs : List (List UInt8)} (h : RowV H v fs) (hl : fs.length ≤ 1000) (hv : ∀ f ∈ fs, f.length ≤ 60) :
    ACall Tryd.prog 10 [v] H (fun r H' => r = .int .i64 (nb fs fs.length) ∧ H' = H) := by
  refine acall_enter fits10 (by simp) (by simp) fun hok => ?_
  have hlv := h.len
  have hV := fun p => Nat.le_trans (el_len hv p) (by omega : 60 ≤ 1000000)
  simp (disch := first | omega | (simp; done) | assumption) [wr64, wrU8, wrU64, Nat.add_assoc, -getElem?_pos, List.getElem?_cons_zero, List.getElem?_cons_succ, -loadC, -storeC, ic10, rs10]
  refine iwp_loop (RnI fs v H) fs.length ⟨AH.keepsAll_refl _, 0, rfl, by omega, by simp, by simp [nb], by simp⟩ ?_
  rintro kk tm H1 ⟨hk1, i, rfl, hi, t0, t3, t4⟩
  by_cases hlt : i < fs.length
  · have hlt' : (i : Int) < (fs.length : Int) := by omega
    obtain ⟨b, o, rfl, hld⟩ := h.get hlt
    have l1 := loadC_keeps hk1 (hld i hlt)
    obtain ⟨r1, r2, r3⟩ := nb_rng fs i
    have e1 : nb fs (i + 1) = if nb fs i < 0 ∨ 0 < cmpV (el fs i) (el fs (nb fs i).toNat) then (i : Int) else nb fs i := rfl
    by_cases hn : nb fs i < 0
    · rw [if_pos (.inl hn)] at e1
      generalize nb fs i = x at *
      simp (disch := first | omega | (simp; done) | assumption) [wr64, wrU8, wrU64, Nat.add_assoc, -getElem?_pos, List.getElem?_cons_zero, List.getElem?_cons_succ, -loadC, -storeC, t0, t3, t4, hlt, hlt', l1, hn]
      exact ⟨fs.length - (i + 1), by omega, hk1, i + 1, rfl, by omega, by simp [t0], by simp [e1], by simp⟩
    · obtain ⟨x, hx⟩ : ∃ x : Nat, nb fs i = (x : Int) := ⟨(nb fs i).toNat, by omega⟩
      rw [hx] at e1 r3 hn t3
      have hxi : x < fs.length := by omega
      have hxI : (x : Int) < (fs.length : Int) := by omega
      have l2 := loadC_keeps hk1 (hld x hxi)
      have hC := RCompare (el fs i) (el fs x) (hV _) (hV _)
      rw [Int.toNat_natCast] at e1
      generalize cmpV (el fs i) (el fs x) = kv at *
      generalize el fs i = ca at *
      generalize el fs x = cb at *
      simp (disch := first | omega | (simp; done) | assumption) [wr64, wrU8, wrU64, Nat.add_assoc, -getElem?_pos, List.getElem?_cons_zero, List.getElem?_cons_succ, -loadC, -storeC, t0, t3, t4, hlt, hlt', l1, l2, hn, hxi, hxI]
      refine CallW.val (hC _) ?_
      by_cases hk : 0 < kv
      · rw [if_pos (.inr hk)] at e1
        simp (disch := first | omega | (simp; done) | assumption) [wr64, wrU8, wrU64, Nat.add_assoc, -getElem?_pos, List.getElem?_cons_zero, List.getElem?_cons_succ, -loadC, -storeC, t0, t3, t4, hk]
        exact ⟨fs.length - (i + 1), by omega, hk1, i + 1, rfl, by omega, by simp [t0], by simp [e1], by simp⟩
      · rw [if_neg (fun h => h.elim hn hk)] at e1
        simp (disch := first | omega | (simp; done) | assumption) [wr64, wrU8, wrU64, Nat.add_assoc, -getElem?_pos, List.getElem?_cons_zero, List.getElem?_cons_succ, -loadC, -storeC, t0, t3, t4, hk]
        exact ⟨fs.length - (i + 1), by omega, hk1, i + 1, rfl, by omega, by simp [t0], by simp [e1, t3], by simp⟩
  · have hlt' : ¬ (i : Int) < (fs.length : Int) := by omega
    obtain rfl : i = fs.length := by omega
    simp (disch := first | omega | (simp; done) | assumption) [wr64, wrU8, wrU64, Nat.add_assoc, -getElem?_pos, List.getElem?_cons_zero, List.getElem?_cons_succ, -loadC, -storeC, t0, t3, t4, hlv, hlt, hlt']
    exact hk1
def SmI (fs : List (List UInt8)) (v w : AV) (H : AH) (kk : Nat) (tm : Tms) (H' : AH) : Prop := H.keepsAll H' ∧ ∃ i : Nat, kk = fs.length - i ∧ i ≤ fs.length ∧ tm 0 = v ∧ tm 1 = w ∧ tm 5 = .int .i64 (i : Int)
theorem SameTexts {H : AH} {v w : AV} {fs : List (List UInt8)} (h : RowV H v fs) (h' : RowV H w fs) (hl : fs.length ≤ 1000) :
    ACall Tryd.prog 7 [v, w] H (fun r H' => r = .bool true ∧ H' = H) := by
  refine acall_enter fits7 (by simp) (by simp) fun hok => ?_
  have hlv := h.len
  have hlw := h'.len
  simp (disch := first | omega | (simp; done) | assumption) [wr64, wrU8, wrU64, Nat.add_assoc, -getElem?_pos, List.getElem?_cons_zero, List.getElem?_cons_succ, -loadC, -storeC, ic7, rs7, hlv, hlw]
  refine iwp_loop (SmI fs v w H) fs.length ⟨AH.keepsAll_refl _, 0, rfl, by omega, by simp, by simp, by simp⟩ ?_
  rintro kk tm H1 ⟨hk1, i, rfl, hi, t0, t1, t5⟩
  by_cases hlt : i < fs.length
  · have hlt' : (i : Int) < (fs.length : Int) := by omega
    obtain ⟨b, o, rfl, hld⟩ := h.get hlt
    obtain ⟨b', o', rfl, hld'⟩ := h'.get hlt
    have l1 := loadC_keeps hk1 (hld i hlt)
    have l2 := loadC_keeps hk1 (hld' i hlt)
    generalize el fs i = ca at *
    simp (disch := first | omega | (simp; done) | assumption) [wr64, wrU8, wrU64, Nat.add_assoc, -getElem?_pos, List.getElem?_cons_zero, List.getElem?_cons_succ, -loadC, -storeC, t0, t1, t5, hlt, hlt', l1, l2]
    exact ⟨fs.length - (i + 1), by omega, hk1, i + 1, rfl, by omega, by simp [t0], by simp [t1], by simp⟩
  · have hlt' : ¬ (i : Int) < (fs.length : Int) := by omega
    simp (disch := first | omega | (simp; done) | assumption) [wr64, wrU8, wrU64, Nat.add_assoc, -getElem?_pos, List.getElem?_cons_zero, List.getElem?_cons_succ, -loadC, -storeC, t0, t1, t5, hlv, hlt, hlt']
    exact hk1
/-! ### The law -/
theorem Awake (H : AH) : ACall Tryd.prog 5 [] H (fun v H' => v = .bool true ∧ H' = H) := by
  refine acall_enter fits5 (by simp) (by simp) fun hok => ?_
  have c1 := Compare [49, 46, 49, 48] [49, 46, 57] (by simp) (by simp)
  have c2 := Compare [49, 126, 114, 99] [49] (by simp) (by simp)
  have c3 := Compare [49, 46, 48] [49, 45, 48, 48] (by simp) (by simp)
  have cN := fun (H : AH) (v : AV) (h : RowV H v [[49], [50], [50, 126]]) => Newest h (by simp) (by simp)
  rw [show cmpV [49, 46, 49, 48] [49, 46, 57] = 1 by decide +kernel] at c1
  rw [show cmpV [49, 126, 114, 99] [49] = -1 by decide +kernel] at c2
  rw [show cmpV [49, 46, 48] [49, 45, 48, 48] = 0 by decide +kernel] at c3
  rw [show nb [[49], [50], [50, 126]] ([[49], [50], [50, 126]] : List (List UInt8)).length = 1 by decide +kernel] at cN
  simp (disch := first | omega | (simp; done) | assumption) [wr64, wrU8, wrU64, Nat.add_assoc, -getElem?_pos, List.getElem?_cons_zero, List.getElem?_cons_succ, ic5, rs5]
  refine CallW.val (c1 _) ?_
  simp (disch := first | omega | (simp; done) | assumption) [wr64, wrU8, wrU64, Nat.add_assoc, -getElem?_pos, List.getElem?_cons_zero, List.getElem?_cons_succ, ]
  refine CallW.val (c2 _) ?_
  simp (disch := first | omega | (simp; done) | assumption) [wr64, wrU8, wrU64, Nat.add_assoc, -getElem?_pos, List.getElem?_cons_zero, List.getElem?_cons_succ, ]
  refine CallW.val (c3 _) ?_
  simp (disch := first | omega | (simp; done) | assumption) [wr64, wrU8, wrU64, Nat.add_assoc, -getElem?_pos, List.getElem?_cons_zero, List.getElem?_cons_succ, ]
  refine CallW.val (cN _ _ ?_) ?_
  · refine .inr ⟨H.next, 0, by simp, by simp, fun i hi => ?_⟩
    have hi3 : i < 3 := by simpa using hi
    rcases (by omega : i = 0 ∨ i = 1 ∨ i = 2) with rfl | rfl | rfl <;> simp [el]
  simp (disch := first | omega | (simp; done) | assumption) [wr64, wrU8, wrU64, Nat.add_assoc, -getElem?_pos, List.getElem?_cons_zero, List.getElem?_cons_succ, ]
  ((repeat (first | exact AH.keepsAll_refl _ | refine keeps_set hok ?_ (by first | omega | (simp; done) | (simp; omega)) | refine keeps_new hok ?_ (by first | omega | (simp; done) | (simp; omega)))); done)
def LnI (fs : List (List UInt8)) (v : AV) (H : AH) (kk : Nat) (tm : Tms) (H' : AH) : Prop := H' = H ∧ ∃ i : Nat, kk = fs.length - i ∧ i ≤ fs.length ∧ (∀ k, k < i → (el fs k).length ≤ 60) ∧ tm 0 = v ∧ tm 3 = .int .i64 (i : Int)
def LsI (M : List (List UInt8)) (x : AV) (H : AH) (kk : Nat) (tm : Tms) (H' : AH) : Prop := H' = H ∧ ∃ i : Nat, kk = M.length - i ∧ 1 ≤ i ∧ tm 4 = x ∧ tm 5 = .int .i64 (i : Int)
theorem Sorts {fs : List (List UInt8)} {v : AV} {H : AH} (hs : SL H v (fs.map AV.str)) (hf : ∀ f ∈ fs, f.length ≤ 9223372036854775807) :
    ACall Tryd.prog 3 [v] H (fun r H' => r = .bool true ∧ H' = H) := by
  refine acall_enter fits3 (by simp) (by simp) fun hok => ?_
  have h := RowV.of hs
  have hlv := h.len
  by_cases h40 : 40 < fs.length
  · have h40' : (40 : Int) < (fs.length : Int) := by omega
    simp (disch := first | omega | (simp; done) | assumption) [wr64, wrU8, wrU64, Nat.add_assoc, -getElem?_pos, List.getElem?_cons_zero, List.getElem?_cons_succ, -loadC, -storeC, ic3, rs3, hlv, h40, h40']
    refine CallW.val (Awake _) ?_
    simp (disch := first | omega | (simp; done) | assumption) [wr64, wrU8, wrU64, Nat.add_assoc, -getElem?_pos, List.getElem?_cons_zero, List.getElem?_cons_succ, ]
    ((repeat (first | exact AH.keepsAll_refl _ | refine keeps_set hok ?_ (by first | omega | (simp; done) | (simp; omega)) | refine keeps_new hok ?_ (by first | omega | (simp; done) | (simp; omega)))); done)
  have h40' : ¬ (40 : Int) < (fs.length : Int) := by omega
  simp (disch := first | omega | (simp; done) | assumption) [wr64, wrU8, wrU64, Nat.add_assoc, -getElem?_pos, List.getElem?_cons_zero, List.getElem?_cons_succ, -loadC, -storeC, ic3, rs3, hlv, h40, h40']
  refine iwp_loop (LnI fs v H) fs.length ⟨rfl, 0, rfl, by omega, by omega, by simp, by simp⟩ ?_
  rintro kk tm H1 ⟨rfl, i, rfl, hi, hle, t0, t3⟩
  by_cases hlt : i < fs.length
  · have hlt' : (i : Int) < (fs.length : Int) := by omega
    obtain ⟨b, o, rfl, hld⟩ := h.get hlt
    have l1 := hld i hlt
    have hle2 : (el fs i).length ≤ 60 → ∀ k, k < i + 1 → (el fs k).length ≤ 60 := fun h k hk => by
      by_cases e : k = i
      · subst e; exact h
      · exact hle k (by omega)
    generalize el fs i = ca at *
    by_cases hc : 60 < ca.length
    · have hc' : (60 : Int) < (ca.length : Int) := by omega
      simp (disch := first | omega | (simp; done) | assumption) [wr64, wrU8, wrU64, Nat.add_assoc, -getElem?_pos, List.getElem?_cons_zero, List.getElem?_cons_succ, -loadC, -storeC, t0, t3, hlv, hlt, hlt', l1, hc, hc']
      refine CallW.val (Awake _) ?_
      simp (disch := first | omega | (simp; done) | assumption) [wr64, wrU8, wrU64, Nat.add_assoc, -getElem?_pos, List.getElem?_cons_zero, List.getElem?_cons_succ, ]
      ((repeat (first | exact AH.keepsAll_refl _ | refine keeps_set hok ?_ (by first | omega | (simp; done) | (simp; omega)) | refine keeps_new hok ?_ (by first | omega | (simp; done) | (simp; omega)))); done)
    · have hc' : ¬ (60 : Int) < (ca.length : Int) := by omega
      simp (disch := first | omega | (simp; done) | assumption) [wr64, wrU8, wrU64, Nat.add_assoc, -getElem?_pos, List.getElem?_cons_zero, List.getElem?_cons_succ, -loadC, -storeC, t0, t3, hlv, hlt, hlt', l1, hc, hc']
      exact ⟨fs.length - (i + 1), by omega, rfl, i + 1, rfl, by omega, hle2 (by omega), by simp [t0], by simp⟩
  have hlt' : ¬ (i : Int) < (fs.length : Int) := by omega
  obtain rfl : i = fs.length := by omega
  have hv60 : ∀ f ∈ fs, f.length ≤ 60 := fun f hf => by
    obtain ⟨k, hk, rfl⟩ := List.getElem_of_mem hf
    have := hle k hk
    rwa [el_of hk] at this
  have h40n : fs.length ≤ 40 := by omega
  simp (disch := first | omega | (simp; done) | assumption) [wr64, wrU8, wrU64, Nat.add_assoc, -getElem?_pos, List.getElem?_cons_zero, List.getElem?_cons_succ, -loadC, -storeC, t0, t3, hlv, hlt, hlt']
  refine CallW.okof (Sort_ h h40n hv60) ?_
  rintro x H2 ⟨hk2, hn2, ps, hp, hps, hx⟩ hok2
  try simp only [newO_none] at hk2 hn2 hx
  simp (disch := first | omega | (simp; done) | assumption) [wr64, wrU8, wrU64, Nat.add_assoc, -getElem?_pos, List.getElem?_cons_zero, List.getElem?_cons_succ, -loadC, -storeC, t0]
  refine CallW.okof (RSort (h.keeps hk2) h40n hv60) ?_
  rintro y H3 ⟨hk3, hn3, qs, hq, hqs, hy⟩ hok3
  try simp only [newO_none] at hk3 hn3 hy
  obtain rfl := srt_unique (ccOrd fs) (hp.trans hq.symm) hps hqs
  have hx3 := hx.keeps hk3
  have hk : H1.keepsAll H3 := fun z q hz => hk3 z q (hk2 z q hz)
  have h3 := h.keeps hk
  have hpl : ps.length = fs.length := by simpa using hp.length_eq
  simp (disch := first | omega | (simp; done) | assumption) [wr64, wrU8, wrU64, Nat.add_assoc, -getElem?_pos, List.getElem?_cons_zero, List.getElem?_cons_succ, -loadC, -storeC, t0]
  refine CallW.val (SameTexts hx3 hy (by simp; omega)) ?_
  simp (disch := first | omega | (simp; done) | assumption) [wr64, wrU8, wrU64, Nat.add_assoc, -getElem?_pos, List.getElem?_cons_zero, List.getElem?_cons_succ, -loadC, -storeC, t0]
  refine CallW.val (Newest h3 (by omega) hv60) ?_
  simp (disch := first | omega | (simp; done) | assumption) [wr64, wrU8, wrU64, Nat.add_assoc, -getElem?_pos, List.getElem?_cons_zero, List.getElem?_cons_succ, -loadC, -storeC, t0]
  refine CallW.val (RNewest h3 (by omega) hv60) ?_
  have hvM : ∀ f ∈ pick_ fs ps, f.length ≤ 60 := fun f hf => by
    obtain ⟨p, _, rfl⟩ := List.mem_map.1 hf
    exact el_len hv60 p
  have hsrt : ∀ i, i + 1 < (pick_ fs ps).length → cmpV (el (pick_ fs ps) i) (el (pick_ fs ps) (i + 1)) ≤ 0 := fun i hi => by
    have hi' : i + 1 < ps.length := by simpa using hi
    rw [el_pick fs ps (by omega), el_pick fs ps hi']
    have := (List.pairwise_iff_getElem.1 hps) i (i + 1) (by omega) hi' (by omega)
    rw [← gt_of (by omega), ← gt_of hi'] at this
    rcases this with h | h
    · exact Int.le_of_lt h
    · exact Int.le_of_eq h.1
  have hMl : (pick_ fs ps).length ≤ 40 := by simp; omega
  clear hx hy hp hps hq hqs h3 hk2 hk3
  generalize hM : pick_ fs ps = M at *
  have hlx := hx3.len
  simp (disch := first | omega | (simp; done) | assumption) [wr64, wrU8, wrU64, Nat.add_assoc, -getElem?_pos, List.getElem?_cons_zero, List.getElem?_cons_succ, -loadC, -storeC, t0]
  refine iwp_loop (LsI M x H3) (M.length - 1) ⟨rfl, 1, rfl, by omega, by simp, by simp⟩ ?_
  clear t0 t3 hle hlt hlt' h hs tm
  rintro kk tm H4 ⟨rfl, i, rfl, h1i, t4, t5⟩
  by_cases hlt : i < M.length
  · have hlt' : (i : Int) < (M.length : Int) := by omega
    obtain ⟨b, o, rfl, hld⟩ := hx3.get hlt
    have hi1 : (i : Int) - 1 = ((i - 1 : Nat) : Int) := by omega
    have hi2 : ((i - 1 : Nat) : Int) < (M.length : Int) := by omega
    have hi3 : i - 1 < M.length := by omega
    have l1 := hld i hlt
    have l2 := hld (i - 1) hi3
    have hle := hsrt (i - 1) (by omega)
    rw [show i - 1 + 1 = i by omega] at hle
    have hC := Compare (el M (i - 1)) (el M i) (Nat.le_trans (el_len hvM _) (by omega)) (Nat.le_trans (el_len hvM _) (by omega))
    generalize cmpV (el M (i - 1)) (el M i) = kv at *
    generalize el M (i - 1) = ca at *
    generalize el M i = cb at *
    generalize i - 1 = ip at *
    have hle' : ¬ 0 < kv := by omega
    simp (disch := first | omega | (simp; done) | assumption) [wr64, wrU8, wrU64, Nat.add_assoc, -getElem?_pos, List.getElem?_cons_zero, List.getElem?_cons_succ, -loadC, -storeC, t4, t5, hlx, hlt, hlt', hi1, hi2, hi3, l1, l2]
    refine CallW.val (hC _) ?_
    simp (disch := first | omega | (simp; done) | assumption) [wr64, wrU8, wrU64, Nat.add_assoc, -getElem?_pos, List.getElem?_cons_zero, List.getElem?_cons_succ, -loadC, -storeC, t4, t5, hle']
    exact ⟨M.length - (i + 1), by omega, rfl, i + 1, rfl, by omega, by simp [t4], by simp⟩
  · have hlt' : ¬ (i : Int) < (M.length : Int) := by omega
    simp (disch := first | omega | (simp; done) | assumption) [wr64, wrU8, wrU64, Nat.add_assoc, -getElem?_pos, List.getElem?_cons_zero, List.getElem?_cons_succ, -loadC, -storeC, t4, t5, hlx, hlt, hlt']
    refine CallW.val (Awake _) ?_
    simp (disch := first | omega | (simp; done) | assumption) [wr64, wrU8, wrU64, Nat.add_assoc, -getElem?_pos, List.getElem?_cons_zero, List.getElem?_cons_succ, rs3]
    exact hk
theorem VersionSorts.walk (a0 : Option Addr) (l0 c0 : Nat) (L0 : List (List AV)) (W : World) (hsh : W.ShapedOpen Tryd.prog) (h0 : IsFlat W [.str] a0 l0 c0 L0) :
    Calls Tryd.prog 3 #[.slice a0 l0 c0] W fun e W' => e = .returned (.bool true) ∧ Below W.heap.size W W' := by
  obtain ⟨v, fs, hv, rv, hf⟩ := PWalk.texts h0
  exact PWalk.walk hsh (Sorts hv hf) (.cons rv .nil)
end Go.Proofs.YtfimhkijacamoaaDoor.VSorts

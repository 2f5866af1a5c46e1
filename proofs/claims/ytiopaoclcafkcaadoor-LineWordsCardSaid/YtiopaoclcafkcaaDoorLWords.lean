/- Package line's Words; the document's way to hold two rows of texts against each other. -/
import Derived.Test.YtiopaoclcafkcaaDoorLLib
set_option linter.unusedVariables false
set_option linter.unusedSimpArgs false
set_option maxRecDepth 10000
set_option maxHeartbeats 4000000
namespace Go.Proofs.YtiopaoclcafkcaaDoor.LWords
open Go Go.RowKit Go.Proofs.YtiopaoclcafkcaaDoor Go.Proofs.YtiopaoclcafkcaaDoor.Abs Go.Proofs.YtiopaoclcafkcaaDoor.Ic Go.Proofs.YtiopaoclcafkcaaDoor.LPcs Go.Proofs.YtiopaoclcafkcaaDoor.LLib
def fidx (p : AV → Bool) (l : List AV) : Int := match l.findIdx? p with
  | some i => (i : Int)
  | none => -1
theorem fidx_at {p : AV → Bool} {l : List AV} {i : Nat} (hi : i < l.length) (hb : ∀ j (h : j < l.length), j < i → p l[j] = false) (hp : p l[i] = true) : fidx p l = (i : Int) := by
  unfold fidx
  have : l.findIdx? p = some i := by
    rw [List.findIdx?_eq_some_iff_getElem]
    exact ⟨hi, hp, fun j hj => by simpa using hb j (by omega) hj⟩
  rw [this]
theorem fidx_none {p : AV → Bool} {l : List AV} (hb : ∀ j (h : j < l.length), p l[j] = false) : fidx p l = -1 := by
  unfold fidx
  have : l.findIdx? p = none := by
    rw [List.findIdx?_eq_none_iff]
    intro x hx
    obtain ⟨j, hj, rfl⟩ := List.mem_iff_getElem.1 hx
    simpa using hb j hj
  rw [this]
def IxIS (p : AV → Bool) (l : List AV) (v fv : AV) (H : AH) (k : Nat) (tm : Tms) (H' : AH) : Prop := H' = H ∧ ∃ i : Nat, k = l.length - i ∧ i ≤ l.length ∧ (∀ j (h : j < l.length), j < i → p l[j] = false) ∧ tm 0 = v ∧ tm 1 = fv ∧ tm 7 = .int .i64 (l.length : Int) ∧ tm 8 = .int .i64 (i : Int)
theorem IndexFuncS {v : AV} {l : List AV} {f : FuncId} {p : AV → Bool} {H : AH} (h : SZ H v l) (hl : l.length ≤ 1000000000000) (hf : ∀ x ∈ l, ACall Tryd.prog f [x] H (fun v H' => v = .bool (p x) ∧ H' = H)) :
    ACall Tryd.prog 28 [v, .func (.func f) [] []] H (fun v H' => v = .int .i64 (fidx p l) ∧ H' = H) := by
  refine acall_enter fits28 (by simp) (by simp) fun hok => ?_
  have body : ∀ (tm : Tms), tm 0 = v → tm 1 = .func (.func f) [] [] → tm 7 = .int .i64 (l.length : Int) → tm 8 = .int .i64 0 → IWP Tryd.prog (part_ [1, 0, 1] ic28) (IPost.then (IWP Tryd.prog (part_ [1, 1] ic28) (fnPost rs28 fun w H' => w = .int .i64 (fidx p l) ∧ H.keepsAll H')) (fnPost rs28 fun w H' => w = .int .i64 (fidx p l) ∧ H.keepsAll H')) tm H := by
    intro tm e0 e1 e7 e8
    simp (disch := first | omega | (simp; done) | assumption) [wr64, wrU8, wrU64, Nat.add_assoc, -getElem?_pos, List.getElem?_cons_zero, List.getElem?_cons_succ, part_, ic28, rs28]
    refine iwp_loop (IxIS p l v (.func (.func f) [] []) H) l.length ⟨rfl, 0, rfl, by omega, by omega, e0, e1, e7, e8⟩ ?_
    rintro k tm1 _ ⟨rfl, i, rfl, hi, hb, t0, t1, t7, t8⟩
    by_cases hlt : i < l.length
    · have hlt' : (i : Int) < (l.length : Int) := by omega
      obtain ⟨b, o, rfl, hld⟩ := SZ.get h i hlt
      have hfi := hf l[i] (List.getElem_mem hlt)
      generalize hx : l[i] = x at hld hfi
      simp (disch := first | omega | (simp; done) | assumption) [wr64, wrU8, wrU64, Nat.add_assoc, -getElem?_pos, List.getElem?_cons_zero, List.getElem?_cons_succ, t0, t1, t7, t8, hlt', hlt]
      refine Try.intro hld ?_
      simp (disch := first | omega | (simp; done) | assumption) [wr64, wrU8, wrU64, Nat.add_assoc, -getElem?_pos, List.getElem?_cons_zero, List.getElem?_cons_succ, t0, t1, t7, t8]
      refine CallW.val hfi ?_
      cases hp : p x
      · simp (disch := first | omega | (simp; done) | assumption) [wr64, wrU8, wrU64, Nat.add_assoc, -getElem?_pos, List.getElem?_cons_zero, List.getElem?_cons_succ, t0, t1, t7, t8]
        exact ⟨l.length - (i + 1), by omega, rfl, i + 1, rfl, by omega, fun j hj hji => by
          by_cases e : j = i
          · subst e; rw [hx]; exact hp
          · exact hb j hj (by omega), by simp [t0], by simp [t1], by simp [t7], by simp⟩
      · have := fidx_at hlt hb (by rw [hx]; exact hp)
        simp (disch := first | omega | (simp; done) | assumption) [wr64, wrU8, wrU64, Nat.add_assoc, -getElem?_pos, List.getElem?_cons_zero, List.getElem?_cons_succ, t0, t1, t7, t8, this]
        exact AH.keepsAll_refl _
    · have hlt' : ¬ (i : Int) < (l.length : Int) := by omega
      have := fidx_none (p := p) (l := l) fun j hj => hb j hj (by omega)
      simp (disch := first | omega | (simp; done) | assumption) [wr64, wrU8, wrU64, Nat.add_assoc, -getElem?_pos, List.getElem?_cons_zero, List.getElem?_cons_succ, t0, t1, t7, t8, hlt', hlt, this]
      exact AH.keepsAll_refl _
  change IWP Tryd.prog (.seq (part_ [0] ic28) (.seq (.seq (part_ [1, 0, 0] ic28) (part_ [1, 0, 1] ic28)) (part_ [1, 1] ic28))) _ _ _
  generalize hX : part_ [1, 0, 1] ic28 = X at body ⊢
  generalize hY : part_ [1, 1] ic28 = Y at body ⊢
  rcases SZ.cases h with ⟨h0, rfl⟩ | ⟨h0, rfl⟩ | ⟨h0, rfl⟩ | ⟨b, o, rfl⟩
  · simp (disch := first | omega | (simp; done) | assumption) [wr64, wrU8, wrU64, Nat.add_assoc, -getElem?_pos, List.getElem?_cons_zero, List.getElem?_cons_succ, part_, ic28]
    exact body _ (by simp) (by simp) (by simp [h0]) (by simp)
  · simp (disch := first | omega | (simp; done) | assumption) [wr64, wrU8, wrU64, Nat.add_assoc, -getElem?_pos, List.getElem?_cons_zero, List.getElem?_cons_succ, part_, ic28]
    exact body _ (by simp) (by simp) (by simp [h0]) (by simp)
  · simp (disch := first | omega | (simp; done) | assumption) [wr64, wrU8, wrU64, Nat.add_assoc, -getElem?_pos, List.getElem?_cons_zero, List.getElem?_cons_succ, part_, ic28]
    exact body _ (by simp) (by simp) (by simp [h0]) (by simp)
  · simp (disch := first | omega | (simp; done) | assumption) [wr64, wrU8, wrU64, Nat.add_assoc, -getElem?_pos, List.getElem?_cons_zero, List.getElem?_cons_succ, part_, ic28]
    exact body _ (by simp) (by simp) (by simp) (by simp)
def IxII (p : AV → Bool) (l : List AV) (v fv : AV) (H : AH) (k : Nat) (tm : Tms) (H' : AH) : Prop := H' = H ∧ ∃ i : Nat, k = l.length - i ∧ i ≤ l.length ∧ (∀ j (h : j < l.length), j < i → p l[j] = false) ∧ tm 0 = v ∧ tm 1 = fv ∧ tm 7 = .int .i64 (l.length : Int) ∧ tm 8 = .int .i64 (i : Int)
theorem IndexFuncI {v : AV} {l : List AV} {f : FuncId} {p : AV → Bool} {H : AH} (h : SZ H v l) (hl : l.length ≤ 1000000000000) (hf : ∀ x ∈ l, ACall Tryd.prog f [x] H (fun v H' => v = .bool (p x) ∧ H' = H)) :
    ACall Tryd.prog 30 [v, .func (.func f) [] []] H (fun v H' => v = .int .i64 (fidx p l) ∧ H' = H) := by
  refine acall_enter fits30 (by simp) (by simp) fun hok => ?_
  have body : ∀ (tm : Tms), tm 0 = v → tm 1 = .func (.func f) [] [] → tm 7 = .int .i64 (l.length : Int) → tm 8 = .int .i64 0 → IWP Tryd.prog (part_ [1, 0, 1] ic30) (IPost.then (IWP Tryd.prog (part_ [1, 1] ic30) (fnPost rs30 fun w H' => w = .int .i64 (fidx p l) ∧ H.keepsAll H')) (fnPost rs30 fun w H' => w = .int .i64 (fidx p l) ∧ H.keepsAll H')) tm H := by
    intro tm e0 e1 e7 e8
    simp (disch := first | omega | (simp; done) | assumption) [wr64, wrU8, wrU64, Nat.add_assoc, -getElem?_pos, List.getElem?_cons_zero, List.getElem?_cons_succ, part_, ic30, rs30]
    refine iwp_loop (IxII p l v (.func (.func f) [] []) H) l.length ⟨rfl, 0, rfl, by omega, by omega, e0, e1, e7, e8⟩ ?_
    rintro k tm1 _ ⟨rfl, i, rfl, hi, hb, t0, t1, t7, t8⟩
    by_cases hlt : i < l.length
    · have hlt' : (i : Int) < (l.length : Int) := by omega
      obtain ⟨b, o, rfl, hld⟩ := SZ.get h i hlt
      have hfi := hf l[i] (List.getElem_mem hlt)
      generalize hx : l[i] = x at hld hfi
      simp (disch := first | omega | (simp; done) | assumption) [wr64, wrU8, wrU64, Nat.add_assoc, -getElem?_pos, List.getElem?_cons_zero, List.getElem?_cons_succ, t0, t1, t7, t8, hlt', hlt]
      refine Try.intro hld ?_
      simp (disch := first | omega | (simp; done) | assumption) [wr64, wrU8, wrU64, Nat.add_assoc, -getElem?_pos, List.getElem?_cons_zero, List.getElem?_cons_succ, t0, t1, t7, t8]
      refine CallW.val hfi ?_
      cases hp : p x
      · simp (disch := first | omega | (simp; done) | assumption) [wr64, wrU8, wrU64, Nat.add_assoc, -getElem?_pos, List.getElem?_cons_zero, List.getElem?_cons_succ, t0, t1, t7, t8]
        exact ⟨l.length - (i + 1), by omega, rfl, i + 1, rfl, by omega, fun j hj hji => by
          by_cases e : j = i
          · subst e; rw [hx]; exact hp
          · exact hb j hj (by omega), by simp [t0], by simp [t1], by simp [t7], by simp⟩
      · have := fidx_at hlt hb (by rw [hx]; exact hp)
        simp (disch := first | omega | (simp; done) | assumption) [wr64, wrU8, wrU64, Nat.add_assoc, -getElem?_pos, List.getElem?_cons_zero, List.getElem?_cons_succ, t0, t1, t7, t8, this]
        exact AH.keepsAll_refl _
    · have hlt' : ¬ (i : Int) < (l.length : Int) := by omega
      have := fidx_none (p := p) (l := l) fun j hj => hb j hj (by omega)
      simp (disch := first | omega | (simp; done) | assumption) [wr64, wrU8, wrU64, Nat.add_assoc, -getElem?_pos, List.getElem?_cons_zero, List.getElem?_cons_succ, t0, t1, t7, t8, hlt', hlt, this]
      exact AH.keepsAll_refl _
  change IWP Tryd.prog (.seq (part_ [0] ic30) (.seq (.seq (part_ [1, 0, 0] ic30) (part_ [1, 0, 1] ic30)) (part_ [1, 1] ic30))) _ _ _
  generalize hX : part_ [1, 0, 1] ic30 = X at body ⊢
  generalize hY : part_ [1, 1] ic30 = Y at body ⊢
  rcases SZ.cases h with ⟨h0, rfl⟩ | ⟨h0, rfl⟩ | ⟨h0, rfl⟩ | ⟨b, o, rfl⟩
  · simp (disch := first | omega | (simp; done) | assumption) [wr64, wrU8, wrU64, Nat.add_assoc, -getElem?_pos, List.getElem?_cons_zero, List.getElem?_cons_succ, part_, ic30]
    exact body _ (by simp) (by simp) (by simp [h0]) (by simp)
  · simp (disch := first | omega | (simp; done) | assumption) [wr64, wrU8, wrU64, Nat.add_assoc, -getElem?_pos, List.getElem?_cons_zero, List.getElem?_cons_succ, part_, ic30]
    exact body _ (by simp) (by simp) (by simp [h0]) (by simp)
  · simp (disch := first | omega | (simp; done) | assumption) [wr64, wrU8, wrU64, Nat.add_assoc, -getElem?_pos, List.getElem?_cons_zero, List.getElem?_cons_succ, part_, ic30]
    exact body _ (by simp) (by simp) (by simp [h0]) (by simp)
  · simp (disch := first | omega | (simp; done) | assumption) [wr64, wrU8, wrU64, Nat.add_assoc, -getElem?_pos, List.getElem?_cons_zero, List.getElem?_cons_succ, part_, ic30]
    exact body _ (by simp) (by simp) (by simp) (by simp)
theorem WEmpty (s : List UInt8) (H : AH) : ACall Tryd.prog 18 [.str s] H (fun v H' => v = .bool (decide (s = [])) ∧ H' = H) := by
  refine acall_of fits18 (by simp) ?_
  simp (disch := first | omega | (simp; done) | assumption) [wr64, wrU8, wrU64, Nat.add_assoc, -getElem?_pos, List.getElem?_cons_zero, List.getElem?_cons_succ, ic18, rs18]
theorem Split (s : List UInt8) (q : UInt8) (hs : s.length ≤ 1000000000) (H : AH) : ACall Tryd.prog 17 [.str s, .str [q]] H (SplitP (pcs q s) H) := by
  refine acall_of fits17 (by simp) ?_
  simp (disch := first | omega | (simp; done) | assumption) [wr64, wrU8, wrU64, Nat.add_assoc, -getElem?_pos, List.getElem?_cons_zero, List.getElem?_cons_succ, ic17, rs17]
  refine CallW.of (GenSplit s q hs _) ?_
  rintro v H1 h
  simp only [newO_none] at h
  simp (disch := first | omega | (simp; done) | assumption) [wr64, wrU8, wrU64, Nat.add_assoc, -getElem?_pos, List.getElem?_cons_zero, List.getElem?_cons_succ, ]
  exact h
theorem setRange_take : ∀ (ws l : List AV) (o : Nat), (setRange l o ws).take o = l.take o
  | [], l, o => rfl
  | w :: ws, l, o => by
    show (setRange (l.set o w) (o + 1) ws).take o = l.take o
    have := setRange_take ws (l.set o w) (o + 1)
    have h2 : ((setRange (l.set o w) (o + 1) ws).take (o + 1)).take o = ((l.set o w).take (o + 1)).take o := by rw [this]
    rw [List.take_take, List.take_take, Nat.min_eq_left (by omega)] at h2
    rw [h2, List.take_set_of_le (by omega)]
def DelI (q : Nat) (l : List (List UInt8)) (keep : List UInt8 → Bool) (fv : AV) (H : AH) (k : Nat) (tm : Tms) (H' : AH) : Prop :=
  ∃ (j : Nat) (C : List AV), k = l.length - j ∧ j ≤ l.length ∧ ((l.take j).filter keep).length < j ∧ C.length = l.length ∧ C.take ((l.take j).filter keep).length = ((l.take j).filter keep).map AV.str ∧ C.drop j = (l.drop j).map AV.str ∧
    H'.next = H.next ∧ H'.at_ q = some (.cells false 9 C) ∧ (∀ x, x ≠ q → H'.at_ x = H.at_ x) ∧ tm 0 = .slice q 0 l.length 1 ∧ tm 1 = fv ∧ tm 5 = .int .i64 (((l.take j).filter keep).length : Int) ∧ tm 6 = .int .i64 (j : Int)
def DelP (q : Nat) (l : List (List UInt8)) (keep : List UInt8 → Bool) (H : AH) (v : AV) (H' : AH) : Prop :=
  ∃ C : List AV, H'.next = H.next ∧ H'.at_ q = some (.cells false 9 C) ∧ (∀ x, x ≠ q → H'.at_ x = H.at_ x) ∧ C.take (l.filter keep).length = (l.filter keep).map AV.str ∧ v = if l.filter keep = [] then .sempty else .slice q 0 (l.filter keep).length 1
theorem filter_all {l : List (List UInt8)} {keep : List UInt8 → Bool} (h : ∀ x ∈ l, keep x = true) : l.filter keep = l := List.filter_eq_self.2 h
theorem take_succ_filter {l : List (List UInt8)} {keep : List UInt8 → Bool} {j : Nat} (hj : j < l.length) : (l.take (j + 1)).filter keep = (l.take j).filter keep ++ (if keep l[j] then [l[j]] else []) := by
  rw [← List.take_append_getElem hj, List.filter_append]
  simp [List.filter_cons]
theorem DeleteFunc {q : Nat} {l : List (List UInt8)} {f : FuncId} {keep : List UInt8 → Bool} {H : AH} (hq : H.at_ q = some (.cells false 9 (l.map AV.str))) (hl0 : l ≠ []) (hl : l.length ≤ 1000000000000)
    (hf : ∀ (x : List UInt8) (H : AH), ACall Tryd.prog f [.str x] H (fun v H' => v = .bool (!keep x) ∧ H' = H)) :
    ACall Tryd.prog 16 [.slice q 0 l.length 1, .func (.func f) [] []] H (DelP q l keep H) := by
  obtain ⟨p, hp⟩ : ∃ p : AV → Bool, ∀ x : List UInt8, p (.str x) = !keep x := ⟨fun a => match a with | .str x => !keep x | _ => false, fun x => rfl⟩
  have hpos : 0 < l.length := List.length_pos_iff.2 hl0
  have hsl : SZ H (.slice q 0 l.length 1) (l.map AV.str) := .inl (.inr ⟨q, 0, by simp, by simpa using hl0, fun i hi => by unfold loadC; rw [hq]; simp⟩)
  have hix := IndexFuncS (p := p) hsl (by simpa using hl) fun x hx => by
    obtain ⟨y, _, rfl⟩ := List.mem_map.1 hx
    rw [hp]
    exact hf y H
  refine acall_ok (bodyP_of fits16) fun hok => acall_of fits16 (by simp) ?_
  simp (disch := first | omega | (simp; done) | assumption) [wr64, wrU8, wrU64, Nat.add_assoc, -getElem?_pos, List.getElem?_cons_zero, List.getElem?_cons_succ, ic16, rs16]
  refine CallW.val hix ?_
  by_cases hall : ∀ x ∈ l, keep x = true
  · have hn1 : fidx p (l.map AV.str) = -1 := fidx_none fun j hj => by
      simp at hj
      have := hall l[j] (List.getElem_mem hj)
      simp [hp, this]
    simp (disch := first | omega | (simp; done) | assumption) [wr64, wrU8, wrU64, Nat.add_assoc, -getElem?_pos, List.getElem?_cons_zero, List.getElem?_cons_succ, hn1]
    refine ⟨l.map AV.str, rfl, hq, fun _ _ => rfl, ?_, ?_⟩
    · rw [filter_all hall, List.take_of_length_le (by simp)]
    · rw [filter_all hall, if_neg hl0]
  · obtain ⟨i, hi, hki, hbf⟩ : ∃ i, ∃ hi : i < l.length, keep l[i] = false ∧ ∀ j (h : j < l.length), j < i → keep l[j] = true := by
      obtain ⟨x, hx⟩ := Classical.not_forall.1 hall
      obtain ⟨hx1, hx2⟩ := Classical.not_imp.1 hx
      obtain ⟨m, hm, rfl⟩ := List.mem_iff_getElem.1 hx1
      have key : ∀ m (hm : m < l.length), keep l[m] = false → ∃ i, ∃ hi : i < l.length, keep l[i] = false ∧ ∀ j (h : j < l.length), j < i → keep l[j] = true := by
        intro m
        induction m using Nat.strongRecOn with
        | _ m ih =>
          intro hm hk
          by_cases h : ∀ j (h : j < l.length), j < m → keep l[j] = true
          · exact ⟨m, hm, hk, h⟩
          · obtain ⟨j, hj⟩ := Classical.not_forall.1 h
            obtain ⟨hj1, hj2⟩ := Classical.not_forall.1 hj
            obtain ⟨hj3, hj4⟩ := Classical.not_imp.1 hj2
            exact ih j hj3 hj1 (by simpa using hj4)
      exact key m hm (by simpa using hx2)
    have hn1 : fidx p (l.map AV.str) = (i : Int) := by
      refine fidx_at (by simpa using hi) (fun j hj hji => ?_) ?_
      · simp at hj
        simp [hp, hbf j hj hji]
      · simp [hp, hki]
    have hti : (l.take i).filter keep = l.take i := List.filter_eq_self.2 fun x hx => by
      obtain ⟨m, hm, rfl⟩ := List.mem_iff_getElem.1 hx
      simp at hm
      rw [List.getElem_take]
      exact hbf m (by omega) (by omega)
    have hti1 : (l.take (i + 1)).filter keep = l.take i := by rw [take_succ_filter hi, hti, hki]; simp
    have hli : (l.take i).length = i := by simp; omega
    have g1 : ¬ ((i : Int) = -1) := by omega
    simp (disch := first | omega | (simp; done) | assumption) [wr64, wrU8, wrU64, Nat.add_assoc, -getElem?_pos, List.getElem?_cons_zero, List.getElem?_cons_succ, hn1, g1]
    refine iwp_loop (DelI q l keep (.func (.func f) [] []) H) (l.length - (i + 1)) ⟨i + 1, l.map AV.str, rfl, by omega, by rw [hti1]; omega, by simp, by rw [hti1, hli, ← List.map_take], by rw [List.map_drop], rfl, hq, fun _ _ => rfl, by simp, by simp, by rw [hti1, hli]; simp, by simp⟩ ?_
    rintro k tm H1 ⟨j, C, rfl, hj, hlt, hC, hCt, hCd, hn, hat, hot, t0, t1, t5, t6⟩
    by_cases hjl : j < l.length
    · have hjl' : (j : Int) < (l.length : Int) := by omega
      have hcj : C[j]? = some (.str l[j]) := by
        have := congrArg (fun z : List AV => z[0]?) hCd
        simpa [hjl] using this
      have hld : loadC H1 q j none = some (.str l[j]) := by unfold loadC; rw [hat]; exact hcj
      have hts := take_succ_filter (keep := keep) hjl
      generalize hm : ((l.take j).filter keep).length = m at *
      have g2 : (m : Int) < (l.length : Int) := by omega
      have g3 : m + 1 ≤ C.length := by omega
      simp (disch := first | omega | (simp; done) | assumption) [wr64, wrU8, wrU64, Nat.add_assoc, -getElem?_pos, List.getElem?_cons_zero, List.getElem?_cons_succ, t0, t1, t5, t6, hjl', hjl]
      refine Try.intro (by simpa using hld) ?_
      simp (disch := first | omega | (simp; done) | assumption) [wr64, wrU8, wrU64, Nat.add_assoc, -getElem?_pos, List.getElem?_cons_zero, List.getElem?_cons_succ, t0, t1, t5, t6]
      refine CallW.val (hf l[j] _) ?_
      cases hk : keep l[j]
      · rw [hk] at hts
        have hml : ((l.take (j + 1)).filter keep).length = m := by rw [hts]; simpa using hm
        simp (disch := first | omega | (simp; done) | assumption) [wr64, wrU8, wrU64, Nat.add_assoc, -getElem?_pos, List.getElem?_cons_zero, List.getElem?_cons_succ, t0, t1, t5, t6]
        refine ⟨l.length - (j + 1), by omega, j + 1, C, rfl, by omega, by omega, hC, ?_, ?_, hn, hat, hot, by simp [t0], by simp [t1], by simp [t5, hml], by simp⟩
        · rw [hml, hCt, hts]; simp
        · have := congrArg (List.drop 1) hCd
          rw [List.drop_drop, ← List.map_drop, List.drop_drop] at this
          exact this
      · rw [hk] at hts
        have hml : ((l.take (j + 1)).filter keep).length = m + 1 := by rw [hts]; simp [hm]
        simp (disch := first | omega | (simp; done) | assumption) [wr64, wrU8, wrU64, Nat.add_assoc, -getElem?_pos, List.getElem?_cons_zero, List.getElem?_cons_succ, t0, t1, t5, t6, g2, g3, hat]
        refine ⟨l.length - (j + 1), by omega, j + 1, C.set m (.str l[j]), rfl, by omega, by omega, by simpa using hC, ?_, ?_, by simpa using hn, by simp, fun x hx => by simp [hx]; exact hot x hx, by simp [t0], by simp [t1], by simp [hml], by simp⟩
        · rw [hml, hts, List.map_append, ← hCt]
          rw [List.take_add_one]
          simp [List.getElem?_set, show m < C.length by omega]
          exact List.take_set_of_le (Nat.le_refl _)
        · have := congrArg (List.drop 1) hCd
          rw [List.drop_drop, ← List.map_drop, List.drop_drop] at this
          rw [List.drop_set_of_lt (by omega)]
          exact this
    · obtain rfl : j = l.length := by omega
      rw [List.take_length] at hlt hCt t5
      generalize hm : (l.filter keep).length = m at *
      have g2 : (m : Int) < (l.length : Int) := by omega
      have hnm : ¬ (l.length ≤ m) := by omega
      have hclear : clearA H1 1 [.str []] (.slice q m (l.length - m) 1) = some (H1.set q (some (.cells false 9 (setRange C m (List.replicate (l.length - m) (.str [])))))) := by
        simp [clearA, storeC, hat, zeros]
        exact ⟨by omega, by omega⟩
      have g3 : m ≤ l.length := by omega
      have g4 : ¬ (l.length = m) := by omega
      simp (disch := first | omega | (simp; done) | assumption) [wr64, wrU8, wrU64, Nat.add_assoc, -getElem?_pos, List.getElem?_cons_zero, List.getElem?_cons_succ, t0, t1, t5, t6, slcA, Abs.bounds, g2, g3, g4]
      refine Try.intro hclear ?_
      by_cases hm0 : m = 0
      · subst hm0
        have hf0 : l.filter keep = [] := List.eq_nil_of_length_eq_zero hm
        simp (disch := first | omega | (simp; done) | assumption) [wr64, wrU8, wrU64, Nat.add_assoc, -getElem?_pos, List.getElem?_cons_zero, List.getElem?_cons_succ, t0, t1, t5, t6, slcA, Abs.bounds]
        refine ⟨_, by simpa using hn, by simp; rfl, fun x hx => by simp [hx]; exact hot x hx, by rw [hf0]; rfl, by rw [if_pos hf0]⟩
      · have hf0 : ¬ l.filter keep = [] := fun e => by rw [e] at hm; exact hm0 hm.symm
        simp (disch := first | omega | (simp; done) | assumption) [wr64, wrU8, wrU64, Nat.add_assoc, -getElem?_pos, List.getElem?_cons_zero, List.getElem?_cons_succ, t0, t1, t5, t6, slcA, Abs.bounds, g3, hm0]
        refine ⟨_, by simpa using hn, by simp; rfl, fun x hx => by simp [hx]; exact hot x hx, ?_, by rw [if_neg hf0, hm]⟩
        rw [hm, setRange_take, hCt]
theorem ClipT {b o n : Nat} {H : AH} (hn : 0 < n) : ACall Tryd.prog 15 [.slice b o n 1] H (fun v H' => v = .slice b o n 1 ∧ H' = H) := by
  refine acall_of fits15 (by simp) ?_
  have h1 : ¬ (n = 0) := by omega
  simp (disch := first | omega | (simp; done) | assumption) [wr64, wrU8, wrU64, Nat.add_assoc, -getElem?_pos, List.getElem?_cons_zero, List.getElem?_cons_succ, ic15, rs15, slcA, Abs.bounds, h1]
theorem ClipE {H : AH} : ACall Tryd.prog 15 [.sempty] H (fun v H' => v = .szero ∧ H' = H) := by
  refine acall_of fits15 (by simp) ?_
  simp (disch := first | omega | (simp; done) | assumption) [wr64, wrU8, wrU64, Nat.add_assoc, -getElem?_pos, List.getElem?_cons_zero, List.getElem?_cons_succ, ic15, rs15, slcA, Abs.bounds]
def WordsP (l : List (List UInt8)) (H : AH) (v : AV) (H' : AH) : Prop := H.keepsAll H' ∧ H.next ≤ H'.next ∧ SZ H' v (l.map AV.str)
theorem Words (s : List UInt8) (hs : s.length ≤ 1000000000) (H : AH) : ACall Tryd.prog 8 [.str s] H (WordsP (wds 32 s) H) := by
  refine acall_ok (bodyP_of fits8) fun hok => acall_of fits8 (by simp) ?_
  simp (disch := first | omega | (simp; done) | assumption) [wr64, wrU8, wrU64, Nat.add_assoc, -getElem?_pos, List.getElem?_cons_zero, List.getElem?_cons_succ, ic8, rs8]
  refine CallW.of (Split s 32 hs _) ?_
  rintro v1 H1 ⟨hk1, hn1, rfl, ho1⟩
  try simp only [newO_none] at hk1 hn1 ho1
  have hc := count_pcs (q := 32) s
  have hle : s.count 32 ≤ s.length := List.count_le_length
  simp (disch := first | omega | (simp; done) | assumption) [wr64, wrU8, wrU64, Nat.add_assoc, -getElem?_pos, List.getElem?_cons_zero, List.getElem?_cons_succ, ]
  refine CallW.of (DeleteFunc (keep := (· ≠ [])) ho1 (pcs_ne _) (by omega) (fun x Hx => (WEmpty x Hx).mono fun v H' ⟨h1, h2⟩ => ⟨by rw [h1]; simp, h2⟩)) ?_
  rintro v2 H2 ⟨C, hn2, hat2, hot2, hC, rfl⟩
  try simp only [newO_none] at hn2 hot2
  have hk2 : H.keepsAll H2 := fun x o hx => by
    have := hok _ _ hx
    rw [hot2 x (by omega)]
    exact hk1 x o hx
  have hw : (pcs 32 s).filter (fun x => decide (x ≠ [])) = wds 32 s := rfl
  rw [hw] at hC ⊢
  by_cases h0 : wds 32 s = []
  · rw [if_pos h0]
    simp (disch := first | omega | (simp; done) | assumption) [wr64, wrU8, wrU64, Nat.add_assoc, -getElem?_pos, List.getElem?_cons_zero, List.getElem?_cons_succ, ]
    refine CallW.val ClipE ?_
    simp (disch := first | omega | (simp; done) | assumption) [wr64, wrU8, wrU64, Nat.add_assoc, -getElem?_pos, List.getElem?_cons_zero, List.getElem?_cons_succ, ]
    exact ⟨hk2, by omega, .inr ⟨by rw [h0]; rfl, rfl⟩⟩
  · rw [if_neg h0]
    have hpos := List.length_pos_iff.2 h0
    simp (disch := first | omega | (simp; done) | assumption) [wr64, wrU8, wrU64, Nat.add_assoc, -getElem?_pos, List.getElem?_cons_zero, List.getElem?_cons_succ, ]
    refine CallW.val (ClipT hpos) ?_
    simp (disch := first | omega | (simp; done) | assumption) [wr64, wrU8, wrU64, Nat.add_assoc, -getElem?_pos, List.getElem?_cons_zero, List.getElem?_cons_succ, ]
    refine ⟨hk2, by omega, .inl (.inr ⟨H.next, 0, by simp, by simpa using h0, fun i hi => ?_⟩)⟩
    simp at hi
    unfold loadC
    rw [hat2, ← hC]
    simp [List.getElem?_take, hi]
def StI (l m : List (List UInt8)) (v w : AV) (H : AH) (k : Nat) (tm : Tms) (H' : AH) : Prop := H' = H ∧ ∃ i : Nat, k = l.length - i ∧ i ≤ l.length ∧ (∀ j (h : j < l.length) (h' : j < m.length), j < i → l[j] = m[j]) ∧ tm 0 = v ∧ tm 1 = w ∧ tm 5 = .int .i64 (i : Int)
theorem SameTexts {l m : List (List UInt8)} {v w : AV} {H : AH} (h : SZ H v (l.map AV.str)) (h' : SZ H w (m.map AV.str)) (hl : l.length ≤ 1000000000000) : ACall Tryd.prog 9 [v, w] H (fun x H' => x = .bool (decide (l = m)) ∧ H' = H) := by
  refine acall_enter fits9 (by simp) (by simp) fun hok => ?_
  change IWP Tryd.prog (.seq (part_ [0] ic9) (.seq (part_ [1, 0] ic9) (part_ [1, 1] ic9))) _ _ _
  generalize hX : part_ [1, 1] ic9 = X
  have hl1 := SZ.lenS h
  have hl2 := SZ.lenS h'
  rw [List.length_map] at hl1 hl2
  by_cases e : l.length = m.length
  · have e' : (l.length : Int) = (m.length : Int) := by omega
    simp (disch := first | omega | (simp; done) | assumption) [wr64, wrU8, wrU64, Nat.add_assoc, -getElem?_pos, List.getElem?_cons_zero, List.getElem?_cons_succ, part_, ic9, rs9, hl1, hl2, e, e']
    rw [← hX]
    simp (disch := first | omega | (simp; done) | assumption) [wr64, wrU8, wrU64, Nat.add_assoc, -getElem?_pos, List.getElem?_cons_zero, List.getElem?_cons_succ, part_, ic9]
    refine iwp_loop (StI l m v w H) l.length ⟨rfl, 0, rfl, by omega, by omega, by simp, by simp, by simp⟩ ?_
    rintro k tm _ ⟨rfl, i, rfl, hi, hb, t0, t1, t5⟩
    by_cases hlt : i < l.length
    · have hlt' : (i : Int) < (l.length : Int) := by omega
      have hlt2 : (i : Int) < (m.length : Int) := by omega
      obtain ⟨b, o, rfl, hld⟩ := SZ.get h i (by simpa using hlt)
      obtain ⟨b', o', rfl, hld'⟩ := SZ.get h' i (by simpa using (by omega : i < m.length))
      rw [List.getElem_map] at hld hld'
      have hm' : i < m.length := by omega
      by_cases hx : l[i] = m[i]
      · simp (disch := first | omega | (simp; done) | assumption) [wr64, wrU8, wrU64, Nat.add_assoc, -getElem?_pos, List.getElem?_cons_zero, List.getElem?_cons_succ, t0, t1, t5, hlt', hlt2, hlt, hm']
        refine Try.intro hld ?_
        simp (disch := first | omega | (simp; done) | assumption) [wr64, wrU8, wrU64, Nat.add_assoc, -getElem?_pos, List.getElem?_cons_zero, List.getElem?_cons_succ, t0, t1, t5, hlt', hlt2, hlt, hm']
        refine Try.intro hld' ?_
        simp (disch := first | omega | (simp; done) | assumption) [wr64, wrU8, wrU64, Nat.add_assoc, -getElem?_pos, List.getElem?_cons_zero, List.getElem?_cons_succ, t0, t1, t5, hx]
        exact ⟨l.length - (i + 1), by omega, rfl, i + 1, rfl, by omega, fun j hj hj' hji => by
          by_cases e : j = i
          · subst e; exact hx
          · exact hb j hj hj' (by omega), by simp [t0], by simp [t1], by simp⟩
      · have hne : ¬ l = m := fun e => hx (by subst e; rfl)
        simp (disch := first | omega | (simp; done) | assumption) [wr64, wrU8, wrU64, Nat.add_assoc, -getElem?_pos, List.getElem?_cons_zero, List.getElem?_cons_succ, t0, t1, t5, hlt', hlt2, hlt, hm']
        refine Try.intro hld ?_
        simp (disch := first | omega | (simp; done) | assumption) [wr64, wrU8, wrU64, Nat.add_assoc, -getElem?_pos, List.getElem?_cons_zero, List.getElem?_cons_succ, t0, t1, t5, hlt', hlt2, hlt, hm']
        refine Try.intro hld' ?_
        simp (disch := first | omega | (simp; done) | assumption) [wr64, wrU8, wrU64, Nat.add_assoc, -getElem?_pos, List.getElem?_cons_zero, List.getElem?_cons_succ, t0, t1, t5, hx, hne]
        exact AH.keepsAll_refl _
    · have hlt' : ¬ (i : Int) < (l.length : Int) := by omega
      have heq : l = m := List.ext_getElem e fun j h1 h2 => hb j h1 h2 (by omega)
      have hlm : ¬ i < m.length := by omega
      simp (disch := first | omega | (simp; done) | assumption) [wr64, wrU8, wrU64, Nat.add_assoc, -getElem?_pos, List.getElem?_cons_zero, List.getElem?_cons_succ, t0, t1, t5, hlt', hlt, hlm, hl1, hl2, heq]
      exact AH.keepsAll_refl _
  · have e' : ¬ (l.length : Int) = (m.length : Int) := by omega
    have hne : ¬ l = m := fun h => e (by rw [h])
    simp (disch := first | omega | (simp; done) | assumption) [wr64, wrU8, wrU64, Nat.add_assoc, -getElem?_pos, List.getElem?_cons_zero, List.getElem?_cons_succ, part_, ic9, rs9, hl1, hl2, e, e', hne]
    exact AH.keepsAll_refl _
end Go.Proofs.YtiopaoclcafkcaaDoor.LWords

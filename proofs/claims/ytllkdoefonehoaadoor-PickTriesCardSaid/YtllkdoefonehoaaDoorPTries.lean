/- The law PickTries. -/
import Derived.Test.YtllkdoefonehoaaDoorPTotal
import Derived.Test.YtllkdoefonehoaaDoorSt
set_option linter.unusedVariables false
set_option linter.unusedSimpArgs false
set_option maxRecDepth 10000
set_option maxHeartbeats 4000000
namespace Go.Proofs.YtllkdoefonehoaaDoor.PPick
open Go Go.RowKit Go.Proofs.YtllkdoefonehoaaDoor Go.Proofs.YtllkdoefonehoaaDoor.Abs Go.Proofs.YtllkdoefonehoaaDoor.Ic Go.Proofs.YtllkdoefonehoaaDoor.Vm Go.Proofs.YtllkdoefonehoaaDoor.Dg Go.Proofs.YtllkdoefonehoaaDoor.PVer Go.Proofs.YtllkdoefonehoaaDoor.CFn Go.Proofs.YtllkdoefonehoaaDoor.CBig Go.Proofs.YtllkdoefonehoaaDoor.Cm Go.Proofs.YtllkdoefonehoaaDoor.SP Go.Proofs.YtllkdoefonehoaaDoor.Srt Go.Proofs.YtllkdoefonehoaaDoor.St
/-- One put among others: where it stands in their order. -/
theorem one_at {l : List Cd} {t : Cd} {M : List Cd} (h : Stab (l ++ [t]) M) (hne : ∀ x ∈ l, cmpC x t ≠ 0) :
    M.length = l.length + 1 ∧ el M (l.countP fun x => decide (cmpC x t < 0)) = t ∧ ∀ k, k < M.length → k ≠ (l.countP fun x => decide (cmpC x t < 0)) → el M k ∈ l := by
  obtain ⟨ps, hp, hs, rfl⟩ := h
  have hN : (l ++ [t]).length = l.length + 1 := by simp
  rw [hN] at hp hs
  have hlen : ps.length = l.length + 1 := by rw [hp.length_eq]; simp
  have hg : ∀ p, p < l.length → (l ++ [t]).getD p d0 ∈ l := fun p hpl => by
    rw [List.getD_eq_getElem?_getD, List.getElem?_append_left hpl, List.getElem?_eq_getElem hpl]
    exact List.getElem_mem hpl
  have hgt : (l ++ [t]).getD l.length d0 = t := by
    rw [List.getD_eq_getElem?_getD, List.getElem?_append_right (by omega)]
    simp
  obtain ⟨k0, hk0, hpk⟩ := List.mem_iff_getElem.1 (hp.mem_iff.2 (List.mem_range.2 (Nat.lt_succ_self l.length)))
  have hnd : ps.Nodup := hp.nodup_iff.2 List.nodup_range
  have hlt : ∀ k (hk : k < ps.length), k ≠ k0 → ps[k] < l.length := fun k hk hne => by
    have h1 : ps[k] < l.length + 1 := List.mem_range.1 (hp.mem_iff.1 (List.getElem_mem hk))
    have h2 : ps[k] ≠ l.length := fun e => hne (by
      have := (List.getElem_inj hnd (i := k) (j := k0) (h₀ := hk) (h₁ := hk0)).1 (by rw [e, hpk])
      exact this)
    omega
  have hel : ∀ k (hk : k < ps.length), el (ps.map fun p => (l ++ [t]).getD p d0) k = (l ++ [t]).getD ps[k] d0 := fun k hk => by
    unfold el
    rw [List.getD_eq_getElem?_getD, List.getElem?_map, List.getElem?_eq_getElem hk]
    rfl
  have hat : el (ps.map fun p => (l ++ [t]).getD p d0) k0 = t := by rw [hel k0 hk0, hpk, hgt]
  have hmem : ∀ k, k < ps.length → k ≠ k0 → el (ps.map fun p => (l ++ [t]).getD p d0) k ∈ l := fun k hk hne => by
    rw [hel k hk]; exact hg _ (hlt k hk hne)
  have hleft : ∀ k, k < k0 → cmpC (el (ps.map fun p => (l ++ [t]).getD p d0) k) t < 0 := fun k hk => by
    have := hs k k0 (Nat.zero_le _) hk (by omega)
    rw [gt_of (by omega), gt_of hk0, hpk] at this
    unfold pr at this
    simp only [hgt] at this
    have h2 := hmem k (by omega) (by omega)
    rw [hel k (by omega)] at h2 ⊢
    rcases this with h | ⟨h, _⟩
    · exact h
    · exact absurd h (hne _ h2)
  have hright : ∀ k, k0 < k → k < ps.length → ¬ cmpC (el (ps.map fun p => (l ++ [t]).getD p d0) k) t < 0 := fun k hk hkl => by
    have := hs k0 k (Nat.zero_le _) hk (by omega)
    rw [gt_of hk0, gt_of hkl, hpk] at this
    unfold pr at this
    simp only [hgt] at this
    rw [hel k hkl]
    have han := cmpC_ord.anti t ((l ++ [t]).getD ps[k] d0)
    rcases this with h | ⟨h, _⟩
    · omega
    · omega
  have hcount : k0 = l.countP fun x => decide (cmpC x t < 0) := by
    have hperm : (ps.map fun p => (l ++ [t]).getD p d0).Perm (l ++ [t]) := by
      have h1 := hp.map (fun p => (l ++ [t]).getD p d0)
      have h2 := map_getD d0 (l ++ [t])
      rw [hN] at h2
      rw [h2] at h1
      exact h1
    have h1 := hperm.countP_eq (fun x => decide (cmpC x t < 0))
    rw [List.countP_append] at h1
    have hself : List.countP (fun x => decide (cmpC x t < 0)) [t] = 0 := by
      rw [List.countP_eq_zero]
      intro x hx
      obtain rfl : x = t := by simpa using hx
      have := cmpC_ord.refl x
      simp
      omega
    rw [hself, Nat.add_zero] at h1
    rw [← h1]
    generalize hM : (ps.map fun p => (l ++ [t]).getD p d0) = M at *
    have hMl : M.length = ps.length := by rw [← hM]; simp
    have hek : ∀ k (hk : k < M.length), el M k = M[k] := fun k hk => by unfold el; rw [List.getD_eq_getElem?_getD, List.getElem?_eq_getElem hk]; rfl
    conv => rhs; rw [← List.take_append_drop k0 M]
    rw [List.countP_append]
    have e1 : List.countP (fun x => decide (cmpC x t < 0)) (M.take k0) = k0 := by
      have : (M.take k0).length = k0 := by simp; omega
      conv => rhs; rw [← this]
      rw [List.countP_eq_length]
      intro x hx
      obtain ⟨k, hk, rfl⟩ := List.mem_iff_getElem.1 hx
      have hk' : k < k0 := by simp at hk; omega
      have := hleft k hk'
      rw [hek k (by omega)] at this
      simpa using this
    have e2 : List.countP (fun x => decide (cmpC x t < 0)) (M.drop k0) = 0 := by
      rw [List.countP_eq_zero]
      intro x hx
      obtain ⟨k, hk, rfl⟩ := List.mem_iff_getElem.1 hx
      have hk' : k0 + k < M.length := by simp at hk; omega
      rw [List.getElem_drop, ← hek _ hk']
      by_cases e : k = 0
      · subst e
        rw [Nat.add_zero, hat]
        have := cmpC_ord.refl t
        simp
        omega
      · have := hright (k0 + k) (by omega) (by omega)
        simpa using this
    omega
  rw [← hcount]
  exact ⟨by simp [hlen], hat, fun k hk hne => hmem k (by simpa using hk) hne⟩
/-! ### The others, and the one -/
def nb (newer : Int) (i : Nat) : Bool := decide (bits .and .i64 (newer.fdiv (2 ^ min i IntKind.i64.bits)) 1 = 1)
def oth (newer : Int) (i : Nat) : Cd := ⟨103 :: Lib.itoa (i : Int) ++ conf, 103 :: Lib.itoa (i : Int), false, 0, 0, if nb newer i then [51] else [49]⟩
def oths (newer : Int) (n : Nat) : List Cd := (List.range n).map (oth newer)
def one (tries i : Nat) : Cd := ⟨joinL [116] true ((tries - i : Nat) : Int) (i : Int), [116], true, ((tries - i : Nat) : Int), (i : Int), [50]⟩
theorem oths_succ (newer : Int) (n : Nat) : oths newer (n + 1) = oths newer n ++ [oth newer n] := by simp [oths, List.range_succ]
theorem oth_stem (newer : Int) (i : Nat) : (oth newer i).stem ≠ [116] := by
  unfold oth
  intro h
  simp at h
def ahead (newer : Int) (n : Nat) : Nat := (List.range n).countP (nb newer)
theorem ahead_succ (newer : Int) (n : Nat) : ahead newer (n + 1) = ahead newer n + (if nb newer n then 1 else 0) := by
  unfold ahead
  rw [List.range_succ, List.countP_append]
  simp [List.countP_cons]
theorem ahead_le (newer : Int) (n : Nat) : ahead newer n ≤ n := by
  have := List.countP_le_length (p := nb newer) (l := List.range n)
  simpa [ahead] using this
theorem v31 : cmpV [51] [50] = 1 := by rw [cmpV1 (by decide) (by decide) (by decide) (by decide)]; decide
theorem v12 : cmpV [49] [50] = -1 := by rw [cmpV1 (by decide) (by decide) (by decide) (by decide)]; decide
theorem oth_one (newer : Int) (k tries i : Nat) : (cmpC (oth newer k) (one tries i) < 0 ↔ (i < tries → nb newer k = true)) ∧ cmpC (oth newer k) (one tries i) ≠ 0 := by
  have hro : rankC (oth newer k) = 0 := rfl
  have hbad : badC (one tries i) = decide (tries ≤ i) := by
    unfold badC one
    simp only [Bool.true_and]
    by_cases h : tries ≤ i
    · simp [h]
    · simp [h]; omega
  have hn := cmpC_neg (oth newer k) (one tries i)
  have hv : cmpV (oth newer k).ver (one tries i).ver = if nb newer k then 1 else -1 := by
    show cmpV (if nb newer k then [51] else [49]) [50] = _
    split
    · exact v31
    · exact v12
  by_cases hlt : i < tries
  · have hr : rankC (one tries i) = 0 := by unfold rankC; rw [hbad, decide_eq_false (by omega)]; rfl
    rw [hro, hr, hv] at hn
    cases hb : nb newer k with
    | true =>
      rw [hb] at hn
      simp only [if_true] at hn
      have : cmpC (oth newer k) (one tries i) < 0 := hn.2 (by simp)
      exact ⟨⟨fun _ _ => rfl, fun _ => this⟩, fun e => absurd this (by rw [e]; decide)⟩
    | false =>
      rw [hb] at hn
      simp only [Bool.false_eq_true, if_false] at hn
      have h1 : ¬ cmpC (oth newer k) (one tries i) < 0 := fun e => by have := hn.1 e; simp at this; try omega
      refine ⟨⟨fun h => absurd h h1, fun h => by have := h hlt; cases this⟩, fun h0 => ?_⟩
      have hm := cmpC_neg (one tries i) (oth newer k)
      have hv2 := cmpV_ord.anti (oth newer k).ver (one tries i).ver
      rw [hv, hb] at hv2
      simp only [Bool.false_eq_true, if_false] at hv2
      rw [hro, hr, hv2] at hm
      have h2 : cmpC (one tries i) (oth newer k) < 0 := hm.2 (by first | omega | simp)
      have h3 := cmpC_ord.anti (oth newer k) (one tries i)
      omega
  · have hr : rankC (one tries i) = 1 := by unfold rankC; rw [hbad, decide_eq_true (by omega)]; rfl
    rw [hro, hr] at hn
    have : cmpC (oth newer k) (one tries i) < 0 := hn.2 (by omega)
    exact ⟨⟨fun _ h => absurd h hlt, fun _ => this⟩, fun e => absurd this (by rw [e]; decide)⟩
theorem oth_count (newer : Int) (n tries i : Nat) : (oths newer n).countP (fun x => decide (cmpC x (one tries i) < 0)) = if i < tries then ahead newer n else n := by
  unfold oths ahead
  rw [List.countP_map]
  by_cases hlt : i < tries
  · rw [if_pos hlt]
    refine List.countP_congr fun k _ => ?_
    have := (oth_one newer k tries i).1
    simp only [Function.comp, decide_eq_true_eq]
    rw [this]
    exact ⟨fun h => h hlt, fun h _ => h⟩
  · rw [if_neg hlt]
    have : (List.range n).countP ((fun x => decide (cmpC x (one tries i) < 0)) ∘ oth newer) = (List.range n).length := by
      rw [List.countP_eq_length]
      intro k _
      have := (oth_one newer k tries i).1
      simp only [Function.comp, decide_eq_true_eq]
      rw [this]
      exact fun h => absurd h hlt
    rw [this]; simp
theorem tries_at {newer : Int} {n tries i : Nat} {M : List Cd} (h : Stab (oths newer n ++ [one tries i]) M) :
    M.length = n + 1 ∧ el M (if i < tries then ahead newer n else n) = one tries i ∧ ∀ k, k < M.length → k ≠ (if i < tries then ahead newer n else n) → (el M k).stem ≠ [116] := by
  have := one_at h fun x hx => by
    obtain ⟨k, _, rfl⟩ := List.mem_map.1 hx
    exact (oth_one newer k tries i).2
  rw [oth_count] at this
  obtain ⟨h1, h2, h3⟩ := this
  refine ⟨by rw [h1]; simp [oths], h2, fun k hk hne => ?_⟩
  obtain ⟨j, _, e⟩ := List.mem_map.1 (h3 k hk hne)
  rw [← e]
  exact oth_stem newer j
/-! ### Rows put behind a row -/
theorem app_copy {H : AH} {b q : Nat} {t : TypeId} {ro : Bool} {L : List (List AV)} (hb : H.at_ b = some (.cells false t [])) (hq : H.at_ q = some (.cells ro t L.flatten)) (hA : All 6 L) (h1 : ∀ l ∈ L, ∀ x ∈ l, AV.one x = true) (h0 : L ≠ []) (hl : L.length ≤ 1000) :
    appendK H false t 6 72 (.slice b 0 0 6) (.slice q 0 L.length 6) = some (.slice H.next 0 L.length 6, (H.set b none).new (.cells false t L.flatten)) := by
  have hn0 : ¬ L.length = 0 := fun e => h0 (List.eq_nil_of_length_eq_zero e)
  have hsrc : srcCells H 6 L.length (.slice q 0 L.length 6) = some L.flatten := by
    have : loadC H q 0 (some (L.length * 6)) = some (.agg L.flatten) := load_own hq (flat_len hA)
    simp only [srcCells, this]
  simp only [appendK, isStrV, if_true, appendA, lenA, Option.bind_some, if_neg hn0, hsrc, flat_mem h1, hb]
  simp
  omega
theorem app_one {H : AH} {p z : Nat} {t : TypeId} {ro : Bool} {L : List (List AV)} {x : List AV} (hp : H.at_ p = some (.cells false t L.flatten)) (hz : H.at_ z = some (.cells ro t x)) (hA : All 6 L) (hx : x.length = 6) (h1 : x.all AV.one = true) (hl : L.length ≤ 1000) :
    appendK H false t 6 72 (.slice p 0 L.length 6) (.slice z 0 1 6) = some (.slice H.next 0 (L.length + 1) 6, (H.set p none).new (.cells false t (L ++ [x]).flatten)) := by
  have hsrc : srcCells H 6 1 (.slice z 0 1 6) = some x := by
    have : loadC H z 0 (some (1 * 6)) = some (.agg x) := load_own hz (by rw [hx])
    simp only [srcCells, this]
  simp only [appendK, isStrV, if_true, appendA, lenA, Option.bind_some, if_neg (show ¬ (1 = 0) by omega), hsrc, h1, hp]
  rw [if_pos ⟨trivial, trivial, trivial, flat_len hA, by omega, by omega⟩]
  simp
abbrev TrC : ICode := ic6
abbrev TrQ (H : AH) : IPost := fnPost rs6 fun v H' => v = .bool true ∧ H.keepsAll H'
abbrev tCnt : Nat := 26
def TrA (newer : Int) (n tries : Nat) (H : AH) (kk : Nat) (tm : Tms) (H' : AH) : Prop := H.keepsAll H' ∧ H.next ≤ H'.next ∧ ∃ i : Nat, kk = n - i ∧ i ≤ n ∧ OutF H.next H' tE 6 (tm 7) (rowsC (oths newer i)) ∧
  tm 0 = .int .i64 (n : Int) ∧ tm 1 = .int .i64 newer ∧ tm 2 = .int .i64 (tries : Int) ∧ tm 8 = .int .i64 (ahead newer i : Int) ∧ tm 9 = .int .i64 (i : Int)
def TrM (newer : Int) (n tries : Nat) (H : AH) (tm : Tms) (H' : AH) : Prop := H.keepsAll H' ∧ H.next ≤ H'.next ∧ OutF H.next H' tE 6 (tm 7) (rowsC (oths newer n)) ∧
  tm 0 = .int .i64 (n : Int) ∧ tm 2 = .int .i64 (tries : Int) ∧ tm 8 = .int .i64 (ahead newer n : Int)
theorem Tr1 {C : ICode} (hC : C = TrC) {n0 newer tr0 : Int} {H : AH} (hok : H.ok)
    (hX : ∀ n tries tm H', 0 < n → n ≤ 10 → 0 < tries → tries ≤ 8 → TrM newer n tries H tm H' → IWP Tryd.prog (part_ [1, 1, 1, 1, 1, 1] C) (TrQ H) tm H') : IWP Tryd.prog C (TrQ H) (tm0 [.int .i64 n0, .int .i64 newer, .int .i64 tr0]) H := by
  obtain ⟨n, hn, hn9⟩ := mask_mod n0 10 (by omega)
  obtain ⟨r, hr, hr8⟩ := mask_small 3 (by omega) tr0
  have hn' : (bits .and .i64 n0 255).tmod 10 = (n : Int) := hn
  have hr' : bits .and .i64 tr0 7 = (r : Int) := hr
  clear hn hr
  have hcut : C = (.seq (part_ [0] TrC) (.seq (part_ [1, 0] TrC) (.seq (part_ [1, 1, 0] TrC) (.seq (part_ [1, 1, 1, 0] TrC) (.seq (part_ [1, 1, 1, 1, 0] TrC) (.seq (part_ [1, 1, 1, 1, 1, 0] TrC) (part_ [1, 1, 1, 1, 1, 1] TrC))))))) := by rw [hC]; kernel_rfl
  have hX' := hX (n + 1) (r + 1)
  rw [show part_ [1, 1, 1, 1, 1, 1] C = part_ [1, 1, 1, 1, 1, 1] TrC by rw [hC]] at hX'
  rw [hcut]
  clear hcut hC hX
  generalize part_ [1, 1, 1, 1, 1, 1] TrC = X at *
  simp (disch := first | omega | (simp; done) | assumption) [wr64, wrU8, wrU64, Nat.add_assoc, -getElem?_pos, List.getElem?_cons_zero, List.getElem?_cons_succ, part_, TrC, ic6, hn', hr']
  have e1 : (n : Int) + 1 = ((n + 1 : Nat) : Int) := by omega
  have e2 : (r : Int) + 1 = ((r + 1 : Nat) : Int) := by omega
  refine iwp_loop (TrA newer (n + 1) (r + 1) H) (n + 1) ⟨AH.keepsAll_refl _, Nat.le_refl _, 0, rfl, by omega, .inl ⟨rfl, by simp⟩, by simp, by simp, by simp, by simp [ahead], by simp⟩ ?_
  generalize n + 1 = n at *
  generalize r + 1 = tries at *
  rintro kk tm H1 ⟨hk, hnx, i, rfl, hi, hd, t0, t1, t2, t8, t9⟩
  by_cases hlt : i < n
  · have hlt' : (i : Int) < (n : Int) := by omega
    have has := ahead_succ newer i
    have hal := ahead_le newer i
    have hos := oths_succ newer i
    have hol : (oths newer i).length = i := by simp [oths]
    have hil : (Lib.itoa (i : Int)).length ≤ 21 := Lib.itoa_length_le _ (by omega) (by omega)
    obtain ⟨v1, H3, a1, o1, n1, k1⟩ := appendOutF (bytes := 72) (x := cdC (oth newer i)) hd (all6 _) (by omega) (by omega) rfl rfl (by simp [hol]; omega) (by simp [hol]; omega)
    have hb : nb newer i = decide (bits .and .i64 (newer.fdiv (2 ^ min i IntKind.i64.bits)) 1 = 1) := rfl
    have fin : ∀ (tm' : Tms), tm' 7 = v1 → tm' 0 = .int .i64 (n : Int) → tm' 1 = .int .i64 newer → tm' 2 = .int .i64 (tries : Int) → tm' 8 = .int .i64 (ahead newer (i + 1) : Int) → tm' 9 = .int .i64 ((i : Int) + 1) → ∃ m, m < n - i ∧ TrA newer n tries H m tm' H3 := fun tm' q7 q0 q1 q2 q8 q9 =>
      ⟨n - (i + 1), by omega, k1.keepsAll hk hok, by omega, i + 1, rfl, by omega, by rw [q7, hos]; simpa [rowsC] using o1, q0, q1, q2, q8, by simpa using q9⟩
    cases hbb : nb newer i with
    | true =>
      have hbt : bits .and .i64 (newer.fdiv (2 ^ min i IntKind.i64.bits)) 1 = 1 := by rw [hb] at hbb; simpa using hbb
      rw [hbb] at has
      simp only [if_true] at has
      have hoc : cdC (oth newer i) = [.str (103 :: Lib.itoa (i : Int) ++ conf), .str (103 :: Lib.itoa (i : Int)), .bool false, .int .i64 0, .int .i64 0, .str [51]] := by unfold oth cdC; rw [hbb]; rfl
      rw [hoc] at a1
      have ha8 : (ahead newer i : Int) + 1 = ((ahead newer (i + 1) : Nat) : Int) := by omega
      have hale : ahead newer (i + 1) ≤ 1000 := by omega
      generalize ahead newer (i + 1) = A1 at *
      generalize ahead newer i = A0 at *
      have hi0 : ¬ (i : Int) < 0 := by omega
      simp (disch := first | omega | (simp; done) | assumption) [wr64, wrU8, wrU64, Nat.add_assoc, -getElem?_pos, List.getElem?_cons_zero, List.getElem?_cons_succ, t0, t1, t2, t8, t9, hlt, hlt', hi0, hbt]
      refine CallW.val (CNum.Num (i : Int) (by omega) (by omega) _) ?_
      simp (disch := first | omega | (simp; done) | assumption) [wr64, wrU8, wrU64, Nat.add_assoc, -getElem?_pos, List.getElem?_cons_zero, List.getElem?_cons_succ, t0, t1, t2, t8, t9]
      refine Try.guard (by omega) ?_
      simp (disch := first | omega | (simp; done) | assumption) [wr64, wrU8, wrU64, Nat.add_assoc, -getElem?_pos, List.getElem?_cons_zero, List.getElem?_cons_succ, t0, t1, t2, t8, t9]
      refine Try.guard (by omega) ?_
      simp (disch := first | omega | (simp; done) | assumption) [wr64, wrU8, wrU64, Nat.add_assoc, -getElem?_pos, List.getElem?_cons_zero, List.getElem?_cons_succ, t0, t1, t2, t8, t9]
      refine CallW.val (CNum.Num (i : Int) (by omega) (by omega) _) ?_
      simp (disch := first | omega | (simp; done) | assumption) [wr64, wrU8, wrU64, Nat.add_assoc, -getElem?_pos, List.getElem?_cons_zero, List.getElem?_cons_succ, t0, t1, t2, t8, t9]
      refine Try.guard (by omega) ?_
      simp (disch := first | omega | (simp; done) | assumption) [wr64, wrU8, wrU64, Nat.add_assoc, -getElem?_pos, List.getElem?_cons_zero, List.getElem?_cons_succ, t0, t1, t2, t8, t9]
      refine Try.intro a1 ?_
      simp (disch := first | omega | (simp; done) | assumption) [wr64, wrU8, wrU64, Nat.add_assoc, -getElem?_pos, List.getElem?_cons_zero, List.getElem?_cons_succ, t0, t1, t2, t8, t9, ha8]
      exact fin _ (by simp) (by simp [t0]) (by simp [t1]) (by simp [t2]) (by simp []) (by simp)
    | false =>
      have hbt : ¬ bits .and .i64 (newer.fdiv (2 ^ min i IntKind.i64.bits)) 1 = 1 := by rw [hb] at hbb; simpa using hbb
      rw [hbb] at has
      simp only [Bool.false_eq_true, if_false, Nat.add_zero] at has
      have hoc : cdC (oth newer i) = [.str (103 :: Lib.itoa (i : Int) ++ conf), .str (103 :: Lib.itoa (i : Int)), .bool false, .int .i64 0, .int .i64 0, .str [49]] := by unfold oth cdC; rw [hbb]; rfl
      rw [hoc] at a1
      rw [has] at fin
      generalize ahead newer i = A0 at *
      have hi0 : ¬ (i : Int) < 0 := by omega
      simp (disch := first | omega | (simp; done) | assumption) [wr64, wrU8, wrU64, Nat.add_assoc, -getElem?_pos, List.getElem?_cons_zero, List.getElem?_cons_succ, t0, t1, t2, t8, t9, hlt, hlt', hi0, hbt]
      refine CallW.val (CNum.Num (i : Int) (by omega) (by omega) _) ?_
      simp (disch := first | omega | (simp; done) | assumption) [wr64, wrU8, wrU64, Nat.add_assoc, -getElem?_pos, List.getElem?_cons_zero, List.getElem?_cons_succ, t0, t1, t2, t8, t9]
      refine Try.guard (by omega) ?_
      simp (disch := first | omega | (simp; done) | assumption) [wr64, wrU8, wrU64, Nat.add_assoc, -getElem?_pos, List.getElem?_cons_zero, List.getElem?_cons_succ, t0, t1, t2, t8, t9]
      refine Try.guard (by omega) ?_
      simp (disch := first | omega | (simp; done) | assumption) [wr64, wrU8, wrU64, Nat.add_assoc, -getElem?_pos, List.getElem?_cons_zero, List.getElem?_cons_succ, t0, t1, t2, t8, t9]
      refine CallW.val (CNum.Num (i : Int) (by omega) (by omega) _) ?_
      simp (disch := first | omega | (simp; done) | assumption) [wr64, wrU8, wrU64, Nat.add_assoc, -getElem?_pos, List.getElem?_cons_zero, List.getElem?_cons_succ, t0, t1, t2, t8, t9]
      refine Try.guard (by omega) ?_
      simp (disch := first | omega | (simp; done) | assumption) [wr64, wrU8, wrU64, Nat.add_assoc, -getElem?_pos, List.getElem?_cons_zero, List.getElem?_cons_succ, t0, t1, t2, t8, t9]
      refine Try.intro a1 ?_
      simp (disch := first | omega | (simp; done) | assumption) [wr64, wrU8, wrU64, Nat.add_assoc, -getElem?_pos, List.getElem?_cons_zero, List.getElem?_cons_succ, t0, t1, t2, t8, t9]
      exact fin _ (by simp) (by simp [t0]) (by simp [t1]) (by simp [t2]) (by simp [t8]) (by simp)
  · have hlt' : ¬ (i : Int) < (n : Int) := by omega
    obtain rfl : i = n := by omega
    simp (disch := first | omega | (simp; done) | assumption) [wr64, wrU8, wrU64, Nat.add_assoc, -getElem?_pos, List.getElem?_cons_zero, List.getElem?_cons_succ, t0, t1, t2, t8, t9, hlt, hlt']
    exact hX' _ _ (by omega) (by omega) (by omega) (by omega) ⟨hk, hnx, by simpa using hd, by simp [t0], by simp [t2], by simp [t8]⟩
def TrB (newer : Int) (n tries : Nat) (H : AH) (kk : Nat) (tm : Tms) (H' : AH) : Prop := H.keepsAll H' ∧ H.next ≤ H'.next ∧ ∃ i : Nat, kk = tries + 1 - i ∧ i ≤ tries + 1 ∧ tm 0 = .int .i64 (n : Int) ∧ tm 2 = .int .i64 (tries : Int) ∧ tm 8 = .int .i64 (ahead newer n : Int) ∧ tm 12 = .int .i64 (i : Int) ∧
  (i ≤ tries → ∃ q b, tm 7 = .slice q 0 n 6 ∧ H'.at_ q = some (.cells false tE (rowsC (oths newer n)).flatten) ∧ H.next ≤ q ∧ q < H'.next ∧ tm 11 = .ptr b 0 ∧ H.next ≤ b ∧ b < H'.next ∧ H'.at_ b = some (.cells false tCnt [.bool true, .int .i64 ((tries - i : Nat) : Int), .int .i64 (i : Int)]))
def TS (n tries q b i A : Nat) (tm : Tms) : Prop := tm 0 = .int .i64 (n : Int) ∧ tm 2 = .int .i64 (tries : Int) ∧ tm 7 = .slice q 0 n 6 ∧ tm 8 = .int .i64 (A : Int) ∧ tm 11 = .ptr b 0 ∧ tm 12 = .int .i64 (i : Int)
def AtI (n tries q b i A q2 K : Nat) (H1 : AH) (kk : Nat) (tm : Tms) (H' : AH) : Prop := H' = H1 ∧ ∃ k : Nat, kk = n + 1 - k ∧ k ≤ n + 1 ∧ tm 14 = .slice q2 0 (n + 1) 6 ∧ tm 15 = .int .i64 (if K < k then (K : Int) else -1) ∧ tm 16 = .int .i64 (k : Int) ∧ TS n tries q b i A tm
def AtR (n tries q b i A q2 K : Nat) (H1 : AH) (tm : Tms) (H' : AH) : Prop := H' = H1 ∧ tm 14 = .slice q2 0 (n + 1) 6 ∧ tm 15 = .int .i64 (K : Int) ∧ TS n tries q b i A tm
theorem own_stem {H : AH} {q : Nat} {t : TypeId} {L : List Cd} (hq : H.at_ q = some (.cells false t (rowsC L).flatten)) {i : Nat} (hi : i < L.length) : loadC H q (i * 6 + 1) none = some (.str (el L i).stem) := by
  have h2 := load_flat1 (k := i) (i := 1) hq (all6 L) (by simpa using hi) (by omega)
  have e : el L i = L[i] := by unfold el; rw [List.getD_eq_getElem?_getD, List.getElem?_eq_getElem hi]; rfl
  rw [e, h2]
  simp [cdC]
theorem one_bad (tries i : Nat) : badC (one tries i) = decide (tries ≤ i) := by
  unfold badC one
  simp only [Bool.true_and]
  by_cases h : tries ≤ i
  · simp [h]
  · simp [h]; omega
theorem Tr2 {C : ICode} (hC : C = TrC) {newer : Int} {n tries : Nat} {H H1 : AH} {tm : Tms} (hok : H.ok) (hn : 0 < n) (hn9 : n ≤ 10) (ht : 0 < tries) (ht8 : tries ≤ 8) (hM : TrM newer n tries H tm H1) : IWP Tryd.prog (part_ [1, 1, 1, 1, 1, 1] C) (TrQ H) tm H1 := by
  obtain ⟨hk, hnx, hd, t0, t2, t8⟩ := hM
  have hol : (rowsC (oths newer n)).length = n := by simp [oths]
  have hahe := ahead_le newer n
  rcases hd with ⟨h, _⟩ | ⟨q, t7, _, hq, hqB, hqn⟩
  · rw [h] at hol; simp at hol; omega
  rw [hol] at t7
  subst hC
  simp (disch := first | omega | (simp; done) | assumption) [wr64, wrU8, wrU64, Nat.add_assoc, -getElem?_pos, List.getElem?_cons_zero, List.getElem?_cons_succ, part_, TrC, ic6, rs6, t2]
  have hqne : ¬ q = H1.next := by omega
  refine iwp_loop (TrB newer n tries H) (tries + 1) ⟨by ((repeat (first | exact hk | refine keeps_set hok ?_ (by first | omega | (simp; done) | (simp; omega)) | refine keeps_new hok ?_ (by first | omega | (simp; done) | (simp; omega)))); done), by simp; omega, 0, rfl, by omega, by simp [t0], by simp [t2], by simp [t8], by simp, fun _ => ⟨q, H1.next, by simp [t7], by simp [hqne, hq], hqB, by simp; omega, by simp, by omega, by simp, by simp⟩⟩ ?_
  clear hk hnx hq hqB hqn hqne t0 t2 t7 t8 tm
  rintro kk tm H1 ⟨hk, hnx, i, rfl, hi, t0, t2, t8, t12, hrest⟩
  by_cases hle : i ≤ tries
  · have hle' : (i : Int) ≤ (tries : Int) := by omega
    obtain ⟨q, b, t7, hq, hqB, hqn, t11, hbB, hbn, hb⟩ := hrest hle
    have hqb : ¬ q = b := fun e => by
      subst e
      rw [hb] at hq
      injection hq with hq
      injection hq with _ h2 _
      exact absurd h2 (by decide)
    have hbq : ¬ b = q := fun e => hqb e.symm
    have hjl : (joinL [116] true ((tries - i : Nat) : Int) (i : Int)) = (one tries i).file := rfl
    have hx : cdC (one tries i) = [.str (joinL [116] true ((tries - i : Nat) : Int) (i : Int)), .str [116], .bool true, .int .i64 ((tries - i : Nat) : Int), .int .i64 (i : Int), .str [50]] := rfl
    have hJ := JoinFile [116] (by simp) true ((tries - i : Nat) : Int) (i : Int) (by omega) (by omega) (by omega) (by omega)
    have hone : ∀ l ∈ rowsC (oths newer n), ∀ x ∈ l, AV.one x = true := fun l hl x hx => by
      obtain ⟨c, _, rfl⟩ := List.mem_map.1 hl
      exact List.all_eq_true.1 (cdC_one c) x hx
    have hne0 : rowsC (oths newer n) ≠ [] := fun e => by rw [e] at hol; simp at hol; omega
    have hAll := all6 (oths newer n)
    have hO : ∀ (B : Nat) (H : AH) (v : AV), OutF B H tE 6 v (rowsC (oths newer n) ++ [cdC (one tries i)]) → ACall Tryd.prog 8 [v] H (fun r H' => H.keepsAll H' ∧ H.next ≤ H'.next ∧ ∃ q M, r = .slice q 0 (n + 1) 6 ∧ H'.at_ q = some (.cells false tE (rowsC M).flatten) ∧ M.length = n + 1 ∧ el M (if i < tries then ahead newer n else n) = one tries i ∧ ∀ k, k < n + 1 → k ≠ (if i < tries then ahead newer n else n) → (el M k).stem ≠ [116]) := fun B H v h => by
      have h' : OutF B H tE 6 v (rowsC (oths newer n ++ [one tries i])) := by unfold rowsC at h ⊢; rw [List.map_append]; exact h
      refine (Order h' (by simp [oths]; omega) (fun c hc => ?_)).mono ?_
      · rcases List.mem_append.1 hc with hc | hc
        · obtain ⟨k, _, rfl⟩ := List.mem_map.1 hc
          unfold VOk oth
          simp only []
          split <;> simp
        · obtain rfl : c = one tries i := by simpa using hc
          unfold VOk one; simp
      · rintro r H' ⟨h1, h2, M, h3, h4⟩
        obtain ⟨m1, m2, m3⟩ := tries_at h3
        rcases h4 with ⟨h, _⟩ | ⟨q, rfl, _, hq, _, _⟩
        · have := congrArg List.length h
          simp [m1] at this
        · exact ⟨h1, h2, q, M, by simp [m1], hq, m1, m2, fun k hk => m3 k (by rw [m1]; exact hk)⟩
    rw [hx] at hO
    have hcp := fun (H : AH) (b' q' : Nat) (h1 : H.at_ b' = some (.cells false tE [])) (h2 : H.at_ q' = some (.cells false tE (rowsC (oths newer n)).flatten)) => app_copy h1 h2 hAll hone hne0 (by omega)
    have hao := fun (H : AH) (p' z' : Nat) (x : List AV) (h1 : H.at_ p' = some (.cells false tE (rowsC (oths newer n)).flatten)) (h2 : H.at_ z' = some (.cells false tE x)) (h3 : x.length = 6) (h4 : x.all AV.one = true) => app_one h1 h2 hAll h3 h4 (by omega)
    rw [hol] at hcp hao
    have hol' := hol
    generalize hR : rowsC (oths newer n) = R at *
    generalize joinL [116] true ((tries - i : Nat) : Int) (i : Int) = J at *
    have hri : ((tries - i : Nat) : Int) = (tries : Int) - (i : Int) := by omega
    have hbnx : b < H1.next := hbn
    have hqnx : q < H1.next := hqn
    simp (disch := first | omega | (simp; done) | assumption) [wr64, wrU8, wrU64, Nat.add_assoc, -getElem?_pos, List.getElem?_cons_zero, List.getElem?_cons_succ, t0, t2, t7, t8, t11, t12, hle, hle', hb]
    refine CallW.val (hJ _) ?_
    have e1 : ¬ b = H1.next := by omega
    have e2 : ¬ b = H1.next + 1 := by omega
    have e3 : ¬ b = H1.next + 1 + 1 := by omega
    have e4 : ¬ q = H1.next := by omega
    have e5 : ¬ q = H1.next + 1 := by omega
    simp (disch := first | omega | (simp; done) | assumption) [wr64, wrU8, wrU64, Nat.add_assoc, -getElem?_pos, List.getElem?_cons_zero, List.getElem?_cons_succ, t0, t2, t7, t8, t11, t12, hb, e1, e2, e3, e4, e5]
    have hbp : ∀ (X : AH) (k : Nat), X.bump.at_ k = X.at_ k := fun _ _ => rfl
    have hbp2 : ∀ (X : AH), X.bump.next = X.next + 1 := fun _ => rfl
    refine Try.intro (hcp _ _ _ (by simp [hbp]) (by simp [hbp, e4, hq])) ?_
    simp (disch := first | omega | (simp; done) | assumption) [wr64, wrU8, wrU64, Nat.add_assoc, -getElem?_pos, List.getElem?_cons_zero, List.getElem?_cons_succ, t0, t2, t7, t8, t11, t12, hb, e1, e2, e3, e4, e5, hbp, hbp2]
    refine Try.intro (hao _ _ _ [.str J, .str [116], .bool true, .int .i64 ((tries - i : Nat) : Int), .int .i64 (i : Int), .str [50]] (by simp [hbp, hbp2]) (by simp [hbp, hbp2]) rfl rfl) ?_
    simp (disch := first | omega | (simp; done) | assumption) [wr64, wrU8, wrU64, Nat.add_assoc, -getElem?_pos, List.getElem?_cons_zero, List.getElem?_cons_succ, t0, t2, t7, t8, t11, t12, hb, e1, e2, e3, e4, e5, hbp, hbp2]
    refine CallW.okof (hO H.next _ _ (.inr ⟨_, by rw [List.length_append, hol']; rfl, by simp, by simp [hbp2], by first | omega | (simp [hbp2]; omega), by simp [hbp2]⟩)) ?_
    rintro r H2 ⟨hk2, hn2, q2, M, rfl, hq2, hM1, hM2, hM3⟩ hok2
    try simp only [newO_none, newO_some] at hk2 hn2
    have e6 : ¬ b = H1.next + 2 := by omega
    have e7 : ¬ b = H1.next + 3 := by omega
    have e8 : ¬ q = H1.next + 2 := by omega
    have e9 : ¬ q = H1.next + 3 := by omega
    have hb2 := hk2 b (.cells false tCnt [.bool true, .int .i64 ((tries - i : Nat) : Int), .int .i64 (i : Int)]) (by simp [e1, e2, e6, e7, hbp, hbp2, hb])
    have hqq2 := hk2 q (.cells false tE R.flatten) (by simp [e4, e5, e8, e9, hbp, hbp2, hq])
    have hk02 : H.keepsAll H2 := fun x o hx => by
      have := hok _ _ hx
      refine hk2 x o ?_
      have f1 : ¬ x = H1.next := by omega
      have f2 : ¬ x = H1.next + 1 := by omega
      have f3 : ¬ x = H1.next + 2 := by omega
      have f4 : ¬ x = H1.next + 3 := by omega
      simp [f1, f2, f3, f4, hbp, hbp2]
      exact hk x o hx
    have hnn2 : H1.next ≤ H2.next := by simp [hbp2] at hn2; omega
    clear hk2 hn2 hO hcp hao hJ
    have hst := fun k (hk : k < M.length) => own_stem hq2 hk
    have hKn : (if i < tries then ahead newer n else n) ≤ n := by split <;> omega
    have hSt := Startable (one tries i)
    rw [one_bad] at hSt
    have hlK := (own_load hq2 (i := if i < tries then ahead newer n else n) (by omega)).1
    rw [hM2] at hlK
    have hS := RSpend true ((tries - i : Nat) : Int) (i : Int)
    have hKd : (if i < tries then ahead newer n else n) = if i = tries then n else ahead newer n := by
      by_cases e : i = tries
      · rw [if_pos e, if_neg (by omega)]
      · rw [if_neg e, if_pos (by omega)]
    generalize hK : (if i < tries then ahead newer n else n) = K at *
    generalize hA : ahead newer n = A at *
    simp (disch := first | omega | (simp; done) | assumption) [wr64, wrU8, wrU64, Nat.add_assoc, -getElem?_pos, List.getElem?_cons_zero, List.getElem?_cons_succ, -loadC, -storeC]
    refine LoopW.exit 4 (AtR n tries q b i A q2 K H2) ?_ ?_
    · refine iwp_loop (AtI n tries q b i A q2 K H2) (n + 1) ⟨rfl, 0, rfl, by omega, by simp, by simp, by simp, by simp [t0], by simp [t2], by simp [t7], by simp [t8], by simp [t11], by simp [t12]⟩ ?_
      rintro kk tm H3 ⟨rfl, k, rfl, hkn, u14, u15, u16, u0, u2, u7, u8, u11, u12⟩
      by_cases hkl : k < n + 1
      · have hkl' : (k : Int) < ((n + 1 : Nat) : Int) := by omega
        have hkl2 : (k : Int) < (n : Int) + 1 := by omega
        have hs := hst k (by omega)
        by_cases hkK : k = K
        · have hone' : (el M k).stem = [116] := by rw [hkK, hM2]; rfl
          rw [hone'] at hs
          have g1 : K < k + 1 := by omega
          simp (disch := first | omega | (simp; done) | assumption) [wr64, wrU8, wrU64, Nat.add_assoc, -getElem?_pos, List.getElem?_cons_zero, List.getElem?_cons_succ, -loadC, -storeC, u14, u15, u16, hkl, hkl', hkl2, hs]
          exact ⟨n + 1 - (k + 1), by omega, rfl, k + 1, rfl, by omega, by simp [u14], by simp [g1, hkK], by simp, by simp [u0], by simp [u2], by simp [u7], by simp [u8], by simp [u11], by simp [u12]⟩
        · have hno := hM3 k (by omega) hkK
          have g1 : (K < k + 1) = (K < k) := propext (by omega)
          generalize (el M k).stem = sm at *
          simp (disch := first | omega | (simp; done) | assumption) [wr64, wrU8, wrU64, Nat.add_assoc, -getElem?_pos, List.getElem?_cons_zero, List.getElem?_cons_succ, -loadC, -storeC, u14, u15, u16, hkl, hkl', hkl2, hs, hno]
          exact ⟨n + 1 - (k + 1), by omega, rfl, k + 1, rfl, by omega, by simp [u14], by simp [u15, g1], by simp, by simp [u0], by simp [u2], by simp [u7], by simp [u8], by simp [u11], by simp [u12]⟩
      · have hkl' : ¬ (k : Int) < ((n + 1 : Nat) : Int) := by omega
        have hkl2 : ¬ (k : Int) < (n : Int) + 1 := by omega
        have g1 : K < k := by omega
        simp (disch := first | omega | (simp; done) | assumption) [wr64, wrU8, wrU64, Nat.add_assoc, -getElem?_pos, List.getElem?_cons_zero, List.getElem?_cons_succ, -loadC, -storeC, u14, u15, u16, hkl, hkl', hkl2]
        exact ⟨rfl, by simp [u14], by simp [u15, g1], by simp [u0], by simp [u2], by simp [u7], by simp [u8], by simp [u11], by simp [u12]⟩
    clear hrest t0 t2 t7 t8 t11 t12 tm
    rintro tm H3 ⟨rfl, u14, u15, u0, u2, u7, u8, u11, u12⟩
    have hKI : (K : Int) < (n : Int) + 1 := by omega
    have hKN : K < n + 1 := by omega
    have hn1 : ((n + 1 : Nat) : Int) = (n : Int) + 1 := by omega
    simp only [cdC, one] at hSt hlK
    have hld3 : loadC H3 b 0 (some 3) = some (.agg [.bool true, .int .i64 ((tries - i : Nat) : Int), .int .i64 (i : Int)]) := by
      unfold loadC
      rw [hb2]
      rfl
    by_cases hit : i = tries
    · rw [if_pos hit] at hKd
      subst hKd hit
      have hz : ((i - i : Nat) : Int) = 0 := by simp
      rw [decide_eq_true (Nat.le_refl i)] at hSt
      simp only [hz] at hSt hlK hld3 hS
      have hsp : spend true 0 (i : Int) = .tuple [cnt true 0 (i : Int), .bool false] := by unfold spend state; simp
      rw [hsp] at hS
      simp (disch := first | omega | (simp; done) | assumption) [wr64, wrU8, wrU64, Nat.add_assoc, -getElem?_pos, List.getElem?_cons_zero, List.getElem?_cons_succ, -loadC, -storeC, u14, u15, u0, u2, u7, u8, u11, u12, hKI, hKN, hlK]
      refine CallW.val (hSt _) ?_
      simp (disch := first | omega | (simp; done) | assumption) [wr64, wrU8, wrU64, Nat.add_assoc, -getElem?_pos, List.getElem?_cons_zero, List.getElem?_cons_succ, -loadC, -storeC, u14, u15, u0, u2, u7, u8, u11, u12, hKI, hKN, hlK, hld3]
      refine CallW.val (hS _) ?_
      simp (disch := first | omega | (simp; done) | assumption) [wr64, wrU8, wrU64, Nat.add_assoc, -getElem?_pos, List.getElem?_cons_zero, List.getElem?_cons_succ, u14, u15, u0, u2, u7, u8, u11, u12, hb2]
      refine ⟨by ((repeat (first | exact hk02 | refine keeps_set hok ?_ (by first | omega | (simp; done) | (simp; omega)) | refine keeps_new hok ?_ (by first | omega | (simp; done) | (simp; omega)))); done), by simp; omega, i + 1, by omega, by omega, by simp [u0], by simp [u2], by simp [u8, hA], by simp, fun h => by omega⟩
    · have hitI : ¬ (i : Int) = (tries : Int) := by omega
      rw [if_neg hit] at hKd
      subst hKd
      have g1 : ¬ tries ≤ i := by omega
      have g2 : (i : Int) < (tries : Int) := by omega
      have g3 : i < tries := by omega
      rw [decide_eq_false g1] at hSt
      have hsp : spend true ((tries - i : Nat) : Int) (i : Int) = .tuple [cnt true ((tries - (i + 1) : Nat) : Int) ((i : Int) + 1), .bool true] := by
        have h0 : (0 : Int) < ((tries - i : Nat) : Int) := by omega
        have hst1 : state true ((tries - i : Nat) : Int) = 1 := by unfold state; simp; omega
        unfold spend
        rw [if_pos ⟨hst1, by omega⟩, wr64 (by omega) (by omega), wr64 (by omega) (by omega)]
        congr 4
        omega
      rw [hsp] at hS
      generalize hr1 : tries - (i + 1) = r1 at *
      generalize hr0 : tries - i = r0 at *
      simp (disch := first | omega | (simp; done) | assumption) [wr64, wrU8, wrU64, Nat.add_assoc, -getElem?_pos, List.getElem?_cons_zero, List.getElem?_cons_succ, -loadC, -storeC, u14, u15, u0, u2, u7, u8, u11, u12, hit, hitI, hKI, hKN, hlK]
      refine CallW.val (hSt _) ?_
      simp (disch := first | omega | (simp; done) | assumption) [wr64, wrU8, wrU64, Nat.add_assoc, -getElem?_pos, List.getElem?_cons_zero, List.getElem?_cons_succ, -loadC, -storeC, u14, u15, u0, u2, u7, u8, u11, u12, hit, hitI, hKI, hKN, hlK, hld3, g2, g3]
      refine CallW.val (hS _) ?_
      simp (disch := first | omega | (simp; done) | assumption) [wr64, wrU8, wrU64, Nat.add_assoc, -getElem?_pos, List.getElem?_cons_zero, List.getElem?_cons_succ, u14, u15, u0, u2, u7, u8, u11, u12, hb2]
      refine ⟨tries + 1 - (i + 1), by omega, by ((repeat (first | exact hk02 | refine keeps_set hok ?_ (by first | omega | (simp; done) | (simp; omega)) | refine keeps_new hok ?_ (by first | omega | (simp; done) | (simp; omega)))); done), by simp; omega, i + 1, rfl, by omega, by simp [u0], by simp [u2], by simp [u8, hA], by simp, fun h => ⟨q, b, by simp [u7], by simp [hqb, hqq2, hR], hqB, by simp; omega, by simp [u11], hbB, by simp; omega, by simp [hr1]⟩⟩
  · have hle' : ¬ (i : Int) ≤ (tries : Int) := by omega
    simp (disch := first | omega | (simp; done) | assumption) [wr64, wrU8, wrU64, Nat.add_assoc, -getElem?_pos, List.getElem?_cons_zero, List.getElem?_cons_succ, t0, t2, t8, t12, hle, hle']
    refine CallW.val (Awake _) ?_
    simp (disch := first | omega | (simp; done) | assumption) [wr64, wrU8, wrU64, Nat.add_assoc, -getElem?_pos, List.getElem?_cons_zero, List.getElem?_cons_succ, rs6]
    exact hk
theorem TriesC {C : ICode} (hC : C = TrC) {fn : Func} (hF : Fits Tryd.prog 6 fn C rs6) (hnt : 3 ≤ fn.ntmps) {n newer tries : Int} {H : AH} :
    ACall Tryd.prog 6 [.int .i64 n, .int .i64 newer, .int .i64 tries] H (fun v H' => v = .bool true ∧ H' = H) :=
  acall_enter hF hnt (by simp) fun hok => Tr1 hC hok fun n tries tm H' h1 h2 h3 h4 hM => Tr2 hC hok h1 h2 h3 h4 hM
theorem Tries (n newer tries : Int) (H : AH) : ACall Tryd.prog 6 [.int .i64 n, .int .i64 newer, .int .i64 tries] H (fun v H' => v = .bool true ∧ H' = H) :=
  TriesC rfl fits6 (by simp)
theorem PickTries.walk (a0 a1 a2 : Int) (W : World) (hsh : W.ShapedOpen Tryd.prog) (_ : (Lit.int .i64 a0).wf = true) (_ : (Lit.int .i64 a1).wf = true) (_ : (Lit.int .i64 a2).wf = true) :
    Calls Tryd.prog 6 #[.int .i64 a0, .int .i64 a1, .int .i64 a2] W fun e W' => e = .returned (.bool true) ∧ Below W.heap.size W W' :=
  PWalk.walk hsh (Tries a0 a1 a2 _) (.cons (.int _ _) (.cons (.int _ _) (.cons (.int _ _) .nil)))
end Go.Proofs.YtllkdoefonehoaaDoor.PPick

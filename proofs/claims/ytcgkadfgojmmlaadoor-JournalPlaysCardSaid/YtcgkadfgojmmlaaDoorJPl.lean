/- What a journal's writes leave, wherever the disk dies: plain Lean. No condition. -/
import Derived.Test.YtcgkadfgojmmlaaDoorDFn
set_option linter.unusedVariables false
set_option linter.unusedSimpArgs false
set_option maxRecDepth 10000
set_option maxHeartbeats 1000000
namespace Go.Proofs.YtcgkadfgojmmlaaDoor.JN
open Go Go.RowKit Go.Proofs.YtcgkadfgojmmlaaDoor Go.Proofs.YtcgkadfgojmmlaaDoor.Abs Go.Proofs.YtcgkadfgojmmlaaDoor.DFn
abbrev Bs := List UInt8
abbrev Wr := Nat × Bs
def zer : Bs := List.replicate 128 0
def apW : List (Option Bs) → List Wr → List (Option Bs)
  | ct, [] => ct
  | ct, x :: r => apW (ct.set x.1 (some x.2)) r
def wrs : DK → List Wr → DK × Option Nat
  | s, [] => (s, none)
  | s, x :: r => if s.dead = true then (s, some x.1) else wrs (s.write x.1 x.2) r
theorem apW_append : ∀ (a b : List Wr) ct, apW ct (a ++ b) = apW (apW ct a) b
  | [], b, ct => rfl
  | x :: a, b, ct => apW_append a b _
theorem apW_len : ∀ (W : List Wr) ct, (apW ct W).length = ct.length
  | [], ct => rfl
  | x :: W, ct => by rw [apW, apW_len W]; simp
theorem wrs_append : ∀ (a b : List Wr) (s : DK), wrs s (a ++ b) = match (wrs s a).2 with
    | none => wrs (wrs s a).1 b
    | some i => ((wrs s a).1, some i)
  | [], b, s => rfl
  | x :: a, b, s => by
    rw [List.cons_append, wrs, wrs]
    by_cases h : s.dead = true
    · rw [if_pos h, if_pos h]
    · rw [if_neg h, if_neg h, wrs_append a b]
theorem wrs_len : ∀ (W : List Wr) (s : DK), (wrs s W).1.ct.length = s.ct.length
  | [], s => rfl
  | x :: W, s => by
    rw [wrs]
    split
    · rfl
    · rw [wrs_len W]; simp [DK.write]
/-- What a row of writes does: some of them from the first one on. -/
structure Cut (s : DK) (W : List Wr) (k : Nat) : Prop where
  le : k ≤ W.length
  ct : (wrs s W).1.ct = apW s.ct (W.take k)
  ok : (wrs s W).2 = none ↔ k = W.length
  dead : k < W.length → (wrs s W).1.dead = true
  all : s.dead = false → s.f < 0 → k = W.length ∧ (wrs s W).1.dead = false ∧ (wrs s W).1.f = s.f
  w : (wrs s W).1.w = s.w + k
  f0 : -1 ≤ s.f → -1 ≤ (wrs s W).1.f
  f1 : (wrs s W).1.f ≤ s.f ∨ (wrs s W).1.f ≤ 0
theorem wrs_cut : ∀ (W : List Wr) (s : DK), ∃ k, Cut s W k
  | [], s => ⟨0, by simp, rfl, by simp [wrs], by simp, fun h1 h2 => ⟨rfl, h1, rfl⟩, by simp [wrs], fun h => h, .inl (by simp [wrs])⟩
  | x :: W, s => by
    by_cases h : s.dead = true
    · have hw : wrs s (x :: W) = (s, some x.1) := by rw [wrs, if_pos h]
      refine ⟨0, by simp, by rw [hw]; rfl, by rw [hw]; simp, fun _ => by rw [hw]; exact h, fun h1 => ?_, by rw [hw]; simp, by rw [hw]; exact fun h => h, .inl (by rw [hw]; simp)⟩
      rw [h] at h1; cases h1
    · have hw : wrs s (x :: W) = wrs (s.write x.1 x.2) W := by rw [wrs, if_neg h]
      obtain ⟨k, c⟩ := wrs_cut W (s.write x.1 x.2)
      have hwf : (s.write x.1 x.2).f = if 0 < s.f then s.f - 1 else s.f := rfl
      refine ⟨k + 1, by have := c.le; simp; omega, by rw [hw, c.ct]; rfl, by rw [hw, c.ok]; simp, fun hk => by rw [hw]; exact c.dead (by simpa using hk), fun h1 h2 => ?_, ?_, fun h1 => ?_, ?_⟩
      · have a1 : (s.write x.1 x.2).dead = false := by simp [DK.write, show ¬ 0 < s.f by omega, h1]
        have a2 : (s.write x.1 x.2).f = s.f := by rw [hwf, if_neg (by omega)]
        obtain ⟨b1, b2, b3⟩ := c.all a1 (by omega)
        rw [hw]
        exact ⟨by simp [b1], b2, by rw [b3, a2]⟩
      · rw [hw, c.w]
        show s.w + 1 + (k : Int) = s.w + ((k + 1 : Nat) : Int)
        omega
      · rw [hw]
        refine c.f0 ?_
        rw [hwf]
        split <;> omega
      · rw [hw]
        have := c.f1
        rw [hwf] at this
        split at this <;> omega
def vw (ct : List (Option Bs)) (i : Nat) : Bs := bytesOf (ct.getD i none)
theorem vw_set (ct : List (Option Bs)) (i j : Nat) (b : Bs) (hi : i < ct.length) : vw (ct.set i (some b)) j = if i = j then b else vw ct j := by
  unfold vw
  rw [List.getD_eq_getElem?_getD, List.getD_eq_getElem?_getD]
  by_cases e : i = j
  · subst e
    rw [if_pos rfl, List.getElem?_set_self hi]
    rfl
  · rw [if_neg e, List.getElem?_set_ne e]
theorem vw_big (ct : List (Option Bs)) (i : Nat) (hi : ct.length ≤ i) : vw ct i = zer := by
  unfold vw
  rw [List.getD_eq_getElem?_getD, List.getElem?_eq_none hi]
  rfl
theorem vw_set_ne (ct : List (Option Bs)) (i j : Nat) (b : Bs) (e : i ≠ j) : vw (ct.set i (some b)) j = vw ct j := by
  unfold vw
  rw [List.getD_eq_getElem?_getD, List.getD_eq_getElem?_getD, List.getElem?_set_ne e]
theorem vw_no : ∀ (W : List Wr) (ct : List (Option Bs)) (j : Nat), (∀ x ∈ W, x.1 ≠ j) → vw (apW ct W) j = vw ct j
  | [], ct, j, h => rfl
  | x :: W, ct, j, h => by
    rw [apW, vw_no W _ j (fun y hy => h y (by simp [hy])), vw_set_ne _ _ _ _ (h x (by simp))]
theorem vw_mem : ∀ (W : List Wr) (ct : List (Option Bs)) (x : Wr), (W.map (·.1)).Nodup → x ∈ W → x.1 < ct.length → vw (apW ct W) x.1 = x.2
  | [], ct, x, _, h, _ => by simp at h
  | y :: W, ct, x, hn, h, hl => by
    rw [List.map_cons, List.nodup_cons] at hn
    rw [apW]
    rcases List.mem_cons.1 h with rfl | h
    · rw [vw_no W _ x.1 (fun z hz e => hn.1 (by rw [← e]; exact List.mem_map_of_mem hz)), vw_set _ _ _ _ hl, if_pos rfl]
    · exact vw_mem W _ x hn.2 h (by simpa using hl)
/-! ### A journal's writes -/
def lists (n : Nat) : Nat := (n + 15) / 16
def need (most : Nat) : Nat := most + lists most + 2
def own (at_ most i : Nat) : Prop := at_ ≤ i ∧ i < at_ + need most
structure Good (at_ most nb : Nat) (l : List Wr) : Prop where
  nodup : (l.map (·.1)).Nodup
  lt : ∀ x ∈ l, x.1 < nb
  own : ∀ x ∈ l, ¬ own at_ most x.1
  len : ∀ x ∈ l, x.2.length = 128
/-- The writes of a row of blocks from a place on. -/
def rowW : Nat → List Bs → List Wr
  | _, [] => []
  | i, b :: r => (i, b) :: rowW (i + 1) r
theorem rowW_len : ∀ (bs : List Bs) i, (rowW i bs).length = bs.length
  | [], i => rfl
  | b :: r, i => by simp [rowW, rowW_len r]
theorem rowW_get : ∀ (bs : List Bs) (i k : Nat) (h : k < bs.length), (rowW i bs)[k]'(by rw [rowW_len]; exact h) = (i + k, bs[k])
  | b :: r, i, 0, h => rfl
  | b :: r, i, k + 1, h => by
    have := rowW_get r (i + 1) k (by simpa using h)
    simp only [rowW, List.getElem_cons_succ]
    rw [this]
    congr 1
    omega
theorem rowW_ge : ∀ (bs : List Bs) (i : Nat), ∀ x ∈ rowW i bs, i ≤ x.1 ∧ x.1 < i + bs.length
  | [], i, x, h => by simp [rowW] at h
  | b :: r, i, x, h => by
    simp only [rowW] at h
    rcases List.mem_cons.1 h with rfl | h
    · simp
    · have := rowW_ge r (i + 1) x h
      simp
      omega
theorem rowW_nodup : ∀ (bs : List Bs) (i : Nat), ((rowW i bs).map (·.1)).Nodup
  | [], i => by simp [rowW]
  | b :: r, i => by
    simp only [rowW, List.map_cons, List.nodup_cons]
    refine ⟨fun h => ?_, rowW_nodup r _⟩
    obtain ⟨x, hx, e⟩ := List.mem_map.1 h
    have := rowW_ge r (i + 1) x hx
    omega
/-- What is behind a group. -/
def aft (base : Nat → Bs) (l : List Wr) (i : Nat) : Bs := match l.find? (fun x => x.1 == i) with
  | some x => x.2
  | none => base i
theorem aft_mem {base : Nat → Bs} {l : List Wr} (hn : (l.map (·.1)).Nodup) {x : Wr} (hx : x ∈ l) : aft base l x.1 = x.2 := by
  unfold aft
  induction l with
  | nil => simp at hx
  | cons y l ih =>
    rw [List.map_cons, List.nodup_cons] at hn
    rcases List.mem_cons.1 hx with rfl | hx
    · simp
    · have hne : y.1 ≠ x.1 := fun e => hn.1 (e ▸ List.mem_map_of_mem hx)
      rw [List.find?_cons_of_neg (by simpa using hne)]
      exact ih hn.2 hx
theorem aft_no {base : Nat → Bs} {l : List Wr} {i : Nat} (h : ∀ x ∈ l, x.1 ≠ i) : aft base l i = base i := by
  unfold aft
  rw [List.find?_eq_none.2 fun x hx => by simpa using h x hx]
/-- Nothing is under way. -/
def St0 (at_ most : Nat) (base : Nat → Bs) (ct : List (Option Bs)) : Prop := vw ct at_ = zer ∧ ∀ i, ¬ own at_ most i → vw ct i = base i
/-- A group is under way. -/
def StP (at_ most : Nat) (hd : Bs) (bd : List Bs) (base : Nat → Bs) (l : List Wr) (ct : List (Option Bs)) : Prop :=
  vw ct at_ = hd ∧ (∀ k (h : k < bd.length), vw ct (at_ + 1 + k) = bd[k]) ∧ ∀ i, ¬ own at_ most i → (∀ x ∈ l, x.1 ≠ i) → vw ct i = base i
/-- What it may come to, wherever the disk dies. -/
def StC (at_ most : Nat) (hd : Bs) (bd : List Bs) (base : Nat → Bs) (l : List Wr) (ct : List (Option Bs)) : Prop :=
  St0 at_ most base ct ∨ StP at_ most hd bd base l ct ∨ St0 at_ most (aft base l) ct
theorem own_at (at_ most : Nat) : own at_ most at_ := ⟨Nat.le_refl _, by unfold need; omega⟩
theorem own_in {at_ most n k : Nat} (h : n ≤ most) (hk : k < lists n + n) : own at_ most (at_ + 1 + k) := ⟨by omega, by unfold need; unfold lists at *; omega⟩
/-- Laying down what is under way. -/
theorem lay_law {at_ most nb : Nat} {hd : Bs} {bd : List Bs} {base : Nat → Bs} {l : List Wr} {s : DK} (hnb : s.ct.length = nb) (hat : at_ < nb) (hg : Good at_ most nb l) (hbl : bd.length = lists l.length + l.length) (hm : l.length ≤ most)
    (h : StP at_ most hd bd base l s.ct) : ((wrs s (l ++ [(at_, zer)])).2 = none → St0 at_ most (aft base l) (wrs s (l ++ [(at_, zer)])).1.ct) ∧ ((wrs s (l ++ [(at_, zer)])).2 ≠ none → StP at_ most hd bd base l (wrs s (l ++ [(at_, zer)])).1.ct) := by
  obtain ⟨k, c⟩ := wrs_cut (l ++ [(at_, zer)]) s
  obtain ⟨h1, h2, h3⟩ := h
  have hne : ∀ x ∈ l, ∀ i, own at_ most i → x.1 ≠ i := fun x hx i hi e => hg.own x hx (e ▸ hi)
  constructor
  · intro hn
    rw [c.ok] at hn
    rw [c.ct, hn, List.take_of_length_le (Nat.le_refl _), apW_append]
    have hL : (apW s.ct l).length = nb := by rw [apW_len, hnb]
    refine ⟨?_, fun i hi => ?_⟩
    · show vw ((apW s.ct l).set at_ (some zer)) at_ = zer
      rw [vw_set _ _ _ _ (by omega), if_pos rfl]
    · show vw ((apW s.ct l).set at_ (some zer)) i = _
      have hia : at_ ≠ i := fun e => hi (e ▸ own_at _ _)
      rw [vw_set_ne _ _ _ _ hia]
      by_cases hx : ∃ x ∈ l, x.1 = i
      · obtain ⟨x, hx, rfl⟩ := hx
        rw [vw_mem l _ x hg.nodup hx (by have := hg.lt x hx; omega), aft_mem hg.nodup hx]
      · have hx' : ∀ x ∈ l, x.1 ≠ i := fun x h1 h2 => hx ⟨x, h1, h2⟩
        rw [vw_no _ _ _ hx', aft_no hx', h3 i hi hx']
  · intro hn
    have hk : k ≤ l.length := by
      have := c.le
      have : ¬ k = (l ++ [(at_, zer)]).length := fun e => hn (c.ok.2 e)
      simp at *
      omega
    rw [c.ct, List.take_append_of_le_length hk]
    have hsub : ∀ x ∈ l.take k, x ∈ l := fun x hx => List.mem_of_mem_take hx
    refine ⟨?_, fun j hj => ?_, fun i hi hx => ?_⟩
    · rw [vw_no _ _ _ fun x hx => hne x (hsub x hx) _ (own_at _ _)]; exact h1
    · rw [vw_no _ _ _ fun x hx => hne x (hsub x hx) _ (own_in hm (by omega))]; exact h2 j hj
    · rw [vw_no _ _ _ fun x hh => hx x (hsub x hh)]; exact h3 i hi hx
/-- A Commit's writes. -/
theorem commit_law {at_ most nb : Nat} {hd : Bs} {bd : List Bs} {base : Nat → Bs} {l : List Wr} {s : DK} (hnb : s.ct.length = nb) (hat : at_ + need most ≤ nb) (hg : Good at_ most nb l) (hbl : bd.length = lists l.length + l.length) (hm : l.length ≤ most)
    (h : St0 at_ most base s.ct) : ((wrs s (rowW (at_ + 1) bd ++ ((at_, hd) :: (l ++ [(at_, zer)])))).2 = none → St0 at_ most (aft base l) (wrs s (rowW (at_ + 1) bd ++ ((at_, hd) :: (l ++ [(at_, zer)])))).1.ct) ∧
      StC at_ most hd bd base l (wrs s (rowW (at_ + 1) bd ++ ((at_, hd) :: (l ++ [(at_, zer)])))).1.ct := by
  have hnd : at_ < nb := by unfold need at hat; omega
  have hrow : ∀ x ∈ rowW (at_ + 1) bd, own at_ most x.1 ∧ x.1 ≠ at_ := fun x hx => by
    have := rowW_ge _ _ x hx
    refine ⟨?_, by omega⟩
    have h9 := own_in (at_ := at_) hm (k := x.1 - (at_ + 1)) (by omega)
    rwa [show at_ + 1 + (x.1 - (at_ + 1)) = x.1 by omega] at h9
  rw [wrs_append]
  obtain ⟨k, c⟩ := wrs_cut (rowW (at_ + 1) bd) s
  have h0 : St0 at_ most base (wrs s (rowW (at_ + 1) bd)).1.ct := by
    rw [c.ct]
    have hsub : ∀ x ∈ (rowW (at_ + 1) bd).take k, x ∈ rowW (at_ + 1) bd := fun x hx => List.mem_of_mem_take hx
    refine ⟨?_, fun i hi => ?_⟩
    · rw [vw_no _ _ _ fun x hx => (hrow x (hsub x hx)).2]; exact h.1
    · rw [vw_no _ _ i fun x hx e => hi (by rw [← e]; exact (hrow x (hsub x hx)).1)]; exact h.2 i hi
  have hrw : (wrs s (rowW (at_ + 1) bd)).2 = none → ∀ j (hj : j < bd.length), vw (wrs s (rowW (at_ + 1) bd)).1.ct (at_ + 1 + j) = bd[j] := fun hn j hj => by
    rw [c.ct, c.ok.1 hn, List.take_of_length_le (Nat.le_refl _)]
    have hj' : j < (rowW (at_ + 1) bd).length := by rw [rowW_len]; exact hj
    have hmem : (at_ + 1 + j, bd[j]) ∈ rowW (at_ + 1) bd := by rw [← rowW_get bd (at_ + 1) j hj]; exact List.getElem_mem hj'
    have hlt : at_ + 1 + j < s.ct.length := by
      have := (hrow _ hmem).1.2
      dsimp only at this
      omega
    exact vw_mem _ _ (at_ + 1 + j, bd[j]) (rowW_nodup _ _) hmem hlt
  have hlen1 := wrs_len (rowW (at_ + 1) bd) s
  cases hr : (wrs s (rowW (at_ + 1) bd)).2 with
  | some i => exact ⟨fun h => (by cases h), .inl h0⟩
  | none =>
    have hrw := hrw hr
    generalize (wrs s (rowW (at_ + 1) bd)).1 = s1 at *
    dsimp only
    rw [wrs]
    by_cases hd1 : s1.dead = true
    · rw [if_pos hd1]
      exact ⟨fun h => (by cases h), .inl h0⟩
    · rw [if_neg hd1]
      have hP : StP at_ most hd bd base l (s1.write at_ hd).ct := by
        show StP at_ most hd bd base l (s1.ct.set at_ (some hd))
        refine ⟨by rw [vw_set _ _ _ _ (by omega), if_pos rfl], fun j hj => ?_, fun i hi hx => ?_⟩
        · rw [vw_set_ne _ _ _ _ (by omega)]; exact hrw j hj
        · rw [vw_set_ne _ _ i _ (fun e => hi (by rw [← e]; exact own_at _ _))]; exact h0.2 i hi
      obtain ⟨a1, a2⟩ := lay_law (s := s1.write at_ hd) (nb := nb) (by simp [DK.write, hlen1, hnb]) hnd hg hbl hm hP
      refine ⟨a1, ?_⟩
      cases hq : (wrs (s1.write at_ hd) (l ++ [(at_, zer)])).2 with
      | none => exact .inr (.inr (a1 hq))
      | some i => exact .inr (.inl (a2 (by rw [hq]; simp)))
end Go.Proofs.YtcgkadfgojmmlaaDoor.JN

/- Plain: rows of places, put in order by swaps; merging by rotations. No program in sight. No condition. -/
import Derived.Test.YtfimhkijacamoaaDoorA24
set_option linter.unusedVariables false
set_option linter.unusedSimpArgs false
namespace Go.Proofs.YtfimhkijacamoaaDoor.SP
open Go
def gt (ps : List Nat) (k : Nat) : Nat := ps.getD k 0
def swp (ps : List Nat) (i j : Nat) : List Nat := (ps.set i (gt ps j)).set j (gt ps i)
theorem gt_of {ps : List Nat} {k : Nat} (h : k < ps.length) : gt ps k = ps[k] := by
  show ps.getD k 0 = _
  rw [List.getD_eq_getElem?_getD, List.getElem?_eq_getElem h]; rfl
theorem gt_set {ps : List Nat} {i : Nat} (k v : Nat) (h : i < ps.length) : gt (ps.set i v) k = if k = i then v else gt ps k := by
  show (ps.set i v).getD k 0 = if k = i then v else ps.getD k 0
  rw [List.getD_eq_getElem?_getD, List.getD_eq_getElem?_getD, List.getElem?_set]
  by_cases e : i = k
  · subst e; rw [if_pos rfl, if_pos h, if_pos rfl]; rfl
  · rw [if_neg e, if_neg (fun h => e h.symm)]
theorem swp_len (ps : List Nat) (i j : Nat) : (swp ps i j).length = ps.length := by simp [swp]
theorem gt_swp {ps : List Nat} {i j : Nat} (k : Nat) (hi : i < ps.length) (hj : j < ps.length) : gt (swp ps i j) k = if k = j then gt ps i else if k = i then gt ps j else gt ps k := by
  unfold swp
  rw [gt_set _ _ (by simpa using hj), gt_set _ _ hi]
theorem swp_perm {ps : List Nat} {i j : Nat} (hi : i < ps.length) (hj : j < ps.length) : (swp ps i j).Perm ps := by
  unfold swp
  rw [gt_of hi, gt_of hj]
  exact List.set_set_perm hi hj
/-! ### Ahead -/
structure COrd (c : Nat → Nat → Int) : Prop where
  anti : ∀ a b, c b a = -c a b
  tr : ∀ a b d, c a b ≤ 0 → c b d ≤ 0 → c a d ≤ 0
def pr (c : Nat → Nat → Int) (p q : Nat) : Prop := c p q < 0 ∨ (c p q = 0 ∧ p < q)
section
variable {c : Nat → Nat → Int} (hc : COrd c)
include hc
theorem COrd.self (a : Nat) : c a a = 0 := by have := hc.anti a a; omega
theorem pr_trans {p q r : Nat} (h1 : pr c p q) (h2 : pr c q r) : pr c p r := by
  have a1 : c p q ≤ 0 := by rcases h1 with h | h <;> omega
  have a2 : c q r ≤ 0 := by rcases h2 with h | h <;> omega
  have a3 := hc.tr p q r a1 a2
  by_cases h : c p r < 0
  · exact .inl h
  · have e : c p r = 0 := by omega
    have e2 : c r p ≤ 0 := by have := hc.anti p r; omega
    have b1 := hc.tr r p q e2 a1
    have b2 := hc.anti q r
    have b3 := hc.tr q r p a2 e2
    have b4 := hc.anti p q
    rcases h1 with h1 | h1
    · omega
    · rcases h2 with h2 | h2
      · omega
      · exact .inr ⟨e, by omega⟩
theorem pr_total {p q : Nat} (h : p ≠ q) : pr c p q ∨ pr c q p := by
  have := hc.anti p q
  unfold pr
  omega
theorem pr_asymm {p q : Nat} (h : pr c p q) : ¬ pr c q p := by
  have := hc.anti p q
  unfold pr at h ⊢
  omega
theorem pr_neg {p q : Nat} (h : p < q) (hn : ¬ c q p < 0) : pr c p q := by
  have := hc.anti p q
  unfold pr
  omega
theorem neg_pr {p q : Nat} (h : pr c p q) : ¬ c q p < 0 := by
  have := hc.anti p q
  unfold pr at h
  omega
end
def Srt (c : Nat → Nat → Int) (g : Nat → Nat) (a b : Nat) : Prop := ∀ i j, a ≤ i → i < j → j < b → pr c (g i) (g j)
def Sep (g : Nat → Nat) (a m b : Nat) : Prop := ∀ i j, a ≤ i → i < m → m ≤ j → j < b → g i < g j
def Mm (g g' : Nat → Nat) (a b : Nat) : Prop := ∀ k, a ≤ k → k < b → ∃ k', a ≤ k' ∧ k' < b ∧ g' k = g k'
def Ou (g g' : Nat → Nat) (a b : Nat) : Prop := ∀ k, k < a ∨ b ≤ k → g' k = g k
def Rot (g : Nat → Nat) (a m b : Nat) : Nat → Nat := fun k => if a ≤ k ∧ k < a + (b - m) then g (k + (m - a)) else if a + (b - m) ≤ k ∧ k < b then g (k - (b - m)) else g k
def SwR (g : Nat → Nat) (a b n : Nat) : Nat → Nat := fun k => if a ≤ k ∧ k < a + n then g (k - a + b) else if b ≤ k ∧ k < b + n then g (k - b + a) else g k
theorem swR_zero (g : Nat → Nat) (a b : Nat) : SwR g a b 0 = g := by
  funext k; unfold SwR
  rw [if_neg (by omega), if_neg (by omega)]
theorem swR_succ {g : Nat → Nat} {a b n : Nat} (hd : a + (n + 1) ≤ b) (k : Nat) : SwR g a b (n + 1) k = if k = b + n then SwR g a b n (a + n) else if k = a + n then SwR g a b n (b + n) else SwR g a b n k := by
  unfold SwR
  by_cases h1 : k = b + n
  · subst h1
    rw [if_pos rfl, if_neg (by omega), if_pos (by omega), if_neg (by omega), if_neg (by omega)]
    congr 1; omega
  · rw [if_neg h1]
    by_cases h2 : k = a + n
    · subst h2
      rw [if_pos rfl, if_pos (by omega), if_neg (by omega), if_neg (by omega)]
      congr 1; omega
    · rw [if_neg h2]
      by_cases h3 : a ≤ k ∧ k < a + n
      · rw [if_pos (by omega), if_pos h3]
      · rw [if_neg (by omega), if_neg h3]
        by_cases h4 : b ≤ k ∧ k < b + n
        · rw [if_pos (by omega), if_pos h4]
        · rw [if_neg (by omega), if_neg h4]
/-- Swapping a part's front off. -/
theorem rot_gt {g : Nat → Nat} {m i j : Nat} (him : i ≤ m) (hj : j < i) : Rot (SwR g (m - i) m j) (m - (i - j)) m (m + j) = Rot g (m - i) m (m + j) := by
  funext k
  unfold Rot SwR
  simp only [show m + j - m = j by omega, show m - (m - (i - j)) = i - j by omega, show m - (m - i) = i by omega]
  repeat' split
  all_goals first | rfl | (exfalso; omega) | (congr 1; omega)
theorem rot_lt {g : Nat → Nat} {m i j : Nat} (him : i ≤ m) (hj : i < j) : Rot (SwR g (m - i) (m + j - i) i) (m - i) m (m + (j - i)) = Rot g (m - i) m (m + j) := by
  funext k
  unfold Rot SwR
  simp only [show m + j - m = j by omega, show m + (j - i) - m = j - i by omega, show m - (m - i) = i by omega]
  repeat' split
  all_goals first | rfl | (exfalso; omega) | (congr 1; omega)
theorem rot_eq {g : Nat → Nat} {m i : Nat} (him : i ≤ m) : SwR g (m - i) m i = Rot g (m - i) m (m + i) := by
  funext k
  unfold Rot SwR
  simp only [show m + i - m = i by omega, show m - (m - i) = i by omega]
  repeat' split
  all_goals first | rfl | (exfalso; omega) | (congr 1; omega)
theorem rot_mm {g : Nat → Nat} {a m b : Nat} (h1 : a ≤ m) (h2 : m ≤ b) : Mm g (Rot g a m b) a b := by
  intro k hk1 hk2
  unfold Rot
  by_cases h : a ≤ k ∧ k < a + (b - m)
  · rw [if_pos h]; exact ⟨k + (m - a), by omega, by omega, rfl⟩
  · rw [if_neg h, if_pos (by omega)]; exact ⟨k - (b - m), by omega, by omega, rfl⟩
theorem rot_ou {g : Nat → Nat} {a m b : Nat} (h1 : a ≤ m) (h2 : m ≤ b) : Ou g (Rot g a m b) a b := by
  intro k hk
  unfold Rot
  rw [if_neg (by omega), if_neg (by omega)]
theorem Mm.trans {g g1 g2 : Nat → Nat} {a b : Nat} (h1 : Mm g g1 a b) (h2 : Mm g1 g2 a b) : Mm g g2 a b := fun k ha hb => by
  obtain ⟨k1, p1, q1, e1⟩ := h2 k ha hb
  obtain ⟨k2, p2, q2, e2⟩ := h1 k1 p1 q1
  exact ⟨k2, p2, q2, e1.trans e2⟩
theorem Mm.refl (g : Nat → Nat) (a b : Nat) : Mm g g a b := fun k ha hb => ⟨k, ha, hb, rfl⟩
theorem Ou.refl (g : Nat → Nat) (a b : Nat) : Ou g g a b := fun k h => rfl
theorem Ou.trans {g g1 g2 : Nat → Nat} {a b : Nat} (h1 : Ou g g1 a b) (h2 : Ou g1 g2 a b) : Ou g g2 a b := fun k h => (h2 k h).trans (h1 k h)
theorem Ou.wide {g g1 : Nat → Nat} {a b a' b' : Nat} (h : Ou g g1 a b) (h1 : a' ≤ a) (h2 : b ≤ b') : Ou g g1 a' b' := fun k hk => h k (by omega)
theorem Mm.wide {g g1 : Nat → Nat} {a b a' b' : Nat} (h : Mm g g1 a b) (ho : Ou g g1 a b) (h1 : a' ≤ a) (h2 : b ≤ b') : Mm g g1 a' b' := fun k ha hb => by
  by_cases hk : a ≤ k ∧ k < b
  · obtain ⟨k', p, q, e⟩ := h k hk.1 hk.2
    exact ⟨k', by omega, by omega, e⟩
  · exact ⟨k, ha, hb, ho k (by omega)⟩
/-! ### The cut of a merging -/
/-- Where the search is: below it the left one goes first, from its end on the right one. -/
def Cut (c : Nat → Nat → Int) (g : Nat → Nat) (n lo s r hi : Nat) : Prop :=
  lo ≤ s ∧ s ≤ r ∧ r ≤ hi ∧ (∀ k, lo ≤ k → k < s → pr c (g k) (g (n - 1 - k))) ∧ ∀ k, r ≤ k → k < hi → pr c (g (n - 1 - k)) (g k)
theorem cut_left {c : Nat → Nat → Int} (hc : COrd c) {g : Nat → Nat} {n lo s r hi a m b x : Nat} (h1 : Srt c g a m) (h2 : Srt c g m b) (h3 : Sep g a m b) (hlo : a ≤ lo) (hhi : hi ≤ m) (hb : n ≤ b + lo) (hm : m + hi ≤ n) (h : Cut c g n lo s r hi)
    (hx : s ≤ x) (hxr : x < r) (hn : ¬ c (g (n - 1 - x)) (g x) < 0) : Cut c g n lo (x + 1) r hi := by
  obtain ⟨q1, q2, q3, q4, q5⟩ := h
  refine ⟨by omega, by omega, q3, fun k k1 k2 => ?_, q5⟩
  have hp : pr c (g x) (g (n - 1 - x)) := pr_neg hc (h3 _ _ (by omega) (by omega) (by omega) (by omega)) hn
  by_cases e : k = x
  · subst e; exact hp
  · exact pr_trans hc (h1 k x (by omega) (by omega) (by omega)) (pr_trans hc hp (h2 _ _ (by omega) (by omega) (by omega)))
theorem cut_right {c : Nat → Nat → Int} (hc : COrd c) {g : Nat → Nat} {n lo s r hi a m b x : Nat} (h1 : Srt c g a m) (h2 : Srt c g m b) (h3 : Sep g a m b) (hlo : a ≤ lo) (hhi : hi ≤ m) (hb : n ≤ b + lo) (hm : m + hi ≤ n) (h : Cut c g n lo s r hi)
    (hx : s ≤ x) (hxr : x < r) (hn : c (g (n - 1 - x)) (g x) < 0) : Cut c g n lo s x hi := by
  obtain ⟨q1, q2, q3, q4, q5⟩ := h
  refine ⟨by omega, by omega, by omega, q4, fun k k1 k2 => ?_⟩
  have hp : pr c (g (n - 1 - x)) (g x) := .inl hn
  by_cases e : k = x
  · subst e; exact hp
  · exact pr_trans hc (h2 _ _ (by omega) (by omega) (by omega)) (pr_trans hc hp (h1 _ _ (by omega) (by omega) (by omega)))
/-- Behind the rotation: two merges are left, and all of the first stands ahead of all of the second. -/
theorem cut_done {c : Nat → Nat → Int} (hc : COrd c) {g : Nat → Nat} {a m b mid lo hi s : Nat} (ham : a < m) (hmb : m < b) (h1 : Srt c g a m) (h2 : Srt c g m b) (h3 : Sep g a m b) (hmid : mid = (a + b) / 2)
    (hl : (mid < m ∧ lo = mid + m - b ∧ hi = mid) ∨ (m ≤ mid ∧ lo = a ∧ hi = m)) (h : Cut c g (mid + m) lo s s hi) :
    let e := mid + m - s
    let g1 := Rot g s m e
    s ≤ mid ∧ s ≤ m ∧ m ≤ e ∧ mid ≤ e ∧ e ≤ b ∧ a ≤ s ∧ Srt c g1 a s ∧ Srt c g1 s mid ∧ Sep g1 a s mid ∧ Srt c g1 mid e ∧ Srt c g1 e b ∧ Sep g1 mid e b ∧ ∀ x y, a ≤ x → x < mid → mid ≤ y → y < b → pr c (g1 x) (g1 y) := by
  intro e g1
  obtain ⟨q1, q2, q3, q4, q5⟩ := h
  have hsm : s ≤ m := by omega
  have hsmid : s ≤ mid := by omega
  have hme : m ≤ e := by show m ≤ mid + m - s; omega
  have hmide : mid ≤ e := by show mid ≤ mid + m - s; omega
  have heb : e ≤ b := by show mid + m - s ≤ b; omega
  have has : a ≤ s := by omega
  have he : e = mid + m - s := rfl
  clear_value e
  -- what stands where
  have w1 : ∀ k, a ≤ k → k < s → g1 k = g k := fun k k1 k2 => by show Rot g s m e k = _; unfold Rot; rw [if_neg (by omega), if_neg (by omega)]
  have w2 : ∀ k, s ≤ k → k < mid → g1 k = g (k + (m - s)) := fun k k1 k2 => by show Rot g s m e k = _; unfold Rot; rw [if_pos (by omega)]
  have w3 : ∀ k, mid ≤ k → k < e → g1 k = g (k - (e - m)) := fun k k1 k2 => by show Rot g s m e k = _; unfold Rot; rw [if_neg (by omega), if_pos (by omega)]
  have w4 : ∀ k, e ≤ k → k < b → g1 k = g k := fun k k1 k2 => by show Rot g s m e k = _; unfold Rot; rw [if_neg (by omega), if_neg (by omega)]
  clear_value g1
  have c1 : ∀ x y, a ≤ x → x < s → e ≤ y → y < b → pr c (g x) (g y) := fun x y x1 x2 y1 y2 => by
    have hls : lo < s := by
      rcases hl with hl | hl <;> omega
    have := q4 (s - 1) (by omega) (by omega)
    rw [show mid + m - 1 - (s - 1) = e by omega] at this
    have p1 : pr c (g x) (g e) := by
      by_cases ex : x = s - 1
      · rw [ex]; exact this
      · exact pr_trans hc (h1 x (s - 1) (by omega) (by omega) (by omega)) this
    by_cases ey : y = e
    · rw [ey]; exact p1
    · exact pr_trans hc p1 (h2 e y (by omega) (by omega) (by omega))
  have c2 : ∀ x y, m ≤ x → x < e → s ≤ y → y < m → pr c (g x) (g y) := fun x y x1 x2 y1 y2 => by
    have hls : s < hi := by
      rcases hl with hl | hl <;> omega
    have := q5 s (by omega) hls
    rw [show mid + m - 1 - s = e - 1 by omega] at this
    have p1 : pr c (g x) (g s) := by
      by_cases ex : x = e - 1
      · rw [ex]; exact this
      · exact pr_trans hc (h2 x (e - 1) (by omega) (by omega) (by omega)) this
    by_cases ey : y = s
    · rw [ey]; exact p1
    · exact pr_trans hc p1 (h1 s y (by omega) (by omega) (by omega))
  refine ⟨hsmid, hsm, hme, hmide, heb, has, ?_, ?_, ?_, ?_, ?_, ?_, ?_⟩
  · intro i j i1 i2 i3
    rw [w1 i (by omega) (by omega), w1 j (by omega) (by omega)]
    exact h1 i j (by omega) (by omega) (by omega)
  · intro i j i1 i2 i3
    rw [w2 i (by omega) (by omega), w2 j (by omega) (by omega)]
    exact h2 _ _ (by omega) (by omega) (by omega)
  · intro i j i1 i2 i3 i4
    rw [w1 i (by omega) (by omega), w2 j (by omega) (by omega)]
    exact h3 _ _ (by omega) (by omega) (by omega) (by omega)
  · intro i j i1 i2 i3
    rw [w3 i (by omega) (by omega), w3 j (by omega) (by omega)]
    exact h1 _ _ (by omega) (by omega) (by omega)
  · intro i j i1 i2 i3
    rw [w4 i (by omega) (by omega), w4 j (by omega) (by omega)]
    exact h2 _ _ (by omega) (by omega) (by omega)
  · intro i j i1 i2 i3 i4
    rw [w3 i (by omega) (by omega), w4 j (by omega) (by omega)]
    exact h3 _ _ (by omega) (by omega) (by omega) (by omega)
  · intro x y x1 x2 y1 y2
    by_cases hx : x < s
    · rw [w1 x x1 hx]
      by_cases hy : y < e
      · rw [w3 y y1 hy]
        exact h1 _ _ (by omega) (by omega) (by omega)
      · rw [w4 y (by omega) y2]
        exact c1 x y x1 hx (by omega) y2
    · rw [w2 x (by omega) x2]
      by_cases hy : y < e
      · rw [w3 y y1 hy]
        exact c2 _ _ (by omega) (by omega) (by omega) (by omega)
      · rw [w4 y (by omega) y2]
        exact h2 _ _ (by omega) (by omega) (by omega)
/-- Two merged halves. -/
theorem halves {c : Nat → Nat → Int} {g1 g2 g3 : Nat → Nat} {a mid b : Nat} (ha : a ≤ mid) (hb : mid ≤ b) (hx : ∀ x y, a ≤ x → x < mid → mid ≤ y → y < b → pr c (g1 x) (g1 y))
    (s1 : Srt c g2 a mid) (m1 : Mm g1 g2 a mid) (o1 : Ou g1 g2 a mid) (s2 : Srt c g3 mid b) (m2 : Mm g2 g3 mid b) (o2 : Ou g2 g3 mid b) : Srt c g3 a b ∧ Mm g1 g3 a b ∧ Ou g1 g3 a b := by
  refine ⟨fun i j i1 i2 i3 => ?_, (m1.wide o1 (Nat.le_refl _) hb).trans (m2.wide o2 ha (Nat.le_refl _)), (o1.wide (Nat.le_refl _) hb).trans (o2.wide ha (Nat.le_refl _))⟩
  by_cases hj : j < mid
  · rw [o2 i (by omega), o2 j (by omega)]
    exact s1 i j i1 i2 hj
  · by_cases hi : mid ≤ i
    · exact s2 i j hi i2 i3
    · rw [o2 i (by omega)]
      obtain ⟨k, k1, k2, e⟩ := m1 i i1 (by omega)
      obtain ⟨k', k3, k4, e'⟩ := m2 j (by omega) i3
      rw [e, e', o1 k' (by omega)]
      exact hx k k' k1 k2 k3 k4
/-- One put into a row behind it, or ahead of it. -/
def Mv (g : Nat → Nat) (a i : Nat) : Nat → Nat := fun k => if a ≤ k ∧ k + 1 < i then g (k + 1) else if k + 1 = i then g a else g k
def Mw (g : Nat → Nat) (i m : Nat) : Nat → Nat := fun k => if k = i then g m else if i < k ∧ k ≤ m then g (k - 1) else g k
theorem mv_srt {c : Nat → Nat → Int} (hc : COrd c) {g : Nat → Nat} {a b i : Nat} (h2 : Srt c g (a + 1) b) (h3 : Sep g a (a + 1) b) (hi : a + 1 ≤ i) (hib : i ≤ b)
    (q1 : ∀ k, a + 1 ≤ k → k < i → pr c (g k) (g a)) (q2 : ∀ k, i ≤ k → k < b → pr c (g a) (g k)) : Srt c (Mv g a i) a b ∧ Mm g (Mv g a i) a b ∧ Ou g (Mv g a i) a b := by
  refine ⟨fun x y x1 x2 x3 => ?_, fun k k1 k2 => ?_, fun k hk => ?_⟩
  · unfold Mv
    by_cases hx : x + 1 < i
    · rw [if_pos ⟨x1, hx⟩]
      by_cases hy : y + 1 < i
      · rw [if_pos (by omega)]; exact h2 _ _ (by omega) (by omega) (by omega)
      · rw [if_neg (by omega)]
        by_cases hy2 : y + 1 = i
        · rw [if_pos hy2]; exact q1 _ (by omega) (by omega)
        · rw [if_neg hy2]; exact h2 _ _ (by omega) (by omega) (by omega)
    · rw [if_neg (by omega), if_neg (c := a ≤ y ∧ y + 1 < i) (by omega), if_neg (c := y + 1 = i) (by omega)]
      by_cases hx2 : x + 1 = i
      · rw [if_pos hx2]; exact q2 _ (by omega) (by omega)
      · rw [if_neg hx2]; exact h2 _ _ (by omega) (by omega) (by omega)
  · unfold Mv
    by_cases hx : a ≤ k ∧ k + 1 < i
    · rw [if_pos hx]; exact ⟨k + 1, by omega, by omega, rfl⟩
    · rw [if_neg hx]
      by_cases hx2 : k + 1 = i
      · rw [if_pos hx2]; exact ⟨a, by omega, by omega, rfl⟩
      · rw [if_neg hx2]; exact ⟨k, k1, k2, rfl⟩
  · unfold Mv
    rw [if_neg (by omega), if_neg (by omega)]
theorem mw_srt {c : Nat → Nat → Int} (hc : COrd c) {g : Nat → Nat} {a m i : Nat} (h1 : Srt c g a m) (hi : a ≤ i) (him : i ≤ m)
    (q1 : ∀ k, a ≤ k → k < i → pr c (g k) (g m)) (q2 : ∀ k, i ≤ k → k < m → pr c (g m) (g k)) : Srt c (Mw g i m) a (m + 1) ∧ Mm g (Mw g i m) a (m + 1) ∧ Ou g (Mw g i m) a (m + 1) := by
  refine ⟨fun x y x1 x2 x3 => ?_, fun k k1 k2 => ?_, fun k hk => ?_⟩
  · unfold Mw
    by_cases hx : x < i
    · rw [if_neg (c := x = i) (by omega), if_neg (c := i < x ∧ x ≤ m) (by omega)]
      by_cases hy : y = i
      · rw [if_pos hy]; exact q1 _ x1 hx
      · rw [if_neg hy]
        by_cases hy2 : i < y ∧ y ≤ m
        · rw [if_pos hy2]; exact h1 _ _ x1 (by omega) (by omega)
        · rw [if_neg hy2]; exact h1 _ _ x1 (by omega) (by omega)
    · rw [if_neg (c := y = i) (by omega), if_pos (c := i < y ∧ y ≤ m) (by omega)]
      by_cases hx2 : x = i
      · rw [if_pos hx2]; exact q2 _ (by omega) (by omega)
      · rw [if_neg hx2, if_pos (by omega)]; exact h1 _ _ (by omega) (by omega) (by omega)
  · unfold Mw
    by_cases hx : k = i
    · rw [if_pos hx]; exact ⟨m, by omega, by omega, rfl⟩
    · rw [if_neg hx]
      by_cases hx2 : i < k ∧ k ≤ m
      · rw [if_pos hx2]; exact ⟨k - 1, by omega, by omega, rfl⟩
      · rw [if_neg hx2]; exact ⟨k, k1, k2, rfl⟩
  · unfold Mw
    rw [if_neg (by omega), if_neg (by omega)]
theorem mw_id (g : Nat → Nat) (i : Nat) : Mw g i i = g := by
  funext k
  unfold Mw
  by_cases e : k = i
  · rw [if_pos e, e]
  · rw [if_neg e, if_neg (by omega)]
theorem mw_swap {g : Nat → Nat} {j i : Nat} (hj : 0 < j) (hji : j ≤ i) (k : Nat) : Mw g (j - 1) i k = if k = j - 1 then Mw g j i j else if k = j then Mw g j i (j - 1) else Mw g j i k := by
  unfold Mw
  repeat' split
  all_goals first | rfl | (exfalso; omega) | (congr 1; omega)
theorem mv_id (g : Nat → Nat) (a : Nat) : Mv g a (a + 1) = g := by
  funext k
  unfold Mv
  repeat' split
  all_goals first | rfl | (exfalso; omega) | (congr 1; omega)
theorem mv_swap {g : Nat → Nat} {a j : Nat} (hj : a ≤ j) (k : Nat) : Mv g a (j + 2) k = if k = j + 1 then Mv g a (j + 1) j else if k = j then Mv g a (j + 1) (j + 1) else Mv g a (j + 1) k := by
  unfold Mv
  repeat' split
  all_goals first | rfl | (exfalso; omega) | (congr 1; omega)
theorem rot_triv {g : Nat → Nat} {a m b : Nat} (h : a = m ∨ m = b) (h1 : a ≤ m) (h2 : m ≤ b) : Rot g a m b = g := by
  funext k
  unfold Rot
  repeat' split
  all_goals first | rfl | (exfalso; omega) | (congr 1; omega)
theorem srt_glue {c : Nat → Nat → Int} {g : Nat → Nat} {a m b : Nat} (h1 : Srt c g a m) (h2 : Srt c g m b) (h : ¬ (a < m ∧ m < b)) (ha : a ≤ m) (hb : m ≤ b) : Srt c g a b := by
  by_cases e : m ≤ a
  · obtain rfl : m = a := by omega
    exact h2
  · obtain rfl : m = b := by omega
    exact h1
/-- Blocks of twenty are in order up to a place; behind it all stand as they stood. -/
def Blk (c : Nat → Nat → Int) (N x : Nat) (ps : List Nat) : Prop := ps.length = N ∧ ps.Perm (List.range N) ∧ (∀ i j, i < j → j < x → i / 20 = j / 20 → pr c (gt ps i) (gt ps j)) ∧ (∀ k, k < x → gt ps k / 20 = k / 20) ∧ ∀ k, x ≤ k → k < N → gt ps k = k
theorem gt_range {N k : Nat} (h : k < N) : gt (List.range N) k = k := by rw [gt_of (by simpa using h)]; simp
theorem blk_step {c : Nat → Nat → Int} {N x y : Nat} {ps ps' : List Nat} (h : Blk c N x ps) (hx : x % 20 = 0) (hxy : x ≤ y) (hy : y ≤ N) (hy2 : y ≤ x + 20) (hl : ps'.length = N) (hp : ps'.Perm ps) (hs : Srt c (gt ps') x y) (hm : Mm (gt ps) (gt ps') x y) (ho : Ou (gt ps) (gt ps') x y) : Blk c N y ps' := by
  obtain ⟨b1, b2, b3, b4, b5⟩ := h
  refine ⟨hl, hp.trans b2, fun i j hij hj hd => ?_, fun k hk => ?_, fun k k1 k2 => ?_⟩
  · by_cases hjx : j < x
    · rw [ho i (by omega), ho j (by omega)]
      exact b3 i j hij hjx hd
    · exact hs i j (by omega) hij hj
  · by_cases hkx : k < x
    · rw [ho k (by omega)]; exact b4 k hkx
    · obtain ⟨k', k1, k2, e⟩ := hm k (by omega) hk
      rw [e, b5 k' k1 (by omega)]
      omega
  · rw [ho k (by omega)]; exact b5 k (by omega) k2
/-- There is one row of places in order. -/
theorem srt_unique {c : Nat → Nat → Int} (hc : COrd c) {ps qs : List Nat} (hp : ps.Perm qs) (h1 : ps.Pairwise (pr c)) (h2 : qs.Pairwise (pr c)) : ps = qs :=
  hp.eq_of_pairwise (fun a b _ _ hab hba => absurd hba (pr_asymm hc hab)) h1 h2
theorem srt_pairwise {c : Nat → Nat → Int} {ps : List Nat} (h : Srt c (gt ps) 0 ps.length) : ps.Pairwise (pr c) := by
  rw [List.pairwise_iff_getElem]
  intro i j hi hj hij
  have := h i j (Nat.zero_le _) hij hj
  rwa [gt_of hi, gt_of hj] at this
end Go.Proofs.YtfimhkijacamoaaDoor.SP

/- Plain: a version's tokens, and how two versions stand: orders out of orders; no program in sight. -/
import Derived.Test.YtfimhkijacamoaaDoorDigits
set_option linter.unusedVariables false
set_option linter.unusedSimpArgs false
namespace Go.Proofs.YtfimhkijacamoaaDoor.Vm
open Go Go.Proofs.YtfimhkijacamoaaDoor.Dg

abbrev B := List UInt8
abbrev T := Int × List UInt8

/-! ### Orders told by -1, 0, 1 -/
structure Ord {α : Type} (c : α → α → Int) : Prop where
  rng : ∀ a b, c a b = -1 ∨ c a b = 0 ∨ c a b = 1
  anti : ∀ a b, c b a = -c a b
  tr : ∀ a b d, c a b ≤ 0 → c b d ≤ 0 → c a d ≤ 0
namespace Ord
variable {α β : Type} {c c1 c2 : α → α → Int}
theorem refl (h : Ord c) (a : α) : c a a = 0 := by have := h.anti a a; omega
theorem zero_l (h : Ord c) {a b : α} (e : c a b = 0) (d : α) : c a d = c b d := by
  have e' : c b a = 0 := by rw [h.anti a b, e]; rfl
  have h1 := h.tr a b d (by omega)
  have h2 := h.tr b a d (by omega)
  have h3 := fun x => h.tr d a b x (by omega)
  have h4 := fun x => h.tr d b a x (by omega)
  rw [h.anti a d, h.anti b d] at h3 h4
  have r1 := h.rng a d
  have r2 := h.rng b d
  omega
theorem zero_r (h : Ord c) {a b : α} (e : c a b = 0) (d : α) : c d a = c d b := by
  rw [h.anti a d, h.anti b d, h.zero_l e d]
theorem lex_tr (h1 : Ord c1) {x y z : α} {p q r : Int} (hp : (if c1 x y = 0 then p else c1 x y) ≤ 0) (hq : (if c1 y z = 0 then q else c1 y z) ≤ 0) (hr : p ≤ 0 → q ≤ 0 → r ≤ 0) :
    (if c1 x z = 0 then r else c1 x z) ≤ 0 := by
  by_cases a : c1 x y = 0
  · rw [if_pos a] at hp
    rw [h1.zero_l a z]
    by_cases b : c1 y z = 0
    · rw [if_pos b] at hq ⊢
      exact hr hp hq
    · rw [if_neg b] at hq ⊢
      exact hq
  · rw [if_neg a] at hp
    by_cases b : c1 y z = 0
    · rw [← h1.zero_r b x, if_neg a]
      exact hp
    · rw [if_neg b] at hq
      have h3 := h1.tr x y z hp hq
      by_cases e : c1 x z = 0
      · exfalso
        have := h1.zero_r e y
        rw [h1.anti x y] at this
        omega
      · rw [if_neg e]
        exact h3
def lexc (c1 c2 : α → α → Int) (a b : α) : Int := if c1 a b = 0 then c2 a b else c1 a b
theorem lex (h1 : Ord c1) (h2 : Ord c2) : Ord (lexc c1 c2) where
  rng a b := by
    unfold lexc
    split
    · exact h2.rng a b
    · exact h1.rng a b
  anti a b := by
    unfold lexc
    rw [h1.anti a b, h2.anti a b]
    by_cases e : c1 a b = 0
    · rw [if_pos e, if_pos (by omega)]
    · rw [if_neg e, if_neg (by omega)]
  tr a b d hp hq := lex_tr h1 hp hq (h2.tr a b d)
theorem on (h : Ord c) (f : β → α) : Ord (fun a b => c (f a) (f b)) where
  rng a b := h.rng _ _
  anti a b := h.anti _ _
  tr a b d := h.tr _ _ _
end Ord
theorem cmpI_ord : Ord cmpI := ⟨cmpI_rng, cmpI_swap, fun _ _ _ => cmpI_tr⟩
theorem cmpc_ord : Ord cmpc := by
  have h : cmpc = fun a b : UInt8 => cmpI a.toNat b.toNat := by funext a b; exact cmpc_eq a b
  rw [h]
  exact cmpI_ord.on (fun a : UInt8 => (a.toNat : Int))
theorem cmpB_ord : Ord cmpB where
  rng a b := by
    induction a generalizing b with
    | nil => cases b <;> simp [Lib.compareBytes]
    | cons x a ih =>
      cases b with
      | nil => simp [Lib.compareBytes]
      | cons y b =>
        rw [cmpB_cons]
        split
        · exact ih b
        · exact cmpc_ord.rng x y
  anti a b := by
    induction a generalizing b with
    | nil => cases b <;> simp [Lib.compareBytes]
    | cons x a ih =>
      cases b with
      | nil => simp [Lib.compareBytes]
      | cons y b =>
        rw [cmpB_cons, cmpB_cons, cmpc_ord.anti x y, ih b]
        by_cases e : cmpc x y = 0
        · rw [if_pos e, if_pos (by omega)]
        · rw [if_neg e, if_neg (by omega)]
  tr a := by
    induction a with
    | nil => intro b d _ _; cases d <;> simp [Lib.compareBytes]
    | cons x a ih =>
      intro b d h1 h2
      cases b with
      | nil => simp [Lib.compareBytes] at h1
      | cons y b =>
        cases d with
        | nil => simp [Lib.compareBytes] at h2
        | cons z d =>
          rw [cmpB_cons] at h1 h2 ⊢
          exact Ord.lex_tr cmpc_ord h1 h2 (ih b d)

/-! ### Tokens -/
def num3 (t : T) : Int := if t.1 = 3 then t.2.length else 0
def piece : T → T → Int := Ord.lexc (fun a b => cmpI a.1 b.1) (Ord.lexc (fun a b => cmpI (num3 a) (num3 b)) (fun a b => cmpB a.2 b.2))
theorem piece_ord : Ord piece := (cmpI_ord.on (fun a : T => a.1)).lex ((cmpI_ord.on num3).lex (cmpB_ord.on (fun a : T => a.2)))
/-- As the program has it. -/
theorem piece_eq (a b : T) : piece a b = if a.1 = b.1 then (if a.1 = 3 then (if (a.2.length : Int) ≠ b.2.length then cmpI a.2.length b.2.length else cmpB a.2 b.2) else cmpB a.2 b.2) else cmpI a.1 b.1 := by
  unfold piece Ord.lexc num3
  by_cases h : a.1 = b.1
  · simp only []
    rw [if_pos (cmpI_zero.2 h), if_pos h, ← h]
    by_cases h3 : a.1 = 3
    · rw [if_pos h3, if_pos h3, if_pos h3]
      by_cases hl : (a.2.length : Int) = b.2.length
      · rw [if_pos (cmpI_zero.2 hl), if_neg (by simpa using hl)]
      · rw [if_neg (by rw [cmpI_zero]; exact hl), if_pos hl]
    · rw [if_neg h3, if_neg h3, if_neg h3, if_pos (cmpI_self _)]
  · rw [if_neg (by rw [cmpI_zero]; exact h), if_neg h]
def E : T := (1, [])
def cmpN : Nat → List T → List T → Int
  | 0, _, _ => 0
  | n + 1, p, q => if piece (p.headD E) (q.headD E) = 0 then cmpN n p.tail q.tail else piece (p.headD E) (q.headD E)
theorem cmpN_ord : ∀ n, Ord (cmpN n)
  | 0 => ⟨fun _ _ => .inr (.inl rfl), fun _ _ => rfl, fun _ _ _ _ _ => Int.le_refl _⟩
  | n + 1 => (piece_ord.on (fun p : List T => p.headD E)).lex ((cmpN_ord n).on (fun p : List T => p.tail))
theorem cmpN_nil (n : Nat) : cmpN n [] [] = 0 := (cmpN_ord n).refl []
theorem cmpN_more (n m : Nat) : ∀ (p q : List T), p.length ≤ n → q.length ≤ n → cmpN (n + m) p q = cmpN n p q := by
  induction n with
  | zero =>
    intro p q hp hq
    obtain rfl : p = [] := List.eq_nil_of_length_eq_zero (by omega)
    obtain rfl : q = [] := List.eq_nil_of_length_eq_zero (by omega)
    rw [cmpN_nil, cmpN_nil]
  | succ n ih =>
    intro p q hp hq
    rw [show n + 1 + m = (n + m) + 1 by omega]
    simp only [cmpN]
    rw [ih p.tail q.tail (by rw [List.length_tail]; omega) (by rw [List.length_tail]; omega)]
def cmpT (p q : List T) : Int := cmpN (max p.length q.length) p q
theorem cmpT_of {p q : List T} {n : Nat} (hp : p.length ≤ n) (hq : q.length ≤ n) : cmpT p q = cmpN n p q := by
  obtain ⟨m, rfl⟩ : ∃ m, n = max p.length q.length + m := ⟨n - max p.length q.length, by omega⟩
  exact (cmpN_more _ m p q (by omega) (by omega)).symm
theorem cmpT_ord : Ord cmpT where
  rng a b := (cmpN_ord _).rng a b
  anti a b := by
    rw [cmpT_of (n := max a.length b.length) (by omega) (by omega), cmpT_of (p := a) (q := b) (n := max a.length b.length) (by omega) (by omega)]
    exact (cmpN_ord _).anti a b
  tr a b d := by
    rw [cmpT_of (p := a) (q := b) (n := max a.length (max b.length d.length)) (by omega) (by omega), cmpT_of (p := b) (q := d) (n := max a.length (max b.length d.length)) (by omega) (by omega),
      cmpT_of (p := a) (q := d) (n := max a.length (max b.length d.length)) (by omega) (by omega)]
    exact (cmpN_ord _).tr a b d
theorem cmpT_cons (a b : T) (p q : List T) : cmpT (a :: p) (b :: q) = if piece a b = 0 then cmpT p q else piece a b := by
  rw [cmpT_of (p := a :: p) (q := b :: q) (n := max p.length q.length + 1) (by simp; omega) (by simp; omega)]
  simp only [cmpN, List.headD_cons, List.tail_cons]
  rfl
theorem cmpT_cons_nil (a : T) (p : List T) : cmpT (a :: p) [] = if piece a E = 0 then cmpT p [] else piece a E := by
  rw [cmpT_of (p := a :: p) (q := []) (n := p.length + 1) (by simp) (by simp), cmpT_of (p := p) (q := []) (n := p.length) (by simp) (by simp)]
  rfl
theorem cmpT_nil_cons (b : T) (q : List T) : cmpT [] (b :: q) = if piece E b = 0 then cmpT [] q else piece E b := by
  rw [cmpT_of (p := []) (q := b :: q) (n := q.length + 1) (by simp) (by simp), cmpT_of (p := []) (q := q) (n := q.length) (by simp) (by simp)]
  rfl
theorem cmpT_pre (h x y : List T) : cmpT (h ++ x) (h ++ y) = cmpT x y := by
  induction h with
  | nil => rfl
  | cons a h ih => rw [List.cons_append, List.cons_append, cmpT_cons, if_pos (piece_ord.refl a), ih]
theorem cmpT_nil : cmpT [] [] = 0 := rfl

def cls (c : UInt8) : Int :=
  if 65 ≤ c.toNat ∧ c.toNat ≤ 90 ∨ 97 ≤ c.toNat ∧ c.toNat ≤ 122 then 2 else if 48 ≤ c.toNat ∧ c.toNat ≤ 57 then 3 else if c.toNat = 126 then 0 else -1
theorem cls_rng (c : UInt8) : cls c = 2 ∨ cls c = 3 ∨ cls c = 0 ∨ cls c = -1 := by unfold cls; (repeat' split) <;> omega
theorem cls_digit {c : UInt8} (h : 48 ≤ c.toNat ∧ c.toNat ≤ 57) : cls c = 3 := by
  unfold cls
  rw [if_neg (by omega), if_pos h]
theorem cls_tilde {c : UInt8} (h : cls c = 0) : c = 126 := by
  unfold cls at h
  repeat' split at h
  · omega
  · omega
  · rename_i h2
    exact UInt8.toNat_inj.1 h2
  · omega
def trim0 (l : B) : B := l.dropWhile (· == 48)
def tok (k : Int) (l : B) : T := (k, if k = 3 then trim0 l else l)
def toks : B → List T
  | [] => []
  | c :: t =>
    if cls c > 0 then tok (cls c) (c :: t.takeWhile (fun x => cls x == cls c)) :: toks (t.dropWhile (fun x => cls x == cls c))
    else if cls c = 0 then tok 0 [c] :: toks t
    else toks t
termination_by l => l.length
decreasing_by
  · have := (List.dropWhile_sublist (l := t) (fun x => cls x == cls c)).length_le
    simp only [List.length_cons]
    omega
  · simp
  · simp
theorem toks_nil : toks [] = [] := by rw [toks]
theorem toks_pos {c : UInt8} (t : B) (h : cls c > 0) : toks (c :: t) = tok (cls c) (c :: t.takeWhile (fun x => cls x == cls c)) :: toks (t.dropWhile (fun x => cls x == cls c)) := by rw [toks, if_pos h]
theorem toks_zero {c : UInt8} (t : B) (h : cls c = 0) : toks (c :: t) = tok 0 [c] :: toks t := by rw [toks, if_neg (by omega), if_pos h]
theorem toks_neg {c : UInt8} (t : B) (h : cls c = -1) : toks (c :: t) = toks t := by rw [toks, if_neg (by omega), if_neg (by omega)]
theorem tw_sep (p : UInt8 → Bool) (c : UInt8) (r : B) (hc : p c = false) (h : B) : (h ++ c :: r).takeWhile p = h.takeWhile p := by
  induction h with
  | nil => simp [hc]
  | cons a h ih =>
    rw [List.cons_append, List.takeWhile_cons, List.takeWhile_cons, ih]
theorem dw_sep (p : UInt8 → Bool) (c : UInt8) (r : B) (hc : p c = false) (h : B) : (h ++ c :: r).dropWhile p = h.dropWhile p ++ c :: r := by
  induction h with
  | nil => simp [hc]
  | cons a h ih =>
    rw [List.cons_append, List.dropWhile_cons, List.dropWhile_cons, ih]
    split <;> rfl
/-- What says nothing parts. -/
theorem toks_sep (h : B) : ∀ (c : UInt8) (r : B), cls c = -1 → toks (h ++ c :: r) = toks h ++ toks r := by
  induction hn : h.length using Nat.strongRecOn generalizing h with
  | _ n ih =>
    intro c r hc
    cases h with
    | nil => rw [List.nil_append, toks_neg r hc, toks_nil, List.nil_append]
    | cons x h =>
      rw [List.cons_append]
      rcases cls_rng x with hx | hx | hx | hx
      · have hp : (fun y => cls y == cls x) c = false := by simp [hc, hx]
        rw [toks_pos _ (by omega), toks_pos _ (by omega), tw_sep _ c r hp, dw_sep _ c r hp, List.cons_append]
        rw [ih (h.dropWhile (fun y => cls y == cls x)).length (by
          have := (List.dropWhile_sublist (l := h) (fun y => cls y == cls x)).length_le
          simp at hn; omega) _ rfl c r hc]
      · have hp : (fun y => cls y == cls x) c = false := by simp [hc, hx]
        rw [toks_pos _ (by omega), toks_pos _ (by omega), tw_sep _ c r hp, dw_sep _ c r hp, List.cons_append]
        rw [ih (h.dropWhile (fun y => cls y == cls x)).length (by
          have := (List.dropWhile_sublist (l := h) (fun y => cls y == cls x)).length_le
          simp at hn; omega) _ rfl c r hc]
      · rw [toks_zero _ hx, toks_zero _ hx, List.cons_append, ih h.length (by simp at hn; omega) h rfl c r hc]
      · rw [toks_neg _ hx, toks_neg _ hx, ih h.length (by simp at hn; omega) h rfl c r hc]
theorem tw_all (p : UInt8 → Bool) (l : B) (h : ∀ c ∈ l, p c = true) : l.takeWhile p = l ∧ l.dropWhile p = [] := by
  induction l with
  | nil => exact ⟨rfl, rfl⟩
  | cons a l ih =>
    have ha := h a (by simp)
    obtain ⟨h1, h2⟩ := ih (fun c hc => h c (by simp [hc]))
    rw [List.takeWhile_cons, List.dropWhile_cons, if_pos ha, if_pos ha, h1, h2]
    exact ⟨rfl, rfl⟩
/-- A run of one class is one token. -/
theorem toks_run {k : Int} (hk : k > 0) (l : B) (hne : l ≠ []) (h : ∀ c ∈ l, cls c = k) : toks l = [tok k l] := by
  cases l with
  | nil => exact absurd rfl hne
  | cons a l =>
    have ha := h a (by simp)
    obtain ⟨h1, h2⟩ := tw_all (fun x => cls x == cls a) l (fun c hc => by simp [ha, h c (by simp [hc])])
    rw [toks_pos _ (by omega), h1, h2, toks_nil, ha]
theorem toks_signs (s r : B) (h : ∀ c ∈ s, cls c = -1) : toks (s ++ r) = toks r := by
  induction s with
  | nil => rfl
  | cons a s ih => rw [List.cons_append, toks_neg _ (h a (by simp)), ih (fun c hc => h c (by simp [hc]))]
theorem tw_true (p : UInt8 → Bool) (l : B) : ∀ c ∈ l.takeWhile p, p c = true := by
  induction l with
  | nil => simp
  | cons a l ih =>
    rw [List.takeWhile_cons]
    split
    · rename_i ha
      intro c hc
      rcases List.mem_cons.1 hc with rfl | hc
      · exact ha
      · exact ih c hc
    · simp
theorem trim0_mem {l : B} {c : UInt8} (h : c ∈ trim0 l) : c ∈ l := (List.dropWhile_sublist _).mem h
theorem trim0_idem (l : B) : trim0 (trim0 l) = trim0 l := by
  unfold trim0
  induction l with
  | nil => rfl
  | cons a l ih =>
    rw [List.dropWhile_cons]
    split
    · exact ih
    · rename_i h
      rw [List.dropWhile_cons, if_neg h]
def Val (t : T) : Prop := (t.1 = 3 ∧ (∀ c ∈ t.2, cls c = 3) ∧ trim0 t.2 = t.2) ∨ (t.1 = 2 ∧ t.2 ≠ [] ∧ ∀ c ∈ t.2, cls c = 2) ∨ (t.1 = 0 ∧ t.2 = [126])
theorem toks_val (l : B) : ∀ t ∈ toks l, Val t := by
  induction hn : l.length using Nat.strongRecOn generalizing l with
  | _ n ih =>
    cases l with
    | nil => rw [toks_nil]; simp
    | cons a l =>
      rcases cls_rng a with hx | hx | hx | hx
      · rw [toks_pos _ (by omega)]
        intro t ht
        rcases List.mem_cons.1 ht with rfl | ht
        · refine .inr (.inl ⟨by simp [tok, hx], by simp [tok, hx], fun c hc => ?_⟩)
          simp only [tok, hx] at hc
          rw [if_neg (by omega)] at hc
          rcases List.mem_cons.1 hc with rfl | hc
          · exact hx
          · simpa using tw_true _ l c hc
        · exact ih _ (by
            have := (List.dropWhile_sublist (l := l) (fun y => cls y == cls a)).length_le
            simp at hn; omega) _ rfl t ht
      · rw [toks_pos _ (by omega)]
        intro t ht
        rcases List.mem_cons.1 ht with rfl | ht
        · refine .inl ⟨by simp [tok, hx], fun c hc => ?_, by simp only [tok, hx, if_true]; exact trim0_idem _⟩
          simp only [tok, hx, if_true] at hc
          have hc := trim0_mem hc
          rcases List.mem_cons.1 hc with rfl | hc
          · exact hx
          · simpa using tw_true _ l c hc
        · exact ih _ (by
            have := (List.dropWhile_sublist (l := l) (fun y => cls y == cls a)).length_le
            simp at hn; omega) _ rfl t ht
      · rw [toks_zero _ hx]
        intro t ht
        rcases List.mem_cons.1 ht with rfl | ht
        · exact .inr (.inr ⟨rfl, by simp [tok, cls_tilde hx]⟩)
        · exact ih _ (by simp at hn; omega) _ rfl t ht
      · rw [toks_neg _ hx]
        exact ih _ (by simp at hn; omega) _ rfl
/-- A token's text, as it is written. -/
def out (t : T) : B := if t.1 = 3 ∧ t.2 = [] then [48] else t.2
theorem toks_out {t : T} (h : Val t) : toks (out t) = [t] := by
  obtain ⟨k, x⟩ := t
  rcases h with ⟨h1, h2, h3⟩ | ⟨h1, h2, h3⟩ | ⟨h1, h2⟩
  · simp only at h1 h2 h3
    subst h1
    by_cases hx : x = []
    · subst hx
      have h0 : toks [48] = [tok 3 [48]] := toks_run (by omega) _ (by simp) (by decide)
      exact h0
    · have ho : out (3, x) = x := by simp [out, hx]
      rw [ho, toks_run (k := 3) (by omega) x hx h2]
      simp [tok, h3]
  · simp only at h1 h2 h3
    subst h1
    have ho : out (2, x) = x := by simp [out]
    rw [ho, toks_run (k := 2) (by omega) x h2 h3]
    simp [tok]
  · simp only at h1 h2
    subst h1 h2
    have h0 : toks [126] = [tok 0 [126]] := by rw [toks_zero _ (by decide), toks_nil]
    exact h0
def join (l : List T) : B := l.flatMap fun t => out t ++ [46]
theorem cls_dot : cls 46 = -1 := by decide
theorem toks_join (l : List T) (h : ∀ t ∈ l, Val t) : toks (join l) = l := by
  induction l with
  | nil => exact toks_nil
  | cons t l ih =>
    have e : join (t :: l) = out t ++ 46 :: join l := by simp [join]
    rw [e, toks_sep _ _ _ cls_dot, toks_out (h t (by simp)), ih (fun t ht => h t (by simp [ht]))]
    rfl
theorem dropWhile_rep (n : Nat) (l : B) : (List.replicate n (48 : UInt8) ++ l).dropWhile (· == 48) = l.dropWhile (· == 48) := by
  induction n with
  | zero => rfl
  | succ n ih => rw [List.replicate_succ, List.cons_append, List.dropWhile_cons, if_pos (by rfl), ih]
theorem toks_num (z n : Nat) : toks (List.replicate z 48 ++ num n) = [(3, dig n)] := by
  rw [toks_run (k := 3) (by omega)]
  · unfold tok trim0
    rw [if_pos rfl, dropWhile_rep, num_trim]
  · intro h
    exact num_ne n (List.append_eq_nil_iff.1 h).2
  · intro c hc
    rcases List.mem_append.1 hc with hc | hc
    · rw [(List.mem_replicate.1 hc).2]; decide
    · exact cls_digit (num_all n c hc)
theorem toks_num0 (n : Nat) : toks (num n) = [(3, dig n)] := toks_num 0 n
theorem piece_num (x y : B) : piece (3, x) (3, y) = cmpD x y := by
  rw [piece_eq]
  unfold cmpD
  simp only [if_true]
  by_cases h : x.length = y.length
  · rw [if_pos h, if_neg (by simp [h])]
  · rw [if_neg h, if_pos (by simpa using fun e : (x.length : Int) = y.length => h (by omega))]
theorem cmpT_num (x y : B) : cmpT [(3, x)] [(3, y)] = cmpD x y := by
  rw [cmpT_cons, piece_num, cmpT_nil]
  split <;> simp_all
theorem piece_num_E (x : B) : piece (3, x) E = 1 := by rw [piece_eq]; rfl
theorem piece_word_E (x : B) : piece (2, x) E = 1 := by rw [piece_eq]; rfl
theorem piece_tilde_E (x : B) : piece (0, x) E = -1 := by rw [piece_eq]; rfl
theorem piece_E_num (x : B) : piece E (3, x) = -1 := by rw [piece_eq]; rfl
theorem cmpT_num_nil (x : B) (p : List T) : cmpT ((3, x) :: p) [] = 1 := by rw [cmpT_cons_nil, piece_num_E]; rfl
theorem cmpT_nil_num (x : B) (p : List T) : cmpT [] ((3, x) :: p) = -1 := by rw [cmpT_nil_cons, piece_E_num]; rfl
theorem cmpT_word_nil (x : B) (p : List T) : cmpT ((2, x) :: p) [] = 1 := by rw [cmpT_cons_nil, piece_word_E]; rfl
theorem cmpT_tilde_nil (x : B) (p : List T) : cmpT ((0, x) :: p) [] = -1 := by rw [cmpT_cons_nil, piece_tilde_E]; rfl

/-- Rows of numbers. -/
def cmpL : List Nat → List Nat → Int
  | [], [] => 0
  | [], _ :: _ => -1
  | _ :: _, [] => 1
  | a :: x, b :: y => if a = b then cmpL x y else cmpI a b
theorem cmpT_rows (x : List Nat) : ∀ y : List Nat, cmpT (x.map fun a => (3, dig a)) (y.map fun a => (3, dig a)) = cmpL x y := by
  induction x with
  | nil =>
    intro y
    cases y with
    | nil => rfl
    | cons b y => rw [List.map_nil, List.map_cons, cmpT_nil_num]; rfl
  | cons a x ih =>
    intro y
    cases y with
    | nil => rw [List.map_nil, List.map_cons, cmpT_num_nil]; rfl
    | cons b y =>
      rw [List.map_cons, List.map_cons, cmpT_cons, piece_num, cmpD_dig, ih y, cmpL]
      by_cases h : a = b
      · rw [if_pos h, if_pos (cmpI_zero.2 (by omega))]
      · rw [if_neg h, if_neg (by rw [cmpI_zero]; omega)]
def dots (x : List Nat) : B := x.flatMap fun a => 46 :: num a
theorem toks_dots (x : List Nat) : toks (dots x) = x.map fun a => (3, dig a) := by
  suffices h : ∀ x : List Nat, ∀ l : B, toks (l ++ dots x) = toks l ++ x.map fun a => (3, dig a) from by simpa [toks_nil] using h x []
  intro x
  induction x with
  | nil => intro l; simp [dots]
  | cons a x ih =>
    intro l
    have e : l ++ dots (a :: x) = l ++ 46 :: (num a ++ dots x) := by simp [dots]
    rw [e, toks_sep _ _ _ cls_dot, ih (num a), toks_num0]
    simp
end Go.Proofs.YtfimhkijacamoaaDoor.Vm

/- Counters in a file's name: plain. -/
import Derived.Test.YtfimhkijacamoaaGreatDoorSt
import Derived.Test.YtfimhkijacamoaaGreatDoorDigits
import Derived.Lib.LastIndexByte
import Derived.Lib.IndexMore
import Derived.Lib.IndexBytes
import Derived.Lib.Atoi
import Derived.Lib.ItoaNum
set_option linter.unusedVariables false
set_option linter.unusedSimpArgs false
namespace Go.Proofs.YtfimhkijacamoaaGreatDoor.Cm
open Go Go.Proofs.YtfimhkijacamoaaGreatDoor.St

/-- A number of one or two digits, as it is written. -/
def d2 (n : Nat) : List UInt8 := if n < 10 then [UInt8.ofNat (48 + n)] else [UInt8.ofNat (48 + n / 10), UInt8.ofNat (48 + n % 10)]
def numS : List UInt8 → Option Nat
  | [x] => if 48 ≤ x.toNat ∧ x.toNat ≤ 57 then some (x.toNat - 48) else none
  | [x, y] => if 49 ≤ x.toNat ∧ x.toNat ≤ 57 ∧ 48 ≤ y.toNat ∧ y.toNat ≤ 57 then some ((x.toNat - 48) * 10 + (y.toNat - 48)) else none
  | _ => none
theorem numS_d2 : ∀ n < 100, numS (d2 n) = some n := by decide
theorem d2_all : ∀ n < 100, ∀ c ∈ d2 n, 48 ≤ c.toNat ∧ c.toNat ≤ 57 := by decide
theorem d2_len : ∀ n < 100, (d2 n).length ≤ 2 := by decide
theorem back (x : UInt8) (h : 48 ≤ x.toNat) : UInt8.ofNat (48 + (x.toNat - 48)) = x := by rw [show 48 + (x.toNat - 48) = x.toNat by omega, UInt8.ofNat_toNat]
theorem numS_some : ∀ {l : List UInt8} {n : Nat}, numS l = some n → l = d2 n ∧ n < 100
  | [], n, h => by cases h
  | [x], n, h => by
    have h' : (if 48 ≤ x.toNat ∧ x.toNat ≤ 57 then some (x.toNat - 48) else none) = some n := h
    clear h
    have h := h'
    clear h'
    split at h
    · obtain rfl := Option.some.inj h
      refine ⟨?_, by omega⟩
      unfold d2
      rw [if_pos (by omega), back x (by omega)]
    · cases h
  | [x, y], n, h => by
    have h' : (if 49 ≤ x.toNat ∧ x.toNat ≤ 57 ∧ 48 ≤ y.toNat ∧ y.toNat ≤ 57 then some ((x.toNat - 48) * 10 + (y.toNat - 48)) else none) = some n := h
    clear h
    have h := h'
    clear h'
    split at h
    · obtain rfl := Option.some.inj h
      refine ⟨?_, by omega⟩
      unfold d2
      rw [if_neg (by omega), show ((x.toNat - 48) * 10 + (y.toNat - 48)) / 10 = x.toNat - 48 by omega, show ((x.toNat - 48) * 10 + (y.toNat - 48)) % 10 = y.toNat - 48 by omega, back x (by omega), back y (by omega)]
    · cases h
  | x :: y :: z :: t, n, h => by cases h
theorem dec_d2 {n : Nat} (h : n < 100) : Lib.decDigits n = d2 n := by
  unfold d2
  by_cases h1 : n < 10
  · rw [Lib.decDigits, dif_pos h1, if_pos h1]
  · rw [Lib.decDigits, dif_neg h1, if_neg h1, Lib.decDigits, dif_pos (by omega)]
    rfl
theorem itoa_d2 {n : Nat} (h : n < 100) : Lib.itoa (n : Int) = d2 n := by
  unfold Lib.itoa
  rw [if_neg (by omega), Int.toNat_natCast, dec_d2 h]
theorem num_d2 {n : Nat} (h : n < 100) : Dg.num n = d2 n := by
  unfold Dg.num d2
  by_cases h0 : n = 0
  · subst h0; rfl
  · rw [if_neg h0, Dg.dig_pos h0]
    by_cases h1 : n < 10
    · rw [if_pos h1, show n / 10 = 0 by omega, Dg.dig_zero, List.nil_append, show n % 10 = n by omega]
    · rw [if_neg h1, Dg.dig_pos (show n / 10 ≠ 0 by omega), show n / 10 / 10 = 0 by omega, Dg.dig_zero, List.nil_append, show n / 10 % 10 = n / 10 by omega]
      rfl
/-- The first dash. -/
def dash : List UInt8 → Option (List UInt8 × List UInt8)
  | [] => none
  | c :: t => if c = 45 then some ([], t) else (dash t).map fun p => (c :: p.1, p.2)
theorem dash_none : ∀ {l : List UInt8}, 45 ∉ l → dash l = none
  | [], _ => rfl
  | c :: t, h => by
    have h1 : c ≠ 45 := fun e => h (e ▸ List.mem_cons_self ..)
    rw [dash, if_neg h1, dash_none fun hm => h (List.mem_cons_of_mem _ hm)]
    rfl
theorem dash_app : ∀ {a b : List UInt8}, 45 ∉ a → dash (a ++ 45 :: b) = some (a, b)
  | [], b, _ => rfl
  | c :: t, b, h => by
    have h1 : c ≠ 45 := fun e => h (e ▸ List.mem_cons_self ..)
    rw [List.cons_append, dash, if_neg h1, dash_app fun hm => h (List.mem_cons_of_mem _ hm)]
    rfl
theorem dash_some : ∀ {l a b : List UInt8}, dash l = some (a, b) → l = a ++ 45 :: b
  | [], a, b, h => by cases h
  | c :: t, a, b, h => by
    rw [dash] at h
    by_cases h1 : c = 45
    · rw [if_pos h1] at h
      cases h
      rw [h1]
      rfl
    · rw [if_neg h1] at h
      cases hd : dash t with
      | none => rw [hd] at h; cases h
      | some p =>
        rw [hd] at h
        cases h
        rw [List.cons_append, ← dash_some hd]
theorem idx_dash : ∀ l : List UInt8, Lib.indexByte l 45 = match dash l with | some (a, _) => (a.length : Int) | none => -1
  | [] => rfl
  | c :: t => by
    have ih := idx_dash t
    rw [Lib.indexByte, dash]
    by_cases h1 : c = 45
    · subst h1; rfl
    · rw [if_neg (by simpa using h1), if_neg h1]
      cases hd : dash t with
      | none => rw [hd] at ih; rw [ih]; rfl
      | some p =>
        rw [hd] at ih
        have ih' : Lib.indexByte t 45 = (p.1.length : Int) := ih
        rw [ih']
        have hne : ((p.1.length : Int) == -1) = false := by rw [beq_eq_false_iff_ne]; omega
        rw [hne]
        show (p.1.length : Int) + 1 = ((p.1.length + 1 : Nat) : Int)
        omega
theorem cut_dash (l : List UInt8) : Lib.cut l [45] = match dash l with | some (a, b) => (a, b, true) | none => (l, [], false) := by
  unfold Lib.cut
  rw [Lib.index_one, idx_dash]
  cases hd : dash l with
  | none => rfl
  | some p =>
    obtain ⟨a, b⟩ := p
    have e := dash_some hd
    show (if 0 ≤ (a.length : Int) then _ else _) = _
    rw [if_pos (by omega), Int.toNat_natCast, e]
    simp
/-- What stands behind the plus. -/
def cntr (l : List UInt8) : Option (Nat × Nat) := match dash l with
  | none => (numS l).map fun n => (n, 0)
  | some (a, b) => match numS a, numS b with
    | some L, some D => if D = 0 then none else some (L, D)
    | _, _ => none
def tl (L D : Nat) : List UInt8 := d2 L ++ (if D = 0 then [] else 45 :: d2 D)
theorem d2_not {n : Nat} (h : n < 100) (c : UInt8) (hc : c.toNat < 48) : c ∉ d2 n := fun hm => by have := d2_all n h c hm; omega
theorem cntr_tl {L D : Nat} (hL : L < 100) (hD : D < 100) : cntr (tl L D) = some (L, D) := by
  unfold cntr tl
  by_cases h0 : D = 0
  · subst h0
    rw [if_pos rfl, List.append_nil, dash_none (d2_not hL 45 (by decide)), numS_d2 L hL]
    rfl
  · rw [if_neg h0, dash_app (d2_not hL 45 (by decide))]
    simp only [numS_d2 L hL, numS_d2 D hD]
    rw [if_neg h0]
theorem cntr_some {l : List UInt8} {L D : Nat} (h : cntr l = some (L, D)) : l = tl L D ∧ L < 100 ∧ D < 100 := by
  unfold cntr at h
  cases hd : dash l with
  | none =>
    rw [hd] at h
    cases hn : numS l with
    | none => rw [hn] at h; cases h
    | some n =>
      rw [hn] at h
      cases h
      obtain ⟨e, hlt⟩ := numS_some hn
      refine ⟨?_, hlt, by omega⟩
      unfold tl
      rw [if_pos rfl, List.append_nil]
      exact e
  | some p =>
    obtain ⟨a, b⟩ := p
    rw [hd] at h
    cases ha : numS a with
    | none => simp [ha] at h
    | some n =>
      cases hb : numS b with
      | none => simp [ha, hb] at h
      | some m =>
        simp only [ha, hb] at h
        by_cases h0 : m = 0
        · rw [if_pos h0] at h; cases h
        · rw [if_neg h0] at h
          cases h
          obtain ⟨e1, l1⟩ := numS_some ha
          obtain ⟨e2, l2⟩ := numS_some hb
          refine ⟨?_, l1, l2⟩
          unfold tl
          rw [if_neg h0, dash_some hd, e1, e2]
theorem tl_not {L D : Nat} (hL : L < 100) (hD : D < 100) : (43 : UInt8) ∉ tl L D := by
  unfold tl
  intro hm
  rcases List.mem_append.1 hm with h | h
  · exact d2_not hL 43 (by decide) h
  · by_cases h0 : D = 0
    · rw [if_pos h0] at h; cases h
    · rw [if_neg h0] at h
      rcases List.mem_cons.1 h with h | h
      · cases h
      · exact d2_not hD 43 (by decide) h
theorem tl_len {L D : Nat} (hL : L < 100) (hD : D < 100) : (tl L D).length ≤ 5 := by
  have h1 := d2_len L hL
  have h2 := d2_len D hD
  unfold tl
  split <;> simp <;> omega
/-- The last plus. -/
def plus : List UInt8 → Option (List UInt8 × List UInt8)
  | [] => none
  | c :: t => match plus t with
    | some (a, b) => some (c :: a, b)
    | none => if c = 43 then some ([], t) else none
theorem plus_none : ∀ {l : List UInt8}, 43 ∉ l → plus l = none
  | [], _ => rfl
  | c :: t, h => by
    have h1 : c ≠ 43 := fun e => h (e ▸ List.mem_cons_self ..)
    rw [plus, plus_none fun hm => h (List.mem_cons_of_mem _ hm)]
    exact if_neg h1
theorem plus_app : ∀ {a b : List UInt8}, 43 ∉ b → plus (a ++ 43 :: b) = some (a, b)
  | [], b, h => by
    show plus (43 :: b) = _
    rw [plus, plus_none h]
    rfl
  | c :: t, b, h => by
    rw [List.cons_append, plus, plus_app h]
theorem plus_cases : ∀ l : List UInt8, (43 ∉ l ∧ plus l = none) ∨ ∃ a b, l = a ++ 43 :: b ∧ 43 ∉ b ∧ plus l = some (a, b)
  | [] => .inl ⟨by simp, rfl⟩
  | c :: t => by
    rcases plus_cases t with ⟨h, e⟩ | ⟨a, b, rfl, h, e⟩
    · by_cases h1 : c = 43
      · subst h1
        exact .inr ⟨[], t, rfl, h, by rw [plus, e]; rfl⟩
      · refine .inl ⟨?_, ?_⟩
        · intro hm
          rcases List.mem_cons.1 hm with rfl | hm
          · exact h1 rfl
          · exact h hm
        · rw [plus, e]; exact if_neg h1
    · exact .inr ⟨c :: a, b, rfl, h, by rw [plus, e]⟩
theorem lib_last (l : List UInt8) : Lib.lastIndexByte (st l) 43 = match plus l with | some (a, _) => (a.length : Int) | none => -1 := by
  have hget : ∀ j (hj : j < l.length), ((st l).data[j]!).toNat = (l[j]).toNat := fun j hj => by
    simp [st, hj]
  have hsz : (st l).size = l.length := st_size l
  unfold Lib.lastIndexByte
  rcases Lib.lastIdx_spec (st l) 43 (st l).size with ⟨e, hno⟩ | ⟨i, hi, e, hc, hno⟩
  · rw [e]
    have h43 : 43 ∉ l := fun hm => by
      obtain ⟨j, hj, ej⟩ := List.mem_iff_getElem.1 hm
      apply hno j (by omega)
      rw [hget j hj, ej]
      rfl
    rw [plus_none h43]
  · rw [e]
    rw [hsz] at hi hno
    rw [hget i hi] at hc
    have ec : l[i] = 43 := UInt8.toNat_inj.1 (by have e43 : (43 : UInt8).toNat = 43 := rfl; omega)
    have hsplit : l = l.take i ++ 43 :: l.drop (i + 1) := by
      rw [← ec, ← List.drop_eq_getElem_cons hi, List.take_append_drop]
    have hb : 43 ∉ l.drop (i + 1) := fun hm => by
      obtain ⟨j, hj, ej⟩ := List.mem_iff_getElem.1 hm
      rw [List.length_drop] at hj
      apply hno (i + 1 + j) (by omega) (by omega)
      rw [hget _ (by omega)]
      rw [List.getElem_drop] at ej
      rw [ej]
      rfl
    have hp : plus l = some (l.take i, l.drop (i + 1)) := by
      have := plus_app (a := l.take i) hb
      rwa [← hsplit] at this
    rw [hp]
    show (i : Int) = ((l.take i).length : Int)
    rw [List.length_take]
    omega
/-- A file's stem and count, out of what is ahead of '.conf'. -/
def res (s : List UInt8) : List UInt8 × Bool × Nat × Nat := match plus s with
  | none => (s, false, 0, 0)
  | some (a, b) => if a = [] then (s, false, 0, 0) else match cntr b with
    | none => (s, false, 0, 0)
    | some (L, D) => (a, true, L, D)
theorem res_tl {a : List UInt8} (ha : a ≠ []) {L D : Nat} (hL : L < 100) (hD : D < 100) : res (a ++ 43 :: tl L D) = (a, true, L, D) := by
  unfold res
  rw [plus_app (tl_not hL hD)]
  show (if a = [] then _ else _) = _
  rw [if_neg ha, cntr_tl hL hD]
theorem res_plain {s : List UInt8} (h : 43 ∉ s) : res s = (s, false, 0, 0) := by
  unfold res
  rw [plus_none h]
/-- Joined again it is the stem. -/
theorem res_join (s : List UInt8) (hs : s ≠ []) : (res s = (s, false, 0, 0)) ∨ ∃ a L D, res s = (a, true, L, D) ∧ a ≠ [] ∧ s = a ++ 43 :: tl L D ∧ L < 100 ∧ D < 100 := by
  unfold res
  rcases plus_cases s with ⟨_, e⟩ | ⟨a, b, hs', _, e⟩
  · rw [e]; exact .inl rfl
  · rw [e]
    show ((if a = [] then _ else _) = _) ∨ _
    by_cases ha : a = []
    · rw [if_pos ha]; exact .inl rfl
    · rw [if_neg ha]
      cases hc : cntr b with
      | none => exact .inl rfl
      | some p =>
        obtain ⟨L, D⟩ := p
        obtain ⟨eb, h1, h2⟩ := cntr_some hc
        refine .inr ⟨a, L, D, ?_, ha, ?_, h1, h2⟩
        rotate_left
        · rw [hs', eb]
        show (if a = [] then _ else _) = _
        rw [if_neg ha]
        simp only [hc]
end Go.Proofs.YtfimhkijacamoaaGreatDoor.Cm

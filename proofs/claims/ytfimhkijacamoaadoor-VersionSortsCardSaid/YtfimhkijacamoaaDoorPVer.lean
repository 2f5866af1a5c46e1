/- What package version's functions answer: tokens, and how two versions stand. -/
import Derived.Test.YtfimhkijacamoaaDoorVMath
import Derived.Test.YtfimhkijacamoaaDoorFRow
import Derived.Test.YtfimhkijacamoaaDoorShelf
import Derived.Test.YtfimhkijacamoaaDoorSt
import Derived.WalkKit
import Derived.KernelRfl
import Derived.Test.YtfimhkijacamoaaDoorIc
set_option linter.unusedVariables false
set_option linter.unusedSimpArgs false
set_option maxRecDepth 10000
set_option maxHeartbeats 4000000
namespace Go.Proofs.YtfimhkijacamoaaDoor.PVer
open Go Go.RowKit Go.Proofs.YtfimhkijacamoaaDoor Go.Proofs.YtfimhkijacamoaaDoor.Abs Go.Proofs.YtfimhkijacamoaaDoor.Ic Go.Proofs.YtfimhkijacamoaaDoor.Vm Go.Proofs.YtfimhkijacamoaaDoor.Dg Go.Proofs.YtfimhkijacamoaaDoor.St
abbrev tTok : Nat := 38
def tokC (t : T) : List AV := [.int .i64 t.1, .str t.2]
theorem trimL (l : List UInt8) (H : AH) : ACall Tryd.prog 30 [.str l, .str [48]] H fun v H' => v = .str (trim0 l) ∧ H' = H := by
  refine acall_lib (by kernel_rfl) fun j w cargs hr hv => ?_
  obtain ⟨c1, rfl, h1⟩ := hv.str1
  obtain ⟨c2, rfl, h2⟩ := h1.str1
  obtain rfl := h2.nil_right
  refine ⟨_, .str' _, (Tryd.strings_TrimLeft_one (st l) 48 (by decide) w).mono ?_⟩
  rintro e w' ⟨rfl, rfl⟩
  exact ⟨rfl, Below.refl _ _⟩
theorem cmpInt (x y : Int) (H : AH) : ACall Tryd.prog 32 [.int .i64 x, .int .i64 y] H fun v H' => v = .int .i64 (cmpI x y) ∧ H' = H := by
  refine acall_lib (by kernel_rfl) fun j w cargs hr hv => ?_
  obtain ⟨c1, rfl, h1⟩ := hv.int1
  obtain ⟨c2, rfl, h2⟩ := h1.int1
  obtain rfl := h2.nil_right
  refine ⟨_, .int _ _, (Tryd.cmp_Compare_int x y w).mono ?_⟩
  rintro e w' ⟨rfl, rfl⟩
  exact ⟨rfl, Below.refl _ _⟩
theorem cmpStr (x y : List UInt8) (H : AH) : ACall Tryd.prog 33 [.str x, .str y] H fun v H' => v = .int .i64 (cmpB x y) ∧ H' = H := by
  refine acall_lib (by kernel_rfl) fun j w cargs hr hv => ?_
  obtain ⟨c1, rfl, h1⟩ := hv.str1
  obtain ⟨c2, rfl, h2⟩ := h1.str1
  obtain rfl := h2.nil_right
  refine ⟨_, .int _ _, (Tryd.strings_Compare (st x) (st y) w).mono ?_⟩
  rintro e w' ⟨rfl, rfl⟩
  exact ⟨rfl, Below.refl _ _⟩
theorem Class (c : UInt8) (H : AH) : ACall Tryd.prog 29 [.int .u8 (c.toNat : Int)] H (fun v H' => v = .int .i64 (cls c) ∧ H' = H) := by
  refine acall_enter fits29 (by simp) (by simp) fun hok => ?_
  have hc := c.toNat_lt
  by_cases h1 : 65 ≤ c.toNat ∧ c.toNat ≤ 90
  · have e : cls c = 2 := by unfold cls; rw [if_pos (.inl h1)]
    have a1 : (65 : Int) ≤ (c.toNat : Int) := by omega
    have a2 : (c.toNat : Int) ≤ 90 := by omega
    rw [e]
    simp (disch := first | omega | (simp; done) | assumption) [wr64, wrU8, wrU64, Nat.add_assoc, -getElem?_pos, List.getElem?_cons_zero, List.getElem?_cons_succ, ic29, rs29, a1, a2, h1.1, h1.2]
    exact AH.keepsAll_refl _
  by_cases h2 : 97 ≤ c.toNat ∧ c.toNat ≤ 122
  · have e : cls c = 2 := by unfold cls; rw [if_pos (.inr h2)]
    have a1 : (65 : Int) ≤ (c.toNat : Int) := by omega
    have a2 : ¬ (c.toNat : Int) ≤ 90 := by omega
    have a3 : (97 : Int) ≤ (c.toNat : Int) := by omega
    have a4 : (c.toNat : Int) ≤ 122 := by omega
    have b1 : 65 ≤ c.toNat := by omega
    have b2 : ¬ c.toNat ≤ 90 := by omega
    rw [e]
    simp (disch := first | omega | (simp; done) | assumption) [wr64, wrU8, wrU64, Nat.add_assoc, -getElem?_pos, List.getElem?_cons_zero, List.getElem?_cons_succ, ic29, rs29, a1, a2, a3, a4, b1, b2, h2.1, h2.2]
    exact AH.keepsAll_refl _
  have hno : ¬ (65 ≤ c.toNat ∧ c.toNat ≤ 90 ∨ 97 ≤ c.toNat ∧ c.toNat ≤ 122) := by omega
  have sk : (65 ≤ c.toNat ∧ ¬ c.toNat ≤ 90) ∨ (¬ 65 ≤ c.toNat) := by omega
  have sk2 : (97 ≤ c.toNat ∧ ¬ c.toNat ≤ 122) ∨ (¬ 97 ≤ c.toNat) := by omega
  have si : ((65 : Int) ≤ (c.toNat : Int)) = (65 ≤ c.toNat) := propext (by omega)
  have si1 : ((c.toNat : Int) ≤ 90) = (c.toNat ≤ 90) := propext (by omega)
  have si2 : ((97 : Int) ≤ (c.toNat : Int)) = (97 ≤ c.toNat) := propext (by omega)
  have si3 : ((c.toNat : Int) ≤ 122) = (c.toNat ≤ 122) := propext (by omega)
  have si4 : ((48 : Int) ≤ (c.toNat : Int)) = (48 ≤ c.toNat) := propext (by omega)
  have si5 : ((c.toNat : Int) ≤ 57) = (c.toNat ≤ 57) := propext (by omega)
  have si6 : ((c.toNat : Int) = 126) = (c.toNat = 126) := propext (by omega)
  have he : cls c = if 48 ≤ c.toNat ∧ c.toNat ≤ 57 then 3 else if c.toNat = 126 then 0 else -1 := by unfold cls; rw [if_neg hno]
  rw [he]
  generalize c.toNat = n at *
  have s3 : (48 ≤ n ∧ n ≤ 57) ∨ (48 ≤ n ∧ ¬ n ≤ 57) ∨ (¬ 48 ≤ n) := by omega
  have s4 : n = 126 ∨ ¬ n = 126 := by omega
  rcases sk with ⟨p1, p2⟩ | p1 <;> rcases sk2 with ⟨p3, p4⟩ | p3 <;> rcases s3 with ⟨p5, p6⟩ | ⟨p5, p6⟩ | p5 <;> rcases s4 with p7 | p7 <;> first
    | (exfalso; omega)
    | (simp (disch := first | omega | (simp; done) | assumption) [wr64, wrU8, wrU64, Nat.add_assoc, -getElem?_pos, List.getElem?_cons_zero, List.getElem?_cons_succ, ic29, rs29, si, si1, si2, si3, si4, si5, si6, *]; first | exact AH.keepsAll_refl _ | done)
/-! ### Tokens -/
theorem dw_drop (p : UInt8 → Bool) (l : List UInt8) : l.dropWhile p = l.drop (l.takeWhile p).length := by
  induction l with
  | nil => rfl
  | cons a l ih =>
    rw [List.dropWhile_cons, List.takeWhile_cons]
    split
    · rw [List.length_cons, List.drop_succ_cons, ih]
    · rfl
theorem toks_at {s : List UInt8} {i j : Nat} (hi : i < s.length) (hij : i + 1 ≤ j) (hj : j ≤ s.length)
    (hp : cls s[i] > 0 → (s.drop (i + 1)).takeWhile (fun x => cls x == cls s[i]) = (s.drop (i + 1)).take (j - (i + 1))) (hz : ¬ cls s[i] > 0 → j = i + 1) :
    toks (s.drop i) = (if cls s[i] = -1 then [] else [tok (cls s[i]) ((s.take j).drop i)]) ++ toks (s.drop j) := by
  have hd := List.drop_eq_getElem_cons hi
  have hw : (s.take j).drop i = s[i] :: (s.drop (i + 1)).take (j - (i + 1)) := by
    rw [List.drop_take, hd, show j - i = (j - (i + 1)) + 1 by omega, List.take_succ_cons]
  rw [hd]
  rcases cls_rng s[i] with h | h | h | h
  · have hpos : cls s[i] > 0 := by omega
    have hq := hp hpos
    have hl : ((s.drop (i + 1)).takeWhile (fun x => cls x == cls s[i])).length = j - (i + 1) := by rw [hq]; simp; omega
    have hdw : (s.drop (i + 1)).dropWhile (fun x => cls x == cls s[i]) = s.drop j := by
      have e2 : s.drop j = (s.drop (i + 1)).drop (j - (i + 1)) := by rw [List.drop_drop]; congr 1; omega
      rw [e2, ← hl, dw_drop]
    rw [toks_pos _ hpos, hdw, hq, if_neg (by omega), hw]
    rfl
  · have hpos : cls s[i] > 0 := by omega
    have hq := hp hpos
    have hl : ((s.drop (i + 1)).takeWhile (fun x => cls x == cls s[i])).length = j - (i + 1) := by rw [hq]; simp; omega
    have hdw : (s.drop (i + 1)).dropWhile (fun x => cls x == cls s[i]) = s.drop j := by
      have e2 : s.drop j = (s.drop (i + 1)).drop (j - (i + 1)) := by rw [List.drop_drop]; congr 1; omega
      rw [e2, ← hl, dw_drop]
    rw [toks_pos _ hpos, hdw, hq, if_neg (by omega), hw]
    rfl
  · have := hz (by omega)
    subst this
    rw [toks_zero _ h, if_neg (by omega), hw, h]
    simp
  · have := hz (by omega)
    subst this
    rw [toks_neg _ h, if_pos h]
    rfl
theorem tw_more {s : List UInt8} {p : UInt8 → Bool} {i j : Nat} (hij : i ≤ j) (hj : j < s.length) (hp : p s[j] = true) (h : (s.drop i).takeWhile p = (s.drop i).take (j - i) ++ (s.drop j).takeWhile p) :
    (s.drop i).takeWhile p = (s.drop i).take (j + 1 - i) ++ (s.drop (j + 1)).takeWhile p := by
  rw [h, List.drop_eq_getElem_cons hj, List.takeWhile_cons, if_pos hp, show j + 1 - i = (j - i) + 1 by omega]
  have e : (s.drop i).take (j - i + 1) = (s.drop i).take (j - i) ++ [s[j]] := by
    have hlt : j - i < (s.drop i).length := by simp; omega
    rw [← List.take_append_getElem hlt]
    congr 2
    simp
    congr 1
    omega
  rw [e]
  simp
def TkI (s : List UInt8) (H : AH) (kk : Nat) (tm : Tms) (H' : AH) : Prop := H.keepsAll H' ∧ H.next ≤ H'.next ∧ ∃ (i : Nat) (acc : List T), kk = s.length - i ∧ i ≤ s.length ∧ toks s = acc ++ toks (s.drop i) ∧ acc.length ≤ i ∧
  OutF H.next H' tTok 2 (tm 3) (acc.map tokC) ∧ tm 0 = .str s ∧ tm 4 = .int .i64 (i : Int)
def TkJ (s : List UInt8) (v : AV) (i : Nat) (k : Int) (H1 : AH) (kk : Nat) (tm : Tms) (H' : AH) : Prop := H' = H1 ∧ ∃ j : Nat, kk = s.length - j ∧ i + 1 ≤ j ∧ j ≤ s.length ∧
  (k > 0 → (s.drop (i + 1)).takeWhile (fun x => cls x == k) = (s.drop (i + 1)).take (j - (i + 1)) ++ (s.drop j).takeWhile (fun x => cls x == k)) ∧ (¬ k > 0 → j = i + 1) ∧
  tm 0 = .str s ∧ tm 3 = v ∧ tm 4 = .int .i64 (i : Int) ∧ tm 5 = .int .i64 k ∧ tm 6 = .int .i64 (j : Int)
def TkR (s : List UInt8) (v : AV) (i : Nat) (k : Int) (H1 : AH) (tm : Tms) (H' : AH) : Prop := H' = H1 ∧ ∃ j : Nat, i + 1 ≤ j ∧ j ≤ s.length ∧
  (k > 0 → (s.drop (i + 1)).takeWhile (fun x => cls x == k) = (s.drop (i + 1)).take (j - (i + 1))) ∧ (¬ k > 0 → j = i + 1) ∧
  tm 0 = .str s ∧ tm 3 = v ∧ tm 4 = .int .i64 (i : Int) ∧ tm 5 = .int .i64 k ∧ tm 6 = .int .i64 (j : Int)
theorem LoopW.exit {P : Program} {a : ICode} {Q : IPost} {tm : Tms} {H : AH} {m : MarkL a Q} (id : Nat) (R : Tms → AH → Prop) (h : LoopW P a (fun e tm H => e = .exit id ∧ R tm H) tm H markL) (hq : ∀ tm H, R tm H → Q (.exit id) tm H) : LoopW P a Q tm H m :=
  iwp_mono (.loop a) (fun e tm H ⟨he, hr⟩ => by subst he; exact hq tm H hr) tm H h
theorem all2 (l : List T) : All 2 (l.map tokC) := fun x hx => by obtain ⟨t, _, rfl⟩ := List.mem_map.1 hx; rfl
theorem toks_len (l : List UInt8) : (toks l).length ≤ l.length := by
  induction hn : l.length using Nat.strongRecOn generalizing l with
  | _ n ih =>
    cases l with
    | nil => rw [toks_nil]; simp
    | cons a l =>
      have hd := (List.dropWhile_sublist (l := l) (fun y => cls y == cls a)).length_le
      simp only [List.length_cons] at hn
      rcases cls_rng a with hx | hx | hx | hx
      · rw [toks_pos _ (by omega), List.length_cons]
        have := ih _ (by omega) (l.dropWhile (fun y => cls y == cls a)) rfl
        omega
      · rw [toks_pos _ (by omega), List.length_cons]
        have := ih _ (by omega) (l.dropWhile (fun y => cls y == cls a)) rfl
        omega
      · rw [toks_zero _ hx, List.length_cons]
        have := ih _ (by omega) l rfl
        omega
      · rw [toks_neg _ hx]
        have := ih _ (by omega) l rfl
        omega
theorem Clip {B : Nat} {H : AH} {v : AV} {L : List (List AV)} (h : OutF B H tTok 2 v L) : ACall Tryd.prog 31 [v] H (fun r H' => r = v ∧ H' = H) := by
  have hl := h.lenS
  refine acall_of fits31 (by simp) ?_
  simp (disch := first | omega | (simp; done) | assumption) [wr64, wrU8, wrU64, Nat.add_assoc, -getElem?_pos, List.getElem?_cons_zero, List.getElem?_cons_succ, ic31, rs31, hl]
  rcases h with ⟨rfl, rfl⟩ | ⟨q, rfl, hne, _⟩
  · simp (disch := first | omega | (simp; done) | assumption) [wr64, wrU8, wrU64, Nat.add_assoc, -getElem?_pos, List.getElem?_cons_zero, List.getElem?_cons_succ, slcA, Abs.bounds]
  · have h0 : ¬ L.length = 0 := fun e => hne (List.eq_nil_of_length_eq_zero e)
    have h0' : L ≠ [] := hne
    simp (disch := first | omega | (simp; done) | assumption) [wr64, wrU8, wrU64, Nat.add_assoc, -getElem?_pos, List.getElem?_cons_zero, List.getElem?_cons_succ, slcA, Abs.bounds, h0, h0']
theorem Tokens (s : List UInt8) (hs : s.length ≤ 1000000) (H : AH) : ACall Tryd.prog 19 [.str s] H (fun v H' => H.keepsAll H' ∧ H.next ≤ H'.next ∧ OutF H.next H' tTok 2 v ((toks s).map tokC)) := by
  refine acall_ok (bodyP_of fits19) fun hok => acall_of fits19 (by simp) ?_
  simp (disch := first | omega | (simp; done) | assumption) [wr64, wrU8, wrU64, Nat.add_assoc, -getElem?_pos, List.getElem?_cons_zero, List.getElem?_cons_succ, ic19, rs19]
  refine iwp_loop (TkI s H) s.length ⟨AH.keepsAll_refl _, Nat.le_refl _, 0, [], rfl, by omega, rfl, by simp, .inl ⟨rfl, by simp⟩, by simp, by simp⟩ ?_
  rintro kk tm H1 ⟨hk, hn, i, acc, rfl, hi, hp, hal, hd, t0, t4⟩
  by_cases hlt : i < s.length
  · have hlt' : (i : Int) < (s.length : Int) := by omega
    have hc : s[i]? = some s[i] := List.getElem?_eq_getElem hlt
    have hta := fun j => toks_at (s := s) (i := i) (j := j) hlt
    generalize s[i] = c at *
    simp (disch := first | omega | (simp; done) | assumption) [wr64, wrU8, wrU64, Nat.add_assoc, -getElem?_pos, List.getElem?_cons_zero, List.getElem?_cons_succ, t0, t4, hlt, hlt', hc]
    refine CallW.val (Class c _) ?_
    simp (disch := first | omega | (simp; done) | assumption) [wr64, wrU8, wrU64, Nat.add_assoc, -getElem?_pos, List.getElem?_cons_zero, List.getElem?_cons_succ, t0, t4]
    generalize hv : tm 3 = v at *
    refine LoopW.exit 2 (TkR s v i (cls c) H1) ?_ ?_
    · refine iwp_loop (TkJ s v i (cls c) H1) (s.length - (i + 1)) ⟨rfl, i + 1, rfl, by omega, by omega, fun _ => by simp, fun _ => rfl, by simp [t0], by simp [hv], by simp [t4], by simp, by simp⟩ ?_
      clear t0 t4 hd hta hv tm hc hlt'
      rintro kk tm H2 ⟨rfl, j, rfl, hij, hj, hpp, hzz, t0, t3, t4, t5, t6⟩
      by_cases hjl : j < s.length
      · have hjl' : (j : Int) < (s.length : Int) := by omega
        have hc2 : s[j]? = some s[j] := List.getElem?_eq_getElem hjl
        have hmore := tw_more (s := s) (p := fun x => cls x == cls c) hij hjl
        have hstop : cls s[j] ≠ cls c → (s.drop j).takeWhile (fun x => cls x == cls c) = [] := fun h => by
          rw [List.drop_eq_getElem_cons hjl, List.takeWhile_cons, if_neg (by simpa using h)]
        generalize s[j] = c2 at *
        simp (disch := first | omega | (simp; done) | assumption) [wr64, wrU8, wrU64, Nat.add_assoc, -getElem?_pos, List.getElem?_cons_zero, List.getElem?_cons_succ, t0, t3, t4, t5, t6, hjl, hjl', hc2]
        refine CallW.val (Class c2 _) ?_
        by_cases he : cls c2 = cls c
        · by_cases hg : 0 < cls c
          · simp (disch := first | omega | (simp; done) | assumption) [wr64, wrU8, wrU64, Nat.add_assoc, -getElem?_pos, List.getElem?_cons_zero, List.getElem?_cons_succ, t0, t3, t4, t5, t6, hjl, hjl', he, hg]
            exact ⟨s.length - (j + 1), by omega, rfl, j + 1, rfl, by omega, by omega, fun _ => hmore (by simpa using he) (hpp hg), fun h => absurd hg h, by simp [t0], by simp [t3], by simp [t4], by simp [t5], by simp⟩
          · simp (disch := first | omega | (simp; done) | assumption) [wr64, wrU8, wrU64, Nat.add_assoc, -getElem?_pos, List.getElem?_cons_zero, List.getElem?_cons_succ, t0, t3, t4, t5, t6, hjl, hjl', he, hg]
            exact ⟨rfl, j, hij, hj, fun h => absurd h hg, hzz, by simp [t0], by simp [t3], by simp [t4], by simp [t5], by simp [t6]⟩
        · simp (disch := first | omega | (simp; done) | assumption) [wr64, wrU8, wrU64, Nat.add_assoc, -getElem?_pos, List.getElem?_cons_zero, List.getElem?_cons_succ, t0, t3, t4, t5, t6, hjl, hjl', he]
          exact ⟨rfl, j, hij, hj, fun h => by rw [hpp h, hstop he, List.append_nil], hzz, by simp [t0], by simp [t3], by simp [t4], by simp [t5], by simp [t6]⟩
      · have hjl' : ¬ (j : Int) < (s.length : Int) := by omega
        simp (disch := first | omega | (simp; done) | assumption) [wr64, wrU8, wrU64, Nat.add_assoc, -getElem?_pos, List.getElem?_cons_zero, List.getElem?_cons_succ, t0, t3, t4, t5, t6, hjl, hjl']
        exact ⟨rfl, j, hij, hj, fun h => by rw [hpp h, List.drop_of_length_le (by omega : s.length ≤ j), List.takeWhile_nil, List.append_nil], hzz, by simp [t0], by simp [t3], by simp [t4], by simp [t5], by simp [t6]⟩
    clear t0 t4 hv tm hc hlt'
    rintro tm H2 ⟨rfl, j, hij, hj, hpp, hzz, t0, t3, t4, t5, t6⟩
    rw [← t3] at hd
    clear t3 v
    rw [hta j hij hj hpp hzz] at hp
    clear hta hpp hzz
    have hB1 : (i : Int) ≤ (j : Int) := by omega
    have hB2 : (j : Int) ≤ (s.length : Int) := by omega
    have hB3 : i ≤ j := by omega
    obtain ⟨w, hw⟩ : ∃ w, w = (s.take j).drop i := ⟨_, rfl⟩
    rw [← hw] at hp
    rcases cls_rng c with h9 | h9 | h9 | h9
    · rw [h9] at hp t5
      simp only [if_neg (show ¬ (2 : Int) = -1 by omega)] at hp
      have hX : OutF H.next ((H2.new (.cells false tTok [.int .i64 0, .str []])).set H2.next (some (.cells false tTok [.int .i64 2, .str w]))) tTok 2 (tm 3) (acc.map tokC) := hd.same (by simp) (fun q hq => by have hne := Nat.ne_of_lt hq; simp [hne])
      obtain ⟨v1, H3, a1, o1, n1, k1⟩ := appendOutF (bytes := 24) (x := [.int .i64 2, .str w]) hX (all2 _) (by omega) (by simp; omega) rfl rfl (by simp; omega) (by simp; omega)
      simp (disch := first | omega | (simp; done) | assumption) [wr64, wrU8, wrU64, Nat.add_assoc, -getElem?_pos, List.getElem?_cons_zero, List.getElem?_cons_succ, t0, t4, t5, t6, hB1, hB2, hB3, hj, ← hw]
      refine Try.intro a1 ?_
      simp (disch := first | omega | (simp; done) | assumption) [wr64, wrU8, wrU64, Nat.add_assoc, -getElem?_pos, List.getElem?_cons_zero, List.getElem?_cons_succ, t0, t4, t5, t6]
      refine ⟨s.length - j, by omega, k1.keepsAll (by ((repeat (first | exact hk | refine keeps_set hok ?_ (by first | omega | (simp; done) | (simp; omega)) | refine keeps_new hok ?_ (by first | omega | (simp; done) | (simp; omega)))); done)) hok, by simp at n1; omega, j, acc ++ [(2, w)], rfl, hj, by rw [hp]; simp [Vm.tok], by simp; omega, by simpa [tokC] using o1, by simp [t0], by simp⟩
    · rw [h9] at hp t5
      simp only [if_neg (show ¬ (3 : Int) = -1 by omega)] at hp
      have hX : OutF H.next (((H2.new (.cells false tTok [.int .i64 0, .str []])).set H2.next (some (.cells false tTok [.int .i64 3, .str w]))).set H2.next (some (.cells false tTok [.int .i64 3, .str (trim0 w)]))) tTok 2 (tm 3) (acc.map tokC) := hd.same (by simp) (fun q hq => by have hne := Nat.ne_of_lt hq; simp [hne])
      obtain ⟨v1, H3, a1, o1, n1, k1⟩ := appendOutF (bytes := 24) (x := [.int .i64 3, .str (trim0 w)]) hX (all2 _) (by omega) (by simp; omega) rfl rfl (by simp; omega) (by simp; omega)
      simp (disch := first | omega | (simp; done) | assumption) [wr64, wrU8, wrU64, Nat.add_assoc, -getElem?_pos, List.getElem?_cons_zero, List.getElem?_cons_succ, t0, t4, t5, t6, hB1, hB2, hB3, hj, ← hw]
      refine CallW.val (trimL w _) ?_
      simp (disch := first | omega | (simp; done) | assumption) [wr64, wrU8, wrU64, Nat.add_assoc, -getElem?_pos, List.getElem?_cons_zero, List.getElem?_cons_succ, t0, t4, t5, t6]
      refine Try.intro a1 ?_
      simp (disch := first | omega | (simp; done) | assumption) [wr64, wrU8, wrU64, Nat.add_assoc, -getElem?_pos, List.getElem?_cons_zero, List.getElem?_cons_succ, t0, t4, t5, t6]
      refine ⟨s.length - j, by omega, k1.keepsAll (by ((repeat (first | exact hk | refine keeps_set hok ?_ (by first | omega | (simp; done) | (simp; omega)) | refine keeps_new hok ?_ (by first | omega | (simp; done) | (simp; omega)))); done)) hok, by simp at n1; omega, j, acc ++ [(3, trim0 w)], rfl, hj, by rw [hp]; simp [Vm.tok], by simp; omega, by simpa [tokC] using o1, by simp [t0], by simp⟩
    · rw [h9] at hp t5
      simp only [if_neg (show ¬ (0 : Int) = -1 by omega)] at hp
      have hX : OutF H.next ((H2.new (.cells false tTok [.int .i64 0, .str []])).set H2.next (some (.cells false tTok [.int .i64 0, .str w]))) tTok 2 (tm 3) (acc.map tokC) := hd.same (by simp) (fun q hq => by have hne := Nat.ne_of_lt hq; simp [hne])
      obtain ⟨v1, H3, a1, o1, n1, k1⟩ := appendOutF (bytes := 24) (x := [.int .i64 0, .str w]) hX (all2 _) (by omega) (by simp; omega) rfl rfl (by simp; omega) (by simp; omega)
      simp (disch := first | omega | (simp; done) | assumption) [wr64, wrU8, wrU64, Nat.add_assoc, -getElem?_pos, List.getElem?_cons_zero, List.getElem?_cons_succ, t0, t4, t5, t6, hB1, hB2, hB3, hj, ← hw]
      refine Try.intro a1 ?_
      simp (disch := first | omega | (simp; done) | assumption) [wr64, wrU8, wrU64, Nat.add_assoc, -getElem?_pos, List.getElem?_cons_zero, List.getElem?_cons_succ, t0, t4, t5, t6]
      refine ⟨s.length - j, by omega, k1.keepsAll (by ((repeat (first | exact hk | refine keeps_set hok ?_ (by first | omega | (simp; done) | (simp; omega)) | refine keeps_new hok ?_ (by first | omega | (simp; done) | (simp; omega)))); done)) hok, by simp at n1; omega, j, acc ++ [(0, w)], rfl, hj, by rw [hp]; simp [Vm.tok], by simp; omega, by simpa [tokC] using o1, by simp [t0], by simp⟩
    · rw [h9] at hp t5
      simp only [if_pos, List.nil_append] at hp
      simp (disch := first | omega | (simp; done) | assumption) [wr64, wrU8, wrU64, Nat.add_assoc, -getElem?_pos, List.getElem?_cons_zero, List.getElem?_cons_succ, t0, t4, t5, t6, hB1, hB2, hB3, hj, ← hw]
      refine ⟨s.length - j, by omega, by ((repeat (first | exact hk | refine keeps_set hok ?_ (by first | omega | (simp; done) | (simp; omega)) | refine keeps_new hok ?_ (by first | omega | (simp; done) | (simp; omega)))); done), by simp; omega, j, acc, rfl, hj, hp, by omega, hd.same (by simp) (fun q hq => by have hne := Nat.ne_of_lt hq; simp [hne]), by simp [t0], by simp⟩
  · have hlt' : ¬ (i : Int) < (s.length : Int) := by omega
    rw [List.drop_of_length_le (by omega), toks_nil, List.append_nil] at hp
    simp (disch := first | omega | (simp; done) | assumption) [wr64, wrU8, wrU64, Nat.add_assoc, -getElem?_pos, List.getElem?_cons_zero, List.getElem?_cons_succ, t0, t4, hlt, hlt']
    refine CallW.val (Clip hd) ?_
    simp (disch := first | omega | (simp; done) | assumption) [wr64, wrU8, wrU64, Nat.add_assoc, -getElem?_pos, List.getElem?_cons_zero, List.getElem?_cons_succ, ]
    exact ⟨hk, hn, by rw [hp]; exact hd⟩
/-! ### How two stand -/
theorem piece_one (a : T) : (tokC a).length = 2 := rfl
theorem At {H : AH} {v : AV} {l : List T} {i : Nat} (h : SF H v 2 (l.map tokC)) (hi : i ≤ 1000000000) : ACall Tryd.prog 21 [v, .int .i64 (i : Int)] H (fun r H' => r = .agg (tokC ((l.drop i).headD E)) ∧ H' = H) := by
  refine acall_enter fits21 (by simp) (by simp [tokC]) fun hok => ?_
  have hls : lenS v = some l.length := by
    have := h.len
    rw [List.length_map] at this
    rcases h with ⟨h1, rfl | rfl⟩ | ⟨b, o, rfl, _, _⟩
    · simpa [lenA] using this
    · simpa [lenA] using this
    · simp [lenA]
  by_cases hlt : i < l.length
  · have hlt' : (i : Int) < (l.length : Int) := by omega
    obtain ⟨b, o, rfl, h1, _⟩ := h.get (by omega) i (by simpa using hlt)
    have hb : b ≠ H.next := by
      intro e
      subst e
      unfold loadC at h1
      cases hx : H.at_ H.next with
      | none => rw [hx] at h1; cases h1
      | some x => have := hok _ _ hx; omega
    have h2 : loadC (H.new (.cells false tTok [.int .i64 0, .str []])) b (o + i * 2) (some 2) = some (.agg (tokC l[i])) := by
      have := loadC_keeps (keeps_new hok (AH.keepsAll_refl _) (Nat.le_refl _)) (H1 := H.new (.cells false tTok [.int .i64 0, .str []])) h1
      simpa using this
    have hd : (l.drop i).headD E = l[i] := by rw [List.drop_eq_getElem_cons hlt]; rfl
    rw [List.length_map, hd]
    unfold loadC at h2
    clear h1 hd
    generalize l[i] = t at *
    simp (disch := first | omega | (simp; done) | assumption) [wr64, wrU8, wrU64, Nat.add_assoc, -getElem?_pos, List.getElem?_cons_zero, List.getElem?_cons_succ, ic21, rs21, hlt, hlt']
    refine Try.intro h2 ?_
    simp (disch := first | omega | (simp; done) | assumption) [wr64, wrU8, wrU64, Nat.add_assoc, -getElem?_pos, List.getElem?_cons_zero, List.getElem?_cons_succ, tokC]
    ((repeat (first | exact AH.keepsAll_refl _ | refine keeps_set hok ?_ (by first | omega | (simp; done) | (simp; omega)) | refine keeps_new hok ?_ (by first | omega | (simp; done) | (simp; omega)))); done)
  · have hlt' : ¬ (i : Int) < (l.length : Int) := by omega
    rw [show (l.drop i).headD E = E by rw [List.drop_of_length_le (by omega)]; rfl]
    simp (disch := first | omega | (simp; done) | assumption) [wr64, wrU8, wrU64, Nat.add_assoc, -getElem?_pos, List.getElem?_cons_zero, List.getElem?_cons_succ, ic21, rs21, hls, hlt, hlt', tokC, E]
    ((repeat (first | exact AH.keepsAll_refl _ | refine keeps_set hok ?_ (by first | omega | (simp; done) | (simp; omega)) | refine keeps_new hok ?_ (by first | omega | (simp; done) | (simp; omega)))); done)
theorem Piece (a b : T) (H : AH) : ACall Tryd.prog 20 [.agg (tokC a), .agg (tokC b)] H (fun r H' => r = .int .i64 (piece a b) ∧ H' = H) := by
  refine acall_enter fits20 (by simp) (by simp) fun hok => ?_
  rw [piece_eq]
  by_cases h1 : a.1 = b.1
  · rw [if_pos h1]
    by_cases h3 : a.1 = 3
    · rw [if_pos h3]
      have h3b : b.1 = 3 := by rw [← h1]; exact h3
      by_cases hl : (a.2.length : Int) = (b.2.length : Int)
      · have hl' : ¬ (a.2.length ≠ b.2.length) := by omega
        rw [if_neg (by simpa using hl)]
        simp (disch := first | omega | (simp; done) | assumption) [wr64, wrU8, wrU64, Nat.add_assoc, -getElem?_pos, List.getElem?_cons_zero, List.getElem?_cons_succ, ic20, rs20, tokC, h3, h3b, hl]
        refine CallW.val (cmpStr a.2 b.2 _) ?_
        simp (disch := first | omega | (simp; done) | assumption) [wr64, wrU8, wrU64, Nat.add_assoc, -getElem?_pos, List.getElem?_cons_zero, List.getElem?_cons_succ, ]
        ((repeat (first | exact AH.keepsAll_refl _ | refine keeps_set hok ?_ (by first | omega | (simp; done) | (simp; omega)) | refine keeps_new hok ?_ (by first | omega | (simp; done) | (simp; omega)))); done)
      · rw [if_pos (by simpa using hl)]
        simp (disch := first | omega | (simp; done) | assumption) [wr64, wrU8, wrU64, Nat.add_assoc, -getElem?_pos, List.getElem?_cons_zero, List.getElem?_cons_succ, ic20, rs20, tokC, h3, h3b, hl]
        refine CallW.val (cmpInt _ _ _) ?_
        simp (disch := first | omega | (simp; done) | assumption) [wr64, wrU8, wrU64, Nat.add_assoc, -getElem?_pos, List.getElem?_cons_zero, List.getElem?_cons_succ, ]
        ((repeat (first | exact AH.keepsAll_refl _ | refine keeps_set hok ?_ (by first | omega | (simp; done) | (simp; omega)) | refine keeps_new hok ?_ (by first | omega | (simp; done) | (simp; omega)))); done)
    · rw [if_neg h3]
      have h3b : ¬ b.1 = 3 := by rw [← h1]; exact h3
      simp (disch := first | omega | (simp; done) | assumption) [wr64, wrU8, wrU64, Nat.add_assoc, -getElem?_pos, List.getElem?_cons_zero, List.getElem?_cons_succ, ic20, rs20, tokC, h1, h3b]
      refine CallW.val (cmpStr a.2 b.2 _) ?_
      simp (disch := first | omega | (simp; done) | assumption) [wr64, wrU8, wrU64, Nat.add_assoc, -getElem?_pos, List.getElem?_cons_zero, List.getElem?_cons_succ, ]
      ((repeat (first | exact AH.keepsAll_refl _ | refine keeps_set hok ?_ (by first | omega | (simp; done) | (simp; omega)) | refine keeps_new hok ?_ (by first | omega | (simp; done) | (simp; omega)))); done)
  · rw [if_neg h1]
    simp (disch := first | omega | (simp; done) | assumption) [wr64, wrU8, wrU64, Nat.add_assoc, -getElem?_pos, List.getElem?_cons_zero, List.getElem?_cons_succ, ic20, rs20, tokC, h1]
    refine CallW.val (cmpInt _ _ _) ?_
    simp (disch := first | omega | (simp; done) | assumption) [wr64, wrU8, wrU64, Nat.add_assoc, -getElem?_pos, List.getElem?_cons_zero, List.getElem?_cons_succ, ]
    ((repeat (first | exact AH.keepsAll_refl _ | refine keeps_set hok ?_ (by first | omega | (simp; done) | (simp; omega)) | refine keeps_new hok ?_ (by first | omega | (simp; done) | (simp; omega)))); done)
def CoI (p q : List T) (v w : AV) (n : Nat) (H : AH) (kk : Nat) (tm : Tms) (H' : AH) : Prop := H' = H ∧ ∃ i : Nat, kk = n - i ∧ i ≤ n ∧ cmpT p q = cmpN (n - i) (p.drop i) (q.drop i) ∧ tm 5 = v ∧ tm 6 = w ∧ tm 17 = .int .i64 (n : Int) ∧ tm 18 = .int .i64 (i : Int)
def cmpV (a b : List UInt8) : Int := cmpT (toks a) (toks b)
theorem Compare (a b : List UInt8) (ha : a.length ≤ 1000000) (hb : b.length ≤ 1000000) (H : AH) : ACall Tryd.prog 11 [.str a, .str b] H (fun r H' => r = .int .i64 (cmpV a b) ∧ H' = H) := by
  refine acall_enter fits11 (by simp) (by simp) fun hok => ?_
  simp (disch := first | omega | (simp; done) | assumption) [wr64, wrU8, wrU64, Nat.add_assoc, -getElem?_pos, List.getElem?_cons_zero, List.getElem?_cons_succ, ic11, rs11]
  refine CallW.okof (Tokens a ha _) ?_
  rintro v H1 ⟨hk1, hn1, ho1⟩ hok1
  try simp only [newO_none] at hk1 hn1 ho1
  simp (disch := first | omega | (simp; done) | assumption) [wr64, wrU8, wrU64, Nat.add_assoc, -getElem?_pos, List.getElem?_cons_zero, List.getElem?_cons_succ, ]
  refine CallW.okof (Tokens b hb _) ?_
  rintro w H2 ⟨hk2, hn2, ho2⟩ hok2
  try simp only [newO_none] at hk2 hn2 ho2
  have hs1 := (ho1.keeps hk2 hn2).sf (all2 _)
  have hs2 := ho2.sf (all2 _)
  have l1 := ho1.lenS
  have l2 := ho2.lenS
  rw [List.length_map] at l1 l2
  have t1 := toks_len a
  have t2 := toks_len b
  have hk : H.keepsAll H2 := fun x o hx => hk2 x o (hk1 x o hx)
  unfold cmpV
  generalize toks a = p at *
  generalize toks b = q at *
  have hmx : max (p.length : Int) (q.length : Int) = ((max p.length q.length : Nat) : Int) := by omega
  have hn : max p.length q.length ≤ 1000000 := by omega
  have hc : cmpT p q = cmpN (max p.length q.length) p q := rfl
  generalize hmn : max p.length q.length = n at *
  simp (disch := first | omega | (simp; done) | assumption) [wr64, wrU8, wrU64, Nat.add_assoc, -getElem?_pos, List.getElem?_cons_zero, List.getElem?_cons_succ, l1, l2, hmx]
  refine iwp_loop (CoI p q v w n H2) n ⟨rfl, 0, rfl, by omega, by simpa using hc, by simp, by simp, by simp, by simp⟩ ?_
  rintro kk tm H3 ⟨rfl, i, rfl, hi, hcm, t5, t6, t17, t18⟩
  by_cases hlt : i < n
  · have hlt' : (i : Int) < (n : Int) := by omega
    have hA := At (i := i) hs1 (by omega)
    have hB := At (i := i) hs2 (by omega)
    obtain ⟨m, hm⟩ : ∃ m, n - i = m + 1 := ⟨n - i - 1, by omega⟩
    rw [hm] at hcm
    simp only [cmpN] at hcm
    generalize (p.drop i).headD E = ta at *
    generalize (q.drop i).headD E = tb at *
    simp (disch := first | omega | (simp; done) | assumption) [wr64, wrU8, wrU64, Nat.add_assoc, -getElem?_pos, List.getElem?_cons_zero, List.getElem?_cons_succ, t5, t6, t17, t18, hlt, hlt']
    refine CallW.val hA ?_
    simp (disch := first | omega | (simp; done) | assumption) [wr64, wrU8, wrU64, Nat.add_assoc, -getElem?_pos, List.getElem?_cons_zero, List.getElem?_cons_succ, t5, t6, t17, t18]
    refine CallW.val hB ?_
    simp (disch := first | omega | (simp; done) | assumption) [wr64, wrU8, wrU64, Nat.add_assoc, -getElem?_pos, List.getElem?_cons_zero, List.getElem?_cons_succ, t5, t6, t17, t18]
    refine CallW.val (Piece _ _ _) ?_
    generalize piece ta tb = pc at *
    by_cases hz : pc = 0
    · rw [if_pos hz] at hcm
      simp (disch := first | omega | (simp; done) | assumption) [wr64, wrU8, wrU64, Nat.add_assoc, -getElem?_pos, List.getElem?_cons_zero, List.getElem?_cons_succ, t5, t6, t17, t18, hz]
      refine ⟨n - (i + 1), by omega, rfl, i + 1, rfl, by omega, ?_, by simp [t5], by simp [t6], by simp [t17], by simp⟩
      rw [hcm, show n - (i + 1) = m by omega, List.tail_drop, List.tail_drop]
    · rw [if_neg hz] at hcm
      simp (disch := first | omega | (simp; done) | assumption) [wr64, wrU8, wrU64, Nat.add_assoc, -getElem?_pos, List.getElem?_cons_zero, List.getElem?_cons_succ, t5, t6, t17, t18, hz]
      exact ⟨hcm.symm, hk⟩
  · have hlt' : ¬ (i : Int) < (n : Int) := by omega
    rw [show n - i = 0 by omega] at hcm
    simp (disch := first | omega | (simp; done) | assumption) [wr64, wrU8, wrU64, Nat.add_assoc, -getElem?_pos, List.getElem?_cons_zero, List.getElem?_cons_succ, t5, t6, t17, t18, hlt, hlt']
    exact ⟨hcm.symm, hk⟩
end Go.Proofs.YtfimhkijacamoaaDoor.PVer

/- The document's own answers: tokens, how two versions stand. No condition. -/
import Derived.Test.YtfimhkijacamoaaDoorPVer
import Derived.KernelRfl
set_option linter.unusedVariables false
set_option linter.unusedSimpArgs false
set_option maxRecDepth 10000
set_option maxHeartbeats 4000000
namespace Go.Proofs.YtfimhkijacamoaaDoor.PRef
open Go Go.RowKit Go.Proofs.YtfimhkijacamoaaDoor Go.Proofs.YtfimhkijacamoaaDoor.Abs Go.Proofs.YtfimhkijacamoaaDoor.Ic Go.Proofs.YtfimhkijacamoaaDoor.Vm Go.Proofs.YtfimhkijacamoaaDoor.Dg Go.Proofs.YtfimhkijacamoaaDoor.St Go.Proofs.YtfimhkijacamoaaDoor.PVer
theorem less_bytes : ∀ (x y : List UInt8), Op.bytesLess x y = decide (cmpB x y < 0)
  | [], [] => by simp [Op.bytesLess, Lib.compareBytes]
  | _ :: _, [] => by simp [Op.bytesLess, Lib.compareBytes]
  | [], _ :: _ => by simp [Op.bytesLess, Lib.compareBytes]
  | a :: x, b :: y => by
    rw [Op.bytesLess, less_bytes x y, cmpB_cons]
    unfold cmpc
    by_cases h1 : a < b
    · simp [h1]
    · by_cases h2 : b < a
      · have hne : ¬ a = b := fun e => by subst e; exact h1 h2
        simp [h1, h2, hne]
      · have he : a = b := UInt8.le_antisymm (UInt8.not_lt.1 h2) (UInt8.not_lt.1 h1)
        subst he
        simp [h1]
theorem cmpB_zero : ∀ {a b : List UInt8}, cmpB a b = 0 → a = b
  | [], [], _ => rfl
  | _ :: _, [], h => by simp [Lib.compareBytes] at h
  | [], _ :: _, h => by simp [Lib.compareBytes] at h
  | a :: x, b :: y, h => by
    rw [cmpB_cons] at h
    have hz : cmpc a b = 0 := by
      by_cases e : cmpc a b = 0
      · exact e
      · rw [if_neg e] at h; exact h
    rw [if_pos hz] at h
    rw [cmpB_zero h]
    congr 1
    rw [cmpc_eq] at hz
    have := cmpI_zero.1 hz
    exact UInt8.toNat_inj.1 (by omega)
theorem ROrd (a b : Int) (H : AH) : ACall Tryd.prog 27 [.int .i64 a, .int .i64 b] H (fun v H' => v = .int .i64 (cmpI a b) ∧ H' = H) := by
  refine acall_enter fits27 (by simp) (by simp) fun hok => ?_
  unfold cmpI
  by_cases h1 : a < b
  · simp (disch := first | omega | (simp; done) | assumption) [wr64, wrU8, wrU64, Nat.add_assoc, -getElem?_pos, List.getElem?_cons_zero, List.getElem?_cons_succ, ic27, rs27, h1]
    ((repeat (first | exact AH.keepsAll_refl _ | refine keeps_set hok ?_ (by first | omega | (simp; done) | (simp; omega)) | refine keeps_new hok ?_ (by first | omega | (simp; done) | (simp; omega)))); done)
  · by_cases h2 : b < a
    · simp (disch := first | omega | (simp; done) | assumption) [wr64, wrU8, wrU64, Nat.add_assoc, -getElem?_pos, List.getElem?_cons_zero, List.getElem?_cons_succ, ic27, rs27, h1, h2]
      ((repeat (first | exact AH.keepsAll_refl _ | refine keeps_set hok ?_ (by first | omega | (simp; done) | (simp; omega)) | refine keeps_new hok ?_ (by first | omega | (simp; done) | (simp; omega)))); done)
    · simp (disch := first | omega | (simp; done) | assumption) [wr64, wrU8, wrU64, Nat.add_assoc, -getElem?_pos, List.getElem?_cons_zero, List.getElem?_cons_succ, ic27, rs27, h1, h2]
      ((repeat (first | exact AH.keepsAll_refl _ | refine keeps_set hok ?_ (by first | omega | (simp; done) | (simp; omega)) | refine keeps_new hok ?_ (by first | omega | (simp; done) | (simp; omega)))); done)
theorem RTexts (a b : List UInt8) (H : AH) : ACall Tryd.prog 28 [.str a, .str b] H (fun v H' => v = .int .i64 (cmpB a b) ∧ H' = H) := by
  refine acall_enter fits28 (by simp) (by simp) fun hok => ?_
  have h1 := less_bytes a b
  have h2 := less_bytes b a
  have hs := cmpB_ord.anti a b
  rcases cmpB_ord.rng a b with h | h | h
  · have e1 : Op.bytesLess a b = true := by rw [h1]; simp [h]
    simp (disch := first | omega | (simp; done) | assumption) [wr64, wrU8, wrU64, Nat.add_assoc, -getElem?_pos, List.getElem?_cons_zero, List.getElem?_cons_succ, ic28, rs28, e1, h]
    ((repeat (first | exact AH.keepsAll_refl _ | refine keeps_set hok ?_ (by first | omega | (simp; done) | (simp; omega)) | refine keeps_new hok ?_ (by first | omega | (simp; done) | (simp; omega)))); done)
  · have e1 : Op.bytesLess a b = false := by rw [h1]; simp [h]
    have e2 : Op.bytesLess b a = false := by rw [h2]; simp; omega
    have e3 : a = b := cmpB_zero h
    subst e3
    simp (disch := first | omega | (simp; done) | assumption) [wr64, wrU8, wrU64, Nat.add_assoc, -getElem?_pos, List.getElem?_cons_zero, List.getElem?_cons_succ, ic28, rs28, e1, e2, h]
    ((repeat (first | exact AH.keepsAll_refl _ | refine keeps_set hok ?_ (by first | omega | (simp; done) | (simp; omega)) | refine keeps_new hok ?_ (by first | omega | (simp; done) | (simp; omega)))); done)
  · have e1 : Op.bytesLess a b = false := by rw [h1]; simp [h]
    have e2 : Op.bytesLess b a = true := by rw [h2]; simp; omega
    have e3 : ¬ a = b := fun e => by have := cmpB_ord.refl a; subst e; omega
    simp (disch := first | omega | (simp; done) | assumption) [wr64, wrU8, wrU64, Nat.add_assoc, -getElem?_pos, List.getElem?_cons_zero, List.getElem?_cons_succ, ic28, rs28, e1, e2, h, e3]
    ((repeat (first | exact AH.keepsAll_refl _ | refine keeps_set hok ?_ (by first | omega | (simp; done) | (simp; omega)) | refine keeps_new hok ?_ (by first | omega | (simp; done) | (simp; omega)))); done)
theorem RLetter (c : UInt8) (hd : ¬ (48 ≤ c.toNat ∧ c.toNat ≤ 57)) (H : AH) : ACall Tryd.prog 59 [.int .u8 (c.toNat : Int)] H (fun v H' => v = .bool (decide (cls c = 2)) ∧ H' = H) := by
  refine acall_enter fits59 (by simp) (by simp) fun hok => ?_
  have hc := c.toNat_lt
  have e : decide (cls c = 2) = decide (97 ≤ c.toNat ∧ c.toNat ≤ 122 ∨ 65 ≤ c.toNat ∧ c.toNat ≤ 90) := by
    unfold cls
    by_cases h1 : 65 ≤ c.toNat ∧ c.toNat ≤ 90 ∨ 97 ≤ c.toNat ∧ c.toNat ≤ 122
    · rw [if_pos h1]; simp; omega
    · rw [if_neg h1, if_neg hd]
      split <;> simp <;> omega
  rw [e]
  clear e
  have si0 : ((65 : Int) ≤ (c.toNat : Int)) = (65 ≤ c.toNat) := propext (by omega)
  have si1 : ((c.toNat : Int) ≤ 90) = (c.toNat ≤ 90) := propext (by omega)
  have si2 : ((97 : Int) ≤ (c.toNat : Int)) = (97 ≤ c.toNat) := propext (by omega)
  have si3 : ((c.toNat : Int) ≤ 122) = (c.toNat ≤ 122) := propext (by omega)
  have si4 : ((48 : Int) ≤ (c.toNat : Int)) = (48 ≤ c.toNat) := propext (by omega)
  have si5 : ((c.toNat : Int) ≤ 57) = (c.toNat ≤ 57) := propext (by omega)
  generalize c.toNat = n at *
  have s1 : (65 ≤ n ∧ n ≤ 90) ∨ (65 ≤ n ∧ ¬ n ≤ 90) ∨ ¬ 65 ≤ n := by omega
  have s2 : (97 ≤ n ∧ n ≤ 122) ∨ (97 ≤ n ∧ ¬ n ≤ 122) ∨ ¬ 97 ≤ n := by omega
  have s3 : (48 ≤ n ∧ ¬ n ≤ 57) ∨ ¬ 48 ≤ n := by omega
  clear hd hc
  rcases s1 with ⟨p1, p2⟩ | ⟨p1, p2⟩ | p1 <;> rcases s2 with ⟨p3, p4⟩ | ⟨p3, p4⟩ | p3 <;> rcases s3 with ⟨p5, p6⟩ | p5 <;> first
    | (exfalso; omega)
    | (simp (disch := first | omega | (simp; done) | assumption) [wr64, wrU8, wrU64, Nat.add_assoc, -getElem?_pos, List.getElem?_cons_zero, List.getElem?_cons_succ, ic59, rs59, si0, si1, si2, si3, si4, si5, *]; first | exact AH.keepsAll_refl _ | done)
theorem RClass (c : UInt8) (H : AH) : ACall Tryd.prog 42 [.int .u8 (c.toNat : Int)] H (fun v H' => v = .int .i64 (cls c) ∧ H' = H) := by
  refine acall_enter fits42 (by simp) (by simp) fun hok => ?_
  have hc := c.toNat_lt
  by_cases h1 : 48 ≤ c.toNat ∧ c.toNat ≤ 57
  · have a1 : (48 : Int) ≤ (c.toNat : Int) := by omega
    have a2 : (c.toNat : Int) ≤ 57 := by omega
    rw [cls_digit h1]
    simp (disch := first | omega | (simp; done) | assumption) [wr64, wrU8, wrU64, Nat.add_assoc, -getElem?_pos, List.getElem?_cons_zero, List.getElem?_cons_succ, ic42, rs42, a1, a2, h1.1, h1.2]
    exact AH.keepsAll_refl _
  have hL := fun H => RLetter c h1 H
  have e : cls c = if cls c = 2 then 2 else if c.toNat = 126 then 0 else -1 := by
    by_cases hx : 65 ≤ c.toNat ∧ c.toNat ≤ 90 ∨ 97 ≤ c.toNat ∧ c.toNat ≤ 122
    · simp [cls, hx]
    · simp [cls, hx, h1]
  have e2 : c.toNat = 126 → ¬ cls c = 2 := fun h => by unfold cls; rw [if_neg (by omega), if_neg (by omega), if_pos h]; omega
  rw [e]
  clear e
  generalize cls c = k at *
  have sk : (48 ≤ c.toNat ∧ ¬ c.toNat ≤ 57) ∨ (¬ 48 ≤ c.toNat) := by omega
  have si4 : ((48 : Int) ≤ (c.toNat : Int)) = (48 ≤ c.toNat) := propext (by omega)
  have si5 : ((c.toNat : Int) ≤ 57) = (c.toNat ≤ 57) := propext (by omega)
  have si6 : ((c.toNat : Int) = 126) = (c.toNat = 126) := propext (by omega)
  generalize c.toNat = n at *
  by_cases h6 : n = 126
  · have h2 := e2 h6
    subst h6
    simp (disch := first | omega | (simp; done) | assumption) [wr64, wrU8, wrU64, Nat.add_assoc, -getElem?_pos, List.getElem?_cons_zero, List.getElem?_cons_succ, ic42, rs42, h2]
    exact AH.keepsAll_refl _
  · rcases sk with ⟨p1, p2⟩ | p1
    · simp (disch := first | omega | (simp; done) | assumption) [wr64, wrU8, wrU64, Nat.add_assoc, -getElem?_pos, List.getElem?_cons_zero, List.getElem?_cons_succ, ic42, rs42, si4, si5, si6, p1, p2, h6]
      refine CallW.val (hL _) ?_
      by_cases hk : k = 2
      · simp (disch := first | omega | (simp; done) | assumption) [wr64, wrU8, wrU64, Nat.add_assoc, -getElem?_pos, List.getElem?_cons_zero, List.getElem?_cons_succ, hk]
        exact AH.keepsAll_refl _
      · simp (disch := first | omega | (simp; done) | assumption) [wr64, wrU8, wrU64, Nat.add_assoc, -getElem?_pos, List.getElem?_cons_zero, List.getElem?_cons_succ, hk, h6]
        exact AH.keepsAll_refl _
    · simp (disch := first | omega | (simp; done) | assumption) [wr64, wrU8, wrU64, Nat.add_assoc, -getElem?_pos, List.getElem?_cons_zero, List.getElem?_cons_succ, ic42, rs42, si4, si5, si6, p1, h6]
      refine CallW.val (hL _) ?_
      by_cases hk : k = 2
      · simp (disch := first | omega | (simp; done) | assumption) [wr64, wrU8, wrU64, Nat.add_assoc, -getElem?_pos, List.getElem?_cons_zero, List.getElem?_cons_succ, hk]
        exact AH.keepsAll_refl _
      · simp (disch := first | omega | (simp; done) | assumption) [wr64, wrU8, wrU64, Nat.add_assoc, -getElem?_pos, List.getElem?_cons_zero, List.getElem?_cons_succ, hk, h6]
        exact AH.keepsAll_refl _
theorem RAt {H : AH} {v : AV} {l : List T} {i : Nat} (h : SF H v 2 (l.map tokC)) (hi : i ≤ 1000000000) : ACall Tryd.prog 26 [v, .int .i64 (i : Int)] H (fun r H' => r = .agg (tokC ((l.drop i).headD E)) ∧ H' = H) := by
  refine acall_enter fits26 (by simp) (by simp [tokC]) fun hok => ?_
  have hls : lenS v = some l.length := by
    have := h.len
    rw [List.length_map] at this
    rcases h with ⟨h1, rfl | rfl⟩ | ⟨b, o, rfl, _, _⟩
    · simpa [lenA] using this
    · simpa [lenA] using this
    · simp [lenA]
  by_cases hlt : i < l.length
  · have hlt' : (i : Int) < (l.length : Int) := by omega
    obtain ⟨b, o, rfl, h1, _⟩ := h.get (by omega) i (by simpa using hlt)
    have hb : b ≠ H.next := by
      intro e
      subst e
      unfold loadC at h1
      cases hx : H.at_ H.next with
      | none => rw [hx] at h1; cases h1
      | some x => have := hok _ _ hx; omega
    have h2 : loadC (H.new (.cells false tTok [.int .i64 0, .str []])) b (o + i * 2) (some 2) = some (.agg (tokC l[i])) := by
      have := loadC_keeps (keeps_new hok (AH.keepsAll_refl _) (Nat.le_refl _)) (H1 := H.new (.cells false tTok [.int .i64 0, .str []])) h1
      simpa using this
    have hd : (l.drop i).headD E = l[i] := by rw [List.drop_eq_getElem_cons hlt]; rfl
    rw [List.length_map, hd]
    unfold loadC at h2
    clear h1 hd
    generalize l[i] = t at *
    simp (disch := first | omega | (simp; done) | assumption) [wr64, wrU8, wrU64, Nat.add_assoc, -getElem?_pos, List.getElem?_cons_zero, List.getElem?_cons_succ, ic26, rs26, hlt, hlt']
    refine Try.intro h2 ?_
    simp (disch := first | omega | (simp; done) | assumption) [wr64, wrU8, wrU64, Nat.add_assoc, -getElem?_pos, List.getElem?_cons_zero, List.getElem?_cons_succ, tokC]
    ((repeat (first | exact AH.keepsAll_refl _ | refine keeps_set hok ?_ (by first | omega | (simp; done) | (simp; omega)) | refine keeps_new hok ?_ (by first | omega | (simp; done) | (simp; omega)))); done)
  · have hlt' : ¬ (i : Int) < (l.length : Int) := by omega
    rw [show (l.drop i).headD E = E by rw [List.drop_of_length_le (by omega)]; rfl]
    simp (disch := first | omega | (simp; done) | assumption) [wr64, wrU8, wrU64, Nat.add_assoc, -getElem?_pos, List.getElem?_cons_zero, List.getElem?_cons_succ, ic26, rs26, hls, hlt, hlt', tokC, E]
    ((repeat (first | exact AH.keepsAll_refl _ | refine keeps_set hok ?_ (by first | omega | (simp; done) | (simp; omega)) | refine keeps_new hok ?_ (by first | omega | (simp; done) | (simp; omega)))); done)
theorem tw_len {s : List UInt8} {p : UInt8 → Bool} : ∀ {n : Nat}, (∀ c ∈ s.take n, p c = true) → n ≤ s.length → ((s.drop n).takeWhile p = []) → s.takeWhile p = s.take n := by
  induction s with
  | nil => intro n _ h _; simp
  | cons a l ih =>
    intro n h hn hz
    cases n with
    | zero => simpa using hz
    | succ m => 
      have ha : p a = true := h a (by simp)
      rw [List.takeWhile_cons, if_pos ha, List.take_succ_cons]
      congr 1
      exact ih (fun c hc => h c (by simp [hc])) (by simpa using hn) (by simpa using hz)
def RkI (s : List UInt8) (H : AH) (kk : Nat) (tm : Tms) (H' : AH) : Prop := H.keepsAll H' ∧ H.next ≤ H'.next ∧ ∃ (i : Nat) (acc : List T), kk = s.length - i ∧ i ≤ s.length ∧ toks s = acc ++ toks (s.drop i) ∧ acc.length ≤ i ∧
  OutF H.next H' tTok 2 (tm 3) (acc.map tokC) ∧ tm 0 = .str s ∧ tm 4 = .int .i64 (i : Int)
def RkJ (s : List UInt8) (v : AV) (i : Nat) (k : Int) (H1 : AH) (kk : Nat) (tm : Tms) (H' : AH) : Prop := H' = H1 ∧ ∃ m j : Nat, kk = s.length - j ∧ j = i + m ∧ i + 1 ≤ j ∧ j ≤ s.length ∧
  (k > 0 → (s.drop (i + 1)).takeWhile (fun x => cls x == k) = (s.drop (i + 1)).take (j - (i + 1)) ++ (s.drop j).takeWhile (fun x => cls x == k)) ∧ (¬ k > 0 → j = i + 1) ∧
  tm 0 = .str s ∧ tm 3 = v ∧ tm 4 = .int .i64 (i : Int) ∧ tm 5 = .int .i64 k ∧ tm 6 = .int .i64 (m : Int)
def RkR (s : List UInt8) (v : AV) (i : Nat) (k : Int) (H1 : AH) (tm : Tms) (H' : AH) : Prop := H' = H1 ∧ ∃ m j : Nat, j = i + m ∧ i + 1 ≤ j ∧ j ≤ s.length ∧
  (k > 0 → (s.drop (i + 1)).takeWhile (fun x => cls x == k) = (s.drop (i + 1)).take (j - (i + 1))) ∧ (¬ k > 0 → j = i + 1) ∧
  tm 0 = .str s ∧ tm 3 = v ∧ tm 4 = .int .i64 (i : Int) ∧ tm 5 = .int .i64 k ∧ tm 6 = .int .i64 (m : Int)
def RkT (s : List UInt8) (v : AV) (i m : Nat) (k : Int) (w : List UInt8) (H1 : AH) (kk : Nat) (tm : Tms) (H' : AH) : Prop := H' = H1 ∧ ∃ u : List UInt8, kk = u.length ∧ (Vm.tok k u = Vm.tok k w) ∧ u.length ≤ 1000000 ∧ (k ≠ 3 → u = w) ∧
  tm 0 = .str s ∧ tm 3 = v ∧ tm 4 = .int .i64 (i : Int) ∧ tm 5 = .int .i64 k ∧ tm 6 = .int .i64 (m : Int) ∧ tm 7 = .str u
def RkU (s : List UInt8) (v : AV) (i m : Nat) (k : Int) (w : List UInt8) (H1 : AH) (tm : Tms) (H' : AH) : Prop := H' = H1 ∧
  tm 0 = .str s ∧ tm 3 = v ∧ tm 4 = .int .i64 (i : Int) ∧ tm 5 = .int .i64 k ∧ tm 6 = .int .i64 (m : Int) ∧ tm 7 = .str (Vm.tok k w).2
theorem RTokens (s : List UInt8) (hs : s.length ≤ 1000000) (H : AH) : ACall Tryd.prog 25 [.str s] H (fun v H' => H.keepsAll H' ∧ H.next ≤ H'.next ∧ OutF H.next H' tTok 2 v ((toks s).map tokC)) := by
  refine acall_ok (bodyP_of fits25) fun hok => acall_of fits25 (by simp) ?_
  simp (disch := first | omega | (simp; done) | assumption) [wr64, wrU8, wrU64, Nat.add_assoc, -getElem?_pos, List.getElem?_cons_zero, List.getElem?_cons_succ, ic25, rs25]
  refine iwp_loop (RkI s H) s.length ⟨AH.keepsAll_refl _, Nat.le_refl _, 0, [], rfl, by omega, rfl, by simp, .inl ⟨rfl, by simp⟩, by simp, by simp⟩ ?_
  rintro kk tm H1 ⟨hk, hn, i, acc, rfl, hi, hp, hal, hd, t0, t4⟩
  by_cases hlt : i < s.length
  · have hlt' : (i : Int) < (s.length : Int) := by omega
    have hc : s[i]? = some s[i] := List.getElem?_eq_getElem hlt
    have hta := fun j => toks_at (s := s) (i := i) (j := j) hlt
    generalize s[i] = c at *
    simp (disch := first | omega | (simp; done) | assumption) [wr64, wrU8, wrU64, Nat.add_assoc, -getElem?_pos, List.getElem?_cons_zero, List.getElem?_cons_succ, t0, t4, hlt, hlt', hc]
    refine CallW.val (RClass c _) ?_
    simp (disch := first | omega | (simp; done) | assumption) [wr64, wrU8, wrU64, Nat.add_assoc, -getElem?_pos, List.getElem?_cons_zero, List.getElem?_cons_succ, t0, t4]
    generalize hv : tm 3 = v at *
    refine LoopW.exit 2 (RkR s v i (cls c) H1) ?_ ?_
    · refine iwp_loop (RkJ s v i (cls c) H1) (s.length - (i + 1)) ⟨rfl, 1, i + 1, rfl, rfl, by omega, by omega, fun _ => by simp, fun _ => rfl, by simp [t0], by simp [hv], by simp [t4], by simp, by simp⟩ ?_
      clear t0 t4 hd hta hv tm hc hlt'
      rintro kk tm H2 ⟨rfl, m, j, rfl, hjm, hij, hj, hpp, hzz, t0, t3, t4, t5, t6⟩
      have hcast : (i : Int) + (m : Int) = (j : Int) := by omega
      by_cases hg : 0 < cls c
      · have hg1 : ¬ cls c = 0 := by omega
        have hg2 : 0 ≤ cls c := by omega
        by_cases hjl : j < s.length
        · have hjl' : (j : Int) < (s.length : Int) := by omega
          have hc2 : s[j]? = some s[j] := List.getElem?_eq_getElem hjl
          have hmore := tw_more (s := s) (p := fun x => cls x == cls c) hij hjl
          have hstop : cls s[j] ≠ cls c → (s.drop j).takeWhile (fun x => cls x == cls c) = [] := fun h => by
            rw [List.drop_eq_getElem_cons hjl, List.takeWhile_cons, if_neg (by simpa using h)]
          generalize s[j] = c2 at *
          simp (disch := first | omega | (simp; done) | assumption) [wr64, wrU8, wrU64, Nat.add_assoc, -getElem?_pos, List.getElem?_cons_zero, List.getElem?_cons_succ, t0, t3, t4, t5, t6, hjl, hjl', hc2, hcast, hg1, hg2]
          refine CallW.val (RClass c2 _) ?_
          by_cases he : cls c2 = cls c
          · simp (disch := first | omega | (simp; done) | assumption) [wr64, wrU8, wrU64, Nat.add_assoc, -getElem?_pos, List.getElem?_cons_zero, List.getElem?_cons_succ, t0, t3, t4, t5, t6, he, hg1, hg2]
            exact ⟨s.length - (j + 1), by omega, rfl, m + 1, j + 1, rfl, by omega, by omega, by omega, fun _ => hmore (by simpa using he) (hpp hg), fun h => absurd hg h, by simp [t0], by simp [t3], by simp [t4], by simp [t5], by simp⟩
          · simp (disch := first | omega | (simp; done) | assumption) [wr64, wrU8, wrU64, Nat.add_assoc, -getElem?_pos, List.getElem?_cons_zero, List.getElem?_cons_succ, t0, t3, t4, t5, t6, he, hg1, hg2]
            exact ⟨rfl, m, j, hjm, hij, hj, fun h => by rw [hpp h, hstop he, List.append_nil], hzz, by simp [t0], by simp [t3], by simp [t4], by simp [t5], by simp [t6]⟩
        · have hjl' : ¬ (j : Int) < (s.length : Int) := by omega
          simp (disch := first | omega | (simp; done) | assumption) [wr64, wrU8, wrU64, Nat.add_assoc, -getElem?_pos, List.getElem?_cons_zero, List.getElem?_cons_succ, t0, t3, t4, t5, t6, hjl, hjl', hcast, hg1, hg2]
          exact ⟨rfl, m, j, hjm, hij, hj, fun h => by rw [hpp h, List.drop_of_length_le (by omega : s.length ≤ j), List.takeWhile_nil, List.append_nil], hzz, by simp [t0], by simp [t3], by simp [t4], by simp [t5], by simp [t6]⟩
      · by_cases hg1 : cls c = 0
        · simp (disch := first | omega | (simp; done) | assumption) [wr64, wrU8, wrU64, Nat.add_assoc, -getElem?_pos, List.getElem?_cons_zero, List.getElem?_cons_succ, t0, t3, t4, t5, t6, hg1]
          exact ⟨rfl, m, j, hjm, hij, hj, fun h => absurd h (by omega), fun _ => hzz hg, by simp [t0], by simp [t3], by simp [t4], by simp [t5, hg1], by simp [t6]⟩
        · have hg2 : ¬ 0 ≤ cls c := by omega
          simp (disch := first | omega | (simp; done) | assumption) [wr64, wrU8, wrU64, Nat.add_assoc, -getElem?_pos, List.getElem?_cons_zero, List.getElem?_cons_succ, t0, t3, t4, t5, t6, hg1, hg2]
          exact ⟨rfl, m, j, hjm, hij, hj, fun h => absurd h hg, hzz, by simp [t0], by simp [t3], by simp [t4], by simp [t5], by simp [t6]⟩
    clear t0 t4 hv tm hc hlt'
    rintro tm H2 ⟨rfl, m, j, hjm, hij, hj, hpp, hzz, t0, t3, t4, t5, t6⟩
    rw [hta j hij hj hpp hzz] at hp
    clear hta hpp hzz
    have hB1 : (i : Int) ≤ (j : Int) := by omega
    have hB2 : (j : Int) ≤ (s.length : Int) := by omega
    have hB3 : i ≤ j := by omega
    have hcast : (i : Int) + (m : Int) = (j : Int) := by omega
    obtain ⟨w, hw⟩ : ∃ w, w = (s.take j).drop i := ⟨_, rfl⟩
    have hwl : w.length ≤ 1000000 := by rw [hw]; simp; omega
    rw [← hw] at hp
    simp (disch := first | omega | (simp; done) | assumption) [wr64, wrU8, wrU64, Nat.add_assoc, -getElem?_pos, List.getElem?_cons_zero, List.getElem?_cons_succ, t0, t4, t5, t6, hB1, hB2, hB3, hj, ← hw, hcast]
    clear hw
    refine LoopW.exit 4 (RkU s v i m (cls c) w H2) ?_ ?_
    · refine iwp_loop (RkT s v i m (cls c) w H2) w.length ⟨rfl, w, rfl, rfl, hwl, fun _ => rfl, by simp [t0], by simp [t3], by simp [t4], by simp [t5], by simp [t6], by simp⟩ ?_
      clear t0 t3 t4 t5 t6 hd tm hp
      rintro kk tm H3 ⟨rfl, u, rfl, hu, hul, hue, t0, t3, t4, t5, t6, t7⟩
      have hu2 : (Vm.tok (cls c) u).2 = (Vm.tok (cls c) w).2 := by rw [hu]
      by_cases h3 : cls c = 3
      · rw [h3] at t5 hu hu2 ⊢
        cases u with
        | nil =>
          have hz0 : (Vm.tok 3 ([] : List UInt8)).2 = [] := by simp [Vm.tok, trim0]
          simp (disch := first | omega | (simp; done) | assumption) [wr64, wrU8, wrU64, Nat.add_assoc, -getElem?_pos, List.getElem?_cons_zero, List.getElem?_cons_succ, t0, t3, t4, t5, t6, t7]
          exact ⟨rfl, by simp [t0], by simp [t3], by simp [t4], by simp [t5], by simp [t6], by simp [t7, ← hu2, hz0]⟩
        | cons a u' =>
          simp only [List.length_cons] at hul
          by_cases ha : a.toNat = 48
          · have ha' : (a.toNat : Int) = 48 := by omega
            have hax : a = 48 := UInt8.toNat_inj.1 ha
            have ht : Vm.tok 3 u' = Vm.tok 3 w := by rw [← hu]; subst hax; simp [Vm.tok, trim0]
            have hl1 : (1 : Int) ≤ (u'.length : Int) + 1 := by omega
            simp (disch := first | omega | (simp; done) | assumption) [wr64, wrU8, wrU64, Nat.add_assoc, -getElem?_pos, List.getElem?_cons_zero, List.getElem?_cons_succ, t0, t3, t4, t5, t6, t7, ha, ha', hl1]
            exact ⟨u'.length, by omega, rfl, u', rfl, ht, by omega, fun h => absurd rfl h, by simp [t0], by simp [t3], by simp [t4], by simp [t5], by simp [t6], by simp⟩
          · have ha' : ¬ (a.toNat : Int) = 48 := by omega
            have hax : ¬ a = 48 := fun h => ha (by rw [h]; rfl)
            have hz : (Vm.tok 3 (a :: u')).2 = a :: u' := by simp [Vm.tok, trim0, List.dropWhile_cons, hax]
            rw [hz] at hu2
            simp (disch := first | omega | (simp; done) | assumption) [wr64, wrU8, wrU64, Nat.add_assoc, -getElem?_pos, List.getElem?_cons_zero, List.getElem?_cons_succ, t0, t3, t4, t5, t6, t7, ha, ha']
            exact ⟨rfl, by simp [t0], by simp [t3], by simp [t4], by simp [t5], by simp [t6], by simp [t7, hu2]⟩
      · have hq := hue h3
        simp (disch := first | omega | (simp; done) | assumption) [wr64, wrU8, wrU64, Nat.add_assoc, -getElem?_pos, List.getElem?_cons_zero, List.getElem?_cons_succ, t0, t3, t4, t5, t6, t7, h3]
        exact ⟨rfl, by simp [t0], by simp [t3], by simp [t4], by simp [t5], by simp [t6], by simp [t7, hq, Vm.tok, h3]⟩
    clear t0 t3 t4 t5 t6 tm
    rintro tm H3 ⟨rfl, t0, t3, t4, t5, t6, t7⟩
    rw [← t3] at hd
    by_cases hk0 : 0 ≤ cls c
    · have hne : ¬ cls c = -1 := by omega
      rw [if_neg hne] at hp
      obtain ⟨v1, H4, a1, o1, n1, k1⟩ := appendOutF (bytes := 24) (x := [.int .i64 (cls c), .str (Vm.tok (cls c) w).2]) hd (all2 _) (by omega) (by first | omega | (simp; omega)) rfl rfl (by first | omega | (simp; omega)) (by first | omega | (simp; omega))
      simp (disch := first | omega | (simp; done) | assumption) [wr64, wrU8, wrU64, Nat.add_assoc, -getElem?_pos, List.getElem?_cons_zero, List.getElem?_cons_succ, t0, t3, t4, t5, t6, t7, hk0]
      rw [← t3]
      refine Try.intro a1 ?_
      simp (disch := first | omega | (simp; done) | assumption) [wr64, wrU8, wrU64, Nat.add_assoc, -getElem?_pos, List.getElem?_cons_zero, List.getElem?_cons_succ, t0, t4, t5, t6, hcast]
      refine ⟨s.length - j, by omega, k1.keepsAll hk hok, by omega, j, acc ++ [Vm.tok (cls c) w], rfl, hj, by rw [hp]; simp, by simp; omega, by simpa [tokC, Vm.tok] using o1, by simp [t0], by simp⟩
    · have hne : cls c = -1 := by rcases cls_rng c with h | h | h | h <;> omega
      rw [if_pos hne, List.nil_append] at hp
      simp (disch := first | omega | (simp; done) | assumption) [wr64, wrU8, wrU64, Nat.add_assoc, -getElem?_pos, List.getElem?_cons_zero, List.getElem?_cons_succ, t0, t3, t4, t5, t6, t7, hk0, hcast]
      exact ⟨s.length - j, by omega, hk, hn, j, acc, rfl, hj, hp, by omega, by simpa [t3] using hd, by simp [t0], by simp⟩
  · have hlt' : ¬ (i : Int) < (s.length : Int) := by omega
    rw [List.drop_of_length_le (by omega), toks_nil, List.append_nil] at hp
    simp (disch := first | omega | (simp; done) | assumption) [wr64, wrU8, wrU64, Nat.add_assoc, -getElem?_pos, List.getElem?_cons_zero, List.getElem?_cons_succ, t0, t4, hlt, hlt']
    exact ⟨hk, hn, by rw [hp]; exact hd⟩
theorem ktrans {H H1 H2 : AH} (h1 : H.keepsAll H1) (h2 : H1.keepsAll H2) : H.keepsAll H2 := fun x o hx => h2 x o (h1 x o hx)
def RoI (p q : List T) (v w : AV) (n : Nat) (H : AH) (kk : Nat) (tm : Tms) (H' : AH) : Prop := H.keepsAll H' ∧ H.next ≤ H'.next ∧ ∃ i : Nat, kk = n - i ∧ i ≤ n ∧ cmpT p q = cmpN (n - i) (p.drop i) (q.drop i) ∧ tm 5 = v ∧ tm 6 = w ∧ tm 7 = .int .i64 (i : Int)
theorem RCompare (a b : List UInt8) (ha : a.length ≤ 1000000) (hb : b.length ≤ 1000000) (H : AH) : ACall Tryd.prog 18 [.str a, .str b] H (fun r H' => r = .int .i64 (cmpV a b) ∧ H' = H) := by
  refine acall_enter fits18 (by simp) (by simp) fun hok => ?_
  simp (disch := first | omega | (simp; done) | assumption) [wr64, wrU8, wrU64, Nat.add_assoc, -getElem?_pos, List.getElem?_cons_zero, List.getElem?_cons_succ, ic18, rs18]
  refine CallW.okof (RTokens a ha _) ?_
  rintro v H1 ⟨hk1, hn1, ho1⟩ hok1
  try simp only [newO_none] at hk1 hn1 ho1
  simp (disch := first | omega | (simp; done) | assumption) [wr64, wrU8, wrU64, Nat.add_assoc, -getElem?_pos, List.getElem?_cons_zero, List.getElem?_cons_succ, ]
  refine CallW.okof (RTokens b hb _) ?_
  rintro w H2 ⟨hk2, hn2, ho2⟩ hok2
  try simp only [newO_none] at hk2 hn2 ho2
  have ho1 := ho1.keeps hk2 hn2
  have t1 := toks_len a
  have t2 := toks_len b
  have hk : H.keepsAll H2 := fun x o hx => hk2 x o (hk1 x o hx)
  unfold cmpV
  generalize toks a = p at *
  generalize toks b = q at *
  have hc : cmpT p q = cmpN (max p.length q.length) p q := rfl
  have hn1 : p.length ≤ max p.length q.length := by omega
  have hn2 : q.length ≤ max p.length q.length := by omega
  have hn3 : max p.length q.length ≤ p.length ∨ max p.length q.length ≤ q.length := by omega
  have hn : max p.length q.length ≤ 1000000 := by omega
  generalize max p.length q.length = n at *
  simp (disch := first | omega | (simp; done) | assumption) [wr64, wrU8, wrU64, Nat.add_assoc, -getElem?_pos, List.getElem?_cons_zero, List.getElem?_cons_succ, ]
  refine iwp_loop (RoI p q v w n H2) n ⟨AH.keepsAll_refl _, Nat.le_refl _, 0, rfl, by omega, by simpa using hc, by simp, by simp, by simp⟩ ?_
  clear hk1 hok1
  rintro kk tm H3 ⟨hk3, hm3, i, rfl, hi, hcm, t5, t6, t7⟩
  have hq1 := ho1.keeps hk3 hm3
  have hq2 := ho2.keeps hk3 hm3
  have l1 := hq1.lenS
  have l2 := hq2.lenS
  rw [List.length_map] at l1 l2
  have hs1 := hq1.sf (all2 _)
  have hs2 := hq2.sf (all2 _)
  have hA := RAt (i := i) hs1 (by omega)
  have hB := RAt (i := i) hs2 (by omega)
  clear hq1 hq2 hs1 hs2 ho1 ho2
  have hok := hok2
  by_cases hlt : i < n
  · obtain ⟨m, hm⟩ : ∃ m, n - i = m + 1 := ⟨n - i - 1, by omega⟩
    rw [hm] at hcm
    simp only [cmpN] at hcm
    have hor : (i < p.length ∧ (i : Int) < (p.length : Int)) ∨ (¬ i < p.length ∧ ¬ (i : Int) < (p.length : Int) ∧ i < q.length ∧ (i : Int) < (q.length : Int)) := by omega
    rw [List.tail_drop, List.tail_drop, show m = n - (i + 1) by omega] at hcm
    generalize (p.drop i).headD E = ta at *
    generalize (q.drop i).headD E = tb at *
    have hpc : piece ta tb = if cmpI ta.1 tb.1 = 0 then (if ta.1 = 3 then (if cmpI ta.2.length tb.2.length = 0 then cmpB ta.2 tb.2 else cmpI ta.2.length tb.2.length) else cmpB ta.2 tb.2) else cmpI ta.1 tb.1 := by
      unfold piece Ord.lexc num3
      dsimp only
      by_cases e1 : cmpI ta.1 tb.1 = 0
      · have := cmpI_zero.1 e1
        simp only [e1, if_true, ← this]
        by_cases e3 : ta.1 = 3
        · simp [e3]
        · simp [e3, cmpI_self]
      · simp [e1]
    have hp3 : cmpI ta.1 tb.1 = 0 → ta.1 = 3 → tb.1 = 3 := fun h h3 => by rw [← cmpI_zero.1 h]; exact h3
    generalize piece ta tb = pc at *
    rcases hor with ⟨h1, h1'⟩ | ⟨h1, h1', h2, h2'⟩
    all_goals
      simp (disch := first | omega | (simp; done) | assumption) [wr64, wrU8, wrU64, Nat.add_assoc, -getElem?_pos, List.getElem?_cons_zero, List.getElem?_cons_succ, t5, t6, t7, l1, l2, *]
      refine CallW.val hA ?_
      simp (disch := first | omega | (simp; done) | assumption) [wr64, wrU8, wrU64, Nat.add_assoc, -getElem?_pos, List.getElem?_cons_zero, List.getElem?_cons_succ, t5, t6, t7]
      refine CallW.val hB ?_
      simp (disch := first | omega | (simp; done) | assumption) [wr64, wrU8, wrU64, Nat.add_assoc, -getElem?_pos, List.getElem?_cons_zero, List.getElem?_cons_succ, t5, t6, t7, tokC]
      refine CallW.val (ROrd _ _ _) ?_
      generalize cmpI ta.1 tb.1 = c1 at *
      by_cases e1 : c1 = 0
      · rw [if_pos e1] at hpc
        by_cases e3 : ta.1 = 3
        · rw [if_pos e3] at hpc
          have e3b := hp3 e1 e3
          simp (disch := first | omega | (simp; done) | assumption) [wr64, wrU8, wrU64, Nat.add_assoc, -getElem?_pos, List.getElem?_cons_zero, List.getElem?_cons_succ, t5, t6, t7, e1, e3]
          refine CallW.val (ROrd _ _ _) ?_
          by_cases e2 : cmpI ta.2.length tb.2.length = 0
          · rw [if_pos e2] at hpc
            simp (disch := first | omega | (simp; done) | assumption) [wr64, wrU8, wrU64, Nat.add_assoc, -getElem?_pos, List.getElem?_cons_zero, List.getElem?_cons_succ, t5, t6, t7, e2]
            refine CallW.val (RTexts _ _ _) ?_
            rw [← hpc]
            by_cases hz : pc = 0
            · rw [if_pos hz] at hcm
              simp (disch := first | omega | (simp; done) | assumption) [wr64, wrU8, wrU64, Nat.add_assoc, -getElem?_pos, List.getElem?_cons_zero, List.getElem?_cons_succ, t5, t6, t7, hz]
              exact ⟨n - (i + 1), by omega, by ((repeat (first | exact hk3 | refine keeps_set hok ?_ (by first | omega | (simp; done) | (simp; omega)) | refine keeps_new hok ?_ (by first | omega | (simp; done) | (simp; omega)))); done), by simp; omega, i + 1, rfl, by omega, hcm, by simp [t5], by simp [t6], by simp⟩
            · rw [if_neg hz] at hcm
              simp (disch := first | omega | (simp; done) | assumption) [wr64, wrU8, wrU64, Nat.add_assoc, -getElem?_pos, List.getElem?_cons_zero, List.getElem?_cons_succ, t5, t6, t7, hz]
              exact ⟨hcm.symm, ktrans hk (by ((repeat (first | exact hk3 | refine keeps_set hok ?_ (by first | omega | (simp; done) | (simp; omega)) | refine keeps_new hok ?_ (by first | omega | (simp; done) | (simp; omega)))); done))⟩
          · rw [if_neg e2] at hpc
            have hz : ¬ pc = 0 := by rw [hpc]; exact e2
            rw [if_neg hz] at hcm
            simp (disch := first | omega | (simp; done) | assumption) [wr64, wrU8, wrU64, Nat.add_assoc, -getElem?_pos, List.getElem?_cons_zero, List.getElem?_cons_succ, t5, t6, t7, e2]
            exact ⟨by rw [hcm, hpc], ktrans hk (by ((repeat (first | exact hk3 | refine keeps_set hok ?_ (by first | omega | (simp; done) | (simp; omega)) | refine keeps_new hok ?_ (by first | omega | (simp; done) | (simp; omega)))); done))⟩
        · rw [if_neg e3] at hpc
          simp (disch := first | omega | (simp; done) | assumption) [wr64, wrU8, wrU64, Nat.add_assoc, -getElem?_pos, List.getElem?_cons_zero, List.getElem?_cons_succ, t5, t6, t7, e1, e3]
          refine CallW.val (RTexts _ _ _) ?_
          rw [← hpc]
          by_cases hz : pc = 0
          · rw [if_pos hz] at hcm
            simp (disch := first | omega | (simp; done) | assumption) [wr64, wrU8, wrU64, Nat.add_assoc, -getElem?_pos, List.getElem?_cons_zero, List.getElem?_cons_succ, t5, t6, t7, hz]
            exact ⟨n - (i + 1), by omega, by ((repeat (first | exact hk3 | refine keeps_set hok ?_ (by first | omega | (simp; done) | (simp; omega)) | refine keeps_new hok ?_ (by first | omega | (simp; done) | (simp; omega)))); done), by simp; omega, i + 1, rfl, by omega, hcm, by simp [t5], by simp [t6], by simp⟩
          · rw [if_neg hz] at hcm
            simp (disch := first | omega | (simp; done) | assumption) [wr64, wrU8, wrU64, Nat.add_assoc, -getElem?_pos, List.getElem?_cons_zero, List.getElem?_cons_succ, t5, t6, t7, hz]
            exact ⟨hcm.symm, ktrans hk (by ((repeat (first | exact hk3 | refine keeps_set hok ?_ (by first | omega | (simp; done) | (simp; omega)) | refine keeps_new hok ?_ (by first | omega | (simp; done) | (simp; omega)))); done))⟩
      · rw [if_neg e1] at hpc
        have hz : ¬ pc = 0 := by rw [hpc]; exact e1
        rw [if_neg hz] at hcm
        simp (disch := first | omega | (simp; done) | assumption) [wr64, wrU8, wrU64, Nat.add_assoc, -getElem?_pos, List.getElem?_cons_zero, List.getElem?_cons_succ, t5, t6, t7, e1]
        exact ⟨by rw [hcm, hpc], ktrans hk (by ((repeat (first | exact hk3 | refine keeps_set hok ?_ (by first | omega | (simp; done) | (simp; omega)) | refine keeps_new hok ?_ (by first | omega | (simp; done) | (simp; omega)))); done))⟩
  · have hlt1 : ¬ (i : Int) < (p.length : Int) := by omega
    have hlt2 : ¬ (i : Int) < (q.length : Int) := by omega
    have hlt3 : ¬ i < p.length := by omega
    have hlt4 : ¬ i < q.length := by omega
    rw [show n - i = 0 by omega] at hcm
    simp (disch := first | omega | (simp; done) | assumption) [wr64, wrU8, wrU64, Nat.add_assoc, -getElem?_pos, List.getElem?_cons_zero, List.getElem?_cons_succ, t5, t6, t7, l1, l2, hlt1, hlt2, hlt3, hlt4]
    exact ⟨hcm.symm, ktrans hk hk3⟩
end Go.Proofs.YtfimhkijacamoaaDoor.PRef

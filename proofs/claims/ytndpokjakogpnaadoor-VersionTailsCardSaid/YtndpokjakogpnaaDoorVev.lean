/- What the printed functions of package version answer: the tokens and the order of the plain text. -/
import Derived.Test.YtndpokjakogpnaaDoorVMath
import Derived.Lib.Strings
import Derived.Lib.SmallJoins
import Derived.Test.YtndpokjakogpnaaDoorVx5
import Derived.Test.YtndpokjakogpnaaDoorVx6
set_option linter.unusedVariables false
set_option linter.unusedSimpArgs false
namespace Go.Proofs.YtndpokjakogpnaaDoor.Vev
open Go.RowKit (wrap64)
open Go Go.Proofs.YtndpokjakogpnaaDoorW.PrintWords Go.Proofs.YtndpokjakogpnaaDoorW.PrintLast Go.Proofs.YtndpokjakogpnaaDoor.V Go.Proofs.YtndpokjakogpnaaDoor.Vm Go.Proofs.YtndpokjakogpnaaDoor.Dg

abbrev bs (s : ByteArray) : List UInt8 := s.data.toList
def mkS (t : T) : S35 := ⟨t.1, ⟨t.2.toArray⟩⟩
theorem bs_len (s : ByteArray) : (bs s).length = s.size := Array.length_toList
theorem bs_mk (l : List UInt8) : bs ⟨l.toArray⟩ = l := rfl
theorem mk_bs (s : ByteArray) : (⟨(bs s).toArray⟩ : ByteArray) = s := by cases s; rfl
theorem bt_bs (s : ByteArray) (i : Nat) (h : i < (bs s).length) : bt s (i : Int) = (((bs s)[i]'h).toNat : Int) := by
  have h' : i < s.size := by rw [← bs_len]; exact h
  unfold bt
  rw [dif_pos (by simpa using h')]
  rfl
theorem drop_at {s : List UInt8} {i : Nat} (h : i < s.length) : s.drop i = s[i] :: s.drop (i + 1) := List.drop_eq_getElem_cons h
theorem wrap_nat {n : Nat} (h : n ≤ 1000000000000000) : wrap64 ((n : Int) + 1) = ((n + 1 : Nat) : Int) := by unfold wrap64; omega

theorem class_ev (c : UInt8) : Ev (fun k => version_class.f k (c.toNat : Int)) (cls c) := by
  refine ⟨4, fun k hk => ?_⟩
  obtain ⟨m, rfl⟩ : ∃ m, k = m + 4 := ⟨k - 4, by omega⟩
  have hc := c.toNat_lt
  simp only [version_class.f, version_class.j0, version_class.j1, version_class.j2]
  unfold cls
  generalize c.toNat = n at hc ⊢
  simp only [decide_eq_true_eq]
  by_cases h1 : 65 ≤ n ∧ n ≤ 90
  · rw [if_pos (by omega), if_pos (by omega), if_pos (Or.inl h1)]
  · by_cases h2 : 97 ≤ n ∧ n ≤ 122
    · rw [if_pos (by omega), if_neg (by omega), if_pos (by omega), if_pos (by omega), if_pos (Or.inr h2)]
    · by_cases h3 : 48 ≤ n ∧ n ≤ 57
      · rw [if_neg (by omega), if_neg (by simp), if_neg (by omega), if_neg (by simp), if_pos (by omega), if_pos (by omega), if_neg (by omega), if_pos h3]
      · by_cases h4 : n = 126
        · subst h4
          rfl
        · rw [if_neg (show ¬ (65 ≤ n ∧ n ≤ 90 ∨ 97 ≤ n ∧ n ≤ 122) by omega), if_neg h3, if_neg h4]
          repeat' split
          all_goals first | rfl | (exfalso; omega) | (exfalso; simp_all; done) | (exfalso; simp_all; omega)

/-! ### Tokens -/
variable {s : ByteArray}
theorem tok_word (l : List UInt8) : mkS (tok 2 l) = ⟨2, ⟨l.toArray⟩⟩ := rfl
theorem l0_end (k : Nat) (acc : List S35) : version_Tokens.l0 (k + 1) s acc (s.size : Int) = some acc := by
  simp only [version_Tokens.l0]
  rw [if_neg (by omega)]
  rfl
theorem l1_run (kind : Int) (hk : kind > 0) (acc : List S35) (i : Nat) (r : List S35) (hs : s.size ≤ 100000000000000) (m : Nat) : ∀ j : Nat, s.size - j = m → j ≤ s.size →
    Ev (fun k => version_Tokens.j2 k s acc (i : Int) kind ((j + (((bs s).drop j).takeWhile (fun x => cls x == kind)).length : Nat) : Int)) r →
    Ev (fun k => version_Tokens.l1 k s acc (i : Int) kind (j : Int)) r := by
  induction m with
  | zero =>
    intro j hm hj h
    have e : (bs s).drop j = [] := List.drop_eq_nil_of_le (by rw [bs_len]; omega)
    rw [e] at h
    refine Ev.step (fun k => by simp only [version_Tokens.l1]; rw [if_neg (by omega)]) (by simpa using h)
  | succ m ih =>
    intro j hm hj h
    have hj' : j < (bs s).length := by rw [bs_len]; omega
    rw [drop_at hj', List.takeWhile_cons] at h
    refine Ev.step (fun k => by simp only [version_Tokens.l1]; rw [if_pos (by omega), if_pos (by omega)]) ?_
    rw [bt_bs s j hj']
    refine Ev.bind (class_ev _) ?_
    by_cases hc : cls ((bs s)[j]) = kind
    · have hc' : (cls ((bs s)[j]) == kind) = true := by simpa using hc
      rw [if_pos hc'] at h
      refine Ev.congr (fun k => by rw [if_pos hc, if_pos hk, wrap_nat (by omega)]) ?_
      refine ih (j + 1) (by omega) (by omega) ?_
      rw [List.length_cons] at h
      rw [show j + 1 + (((bs s).drop (j + 1)).takeWhile (fun x => cls x == kind)).length = j + ((((bs s).drop (j + 1)).takeWhile (fun x => cls x == kind)).length + 1) by omega]
      exact h
    · have hc' : ¬ (cls ((bs s)[j]) == kind) = true := by simpa using hc
      rw [if_neg hc'] at h
      refine Ev.congr (fun k => by rw [if_neg hc]) ?_
      simpa using h
theorem l1_one (kind : Int) (hk : ¬ kind > 0) (acc : List S35) (i : Nat) (r : List S35) (j : Nat) (hj : j ≤ s.size)
    (h : Ev (fun k => version_Tokens.j2 k s acc (i : Int) kind (j : Int)) r) : Ev (fun k => version_Tokens.l1 k s acc (i : Int) kind (j : Int)) r := by
  by_cases hj' : j < (bs s).length
  · have hl := bs_len s
    refine Ev.step (fun k => by simp only [version_Tokens.l1]; rw [if_pos (by omega), if_pos (by omega)]) ?_
    rw [bt_bs s j hj']
    refine Ev.bind (class_ev _) ?_
    by_cases hc : cls ((bs s)[j]) = kind
    · exact Ev.congr (fun k => by rw [if_pos hc, if_neg hk]) h
    · exact Ev.congr (fun k => by rw [if_neg hc]) h
  · have hl := bs_len s
    exact Ev.step (fun k => by simp only [version_Tokens.l1]; rw [if_neg (by omega)]) h
theorem extract_bs (i j : Nat) : s.extract i j = ⟨(((bs s).drop i).take (j - i)).toArray⟩ := by
  have h := Lib.extract_data s i j
  rw [← mk_bs (s.extract i j)]
  unfold bs
  rw [h]
theorem j2_num (acc : List S35) (i j : Nat) (r : List S35) (hij : i ≤ j) (hj : j ≤ s.size) (hl : acc.length < 5864062014805)
    (h : Ev (fun k => version_Tokens.l0 k s (acc ++ [mkS (tok 3 (((bs s).drop i).take (j - i)))]) (j : Int)) r) : Ev (fun k => version_Tokens.j2 k s acc (i : Int) 3 (j : Int)) r := by
  refine Ev.step (fun k => by simp only [version_Tokens.j2]; rw [if_pos (by omega), if_pos (by omega), if_pos (by omega), if_pos trivial]) ?_
  have e : strings_TrimLeft.f (s.extract (i : Int).toNat (j : Int).toNat) (⟨#[48]⟩ : ByteArray) = some (mkS (tok 3 (((bs s).drop i).take (j - i)))).f1 := by
    unfold strings_TrimLeft.f
    rw [if_pos rfl, Int.toNat_natCast, Int.toNat_natCast, extract_bs]
    simp [mkS, tok, trim0, Lib.trimLeftB]
  refine Ev.congr (fun k => by rw [e, Option.bind_some, if_pos hl]; rfl) h
theorem j2_other (kind : Int) (hk : kind = 2 ∨ kind = 0) (acc : List S35) (i j : Nat) (r : List S35) (hij : i ≤ j) (hj : j ≤ s.size) (hl : acc.length < 5864062014805)
    (h : Ev (fun k => version_Tokens.l0 k s (acc ++ [mkS (tok kind (((bs s).drop i).take (j - i)))]) (j : Int)) r) : Ev (fun k => version_Tokens.j2 k s acc (i : Int) kind (j : Int)) r := by
  have e : (⟨kind, s.extract (i : Int).toNat (j : Int).toNat⟩ : S35) = mkS (tok kind (((bs s).drop i).take (j - i))) := by
    rw [Int.toNat_natCast, Int.toNat_natCast, extract_bs]
    rcases hk with rfl | rfl <;> simp [mkS, tok]
  rcases hk with rfl | rfl
  · refine Ev.step (fun k => by simp only [version_Tokens.j2]; rw [if_pos (by omega), if_pos (by omega), if_pos (by omega), if_neg (by omega), if_pos trivial, if_pos hl, e]) h
  · refine Ev.step (fun k => by simp only [version_Tokens.j2]; rw [if_pos (by omega), if_pos (by omega), if_pos (by omega), if_neg (by omega), if_neg (by omega), if_pos trivial, if_pos hl, e]) h
theorem j2_none (acc : List S35) (i j : Nat) (r : List S35) (hij : i ≤ j) (hj : j ≤ s.size)
    (h : Ev (fun k => version_Tokens.l0 k s acc (j : Int)) r) : Ev (fun k => version_Tokens.j2 k s acc (i : Int) (-1) (j : Int)) r :=
  Ev.step (fun k => by simp only [version_Tokens.j2]; rw [if_pos (by omega), if_pos (by omega), if_pos (by omega), if_neg (by omega), if_neg (by omega), if_neg (by omega)]) h
theorem take_tw (p : UInt8 → Bool) (t : List UInt8) : t.take (t.takeWhile p).length = t.takeWhile p ∧ t.drop (t.takeWhile p).length = t.dropWhile p := by
  induction t with
  | nil => exact ⟨rfl, rfl⟩
  | cons a t ih =>
    rw [List.takeWhile_cons, List.dropWhile_cons]
    by_cases h : p a = true
    · rw [if_pos h, if_pos h]
      exact ⟨by rw [List.length_cons, List.take_succ_cons, ih.1], by rw [List.length_cons, List.drop_succ_cons, ih.2]⟩
    · rw [if_neg h, if_neg h]
      exact ⟨rfl, rfl⟩
theorem tw_le (p : UInt8 → Bool) (t : List UInt8) : (t.takeWhile p).length ≤ t.length := (List.takeWhile_sublist p).length_le

theorem tokens_l0 (hs : s.size ≤ 1000000000000) (m : Nat) : ∀ (i : Nat) (acc : List S35), s.size - i = m → i ≤ s.size → acc.length + (s.size - i) < 5864062014805 →
    Ev (fun k => version_Tokens.l0 k s acc (i : Int)) (acc ++ (toks ((bs s).drop i)).map mkS) := by
  have hlen := bs_len s
  induction m using Nat.strongRecOn with
  | _ m ih =>
    intro i acc hm hi hl
    by_cases he : i = s.size
    · subst he
      rw [List.drop_eq_nil_of_le (by omega), toks_nil, List.map_nil, List.append_nil]
      exact Ev.step (fun k => by rw [l0_end]) (Ev.now _)
    · have hi' : i < (bs s).length := by omega
      refine Ev.step (fun k => by simp only [version_Tokens.l0]; rw [if_pos (by omega), if_pos (by omega)]) ?_
      rw [bt_bs s i hi']
      refine Ev.bind (class_ev _) ?_
      refine Ev.congr (fun k => by rw [wrap_nat (by omega)]) ?_
      rw [drop_at hi']
      generalize hc : (bs s)[i] = c
      have hd : (bs s).drop i = c :: (bs s).drop (i + 1) := by rw [drop_at hi', hc]
      have hT := take_tw (fun x => cls x == cls c) ((bs s).drop (i + 1))
      have hW := tw_le (fun x => cls x == cls c) ((bs s).drop (i + 1))
      rw [List.length_drop, hlen] at hW
      rcases cls_rng c with hk | hk | hk | hk
      · rw [toks_pos _ (by omega), List.map_cons]
        refine l1_run (cls c) (by omega) acc i _ (by omega) _ (i + 1) rfl (by omega) ?_
        rw [hk]
        refine j2_other 2 (.inl rfl) acc i _ _ (by omega) (by rw [hk] at hW; omega) (by omega) ?_
        rw [hk] at hT hW
        rw [hd, show (i + 1 + (((bs s).drop (i + 1)).takeWhile (fun x => cls x == 2)).length - i) = (((bs s).drop (i + 1)).takeWhile (fun x => cls x == 2)).length + 1 by omega, List.take_succ_cons, hT.1]
        have hr := ih (s.size - (i + 1 + (((bs s).drop (i + 1)).takeWhile (fun x => cls x == 2)).length)) (by omega) (i + 1 + (((bs s).drop (i + 1)).takeWhile (fun x => cls x == 2)).length) (acc ++ [mkS (tok 2 (c :: ((bs s).drop (i + 1)).takeWhile (fun x => cls x == 2)))]) rfl (by omega) (by simp; omega)
        have hdd : (bs s).drop (i + 1 + (((bs s).drop (i + 1)).takeWhile (fun x => cls x == 2)).length) = ((bs s).drop (i + 1)).dropWhile (fun x => cls x == 2) := by rw [← List.drop_drop]; exact hT.2
        rw [hdd, List.append_assoc] at hr
        exact hr
      · rw [toks_pos _ (by omega), List.map_cons]
        refine l1_run (cls c) (by omega) acc i _ (by omega) _ (i + 1) rfl (by omega) ?_
        rw [hk]
        refine j2_num acc i _ _ (by omega) (by rw [hk] at hW; omega) (by omega) ?_
        rw [hk] at hT hW
        rw [hd, show (i + 1 + (((bs s).drop (i + 1)).takeWhile (fun x => cls x == 3)).length - i) = (((bs s).drop (i + 1)).takeWhile (fun x => cls x == 3)).length + 1 by omega, List.take_succ_cons, hT.1]
        have hr := ih (s.size - (i + 1 + (((bs s).drop (i + 1)).takeWhile (fun x => cls x == 3)).length)) (by omega) (i + 1 + (((bs s).drop (i + 1)).takeWhile (fun x => cls x == 3)).length) (acc ++ [mkS (tok 3 (c :: ((bs s).drop (i + 1)).takeWhile (fun x => cls x == 3)))]) rfl (by omega) (by simp; omega)
        have hdd : (bs s).drop (i + 1 + (((bs s).drop (i + 1)).takeWhile (fun x => cls x == 3)).length) = ((bs s).drop (i + 1)).dropWhile (fun x => cls x == 3) := by rw [← List.drop_drop]; exact hT.2
        rw [hdd, List.append_assoc] at hr
        exact hr
      · rw [toks_zero _ hk, List.map_cons, hk]
        refine l1_one 0 (by omega) acc i _ (i + 1) (by omega) ?_
        refine j2_other 0 (.inr rfl) acc i _ _ (by omega) (by omega) (by omega) ?_
        rw [hd, show i + 1 - i = 1 by omega, List.take_succ_cons, List.take_zero]
        have hr := ih (s.size - (i + 1)) (by omega) (i + 1) (acc ++ [mkS (tok 0 [c])]) rfl (by omega) (by simp; omega)
        rw [List.append_assoc] at hr
        exact hr
      · rw [toks_neg _ hk, hk]
        refine l1_one (-1) (by omega) acc i _ (i + 1) (by omega) ?_
        refine j2_none acc i _ _ (by omega) (by omega) ?_
        exact ih (s.size - (i + 1)) (by omega) (i + 1) acc rfl (by omega) (by omega)
theorem tokens_ev (s : ByteArray) (hs : s.size ≤ 1000000000000) : Ev (fun k => version_Tokens.f k s) ((toks (bs s)).map mkS) := by
  have h := tokens_l0 hs _ 0 [] rfl (by omega) (by simp; omega)
  exact h

/-! ### Compare -/
theorem cmp_int (a b : Int) : cmp_Compare_int.f a b = some (cmpI a b) := by
  unfold cmp_Compare_int.f cmp_isNaN_int.f cmpI
  simp only [Option.bind_some, bne_self_eq_false, Bool.false_eq_true, if_false]
  by_cases h : a < b
  · rw [if_pos h, if_pos h]
  · rw [if_neg h, if_neg h]
    by_cases h2 : b < a
    · rw [if_pos h2, if_pos h2]
    · rw [if_neg h2, if_neg h2]
theorem piece_ev (a b : T) : Ev (fun k => version_piece.f k (mkS a).f0 (mkS a).f1 (mkS b).f0 (mkS b).f1) (piece a b) := by
  refine ⟨2, fun k hk => ?_⟩
  obtain ⟨m, rfl⟩ : ∃ m, k = m + 1 := ⟨k - 1, by omega⟩
  rw [piece_eq]
  simp only [version_piece.f, version_piece.j0, mkS, cmp_int, Option.bind_some, strings_Compare.f]
  have e : ∀ l : List UInt8, ((⟨l.toArray⟩ : ByteArray).size : Int) = (l.length : Int) := fun l => by simp [ByteArray.size]
  rw [e, e]
  by_cases h : a.1 = b.1
  · rw [if_pos h, if_pos h]
    by_cases h3 : a.1 = 3
    · rw [if_pos h3, if_pos h3]
      by_cases hl : (a.2.length : Int) = b.2.length
      · rw [if_neg (by simp [hl]), if_neg (by simp [hl])]
      · rw [if_pos (by simpa using hl), if_pos (by simpa using hl)]
    · rw [if_neg h3, if_neg h3, if_neg (by simp)]
  · rw [if_neg h, if_neg h]
theorem rd_map (p : List T) (i : Nat) (h : i < p.length) : rd_T35 (p.map mkS) (i : Int) = mkS p[i] := by
  unfold rd_T35
  rw [Int.toNat_natCast, List.getD_eq_getElem?_getD, List.getElem?_map, List.getElem?_eq_getElem h]
  rfl
theorem at_ev (p : List T) (i : Nat) : version_at.f (p.map mkS) (i : Int) = some ((mkS ((p.drop i).headD E)).f0, (mkS ((p.drop i).headD E)).f1) := by
  unfold version_at.f
  rw [List.length_map]
  by_cases h : i < p.length
  · rw [if_pos (by omega), if_pos (by omega), rd_map p i h, List.drop_eq_getElem_cons h]
    rfl
  · rw [if_neg (by omega), List.drop_eq_nil_of_le (by omega)]
    rfl
theorem compare_l0 (p q : List T) (n : Nat) (hn : n ≤ 1000000000000) (m : Nat) : ∀ i : Nat, i + m = n → Ev (fun k => version_Compare.l0 k (p.map mkS) (q.map mkS) (n : Int) (i : Int)) (cmpN m (p.drop i) (q.drop i)) := by
  induction m with
  | zero =>
    intro i hi
    exact Ev.step (fun k => by simp only [version_Compare.l0]; rw [if_neg (by omega)]; rfl) (Ev.now _)
  | succ m ih =>
    intro i hi
    refine Ev.step (fun k => by simp only [version_Compare.l0]; rw [if_pos (by omega), at_ev, Option.bind_some, at_ev, Option.bind_some]) ?_
    refine Ev.bind (piece_ev _ _) ?_
    simp only [cmpN]
    by_cases h : piece ((p.drop i).headD E) ((q.drop i).headD E) = 0
    · rw [if_pos h]
      refine Ev.congr (fun k => by rw [if_pos h, wrap_nat (by omega)]) ?_
      have := ih (i + 1) (by omega)
      rw [List.tail_drop, List.tail_drop]
      exact this
    · rw [if_neg h]
      exact Ev.congr (fun k => by rw [if_neg h]) (Ev.now _)
theorem toks_len (l : List UInt8) : (toks l).length ≤ l.length := by
  induction hn : l.length using Nat.strongRecOn generalizing l with
  | _ n ih =>
    cases l with
    | nil => rw [toks_nil]; simp
    | cons a l =>
      have hd := (List.dropWhile_sublist (l := l) (fun y => cls y == cls a)).length_le
      simp only [List.length_cons] at hn
      rcases cls_rng a with hx | hx | hx | hx
      · rw [toks_pos _ (by omega), List.length_cons]
        have := ih _ (by omega) (l.dropWhile (fun y => cls y == cls a)) rfl
        omega
      · rw [toks_pos _ (by omega), List.length_cons]
        have := ih _ (by omega) (l.dropWhile (fun y => cls y == cls a)) rfl
        omega
      · rw [toks_zero _ hx, List.length_cons]
        have := ih _ (by omega) l rfl
        omega
      · rw [toks_neg _ hx]
        have := ih _ (by omega) l rfl
        omega
def cmpV (a b : ByteArray) : Int := cmpT (toks (bs a)) (toks (bs b))
theorem compare_ev (a b : ByteArray) (ha : a.size ≤ 1000000000000) (hb : b.size ≤ 1000000000000) : Ev (fun k => version_Compare.f k a b) (cmpV a b) := by
  refine Ev.bind (tokens_ev a ha) (Ev.bind (tokens_ev b hb) ?_)
  have la := toks_len (bs a)
  have lb := toks_len (bs b)
  rw [bs_len] at la lb
  have hm : mx (((toks (bs a)).map mkS).length : Int) (((toks (bs b)).map mkS).length : Int) = ((max (toks (bs a)).length (toks (bs b)).length : Nat) : Int) := by
    rw [List.length_map, List.length_map]
    unfold mx
    split <;> omega
  rw [hm]
  have h := compare_l0 (toks (bs a)) (toks (bs b)) (max (toks (bs a)).length (toks (bs b)).length) (by omega) (max (toks (bs a)).length (toks (bs b)).length) 0 (by omega)
  rw [List.drop_zero, List.drop_zero] at h
  exact h

/-! ### Newest of two, and of three; what awake asks -/
theorem rdOf_at (l : List ByteArray) (i : Nat) : rdOf ByteArray.empty l (i : Int) = l.getD i ByteArray.empty := by simp [rdOf]
theorem newest_step (l : List ByteArray) (best i : Nat) (hi : i < l.length) (hb : best < l.length) (hl : l.length ≤ 1000000) (hs : ∀ x ∈ l, x.size ≤ 1000000000000) (r : Int)
    (h : Ev (fun k => version_Newest.l0 k l (if cmpV (l.getD i ByteArray.empty) (l.getD best ByteArray.empty) > 0 then (i : Int) else (best : Int)) l (l.length : Int) ((i + 1 : Nat) : Int)) r) :
    Ev (fun k => version_Newest.l0 k l (best : Int) l (l.length : Int) (i : Int)) r := by
  refine Ev.step (fun k => by simp only [version_Newest.l0]; rw [if_pos (by omega), if_pos (by omega), if_pos (by omega), if_neg (by omega), if_pos (by omega), if_pos (by omega), rdOf_at, rdOf_at]) ?_
  have hm : ∀ j, j < l.length → (l.getD j ByteArray.empty).size ≤ 1000000000000 := fun j hj => by
    rw [List.getD_eq_getElem?_getD, List.getElem?_eq_getElem hj]
    exact hs _ (List.getElem_mem hj)
  refine Ev.bind (compare_ev _ _ (hm i hi) (hm best hb)) ?_
  by_cases h0 : cmpV (l.getD i ByteArray.empty) (l.getD best ByteArray.empty) > 0
  · rw [if_pos h0] at h
    exact Ev.congr (fun k => by rw [if_pos h0, wrap_nat (by omega)]) h
  · rw [if_neg h0] at h
    exact Ev.congr (fun k => by rw [if_neg h0, wrap_nat (by omega)]) h
theorem newest_end (l : List ByteArray) (best : Int) : Ev (fun k => version_Newest.l0 k l best l (l.length : Int) (l.length : Int)) best :=
  Ev.step (fun k => by simp only [version_Newest.l0]; rw [if_neg (by omega)]) (Ev.now _)
theorem newest_first (l : List ByteArray) (h1 : 0 < l.length) (hl : l.length ≤ 1000000) (r : Int) (h : Ev (fun k => version_Newest.l0 k l ((0 : Nat) : Int) l (l.length : Int) ((1 : Nat) : Int)) r) : Ev (fun k => version_Newest.f k l) r := by
  have : Ev (fun k => version_Newest.l0 k l (-1) l (l.length : Int) 0) r :=
    Ev.step (fun k => by simp only [version_Newest.l0]; rw [if_pos (by omega), if_pos (by omega), if_pos (by omega), if_pos (by omega), show wrap64 (0 + 1) = 1 from by unfold wrap64; omega]; rfl) h
  exact this
theorem newest_two (a b : ByteArray) (ha : a.size ≤ 1000000000000) (hb : b.size ≤ 1000000000000) : Ev (fun k => version_Newest.f k [a, b]) (if cmpV b a > 0 then 1 else 0) := by
  refine newest_first _ (by simp) (by simp) _ ?_
  refine newest_step _ 0 1 (by simp) (by simp) (by simp) (by simp; exact ⟨ha, hb⟩) _ ?_
  exact newest_end [a, b] _
theorem newest_three (a b c : ByteArray) (ha : a.size ≤ 1000000000000) (hb : b.size ≤ 1000000000000) (hc : c.size ≤ 1000000000000) (h1 : cmpV b a > 0) (h2 : ¬ cmpV c b > 0) : Ev (fun k => version_Newest.f k [a, b, c]) 1 := by
  refine newest_first _ (by simp) (by simp) _ ?_
  refine newest_step _ 0 1 (by simp) (by simp) (by simp) (by simp; exact ⟨ha, hb, hc⟩) _ ?_
  have e1 : cmpV ([a, b, c].getD 1 ByteArray.empty) ([a, b, c].getD 0 ByteArray.empty) > 0 := h1
  rw [if_pos e1]
  refine newest_step [a, b, c] 1 2 (by simp) (by simp) (by simp) (by simp; exact ⟨ha, hb, hc⟩) _ ?_
  have e2 : ¬ cmpV ([a, b, c].getD 2 ByteArray.empty) ([a, b, c].getD 1 ByteArray.empty) > 0 := h2
  rw [if_neg e2]
  exact newest_end [a, b, c] _
theorem t1 : toks [49] = [(3, [49])] := by simp [toks, cls, tok, trim0]
theorem t2 : toks [50] = [(3, [50])] := by simp [toks, cls, tok, trim0]
theorem t2t : toks [50, 126] = [(3, [50]), (0, [126])] := by simp [toks, cls, tok, trim0]
theorem t1_10 : toks [49, 46, 49, 48] = [(3, [49]), (3, [49, 48])] := by simp [toks, cls, tok, trim0]
theorem t1_9 : toks [49, 46, 57] = [(3, [49]), (3, [57])] := by simp [toks, cls, tok, trim0]
theorem t1_rc : toks [49, 126, 114, 99] = [(3, [49]), (0, [126]), (2, [114, 99])] := by simp [toks, cls, tok, trim0]
theorem t1_0 : toks [49, 46, 48] = [(3, [49]), (3, [])] := by simp [toks, cls, tok, trim0]
theorem t1_00 : toks [49, 45, 48, 48] = [(3, [49]), (3, [])] := by simp [toks, cls, tok, trim0]
theorem awake_ev : Ev (fun k => credenzalaw15_awake.f k) true := by
  have c1 : cmpV (⟨#[49, 46, 49, 48]⟩ : ByteArray) (⟨#[49, 46, 57]⟩ : ByteArray) = 1 := by unfold cmpV bs; rw [t1_10, t1_9]; decide
  have c2 : cmpV (⟨#[49, 126, 114, 99]⟩ : ByteArray) (⟨#[49]⟩ : ByteArray) = -1 := by unfold cmpV bs; rw [t1_rc, t1]; decide
  have c3 : cmpV (⟨#[49, 46, 48]⟩ : ByteArray) (⟨#[49, 45, 48, 48]⟩ : ByteArray) = 0 := by unfold cmpV bs; rw [t1_0, t1_00]; decide
  have c4 : cmpV (⟨#[50]⟩ : ByteArray) (⟨#[49]⟩ : ByteArray) > 0 := by unfold cmpV bs; rw [t2, t1]; decide
  have c5 : ¬ cmpV (⟨#[50, 126]⟩ : ByteArray) (⟨#[50]⟩ : ByteArray) > 0 := by unfold cmpV bs; rw [t2t, t2]; decide
  unfold credenzalaw15_awake.f
  refine Ev.bind (compare_ev _ _ (by decide) (by decide)) ?_
  rw [c1]
  refine Ev.bind (compare_ev _ _ (by decide) (by decide)) ?_
  rw [c2]
  refine Ev.bind (compare_ev _ _ (by decide) (by decide)) ?_
  rw [c3]
  refine Ev.bind (newest_three _ _ _ (by decide) (by decide) (by decide) c4 c5) ?_
  exact Ev.now _
end Go.Proofs.YtndpokjakogpnaaDoor.Vev

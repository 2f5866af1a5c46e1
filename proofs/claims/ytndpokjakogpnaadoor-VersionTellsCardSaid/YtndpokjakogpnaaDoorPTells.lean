/- VersionTells, the plain part: the program's tokens and order are the document's. -/
import Derived.Test.YtndpokjakogpnaaDoorVev
import Derived.Test.YtndpokjakogpnaaDoorVx13
import Derived.Test.YtndpokjakogpnaaDoorVx12
set_option linter.unusedVariables false
set_option linter.unusedSimpArgs false
namespace Go.Proofs.YtndpokjakogpnaaDoor.Pure
open Go.RowKit (wrap64)
open Go Go.Proofs.YtndpokjakogpnaaDoorW.PrintWords Go.Proofs.YtndpokjakogpnaaDoorW.PrintLast Go.Proofs.YtndpokjakogpnaaDoor.V Go.Proofs.YtndpokjakogpnaaDoor.Vm Go.Proofs.YtndpokjakogpnaaDoor.Dg Go.Proofs.YtndpokjakogpnaaDoor.Vev

theorem letter_eq (n : Nat) : credenzaref2_Letter.f (n : Int) = some (decide (97 ≤ n ∧ n ≤ 122 ∨ 65 ≤ n ∧ n ≤ 90 ∨ 48 ≤ n ∧ n ≤ 57)) := by
  unfold credenzaref2_Letter.f
  by_cases h : (97 ≤ n ∧ n ≤ 122 ∨ 65 ≤ n ∧ n ≤ 90 ∨ 48 ≤ n ∧ n ≤ 57)
  · rw [decide_eq_true h]
    repeat' split
    all_goals first | rfl | (rw [decide_eq_true (by omega)]) | (exfalso; omega)
  · rw [decide_eq_false h]
    repeat' split
    all_goals first | rfl | (rw [decide_eq_false (by omega)]) | (exfalso; omega)
theorem rclass_ev (c : UInt8) : Ev (fun k => credenzaref14_class.f k (c.toNat : Int)) (cls c) := by
  refine ⟨2, fun k hk => ?_⟩
  obtain ⟨m, rfl⟩ : ∃ m, k = m + 1 := ⟨k - 1, by omega⟩
  simp only [credenzaref14_class.f, credenzaref14_class.j0, letter_eq, Option.bind_some]
  unfold cls
  generalize c.toNat = n
  by_cases h3 : 48 ≤ n ∧ n ≤ 57
  · rw [if_pos (by omega), decide_eq_true (by omega), if_pos rfl, if_neg (by omega), if_pos h3]
  · have e : (if (n : Int) ≥ 48 then (if decide ((n : Int) ≤ 57) = true then some (3 : Int) else if (n : Int) = 126 then some 0 else if decide (97 ≤ n ∧ n ≤ 122 ∨ 65 ≤ n ∧ n ≤ 90 ∨ 48 ≤ n ∧ n ≤ 57) = true then some 2 else some (-1))
        else if false = true then some 3 else if (n : Int) = 126 then some 0 else if decide (97 ≤ n ∧ n ≤ 122 ∨ 65 ≤ n ∧ n ≤ 90 ∨ 48 ≤ n ∧ n ≤ 57) = true then some 2 else some (-1)) =
        (if (n : Int) = 126 then some 0 else if decide (97 ≤ n ∧ n ≤ 122 ∨ 65 ≤ n ∧ n ≤ 90 ∨ 48 ≤ n ∧ n ≤ 57) = true then some 2 else some (-1)) := by
      by_cases h : (n : Int) ≥ 48
      · rw [if_pos h, if_neg (by simp; omega)]
      · rw [if_neg h, if_neg (by simp)]
    rw [e]
    by_cases h2 : 65 ≤ n ∧ n ≤ 90 ∨ 97 ≤ n ∧ n ≤ 122
    · rw [if_neg (by omega), if_pos (decide_eq_true (by omega)), if_pos h2]
    · rw [if_neg h2, if_neg h3]
      by_cases h4 : n = 126
      · rw [if_pos (by omega), if_pos h4]
      · rw [if_neg (by omega), if_neg h4, if_neg (by simp; omega)]

variable {s : ByteArray}
theorem wrap_sum {a b : Nat} (h : a + b ≤ 1000000000000000) : wrap64 ((a : Int) + (b : Int)) = ((a + b : Nat) : Int) := by unfold wrap64; omega
theorem r1_run (kind : Int) (hk : kind > 0) (acc : List S35) (i : Nat) (r : List S35) (hs : s.size ≤ 100000000000000) (m : Nat) : ∀ j : Nat, s.size - (i + j) = m → i + j ≤ s.size →
    Ev (fun k => credenzaref14_Tokens.j2 k s acc (i : Int) kind ((j + (((bs s).drop (i + j)).takeWhile (fun x => cls x == kind)).length : Nat) : Int)) r →
    Ev (fun k => credenzaref14_Tokens.l1 k s acc (i : Int) kind (j : Int)) r := by
  have hlen := bs_len s
  induction m with
  | zero =>
    intro j hm hj h
    have e : (bs s).drop (i + j) = [] := List.drop_eq_nil_of_le (by omega)
    rw [e] at h
    refine Ev.step (fun k => by simp only [credenzaref14_Tokens.l1]; rw [if_neg (by omega), if_pos (by omega), wrap_sum (by omega), if_neg (by omega)]) (by simpa using h)
  | succ m ih =>
    intro j hm hj h
    have hj' : i + j < (bs s).length := by omega
    rw [drop_at hj', List.takeWhile_cons] at h
    refine Ev.step (fun k => by simp only [credenzaref14_Tokens.l1]; rw [if_neg (by omega), if_pos (by omega), wrap_sum (by omega), if_pos (by omega), if_pos (by omega)]) ?_
    rw [bt_bs s _ hj']
    refine Ev.bind (rclass_ev _) ?_
    by_cases hc : cls ((bs s)[i + j]) = kind
    · have hc' : (cls ((bs s)[i + j]) == kind) = true := by simpa using hc
      rw [if_pos hc'] at h
      refine Ev.congr (fun k => by rw [if_pos hc, wrap_nat (by omega)]) ?_
      refine ih (j + 1) (by omega) (by omega) ?_
      rw [List.length_cons] at h
      rw [show i + (j + 1) = i + j + 1 by omega, show j + 1 + (((bs s).drop (i + j + 1)).takeWhile (fun x => cls x == kind)).length = j + ((((bs s).drop (i + j + 1)).takeWhile (fun x => cls x == kind)).length + 1) by omega]
      exact h
    · have hc' : ¬ (cls ((bs s)[i + j]) == kind) = true := by simpa using hc
      rw [if_neg hc'] at h
      refine Ev.congr (fun k => by rw [if_neg hc]) ?_
      simpa using h
theorem r1_zero (acc : List S35) (i j : Nat) (r : List S35) (h : Ev (fun k => credenzaref14_Tokens.j2 k s acc (i : Int) 0 (j : Int)) r) : Ev (fun k => credenzaref14_Tokens.l1 k s acc (i : Int) 0 (j : Int)) r :=
  Ev.step (fun k => by simp only [credenzaref14_Tokens.l1]; rw [if_pos trivial]) h
theorem r1_neg (acc : List S35) (i j : Nat) (r : List S35) (h : Ev (fun k => credenzaref14_Tokens.j2 k s acc (i : Int) (-1) (j : Int)) r) : Ev (fun k => credenzaref14_Tokens.l1 k s acc (i : Int) (-1) (j : Int)) r :=
  Ev.step (fun k => by simp only [credenzaref14_Tokens.l1]; rw [if_neg (by omega), if_neg (by omega)]) h
theorem r2_other (kind : Int) (hk : ¬ kind = 3) (acc : List S35) (i j : Nat) (r : List S35) (l : List UInt8) (hij : i + j ≤ 1000000000000) (hl : acc.length < 5864062014805)
    (h : Ev (fun k => credenzaref14_Tokens.l0 k s (if kind ≥ 0 then acc ++ [⟨kind, ⟨l.toArray⟩⟩] else acc) ((i + j : Nat) : Int)) r) :
    Ev (fun k => credenzaref14_Tokens.l2 k s acc (i : Int) kind (j : Int) ⟨l.toArray⟩) r := by
  by_cases h0 : kind ≥ 0
  · rw [if_pos h0] at h
    exact Ev.step (fun k => by simp only [credenzaref14_Tokens.l2]; rw [if_neg hk, if_pos h0, if_pos hl, wrap_sum (by omega)]) h
  · rw [if_neg h0] at h
    exact Ev.step (fun k => by simp only [credenzaref14_Tokens.l2]; rw [if_neg hk, if_neg h0, wrap_sum (by omega)]) h
theorem r2_num (acc : List S35) (i j : Nat) (r : List S35) (hij : i + j ≤ 1000000000000) (hl : acc.length < 5864062014805) (l : List UInt8) :
    Ev (fun k => credenzaref14_Tokens.l0 k s (acc ++ [⟨3, ⟨(trim0 l).toArray⟩⟩]) ((i + j : Nat) : Int)) r →
    Ev (fun k => credenzaref14_Tokens.l2 k s acc (i : Int) 3 (j : Int) ⟨l.toArray⟩) r := by
  induction l with
  | nil =>
    intro h
    have hz : ((⟨([] : List UInt8).toArray⟩ : ByteArray).size : Int) = 0 := rfl
    refine Ev.step (fun k => by simp only [credenzaref14_Tokens.l2]; rw [if_pos trivial, if_neg (by rw [hz]; omega), if_pos (by omega), if_pos hl, wrap_sum (by omega)]; rfl) h
  | cons c l ih =>
    intro h
    have hz : ((⟨(c :: l).toArray⟩ : ByteArray).size : Int) = (l.length : Int) + 1 := by simp [ByteArray.size]
    have hb : bt (⟨(c :: l).toArray⟩ : ByteArray) 0 = (c.toNat : Int) := bt_bs (⟨(c :: l).toArray⟩ : ByteArray) 0 (by simp [bs])
    have hx : (⟨(c :: l).toArray⟩ : ByteArray).extract 1 (⟨(c :: l).toArray⟩ : ByteArray).size = ⟨l.toArray⟩ := by
      rw [extract_bs, bs_mk]
      have : (⟨(c :: l).toArray⟩ : ByteArray).size = l.length + 1 := by simp [ByteArray.size]
      rw [this, List.drop_succ_cons, List.drop_zero, List.take_of_length_le (by omega)]
    by_cases hc : c = 48
    · subst hc
      have e : trim0 (48 :: l) = trim0 l := by unfold trim0; rw [List.dropWhile_cons, if_pos (by rfl)]
      rw [e] at h
      refine Ev.step (fun k => by simp only [credenzaref14_Tokens.l2]; rw [if_pos trivial, if_pos (by rw [hz]; omega), if_pos (by rw [hz]; omega), if_pos (by rw [hb]; rfl), if_pos (by rw [hz]; omega), hx]) (ih h)
    · have e : trim0 (c :: l) = c :: l := by unfold trim0; rw [List.dropWhile_cons, if_neg (by simpa using hc)]
      rw [e] at h
      have hn : ¬ (c.toNat : Int) = 48 := fun e => hc (UInt8.toNat_inj.1 (by have : (48 : UInt8).toNat = 48 := rfl; omega))
      refine Ev.step (fun k => by simp only [credenzaref14_Tokens.l2]; rw [if_pos trivial, if_pos (by rw [hz]; omega), if_pos (by rw [hz]; omega), if_neg (by rw [hb]; exact hn), if_pos (by omega), if_pos hl, wrap_sum (by omega)]) h
theorem r3 (kind : Int) (acc : List S35) (i j : Nat) (r : List S35) (hj : i + j ≤ s.size) (hs : s.size ≤ 1000000000000)
    (h : Ev (fun k => credenzaref14_Tokens.l2 k s acc (i : Int) kind (j : Int) ⟨(((bs s).drop i).take j).toArray⟩) r) : Ev (fun k => credenzaref14_Tokens.j2 k s acc (i : Int) kind (j : Int)) r := by
  refine Ev.step (fun k => by simp only [credenzaref14_Tokens.j2]; rw [wrap_sum (by omega), if_pos (by omega), if_pos (by omega), if_pos (by omega), Int.toNat_natCast, Int.toNat_natCast, extract_bs, show i + j - i = j by omega]) h
theorem rtokens_l0 (hs : s.size ≤ 1000000000000) (m : Nat) : ∀ (i : Nat) (acc : List S35), s.size - i = m → i ≤ s.size → acc.length + (s.size - i) < 5864062014805 →
    Ev (fun k => credenzaref14_Tokens.l0 k s acc (i : Int)) (acc ++ (toks ((bs s).drop i)).map mkS) := by
  have hlen := bs_len s
  induction m using Nat.strongRecOn with
  | _ m ih =>
    intro i acc hm hi hl
    by_cases he : i = s.size
    · subst he
      rw [List.drop_eq_nil_of_le (by omega), toks_nil, List.map_nil, List.append_nil]
      exact Ev.step (fun k => by simp only [credenzaref14_Tokens.l0]; rw [if_neg (by omega)]) (Ev.now _)
    · have hi' : i < (bs s).length := by omega
      refine Ev.step (fun k => by simp only [credenzaref14_Tokens.l0]; rw [if_pos (by omega), if_pos (by omega)]) ?_
      rw [bt_bs s i hi']
      refine Ev.bind (rclass_ev _) ?_
      rw [drop_at hi']
      generalize hc : (bs s)[i] = c
      have hd : (bs s).drop i = c :: (bs s).drop (i + 1) := by rw [drop_at hi', hc]
      have hT := take_tw (fun x => cls x == cls c) ((bs s).drop (i + 1))
      have hW := tw_le (fun x => cls x == cls c) ((bs s).drop (i + 1))
      rw [List.length_drop, hlen] at hW
      rcases cls_rng c with hk | hk | hk | hk
      · rw [toks_pos _ (by omega), List.map_cons]
        refine r1_run (cls c) (by omega) acc i _ (by omega) _ 1 rfl (by omega) ?_
        rw [hk] at hT hW ⊢
        refine r3 2 acc i _ _ (by omega) hs ?_
        refine r2_other 2 (by omega) acc i _ _ _ (by omega) (by omega) ?_
        rw [if_pos (by omega), hd, show (1 + (((bs s).drop (i + 1)).takeWhile (fun x => cls x == 2)).length) = (((bs s).drop (i + 1)).takeWhile (fun x => cls x == 2)).length + 1 by omega, List.take_succ_cons, hT.1]
        have hr := ih (s.size - (i + 1 + (((bs s).drop (i + 1)).takeWhile (fun x => cls x == 2)).length)) (by omega) (i + 1 + (((bs s).drop (i + 1)).takeWhile (fun x => cls x == 2)).length) (acc ++ [mkS (tok 2 (c :: ((bs s).drop (i + 1)).takeWhile (fun x => cls x == 2)))]) rfl (by omega) (by simp; omega)
        have hdd : (bs s).drop (i + 1 + (((bs s).drop (i + 1)).takeWhile (fun x => cls x == 2)).length) = ((bs s).drop (i + 1)).dropWhile (fun x => cls x == 2) := by rw [← List.drop_drop]; exact hT.2
        rw [hdd, List.append_assoc] at hr
        rw [show i + ((((bs s).drop (i + 1)).takeWhile (fun x => cls x == 2)).length + 1) = i + 1 + (((bs s).drop (i + 1)).takeWhile (fun x => cls x == 2)).length by omega]
        exact hr
      · rw [toks_pos _ (by omega), List.map_cons]
        refine r1_run (cls c) (by omega) acc i _ (by omega) _ 1 rfl (by omega) ?_
        rw [hk] at hT hW ⊢
        refine r3 3 acc i _ _ (by omega) hs ?_
        refine r2_num acc i _ _ (by omega) (by omega) _ ?_
        rw [hd, show (1 + (((bs s).drop (i + 1)).takeWhile (fun x => cls x == 3)).length) = (((bs s).drop (i + 1)).takeWhile (fun x => cls x == 3)).length + 1 by omega, List.take_succ_cons, hT.1]
        have hr := ih (s.size - (i + 1 + (((bs s).drop (i + 1)).takeWhile (fun x => cls x == 3)).length)) (by omega) (i + 1 + (((bs s).drop (i + 1)).takeWhile (fun x => cls x == 3)).length) (acc ++ [mkS (tok 3 (c :: ((bs s).drop (i + 1)).takeWhile (fun x => cls x == 3)))]) rfl (by omega) (by simp; omega)
        have hdd : (bs s).drop (i + 1 + (((bs s).drop (i + 1)).takeWhile (fun x => cls x == 3)).length) = ((bs s).drop (i + 1)).dropWhile (fun x => cls x == 3) := by rw [← List.drop_drop]; exact hT.2
        rw [hdd, List.append_assoc] at hr
        rw [show i + ((((bs s).drop (i + 1)).takeWhile (fun x => cls x == 3)).length + 1) = i + 1 + (((bs s).drop (i + 1)).takeWhile (fun x => cls x == 3)).length by omega]
        exact hr
      · rw [toks_zero _ hk, List.map_cons, hk]
        refine r1_zero acc i 1 _ ?_
        refine r3 0 acc i 1 _ (by omega) hs ?_
        refine r2_other 0 (by omega) acc i _ _ _ (by omega) (by omega) ?_
        rw [if_pos (by omega), hd, List.take_succ_cons, List.take_zero]
        have hr := ih (s.size - (i + 1)) (by omega) (i + 1) (acc ++ [mkS (tok 0 [c])]) rfl (by omega) (by simp; omega)
        rw [List.append_assoc] at hr
        exact hr
      · rw [toks_neg _ hk, hk]
        refine r1_neg acc i 1 _ ?_
        refine r3 (-1) acc i 1 _ (by omega) hs ?_
        refine r2_other (-1) (by omega) acc i _ _ _ (by omega) (by omega) ?_
        rw [if_neg (by omega)]
        exact ih (s.size - (i + 1)) (by omega) (i + 1) acc rfl (by omega) (by omega)
theorem rtokens_ev (s : ByteArray) (hs : s.size ≤ 1000000000000) : Ev (fun k => credenzaref14_Tokens.f k s) ((toks (bs s)).map mkS) := by
  have h := rtokens_l0 hs _ 0 [] rfl (by omega) (by simp; omega)
  exact h

/-! ### The document's order -/
theorem order_eq (a b : Int) : credenzaref14_order.f a b = some (cmpI a b) := by
  unfold credenzaref14_order.f cmpI
  by_cases h : a < b
  · rw [if_pos h, if_pos h]
  · rw [if_neg h, if_neg h]
    by_cases h2 : b < a
    · rw [if_pos h2, if_pos h2]
    · rw [if_neg h2, if_neg h2]
theorem less_cmp (a b : List UInt8) : (Op.bytesLess a b = true ↔ cmpB a b = -1) := by
  induction a generalizing b with
  | nil => cases b <;> simp [Op.bytesLess, Lib.compareBytes]
  | cons x a ih =>
    cases b with
    | nil => simp [Op.bytesLess, Lib.compareBytes]
    | cons y b =>
      simp only [Op.bytesLess, Lib.compareBytes, Bool.or_eq_true, Bool.and_eq_true, decide_eq_true_eq, beq_iff_eq]
      rw [ih b]
      by_cases h : x < y
      · simp [h]
      · by_cases h2 : y < x
        · have hne : ¬ x = y := fun e => by subst e; exact h h2
          simp [h, h2, hne]
        · have he : x = y := by
            have := UInt8.le_antisymm (UInt8.not_lt.1 h2) (UInt8.not_lt.1 h)
            exact this
          simp [h, h2, he]
theorem texts_eq (a b : List UInt8) : credenzaref14_texts.f ⟨a.toArray⟩ ⟨b.toArray⟩ = some (cmpB a b) := by
  unfold credenzaref14_texts.f
  have e : ∀ l : List UInt8, (⟨l.toArray⟩ : ByteArray).toList = l := fun l => by
    have h := Lib.toList_data (⟨l.toArray⟩ : ByteArray)
    exact h
  rw [e, e]
  by_cases h : Op.bytesLess a b = true
  · rw [if_pos h, (less_cmp a b).1 h]
  · rw [if_neg h]
    by_cases h2 : Op.bytesLess b a = true
    · rw [if_pos h2]
      have := (less_cmp b a).1 h2
      rw [cmpB_ord.anti a b] at this
      congr 1
      omega
    · rw [if_neg h2]
      have h3 : ¬ cmpB a b = -1 := fun e => h ((less_cmp a b).2 e)
      have h4 : ¬ cmpB b a = -1 := fun e => h2 ((less_cmp b a).2 e)
      rw [cmpB_ord.anti a b] at h4
      have := cmpB_ord.rng a b
      congr 1
      omega
theorem rat_ev (p : List T) (i : Nat) : credenzaref14_at.f (p.map mkS) (i : Int) = some ((mkS ((p.drop i).headD E)).f0, (mkS ((p.drop i).headD E)).f1) := at_ev p i
theorem rcompare_l0 (p q : List T) (hn : max p.length q.length ≤ 1000000000000) (m : Nat) : ∀ i : Nat, i + m = max p.length q.length → Ev (fun k => credenzaref14_Compare.l0 k (p.map mkS) (q.map mkS) (i : Int)) (cmpN m (p.drop i) (q.drop i)) := by
  induction m with
  | zero =>
    intro i hi
    refine Ev.step (fun k => by simp only [credenzaref14_Compare.l0]; rw [List.length_map, List.length_map, if_neg (by omega), decide_eq_false (by omega)]) ?_
    exact Ev.step (fun k => by simp only [credenzaref14_Compare.j1]; rw [if_neg (by simp)]; rfl) (Ev.now _)
  | succ m ih =>
    intro i hi
    have hj : Ev (fun k => credenzaref14_Compare.j1 k (p.map mkS) (q.map mkS) (i : Int) true) (cmpN (m + 1) (p.drop i) (q.drop i)) := by
      refine Ev.step (fun k => by simp only [credenzaref14_Compare.j1]; rw [if_pos trivial, rat_ev, Option.bind_some, rat_ev, Option.bind_some, order_eq, Option.bind_some]) ?_
      simp only [cmpN]
      have hnext := ih (i + 1) (by omega)
      rw [← List.tail_drop, ← List.tail_drop] at hnext
      generalize (p.drop i).headD E = a at *
      generalize (q.drop i).headD E = b at *
      generalize (p.drop i).tail = p' at *
      generalize (q.drop i).tail = q' at *
      have e : ∀ l : List UInt8, ((⟨l.toArray⟩ : ByteArray).size : Int) = (l.length : Int) := fun l => by simp [ByteArray.size]
      -- the end: what the third test says of a number
      have h3 : ∀ (x : Int), (x = 0 → Ev (fun k => credenzaref14_Compare.j3 k (p.map mkS) (q.map mkS) (i : Int) x (mkS a).f0 (mkS a).f1 (mkS b).f0 (mkS b).f1) (if cmpB a.2 b.2 = 0 then cmpN m p' q' else cmpB a.2 b.2)) ∧
          (¬ x = 0 → Ev (fun k => credenzaref14_Compare.j3 k (p.map mkS) (q.map mkS) (i : Int) x (mkS a).f0 (mkS a).f1 (mkS b).f0 (mkS b).f1) x) := by
        intro x
        refine ⟨fun hx => ?_, fun hx => Ev.step (fun k => by simp only [credenzaref14_Compare.j3]; rw [if_neg hx]) (Ev.now _)⟩
        subst hx
        refine Ev.step (fun k => by simp only [credenzaref14_Compare.j3, mkS]; rw [if_pos trivial, texts_eq, Option.bind_some]) ?_
        by_cases hc : cmpB a.2 b.2 = 0
        · rw [if_pos hc]
          exact Ev.congr (fun k => by rw [if_pos hc, wrap_nat (by omega)]) hnext
        · rw [if_neg hc]
          exact Ev.congr (fun k => by rw [if_neg hc]) (Ev.now _)
      by_cases hk : a.1 = b.1
      · have h0 : cmpI (mkS a).f0 (mkS b).f0 = 0 := cmpI_zero.2 hk
        refine Ev.congr (fun k => by rw [if_pos h0]) ?_
        by_cases h3k : a.1 = 3
        · have hb3 : ((mkS a).f0 == 3) = true := by simpa [mkS] using h3k
          rw [hb3]
          refine Ev.step (fun k => by simp only [credenzaref14_Compare.j2]; rw [if_pos trivial, order_eq, Option.bind_some]) ?_
          have hlen : cmpI ((mkS a).f1.size : Int) ((mkS b).f1.size : Int) = cmpI a.2.length b.2.length := by simp only [mkS, e]
          rw [hlen]
          have hp : piece a b = if (a.2.length : Int) ≠ b.2.length then cmpI a.2.length b.2.length else cmpB a.2 b.2 := by rw [piece_eq, if_pos hk, if_pos h3k]
          by_cases hl : (a.2.length : Int) = b.2.length
          · have hp2 : piece a b = cmpB a.2 b.2 := by rw [hp, if_neg (by simpa using hl)]
            rw [hp2]
            exact (h3 _).1 (cmpI_zero.2 hl)
          · have hp2 : piece a b = cmpI a.2.length b.2.length := by rw [hp, if_pos hl]
            rw [hp2, if_neg (by rw [cmpI_zero]; exact hl)]
            exact (h3 _).2 (by rw [cmpI_zero]; exact hl)
        · have hb3 : ((mkS a).f0 == 3) = false := by simpa [mkS] using h3k
          rw [hb3]
          refine Ev.step (fun k => by simp only [credenzaref14_Compare.j2]; rw [if_neg (by simp)]) ?_
          have hp : piece a b = cmpB a.2 b.2 := by rw [piece_eq, if_pos hk, if_neg h3k]
          rw [hp]
          exact (h3 _).1 h0
      · have h0 : ¬ cmpI (mkS a).f0 (mkS b).f0 = 0 := by rw [cmpI_zero]; exact hk
        refine Ev.congr (fun k => by rw [if_neg h0]) ?_
        refine Ev.step (fun k => by simp only [credenzaref14_Compare.j2]; rw [if_neg (by simp)]) ?_
        have hp : piece a b = cmpI a.1 b.1 := by rw [piece_eq, if_neg hk]
        rw [hp, if_neg (by rw [cmpI_zero]; exact hk)]
        exact (h3 _).2 h0
    by_cases h1 : i < p.length
    · exact Ev.step (fun k => by simp only [credenzaref14_Compare.l0]; rw [List.length_map, if_pos (by omega)]) hj
    · exact Ev.step (fun k => by simp only [credenzaref14_Compare.l0]; rw [List.length_map, List.length_map, if_neg (by omega), decide_eq_true (by omega)]) hj
theorem rcompare_ev (a b : ByteArray) (ha : a.size ≤ 1000000000000) (hb : b.size ≤ 1000000000000) : Ev (fun k => credenzaref14_Compare.f k a b) (cmpV a b) := by
  refine Ev.bind (rtokens_ev a ha) (Ev.bind (rtokens_ev b hb) ?_)
  have la := toks_len (bs a)
  have lb := toks_len (bs b)
  rw [bs_len] at la lb
  have h := rcompare_l0 (toks (bs a)) (toks (bs b)) (by omega) (max (toks (bs a)).length (toks (bs b)).length) 0 (by omega)
  rw [List.drop_zero, List.drop_zero] at h
  exact h

theorem tells_l0 (a b : ByteArray) (ha : a.size ≤ 1000000000000) (hb : b.size ≤ 1000000000000) (l : List S35) (hl : l.length ≤ 1000000000000) (m : Nat) : ∀ i : Nat, i + m = l.length → Ev (fun k => credenzalaw15_VersionTells.l0 k a b l l (i : Int)) true := by
  induction m with
  | zero =>
    intro i hi
    refine Ev.step (fun k => by simp only [credenzalaw15_VersionTells.l0]; rw [if_neg (by omega)]) ?_
    refine Ev.bind (compare_ev a b ha hb) (Ev.bind (rcompare_ev a b ha hb) ?_)
    exact Ev.congr (fun k => by rw [if_pos rfl]) (Ev.bind awake_ev (Ev.now _))
  | succ m ih =>
    intro i hi
    refine Ev.step (fun k => by simp only [credenzalaw15_VersionTells.l0]; rw [if_pos (by omega), if_pos (by omega), if_pos (by omega), if_neg (by simp), wrap_nat (by omega)]) (ih (i + 1) (by omega))
theorem VersionTells : credenzalaw15_VersionTells.Pure := by
  intro a b ha hb
  apply Ev.rounds
  have hno : Ev (fun k => credenzalaw15_VersionTells.j0 k a b true) true :=
    Ev.step (fun k => by simp only [credenzalaw15_VersionTells.j0]; rw [if_pos trivial]) (Ev.bind awake_ev (Ev.now _))
  unfold credenzalaw15_VersionTells.f
  by_cases h1 : (a.size : Int) > 300
  · exact Ev.congr (fun k => by rw [if_pos h1]) hno
  · by_cases h2 : (b.size : Int) > 300
    · exact Ev.congr (fun k => by rw [if_neg h1, decide_eq_true h2]) hno
    · refine Ev.congr (fun k => by rw [if_neg h1, decide_eq_false h2]) ?_
      refine Ev.step (fun k => by simp only [credenzalaw15_VersionTells.j0]; rw [if_neg (by simp)]) ?_
      refine Ev.bind (tokens_ev a (by omega)) (Ev.bind (rtokens_ev a (by omega)) ?_)
      refine Ev.congr (fun k => by rw [if_pos rfl]) ?_
      have la := toks_len (bs a)
      rw [bs_len] at la
      exact tells_l0 a b (by omega) (by omega) _ (by rw [List.length_map]; omega) ((toks (bs a)).map mkS).length 0 (by omega)
end Go.Proofs.YtndpokjakogpnaaDoor.Pure

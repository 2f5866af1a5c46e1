/- What the printed functions of package count answer. -/
import Derived.Test.YtdjlpifikeopdaaDoorCMath
import Derived.Test.YtdjlpifikeopdaaDoorVx4
import Derived.Test.YtdjlpifikeopdaaDoorVx3
set_option linter.unusedVariables false
set_option linter.unusedSimpArgs false
namespace Go.Proofs.YtdjlpifikeopdaaDoor.Cev
open Go.RowKit (wrap64)
open Go Go.Proofs.YtdjlpifikeopdaaDoorW.PrintWords Go.Proofs.YtdjlpifikeopdaaDoorW.PrintLast Go.Proofs.YtdjlpifikeopdaaDoorW.PrintMore Go.Proofs.YtdjlpifikeopdaaDoor.V Go.Proofs.YtdjlpifikeopdaaDoor.St Go.Proofs.YtdjlpifikeopdaaDoor.Cm

theorem atoi_d2 : ∀ n < 100, strconv_Atoi_39.f (st (d2 n)) = some ((n : Int), none) := by decide +kernel
def nv (l : List UInt8) : Int × Bool := match numS l with | some n => ((n : Int), true) | none => (0, false)
theorem nv_some {l : List UInt8} {n : Nat} (h : numS l = some n) : nv l = ((n : Int), true) := by unfold nv; rw [h]
theorem nv_none {l : List UInt8} (h : numS l = none) : nv l = (0, false) := by unfold nv; rw [h]
theorem bt0 (x : UInt8) (t : List UInt8) : bt (st (x :: t)) 0 = (x.toNat : Int) := bt_st (x :: t) 0 (by simp)
theorem bt1 (x y : UInt8) (t : List UInt8) : bt (st (x :: y :: t)) 1 = (y.toNat : Int) := bt_st (x :: y :: t) 1 (by simp)
theorem w0 : wrap64 ((1 : Int) - 1) = 0 := by unfold wrap64; omega
theorem w1 : wrap64 ((2 : Int) - 1) = 1 := by unfold wrap64; omega
theorem atoi_of {l : List UInt8} {n : Nat} (h : numS l = some n) : strconv_Atoi_39.f (st l) = some ((n : Int), none) := by
  obtain ⟨e, hlt⟩ := numS_some h
  rw [e]
  exact atoi_d2 n hlt
theorem number_ev (l : List UInt8) : Ev (fun k => count_number.f k (st l)) (nv l) := by
  match l with
  | [] =>
    refine Ev.congr (fun k => ?_) (Ev.now _)
    unfold count_number.f
    rw [st_size, if_neg (by simp), if_neg (by simp)]
    rfl
  | [x] =>
    refine Ev.congr (fun k => ?_) (Ev.now _)
    unfold count_number.f
    have hs : (((st [x]).size : Nat) : Int) = 1 := by rw [st_size]; rfl
    rw [hs, if_neg (by omega), if_pos rfl, w0, if_pos (by omega), if_pos (by omega), bt0]
    by_cases h1 : 48 ≤ x.toNat ∧ x.toNat ≤ 57
    · have hn : numS [x] = some (x.toNat - 48) := if_pos h1
      rw [if_neg (by omega), if_neg (by omega), atoi_of hn, nv_some hn]
      rfl
    · have hn : numS [x] = none := if_neg h1
      rw [nv_none hn]
      by_cases h2 : (x.toNat : Int) < 48
      · rw [if_pos h2]
      · rw [if_neg h2, if_pos (by omega)]
  | [x, y] =>
    have hs : (((st [x, y]).size : Nat) : Int) = 2 := by rw [st_size]; rfl
    have hj : ∀ b : Bool, b = decide (x.toNat < 49 ∨ 57 < x.toNat) → Ev (fun k => count_number.j0 k (st [x, y]) b) (nv [x, y]) := by
      intro b hb
      by_cases h0 : x.toNat < 49 ∨ 57 < x.toNat
      · rw [decide_eq_true h0] at hb
        subst hb
        have hn : numS [x, y] = none := if_neg (by omega)
        rw [nv_none hn]
        exact Ev.step (fun k => by simp only [count_number.j0]; rw [if_pos trivial]) (Ev.now _)
      · rw [decide_eq_false h0] at hb
        subst hb
        refine Ev.step (fun k => by simp only [count_number.j0]; rw [if_neg (by simp), hs, w1, if_pos (by omega), if_pos (by omega), bt1]) ?_
        by_cases h1 : 48 ≤ y.toNat ∧ y.toNat ≤ 57
        · have hn : numS [x, y] = some ((x.toNat - 48) * 10 + (y.toNat - 48)) := if_pos (by omega)
          rw [nv_some hn]
          exact Ev.congr (fun k => by rw [if_neg (by omega), if_neg (by omega), atoi_of hn] <;> rfl) (Ev.now _)
        · have hn : numS [x, y] = none := if_neg (by omega)
          rw [nv_none hn]
          by_cases h2 : (y.toNat : Int) < 48
          · exact Ev.congr (fun k => by rw [if_pos h2]) (Ev.now _)
          · exact Ev.congr (fun k => by rw [if_neg h2, if_pos (by omega)]) (Ev.now _)
    unfold count_number.f
    by_cases h49 : x.toNat < 49
    · exact Ev.congr (fun k => by rw [hs, if_pos rfl, if_pos (by omega), bt0, if_pos (by omega)]) (hj true (by rw [decide_eq_true (Or.inl h49)]))
    · exact Ev.congr (fun k => by rw [hs, if_pos rfl, if_pos (by omega), bt0, if_neg (by omega)]) (hj _ (by
        rw [decide_eq_decide]
        omega))
  | x :: y :: z :: t =>
    refine Ev.congr (fun k => ?_) (Ev.now _)
    unfold count_number.f
    rw [st_size, if_neg (by simp; omega), if_neg (by simp; omega)]
    rfl
def cv (l : List UInt8) : Bool × Int × Int × Bool := match cntr l with | some (L, D) => (true, (L : Int), (D : Int), true) | none => (false, 0, 0, false)
theorem counter_ev (l : List UInt8) (hl : l.length ≤ 1000000) : Ev (fun k => count_counter.f k (st l)) (cv l) := by
  have hc : ∀ a b h, Lib.cut l [45] = (a, b, h) → strings_Cut.f (st l) (⟨#[45]⟩ : ByteArray) = some (st a, st b, h) := fun a b h e => by
    unfold strings_Cut.f
    rw [if_pos rfl, if_pos (by rw [st_size]; omega), show (st l).data.toList = l from rfl, e]
  unfold count_counter.f
  cases hd : dash l with
  | none =>
    have e := cut_dash l
    rw [hd] at e
    refine Ev.congr (fun k => by rw [hc _ _ _ e, Option.bind_some]) ?_
    refine Ev.bind (number_ev l) ?_
    cases hn : numS l with
    | none =>
      have hcv : cv l = (false, 0, 0, false) := by unfold cv cntr; simp only [hd, hn, Option.map_none]
      rw [nv_none hn, hcv]
      exact Ev.congr (fun k => by rw [if_neg (by simp)]) (Ev.now _)
    | some n =>
      have hcv : cv l = (true, (n : Int), 0, true) := by unfold cv cntr; simp only [hd, hn, Option.map_some]; rfl
      rw [nv_some hn, hcv]
      exact Ev.congr (fun k => by rw [if_pos rfl, if_neg (by simp)]) (Ev.now _)
  | some p =>
    obtain ⟨a, b⟩ := p
    have e := cut_dash l
    rw [hd] at e
    refine Ev.congr (fun k => by rw [hc _ _ _ e, Option.bind_some]) ?_
    refine Ev.bind (number_ev a) ?_
    cases ha : numS a with
    | none =>
      have hcv : cv l = (false, 0, 0, false) := by unfold cv cntr; simp only [hd, ha]
      rw [nv_none ha, hcv]
      exact Ev.congr (fun k => by rw [if_neg (by simp)]) (Ev.now _)
    | some n =>
      rw [nv_some ha]
      refine Ev.congr (fun k => by rw [if_pos rfl, if_pos rfl]) ?_
      refine Ev.bind (number_ev b) ?_
      cases hb : numS b with
      | none =>
        have hcv : cv l = (false, 0, 0, false) := by unfold cv cntr; simp only [hd, ha, hb]
        rw [nv_none hb, hcv]
        exact Ev.congr (fun k => by rw [if_neg (by simp)]) (Ev.now _)
      | some m =>
        rw [nv_some hb]
        by_cases h0 : m = 0
        · have hcv : cv l = (false, 0, 0, false) := by unfold cv cntr; simp only [hd, ha, hb, if_pos h0]
          rw [hcv]
          exact Ev.congr (fun k => by rw [if_pos rfl, if_pos (by show (m : Int) = 0; omega)]) (Ev.now _)
        · have hcv : cv l = (true, (n : Int), (m : Int), true) := by unfold cv cntr; simp only [hd, ha, hb, if_neg h0]
          rw [hcv]
          exact Ev.congr (fun k => by rw [if_pos rfl, if_neg (by show ¬ (m : Int) = 0; omega)]) (Ev.now _)
abbrev conf : List UInt8 := [46, 99, 111, 110, 102]
theorem conf_eq : (⟨#[46, 99, 111, 110, 102]⟩ : ByteArray) = st conf := rfl
def resV (s : List UInt8) : ByteArray × Bool × Int × Int × Bool := (st (res s).1, (res s).2.1, ((res s).2.2.1 : Int), ((res s).2.2.2 : Int), true)
theorem cutsuf (s : List UInt8) (h : s.length ≤ 1000000) : strings_CutSuffix.f (st (s ++ conf)) (st conf) = some (st s, true) := by
  unfold strings_CutSuffix.f
  have hsuf : Lib.hasSuffix (s ++ conf) conf = true := by unfold Lib.hasSuffix; rw [List.isSuffixOf_iff_suffix]; exact ⟨s, rfl⟩
  have e : (st (s ++ conf)).data.toList = s ++ conf := rfl
  have e2 : (st conf).data.toList = conf := rfl
  rw [if_pos (by rw [st_size]; simp; omega), e, e2, hsuf]
  unfold Lib.trimSuffix
  rw [if_pos hsuf, List.length_append, Nat.add_sub_cancel, List.take_left]
theorem cutsuf_no (l : List UInt8) (hl : l.length ≤ 1000000) (h : ¬ conf <:+ l) : strings_CutSuffix.f (st l) (st conf) = some (st l, false) := by
  unfold strings_CutSuffix.f
  have hsuf : Lib.hasSuffix l conf = false := by
    unfold Lib.hasSuffix
    rw [← Bool.not_eq_true, List.isSuffixOf_iff_suffix]
    exact h
  have e : (st l).data.toList = l := rfl
  have e2 : (st conf).data.toList = conf := rfl
  rw [if_pos (by rw [st_size]; omega), e, e2, hsuf]
  unfold Lib.trimSuffix
  rw [if_neg (by rw [hsuf]; simp)]
theorem split_ev (s : List UInt8) (hs : s ≠ []) (hl : s.length ≤ 100000) : Ev (fun k => count_Split.f k (st (s ++ conf))) (resV s) := by
  unfold count_Split.f
  have he : ((st s).toList == ([] : List UInt8)) = false := by rw [st_list, beq_eq_false_iff_ne]; exact hs
  refine Ev.congr (fun k => by rw [conf_eq, cutsuf s (by omega), Option.bind_some, if_pos rfl, he]) ?_
  have hli : strings_LastIndexByte.f (st s) 43 = some (Lib.lastIndexByte (st s) 43) := if_pos (by rw [st_size]; omega)
  refine Ev.step (fun k => by simp only [count_Split.j0]; rw [if_neg (by simp), hli, Option.bind_some]) ?_
  rcases plus_cases s with ⟨_, e⟩ | ⟨a, b, rfl, hb, e⟩
  · have hr : resV s = (st s, false, 0, 0, true) := by unfold resV res; simp only [e]; rfl
    have hla : Lib.lastIndexByte (st s) 43 = -1 := by rw [lib_last, e]
    rw [hr]
    exact Ev.congr (fun k => by rw [hla, if_neg (by omega)]) (Ev.now _)
  · have hla : Lib.lastIndexByte (st (a ++ 43 :: b)) 43 = (a.length : Int) := by rw [lib_last, e]
    by_cases ha : a = []
    · subst ha
      have hr : resV ([] ++ 43 :: b) = (st ([] ++ 43 :: b), false, 0, 0, true) := by unfold resV res; simp only [e]; rfl
      rw [hr]
      exact Ev.congr (fun k => by rw [hla, if_neg (by simp)]) (Ev.now _)
    · have hpos : 0 < a.length := List.length_pos_iff.2 ha
      have hal : (a ++ 43 :: b).length = a.length + (b.length + 1) := by simp
      have hx : (st (a ++ 43 :: b)).extract (a.length + 1) (st (a ++ 43 :: b)).size = st b := by
        apply of_data
        rw [Lib.extract_data, st_size, hal]
        show ((a ++ 43 :: b).drop (a.length + 1)).take _ = b
        have : (a ++ 43 :: b).drop (a.length + 1) = b := by
          rw [show a ++ 43 :: b = (a ++ [43]) ++ b by simp, show a.length + 1 = (a ++ [(43 : UInt8)]).length by simp, List.drop_left]
        rw [this, List.take_of_length_le (by omega)]
      have hy : (st (a ++ 43 :: b)).extract 0 a.length = st a := by
        apply of_data
        rw [Lib.extract_data]
        show ((a ++ 43 :: b).drop 0).take (a.length - 0) = a
        rw [List.drop_zero, Nat.sub_zero, List.take_left]
      have hbl : b.length ≤ 1000000 := by omega
      refine Ev.congr (fun k => by
        rw [hla, if_pos (by omega), wrap_nat (by omega), if_pos (by omega), if_pos (by rw [st_size]; omega), Int.toNat_natCast, hx]) ?_
      refine Ev.bind (counter_ev b hbl) ?_
      cases hc : cntr b with
      | none =>
        have hcv : cv b = (false, 0, 0, false) := by unfold cv; rw [hc]
        have hr : resV (a ++ 43 :: b) = (st (a ++ 43 :: b), false, 0, 0, true) := by unfold resV res; simp only [e, if_neg ha, hc]; rfl
        rw [hcv, hr]
        exact Ev.congr (fun k => by rw [if_neg (by simp)]) (Ev.now _)
      | some p =>
        obtain ⟨L, D⟩ := p
        have hcv : cv b = (true, (L : Int), (D : Int), true) := by unfold cv; rw [hc]
        have hr : resV (a ++ 43 :: b) = (st a, true, (L : Int), (D : Int), true) := by unfold resV res; simp only [e, if_neg ha, hc]
        rw [hcv, hr]
        exact Ev.congr (fun k => by rw [if_pos rfl, if_pos (by omega), if_pos (by rw [st_size]; omega), Int.toNat_natCast, hy]) (Ev.now _)
theorem plus_eq : (⟨#[43]⟩ : ByteArray) = st [43] := rfl
theorem dash_eq : (⟨#[45]⟩ : ByteArray) = st [45] := rfl
theorem itoa_f {n : Nat} (h : n < 100) : strconv_Itoa_29.f (n : Int) = some (st (d2 n)) := by
  unfold strconv_Itoa_29.f
  rw [if_pos (by omega), if_pos (by omega), itoa_d2 h]
theorem join_true (s : List UInt8) (hs : s.length ≤ 100000) {L D : Nat} (hL : L < 100) (hD : D < 100) : count_Join.f (st s) true (L : Int) (D : Int) = some (st ((s ++ 43 :: tl L D) ++ conf)) := by
  have l1 := d2_len L hL
  have l2 := d2_len D hD
  unfold count_Join.f
  rw [if_pos rfl, itoa_f hL, Option.bind_some, plus_eq, conf_eq, st_app, st_app, st_size, st_size, st_size, st_size, if_pos (by omega), if_pos (by simp; omega)]
  by_cases h0 : D = 0
  · subst h0
    rw [if_pos (show ((0 : Nat) : Int) = 0 from rfl), if_pos (by simp; omega), st_app]
    unfold tl
    rw [if_pos rfl, List.append_nil]
    rfl
  · rw [if_neg (by omega), itoa_f hD, Option.bind_some, dash_eq, st_app, st_size, st_size, st_app, st_size, if_pos (by omega), if_pos (by simp; omega), if_pos (by simp; omega), st_app]
    unfold tl
    rw [if_neg h0]
    simp
theorem join_false (s : List UInt8) (hs : s.length ≤ 100000) (a b : Int) : count_Join.f (st s) false a b = some (st (s ++ conf)) := by
  unfold count_Join.f
  rw [if_neg (by simp), if_pos (by rw [st_size]; omega), conf_eq, st_app]
theorem awake_ev : Ev (fun k => credenzalaw16_awake.f k) true := by
  unfold credenzalaw16_awake.f
  have e0 : (⟨#[97, 43, 51, 45, 49, 46, 99, 111, 110, 102]⟩ : ByteArray) = st (([97] ++ 43 :: tl 3 1) ++ conf) := rfl
  have er : resV ([97] ++ 43 :: tl 3 1) = (st [97], true, 3, 1, true) := by unfold resV; rw [res_tl (by simp) (by omega) (by omega)]; rfl
  have h := split_ev ([97] ++ 43 :: tl 3 1) (by simp) (by decide)
  rw [er] at h
  refine Ev.congr (fun k => by rw [e0]) ?_
  refine Ev.bind h ?_
  have ej : count_Join.f (⟨#[97]⟩ : ByteArray) true 3 1 = some (st (([97] ++ 43 :: tl 3 1) ++ conf)) := join_true (L := 3) (D := 1) [97] (by simp) (by decide) (by decide)
  have et : (st (([97] ++ 43 :: tl 3 1) ++ conf)).toList = [97, 43, 51, 45, 49, 46, 99, 111, 110, 102] := st_list _
  refine Ev.congr (fun k => ?_) (Ev.now true)
  rw [if_pos (st_list _), if_pos (by decide), if_pos rfl]
  show ((count_Join.f (⟨#[97]⟩ : ByteArray) true 3 1).bind fun t135 => _) = _
  rw [ej, Option.bind_some, if_pos et]
  rfl
end Go.Proofs.YtdjlpifikeopdaaDoor.Cev

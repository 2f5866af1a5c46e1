/- The document's number, counter and split of a file's name. -/
import Derived.Test.YtfimhkijacamoaaGreatDoorCBig
set_option linter.unusedVariables false
set_option linter.unusedSimpArgs false
set_option maxRecDepth 10000
namespace Go.Proofs.YtfimhkijacamoaaGreatDoor.CRefs
open Go Go.Proofs.YtfimhkijacamoaaGreatDoor Go.Proofs.YtfimhkijacamoaaGreatDoor.Abs Go.Proofs.YtfimhkijacamoaaGreatDoor.Ic Go.Proofs.YtfimhkijacamoaaGreatDoor.CFn Go.Proofs.YtfimhkijacamoaaGreatDoor.CBig Go.Proofs.YtfimhkijacamoaaGreatDoor.Cm
def dg (c : UInt8) : Prop := 48 ≤ c.toNat ∧ c.toNat ≤ 57
def dv (l : List UInt8) : Nat := l.foldl (fun n c => 10 * n + (c.toNat - 48)) 0
theorem dv_snoc (l : List UInt8) (c : UInt8) : dv (l ++ [c]) = 10 * dv l + (c.toNat - 48) := by unfold dv; simp
theorem dv_lt : ∀ (l : List UInt8), (∀ c ∈ l, dg c) → dv l < 10 ^ l.length := by
  intro l
  obtain ⟨r, rfl⟩ : ∃ r : List UInt8, l = r.reverse := ⟨l.reverse, by simp⟩
  induction r with
  | nil => intro _; decide
  | cons c r ih =>
    intro h
    rw [List.reverse_cons] at h ⊢
    have h1 := ih fun d hd => h d (List.mem_append_left _ hd)
    have h2 : dg c := h c (by simp)
    unfold dg at h2
    rw [dv_snoc, List.length_append, List.length_singleton, Nat.pow_succ]
    omega
def RI (l : List UInt8) (H : AH) (k : Nat) (tm : Tms) (H' : AH) : Prop := H' = H ∧ ∃ i : Nat, i + k = l.length ∧ tm 0 = .str l ∧ tm 5 = .int .i64 i ∧ tm 4 = .int .i64 (dv (l.take i)) ∧ ∀ c ∈ l.take i, dg c
theorem take_succ_get {l : List UInt8} {i : Nat} {c : UInt8} (h : l[i]? = some c) : l.take (i + 1) = l.take i ++ [c] := by
  rw [List.take_add_one, h]; rfl
theorem numS_dv {l : List UInt8} (h1 : 1 ≤ l.length) (h2 : l.length ≤ 2) (h3 : ∀ x y, l = [x, y] → x.toNat ≠ 48) (h : ∀ c ∈ l, dg c) : numS l = some (dv l) := by
  match l, h1, h2 with
  | [x], _, _ =>
    have hx : dg x := h x (by simp)
    unfold dg at hx
    have : dv [x] = x.toNat - 48 := by simp [dv]
    rw [this]
    exact if_pos hx
  | [x, y], _, _ =>
    have hx : dg x := h x (by simp)
    have hy : dg y := h y (by simp)
    have := h3 x y rfl
    unfold dg at hx hy
    have e : dv [x, y] = (x.toNat - 48) * 10 + (y.toNat - 48) := by simp [dv]; omega
    rw [e]
    exact if_pos (by omega)
theorem numS_no {l : List UInt8} (h1 : 1 ≤ l.length) (h2 : l.length ≤ 2) (c : UInt8) (hm : c ∈ l) (h : ¬ dg c) : numS l = none := by
  match l, h1, h2 with
  | [x], _, _ =>
    simp at hm
    subst hm
    exact if_neg h
  | [x, y], _, _ =>
    simp at hm
    unfold dg at h
    exact if_neg fun hc => by rcases hm with rfl | rfl <;> omega
theorem numS_zero {l : List UInt8} (h4 : l.length = 2) (h5 : l[0]? = some 48) : numS l = none := by
  match l, h4, h5 with
  | [x, y], _, h5 =>
    have e : x = 48 := by simpa using h5
    subst e
    have : (48 : UInt8).toNat = 48 := rfl
    unfold numS
    exact if_neg (by omega)
theorem dg_snoc {l : List UInt8} {i : Nat} {c : UInt8} (h : l[i]? = some c) (hd : ∀ d ∈ l.take i, dg d) (hc : dg c) : ∀ d ∈ l.take (i + 1), dg d := by
  rw [take_succ_get h]
  intro d hm
  rcases List.mem_append.1 hm with hm | hm
  · exact hd d hm
  · rw [List.mem_singleton.1 hm]; exact hc
theorem RNumber (l : List UInt8) (hl : l.length ≤ 9223372036854775807) (H : AH) : ACall Tryz.prog 27 [.str l] H (fun v H' => v = numV l ∧ H' = H) := by
  refine acall_enter fits27 (by simp) (numV_plain l) fun hok => ?_
  by_cases h1 : l.length < 1
  · have hv : numV l = .tuple [.int .i64 0, .bool false] := numV_none (by cases l; rfl; simp at h1)
    have f1 : (l.length : Int) < 1 := by omega
    simp (disch := first | omega | (simp; done) | assumption) [wr64, wrU8, wrU64, Nat.add_assoc, -getElem?_pos, List.getElem?_cons_zero, List.getElem?_cons_succ, ic27, rs27]
    repeat' (first | (refine Fork3.ndec (fun hh => ?_) (fun hh => ?_) <;> (first | (exfalso; omega) | simp (disch := first | omega | (simp; done) | assumption) [*, wr64, wrU8, wrU64, Nat.add_assoc, -getElem?_pos, List.getElem?_cons_zero, List.getElem?_cons_succ, hv])) | (refine Fork3.dec (fun hh => ?_) (fun hh => ?_) <;> (first | (exfalso; omega) | simp (disch := first | omega | (simp; done) | assumption) [*, wr64, wrU8, wrU64, Nat.add_assoc, -getElem?_pos, List.getElem?_cons_zero, List.getElem?_cons_succ, hv])) | (refine Fork3.intro (fun hh => ?_) (fun hh => ?_) <;> (try simp at hh) <;> (first | (exfalso; omega) | simp (disch := first | omega | (simp; done) | assumption) [*, wr64, wrU8, wrU64, Nat.add_assoc, -getElem?_pos, List.getElem?_cons_zero, List.getElem?_cons_succ, hv])) | (refine Fork3.ite (fun hh => ?_) (fun hh => ?_) <;> (first | (exfalso; omega) | simp (disch := first | omega | (simp; done) | assumption) [*, wr64, wrU8, wrU64, Nat.add_assoc, -getElem?_pos, List.getElem?_cons_zero, List.getElem?_cons_succ, hv])) | (refine Try.guard (by first | assumption | omega | (simp; omega) | (simp [*]; omega)) ?_; simp (disch := first | omega | (simp; done) | assumption) [*, wr64, wrU8, wrU64, Nat.add_assoc, -getElem?_pos, List.getElem?_cons_zero, List.getElem?_cons_succ, hv]) | (refine Try.guardn (by first | assumption | omega | (simp; omega) | (simp [*]; omega)) ?_; simp (disch := first | omega | (simp; done) | assumption) [*, wr64, wrU8, wrU64, Nat.add_assoc, -getElem?_pos, List.getElem?_cons_zero, List.getElem?_cons_succ, hv]))
    all_goals (first | (exfalso; omega) | ((repeat (first | exact AH.keepsAll_refl _ | refine keeps_set hok ?_ (by first | omega | (simp; done) | (simp; omega)) | refine keeps_new hok ?_ (by first | omega | (simp; done) | (simp; omega)))); done))
  by_cases h2 : 2 < l.length
  · have hv : numV l = .tuple [.int .i64 0, .bool false] := numV_none (by match l, h2 with | _ :: _ :: _ :: _, _ => rfl)
    have f1 : ¬ (l.length : Int) < 1 := by omega
    have f2 : 2 < (l.length : Int) := by omega
    simp (disch := first | omega | (simp; done) | assumption) [wr64, wrU8, wrU64, Nat.add_assoc, -getElem?_pos, List.getElem?_cons_zero, List.getElem?_cons_succ, ic27, rs27]
    repeat' (first | (refine Fork3.ndec (fun hh => ?_) (fun hh => ?_) <;> (first | (exfalso; omega) | simp (disch := first | omega | (simp; done) | assumption) [*, wr64, wrU8, wrU64, Nat.add_assoc, -getElem?_pos, List.getElem?_cons_zero, List.getElem?_cons_succ, hv])) | (refine Fork3.dec (fun hh => ?_) (fun hh => ?_) <;> (first | (exfalso; omega) | simp (disch := first | omega | (simp; done) | assumption) [*, wr64, wrU8, wrU64, Nat.add_assoc, -getElem?_pos, List.getElem?_cons_zero, List.getElem?_cons_succ, hv])) | (refine Fork3.intro (fun hh => ?_) (fun hh => ?_) <;> (try simp at hh) <;> (first | (exfalso; omega) | simp (disch := first | omega | (simp; done) | assumption) [*, wr64, wrU8, wrU64, Nat.add_assoc, -getElem?_pos, List.getElem?_cons_zero, List.getElem?_cons_succ, hv])) | (refine Fork3.ite (fun hh => ?_) (fun hh => ?_) <;> (first | (exfalso; omega) | simp (disch := first | omega | (simp; done) | assumption) [*, wr64, wrU8, wrU64, Nat.add_assoc, -getElem?_pos, List.getElem?_cons_zero, List.getElem?_cons_succ, hv])) | (refine Try.guard (by first | assumption | omega | (simp; omega) | (simp [*]; omega)) ?_; simp (disch := first | omega | (simp; done) | assumption) [*, wr64, wrU8, wrU64, Nat.add_assoc, -getElem?_pos, List.getElem?_cons_zero, List.getElem?_cons_succ, hv]) | (refine Try.guardn (by first | assumption | omega | (simp; omega) | (simp [*]; omega)) ?_; simp (disch := first | omega | (simp; done) | assumption) [*, wr64, wrU8, wrU64, Nat.add_assoc, -getElem?_pos, List.getElem?_cons_zero, List.getElem?_cons_succ, hv]))
    all_goals (first | (exfalso; omega) | ((repeat (first | exact AH.keepsAll_refl _ | refine keeps_set hok ?_ (by first | omega | (simp; done) | (simp; omega)) | refine keeps_new hok ?_ (by first | omega | (simp; done) | (simp; omega)))); done))
  have f1 : ¬ (l.length : Int) < 1 := by omega
  have f2 : ¬ 2 < (l.length : Int) := by omega
  by_cases h3 : l.length = 2 ∧ l[0]? = some 48
  · obtain ⟨h4, h5⟩ := h3
    have f3 : (l.length : Int) = 2 := by omega
    have hv : numV l = .tuple [.int .i64 0, .bool false] := numV_none (numS_zero h4 h5)
    simp (disch := first | omega | (simp; done) | assumption) [wr64, wrU8, wrU64, Nat.add_assoc, -getElem?_pos, List.getElem?_cons_zero, List.getElem?_cons_succ, ic27, rs27]
    repeat' (first | (refine Fork3.ndec (fun hh => ?_) (fun hh => ?_) <;> (first | (exfalso; omega) | simp (disch := first | omega | (simp; done) | assumption) [*, wr64, wrU8, wrU64, Nat.add_assoc, -getElem?_pos, List.getElem?_cons_zero, List.getElem?_cons_succ, hv])) | (refine Fork3.dec (fun hh => ?_) (fun hh => ?_) <;> (first | (exfalso; omega) | simp (disch := first | omega | (simp; done) | assumption) [*, wr64, wrU8, wrU64, Nat.add_assoc, -getElem?_pos, List.getElem?_cons_zero, List.getElem?_cons_succ, hv])) | (refine Fork3.intro (fun hh => ?_) (fun hh => ?_) <;> (try simp at hh) <;> (first | (exfalso; omega) | simp (disch := first | omega | (simp; done) | assumption) [*, wr64, wrU8, wrU64, Nat.add_assoc, -getElem?_pos, List.getElem?_cons_zero, List.getElem?_cons_succ, hv])) | (refine Fork3.ite (fun hh => ?_) (fun hh => ?_) <;> (first | (exfalso; omega) | simp (disch := first | omega | (simp; done) | assumption) [*, wr64, wrU8, wrU64, Nat.add_assoc, -getElem?_pos, List.getElem?_cons_zero, List.getElem?_cons_succ, hv])) | (refine Try.guard (by first | assumption | omega | (simp; omega) | (simp [*]; omega)) ?_; simp (disch := first | omega | (simp; done) | assumption) [*, wr64, wrU8, wrU64, Nat.add_assoc, -getElem?_pos, List.getElem?_cons_zero, List.getElem?_cons_succ, hv]) | (refine Try.guardn (by first | assumption | omega | (simp; omega) | (simp [*]; omega)) ?_; simp (disch := first | omega | (simp; done) | assumption) [*, wr64, wrU8, wrU64, Nat.add_assoc, -getElem?_pos, List.getElem?_cons_zero, List.getElem?_cons_succ, hv]))
    all_goals (first | (exfalso; omega) | ((repeat (first | exact AH.keepsAll_refl _ | refine keeps_set hok ?_ (by first | omega | (simp; done) | (simp; omega)) | refine keeps_new hok ?_ (by first | omega | (simp; done) | (simp; omega)))); done))
  · have hx : ∀ x y, l = [x, y] → x.toNat ≠ 48 := fun x y e hn => h3 ⟨by rw [e]; rfl, by rw [e]; simp; exact UInt8.toNat_inj.1 hn⟩
    by_cases h6 : l.length = 2
    · have f3 : (l.length : Int) = 2 := by omega
      obtain ⟨x, hg⟩ : ∃ x, l[0]? = some x := ⟨l[0], List.getElem?_eq_getElem (by omega)⟩
      have hx0 : ¬ (x.toNat : Int) = 48 := fun hn => h3 ⟨h6, by rw [hg, show x = 48 from UInt8.toNat_inj.1 (by have : (48 : UInt8).toNat = 48 := rfl; omega)]⟩
      simp (disch := first | omega | (simp; done) | assumption) [wr64, wrU8, wrU64, Nat.add_assoc, -getElem?_pos, List.getElem?_cons_zero, List.getElem?_cons_succ, ic27, rs27]
      repeat' (first | (refine Fork3.ndec (fun hh => ?_) (fun hh => ?_) <;> (first | (exfalso; omega) | simp (disch := first | omega | (simp; done) | assumption) [*, wr64, wrU8, wrU64, Nat.add_assoc, -getElem?_pos, List.getElem?_cons_zero, List.getElem?_cons_succ])) | (refine Fork3.dec (fun hh => ?_) (fun hh => ?_) <;> (first | (exfalso; omega) | simp (disch := first | omega | (simp; done) | assumption) [*, wr64, wrU8, wrU64, Nat.add_assoc, -getElem?_pos, List.getElem?_cons_zero, List.getElem?_cons_succ])) | (refine Fork3.intro (fun hh => ?_) (fun hh => ?_) <;> (try simp at hh) <;> (first | (exfalso; omega) | simp (disch := first | omega | (simp; done) | assumption) [*, wr64, wrU8, wrU64, Nat.add_assoc, -getElem?_pos, List.getElem?_cons_zero, List.getElem?_cons_succ])) | (refine Fork3.ite (fun hh => ?_) (fun hh => ?_) <;> (first | (exfalso; omega) | simp (disch := first | omega | (simp; done) | assumption) [*, wr64, wrU8, wrU64, Nat.add_assoc, -getElem?_pos, List.getElem?_cons_zero, List.getElem?_cons_succ])) | (refine Try.guard (by first | assumption | omega | (simp; omega) | (simp [*]; omega)) ?_; simp (disch := first | omega | (simp; done) | assumption) [*, wr64, wrU8, wrU64, Nat.add_assoc, -getElem?_pos, List.getElem?_cons_zero, List.getElem?_cons_succ]) | (refine Try.guardn (by first | assumption | omega | (simp; omega) | (simp [*]; omega)) ?_; simp (disch := first | omega | (simp; done) | assumption) [*, wr64, wrU8, wrU64, Nat.add_assoc, -getElem?_pos, List.getElem?_cons_zero, List.getElem?_cons_succ]))
      refine iwp_loop (RI l H) l.length ⟨rfl, 0, by simp, by simp, by simp, by simp [dv], by simp⟩ ?_
      rintro k tm _ ⟨rfl, i, hik, t0, t5, t4, hd⟩
      have hdl := dv_lt _ hd
      have hpow : 10 ^ (l.take i).length ≤ 10 ^ 2 := Nat.pow_le_pow_right (by omega) (by rw [List.length_take]; omega)
      by_cases hk : k = 0
      · have hi : i = l.length := by omega
        subst hi
        rw [List.take_length] at hd t4
        have hv : numV l = .tuple [.int .i64 (dv l), .bool true] := numV_some (numS_dv (by omega) (by omega) hx hd)
        simp (disch := first | omega | (simp; done) | assumption) [wr64, wrU8, wrU64, Nat.add_assoc, -getElem?_pos, List.getElem?_cons_zero, List.getElem?_cons_succ, *]
        repeat' (first | (refine Fork3.ndec (fun hh => ?_) (fun hh => ?_) <;> (first | (exfalso; omega) | simp (disch := first | omega | (simp; done) | assumption) [*, wr64, wrU8, wrU64, Nat.add_assoc, -getElem?_pos, List.getElem?_cons_zero, List.getElem?_cons_succ])) | (refine Fork3.dec (fun hh => ?_) (fun hh => ?_) <;> (first | (exfalso; omega) | simp (disch := first | omega | (simp; done) | assumption) [*, wr64, wrU8, wrU64, Nat.add_assoc, -getElem?_pos, List.getElem?_cons_zero, List.getElem?_cons_succ])) | (refine Fork3.intro (fun hh => ?_) (fun hh => ?_) <;> (try simp at hh) <;> (first | (exfalso; omega) | simp (disch := first | omega | (simp; done) | assumption) [*, wr64, wrU8, wrU64, Nat.add_assoc, -getElem?_pos, List.getElem?_cons_zero, List.getElem?_cons_succ])) | (refine Fork3.ite (fun hh => ?_) (fun hh => ?_) <;> (first | (exfalso; omega) | simp (disch := first | omega | (simp; done) | assumption) [*, wr64, wrU8, wrU64, Nat.add_assoc, -getElem?_pos, List.getElem?_cons_zero, List.getElem?_cons_succ])) | (refine Try.guard (by first | assumption | omega | (simp; omega) | (simp [*]; omega)) ?_; simp (disch := first | omega | (simp; done) | assumption) [*, wr64, wrU8, wrU64, Nat.add_assoc, -getElem?_pos, List.getElem?_cons_zero, List.getElem?_cons_succ]) | (refine Try.guardn (by first | assumption | omega | (simp; omega) | (simp [*]; omega)) ?_; simp (disch := first | omega | (simp; done) | assumption) [*, wr64, wrU8, wrU64, Nat.add_assoc, -getElem?_pos, List.getElem?_cons_zero, List.getElem?_cons_succ]))
        all_goals (first | (exfalso; omega) | ((repeat (first | exact AH.keepsAll_refl _ | refine keeps_set hok ?_ (by first | omega | (simp; done) | (simp; omega)) | refine keeps_new hok ?_ (by first | omega | (simp; done) | (simp; omega)))); done))
      · obtain ⟨c, hg⟩ : ∃ c, l[i]? = some c := ⟨l[i], List.getElem?_eq_getElem (by omega)⟩
        have hil : (i : Int) < (l.length : Int) := by omega
        by_cases hdg : dg c
        · have hdg' := hdg
          unfold dg at hdg'
          simp (disch := first | omega | (simp; done) | assumption) [wr64, wrU8, wrU64, Nat.add_assoc, -getElem?_pos, List.getElem?_cons_zero, List.getElem?_cons_succ, *]
          repeat' (first | (refine Fork3.ndec (fun hh => ?_) (fun hh => ?_) <;> (first | (exfalso; omega) | simp (disch := first | omega | (simp; done) | assumption) [*, wr64, wrU8, wrU64, Nat.add_assoc, -getElem?_pos, List.getElem?_cons_zero, List.getElem?_cons_succ])) | (refine Fork3.dec (fun hh => ?_) (fun hh => ?_) <;> (first | (exfalso; omega) | simp (disch := first | omega | (simp; done) | assumption) [*, wr64, wrU8, wrU64, Nat.add_assoc, -getElem?_pos, List.getElem?_cons_zero, List.getElem?_cons_succ])) | (refine Fork3.intro (fun hh => ?_) (fun hh => ?_) <;> (try simp at hh) <;> (first | (exfalso; omega) | simp (disch := first | omega | (simp; done) | assumption) [*, wr64, wrU8, wrU64, Nat.add_assoc, -getElem?_pos, List.getElem?_cons_zero, List.getElem?_cons_succ])) | (refine Fork3.ite (fun hh => ?_) (fun hh => ?_) <;> (first | (exfalso; omega) | simp (disch := first | omega | (simp; done) | assumption) [*, wr64, wrU8, wrU64, Nat.add_assoc, -getElem?_pos, List.getElem?_cons_zero, List.getElem?_cons_succ])) | (refine Try.guard (by first | assumption | omega | (simp; omega) | (simp [*]; omega)) ?_; simp (disch := first | omega | (simp; done) | assumption) [*, wr64, wrU8, wrU64, Nat.add_assoc, -getElem?_pos, List.getElem?_cons_zero, List.getElem?_cons_succ]) | (refine Try.guardn (by first | assumption | omega | (simp; omega) | (simp [*]; omega)) ?_; simp (disch := first | omega | (simp; done) | assumption) [*, wr64, wrU8, wrU64, Nat.add_assoc, -getElem?_pos, List.getElem?_cons_zero, List.getElem?_cons_succ]))
          all_goals (first | (exfalso; omega) | (refine ⟨k - 1, by omega, rfl, i + 1, by omega, by simp [t0], by simp, ?_, dg_snoc hg hd hdg⟩; rw [take_succ_get hg, dv_snoc]; simp; omega))
        · have hm : c ∈ l := List.mem_of_getElem? hg
          have hv : numV l = .tuple [.int .i64 0, .bool false] := numV_none (numS_no (by omega) (by omega) c hm hdg)
          unfold dg at hdg
          simp (disch := first | omega | (simp; done) | assumption) [wr64, wrU8, wrU64, Nat.add_assoc, -getElem?_pos, List.getElem?_cons_zero, List.getElem?_cons_succ, *]
          repeat' (first | (refine Fork3.ndec (fun hh => ?_) (fun hh => ?_) <;> (first | (exfalso; omega) | simp (disch := first | omega | (simp; done) | assumption) [*, wr64, wrU8, wrU64, Nat.add_assoc, -getElem?_pos, List.getElem?_cons_zero, List.getElem?_cons_succ])) | (refine Fork3.dec (fun hh => ?_) (fun hh => ?_) <;> (first | (exfalso; omega) | simp (disch := first | omega | (simp; done) | assumption) [*, wr64, wrU8, wrU64, Nat.add_assoc, -getElem?_pos, List.getElem?_cons_zero, List.getElem?_cons_succ])) | (refine Fork3.intro (fun hh => ?_) (fun hh => ?_) <;> (try simp at hh) <;> (first | (exfalso; omega) | simp (disch := first | omega | (simp; done) | assumption) [*, wr64, wrU8, wrU64, Nat.add_assoc, -getElem?_pos, List.getElem?_cons_zero, List.getElem?_cons_succ])) | (refine Fork3.ite (fun hh => ?_) (fun hh => ?_) <;> (first | (exfalso; omega) | simp (disch := first | omega | (simp; done) | assumption) [*, wr64, wrU8, wrU64, Nat.add_assoc, -getElem?_pos, List.getElem?_cons_zero, List.getElem?_cons_succ])) | (refine Try.guard (by first | assumption | omega | (simp; omega) | (simp [*]; omega)) ?_; simp (disch := first | omega | (simp; done) | assumption) [*, wr64, wrU8, wrU64, Nat.add_assoc, -getElem?_pos, List.getElem?_cons_zero, List.getElem?_cons_succ]) | (refine Try.guardn (by first | assumption | omega | (simp; omega) | (simp [*]; omega)) ?_; simp (disch := first | omega | (simp; done) | assumption) [*, wr64, wrU8, wrU64, Nat.add_assoc, -getElem?_pos, List.getElem?_cons_zero, List.getElem?_cons_succ]))
          all_goals (first | (exfalso; omega) | ((repeat (first | exact AH.keepsAll_refl _ | refine keeps_set hok ?_ (by first | omega | (simp; done) | (simp; omega)) | refine keeps_new hok ?_ (by first | omega | (simp; done) | (simp; omega)))); done))
    · have f3 : ¬ (l.length : Int) = 2 := by omega
      simp (disch := first | omega | (simp; done) | assumption) [wr64, wrU8, wrU64, Nat.add_assoc, -getElem?_pos, List.getElem?_cons_zero, List.getElem?_cons_succ, ic27, rs27]
      repeat' (first | (refine Fork3.ndec (fun hh => ?_) (fun hh => ?_) <;> (first | (exfalso; omega) | simp (disch := first | omega | (simp; done) | assumption) [*, wr64, wrU8, wrU64, Nat.add_assoc, -getElem?_pos, List.getElem?_cons_zero, List.getElem?_cons_succ])) | (refine Fork3.dec (fun hh => ?_) (fun hh => ?_) <;> (first | (exfalso; omega) | simp (disch := first | omega | (simp; done) | assumption) [*, wr64, wrU8, wrU64, Nat.add_assoc, -getElem?_pos, List.getElem?_cons_zero, List.getElem?_cons_succ])) | (refine Fork3.intro (fun hh => ?_) (fun hh => ?_) <;> (try simp at hh) <;> (first | (exfalso; omega) | simp (disch := first | omega | (simp; done) | assumption) [*, wr64, wrU8, wrU64, Nat.add_assoc, -getElem?_pos, List.getElem?_cons_zero, List.getElem?_cons_succ])) | (refine Fork3.ite (fun hh => ?_) (fun hh => ?_) <;> (first | (exfalso; omega) | simp (disch := first | omega | (simp; done) | assumption) [*, wr64, wrU8, wrU64, Nat.add_assoc, -getElem?_pos, List.getElem?_cons_zero, List.getElem?_cons_succ])) | (refine Try.guard (by first | assumption | omega | (simp; omega) | (simp [*]; omega)) ?_; simp (disch := first | omega | (simp; done) | assumption) [*, wr64, wrU8, wrU64, Nat.add_assoc, -getElem?_pos, List.getElem?_cons_zero, List.getElem?_cons_succ]) | (refine Try.guardn (by first | assumption | omega | (simp; omega) | (simp [*]; omega)) ?_; simp (disch := first | omega | (simp; done) | assumption) [*, wr64, wrU8, wrU64, Nat.add_assoc, -getElem?_pos, List.getElem?_cons_zero, List.getElem?_cons_succ]))
      refine iwp_loop (RI l H) l.length ⟨rfl, 0, by simp, by simp, by simp, by simp [dv], by simp⟩ ?_
      rintro k tm _ ⟨rfl, i, hik, t0, t5, t4, hd⟩
      have hdl := dv_lt _ hd
      have hpow : 10 ^ (l.take i).length ≤ 10 ^ 2 := Nat.pow_le_pow_right (by omega) (by rw [List.length_take]; omega)
      by_cases hk : k = 0
      · have hi : i = l.length := by omega
        subst hi
        rw [List.take_length] at hd t4
        have hv : numV l = .tuple [.int .i64 (dv l), .bool true] := numV_some (numS_dv (by omega) (by omega) hx hd)
        simp (disch := first | omega | (simp; done) | assumption) [wr64, wrU8, wrU64, Nat.add_assoc, -getElem?_pos, List.getElem?_cons_zero, List.getElem?_cons_succ, *]
        repeat' (first | (refine Fork3.ndec (fun hh => ?_) (fun hh => ?_) <;> (first | (exfalso; omega) | simp (disch := first | omega | (simp; done) | assumption) [*, wr64, wrU8, wrU64, Nat.add_assoc, -getElem?_pos, List.getElem?_cons_zero, List.getElem?_cons_succ])) | (refine Fork3.dec (fun hh => ?_) (fun hh => ?_) <;> (first | (exfalso; omega) | simp (disch := first | omega | (simp; done) | assumption) [*, wr64, wrU8, wrU64, Nat.add_assoc, -getElem?_pos, List.getElem?_cons_zero, List.getElem?_cons_succ])) | (refine Fork3.intro (fun hh => ?_) (fun hh => ?_) <;> (try simp at hh) <;> (first | (exfalso; omega) | simp (disch := first | omega | (simp; done) | assumption) [*, wr64, wrU8, wrU64, Nat.add_assoc, -getElem?_pos, List.getElem?_cons_zero, List.getElem?_cons_succ])) | (refine Fork3.ite (fun hh => ?_) (fun hh => ?_) <;> (first | (exfalso; omega) | simp (disch := first | omega | (simp; done) | assumption) [*, wr64, wrU8, wrU64, Nat.add_assoc, -getElem?_pos, List.getElem?_cons_zero, List.getElem?_cons_succ])) | (refine Try.guard (by first | assumption | omega | (simp; omega) | (simp [*]; omega)) ?_; simp (disch := first | omega | (simp; done) | assumption) [*, wr64, wrU8, wrU64, Nat.add_assoc, -getElem?_pos, List.getElem?_cons_zero, List.getElem?_cons_succ]) | (refine Try.guardn (by first | assumption | omega | (simp; omega) | (simp [*]; omega)) ?_; simp (disch := first | omega | (simp; done) | assumption) [*, wr64, wrU8, wrU64, Nat.add_assoc, -getElem?_pos, List.getElem?_cons_zero, List.getElem?_cons_succ]))
        all_goals (first | (exfalso; omega) | ((repeat (first | exact AH.keepsAll_refl _ | refine keeps_set hok ?_ (by first | omega | (simp; done) | (simp; omega)) | refine keeps_new hok ?_ (by first | omega | (simp; done) | (simp; omega)))); done))
      · obtain ⟨c, hg⟩ : ∃ c, l[i]? = some c := ⟨l[i], List.getElem?_eq_getElem (by omega)⟩
        have hil : (i : Int) < (l.length : Int) := by omega
        by_cases hdg : dg c
        · have hdg' := hdg
          unfold dg at hdg'
          simp (disch := first | omega | (simp; done) | assumption) [wr64, wrU8, wrU64, Nat.add_assoc, -getElem?_pos, List.getElem?_cons_zero, List.getElem?_cons_succ, *]
          repeat' (first | (refine Fork3.ndec (fun hh => ?_) (fun hh => ?_) <;> (first | (exfalso; omega) | simp (disch := first | omega | (simp; done) | assumption) [*, wr64, wrU8, wrU64, Nat.add_assoc, -getElem?_pos, List.getElem?_cons_zero, List.getElem?_cons_succ])) | (refine Fork3.dec (fun hh => ?_) (fun hh => ?_) <;> (first | (exfalso; omega) | simp (disch := first | omega | (simp; done) | assumption) [*, wr64, wrU8, wrU64, Nat.add_assoc, -getElem?_pos, List.getElem?_cons_zero, List.getElem?_cons_succ])) | (refine Fork3.intro (fun hh => ?_) (fun hh => ?_) <;> (try simp at hh) <;> (first | (exfalso; omega) | simp (disch := first | omega | (simp; done) | assumption) [*, wr64, wrU8, wrU64, Nat.add_assoc, -getElem?_pos, List.getElem?_cons_zero, List.getElem?_cons_succ])) | (refine Fork3.ite (fun hh => ?_) (fun hh => ?_) <;> (first | (exfalso; omega) | simp (disch := first | omega | (simp; done) | assumption) [*, wr64, wrU8, wrU64, Nat.add_assoc, -getElem?_pos, List.getElem?_cons_zero, List.getElem?_cons_succ])) | (refine Try.guard (by first | assumption | omega | (simp; omega) | (simp [*]; omega)) ?_; simp (disch := first | omega | (simp; done) | assumption) [*, wr64, wrU8, wrU64, Nat.add_assoc, -getElem?_pos, List.getElem?_cons_zero, List.getElem?_cons_succ]) | (refine Try.guardn (by first | assumption | omega | (simp; omega) | (simp [*]; omega)) ?_; simp (disch := first | omega | (simp; done) | assumption) [*, wr64, wrU8, wrU64, Nat.add_assoc, -getElem?_pos, List.getElem?_cons_zero, List.getElem?_cons_succ]))
          all_goals (first | (exfalso; omega) | (refine ⟨k - 1, by omega, rfl, i + 1, by omega, by simp [t0], by simp, ?_, dg_snoc hg hd hdg⟩; rw [take_succ_get hg, dv_snoc]; simp; omega))
        · have hm : c ∈ l := List.mem_of_getElem? hg
          have hv : numV l = .tuple [.int .i64 0, .bool false] := numV_none (numS_no (by omega) (by omega) c hm hdg)
          unfold dg at hdg
          simp (disch := first | omega | (simp; done) | assumption) [wr64, wrU8, wrU64, Nat.add_assoc, -getElem?_pos, List.getElem?_cons_zero, List.getElem?_cons_succ, *]
          repeat' (first | (refine Fork3.ndec (fun hh => ?_) (fun hh => ?_) <;> (first | (exfalso; omega) | simp (disch := first | omega | (simp; done) | assumption) [*, wr64, wrU8, wrU64, Nat.add_assoc, -getElem?_pos, List.getElem?_cons_zero, List.getElem?_cons_succ])) | (refine Fork3.dec (fun hh => ?_) (fun hh => ?_) <;> (first | (exfalso; omega) | simp (disch := first | omega | (simp; done) | assumption) [*, wr64, wrU8, wrU64, Nat.add_assoc, -getElem?_pos, List.getElem?_cons_zero, List.getElem?_cons_succ])) | (refine Fork3.intro (fun hh => ?_) (fun hh => ?_) <;> (try simp at hh) <;> (first | (exfalso; omega) | simp (disch := first | omega | (simp; done) | assumption) [*, wr64, wrU8, wrU64, Nat.add_assoc, -getElem?_pos, List.getElem?_cons_zero, List.getElem?_cons_succ])) | (refine Fork3.ite (fun hh => ?_) (fun hh => ?_) <;> (first | (exfalso; omega) | simp (disch := first | omega | (simp; done) | assumption) [*, wr64, wrU8, wrU64, Nat.add_assoc, -getElem?_pos, List.getElem?_cons_zero, List.getElem?_cons_succ])) | (refine Try.guard (by first | assumption | omega | (simp; omega) | (simp [*]; omega)) ?_; simp (disch := first | omega | (simp; done) | assumption) [*, wr64, wrU8, wrU64, Nat.add_assoc, -getElem?_pos, List.getElem?_cons_zero, List.getElem?_cons_succ]) | (refine Try.guardn (by first | assumption | omega | (simp; omega) | (simp [*]; omega)) ?_; simp (disch := first | omega | (simp; done) | assumption) [*, wr64, wrU8, wrU64, Nat.add_assoc, -getElem?_pos, List.getElem?_cons_zero, List.getElem?_cons_succ]))
          all_goals (first | (exfalso; omega) | ((repeat (first | exact AH.keepsAll_refl _ | refine keeps_set hok ?_ (by first | omega | (simp; done) | (simp; omega)) | refine keeps_new hok ?_ (by first | omega | (simp; done) | (simp; omega)))); done))
def nvp (l : List UInt8) : Nat × Bool := match numS l with | some n => (n, true) | none => (0, false)
theorem numV_nvp (l : List UInt8) : numV l = .tuple [.int .i64 (nvp l).1, .bool (nvp l).2] := by unfold numV nvp; cases numS l <;> rfl
def rcV (l : List UInt8) : AV := match dash l with
  | some (a, b) => .tuple [cnt true (nvp a).1 (nvp b).1, .bool ((nvp a).2 && (nvp b).2 && decide (0 < (nvp b).1))]
  | none => .tuple [cnt true (nvp l).1 0, .bool (nvp l).2]
theorem rcV_plain (l : List UInt8) : Plain (rcV l) := by unfold rcV; split <;> simp
theorem rcV_some {l : List UInt8} {L D : Nat} (h : cntr l = some (L, D)) : rcV l = .tuple [cnt true L D, .bool true] := by
  unfold cntr at h
  unfold rcV nvp
  cases hd : dash l with
  | none =>
    rw [hd] at h
    cases hn : numS l with
    | none => rw [hn] at h; cases h
    | some n => rw [hn] at h; cases h; simp
  | some p =>
    obtain ⟨a, b⟩ := p
    rw [hd] at h
    simp only at h ⊢
    cases ha : numS a with
    | none => simp [ha] at h
    | some n =>
      cases hb : numS b with
      | none => simp [ha, hb] at h
      | some m =>
        simp only [ha, hb] at h
        by_cases h0 : m = 0
        · rw [if_pos h0] at h; cases h
        · rw [if_neg h0] at h
          cases h
          simp
          omega
theorem rcV_none {l : List UInt8} (h : cntr l = none) : ∃ L D : Nat, rcV l = .tuple [cnt true L D, .bool false] := by
  unfold cntr at h
  unfold rcV
  cases hd : dash l with
  | none =>
    rw [hd] at h
    refine ⟨(nvp l).1, 0, ?_⟩
    unfold nvp
    cases hn : numS l with
    | none => simp
    | some n => rw [hn] at h; cases h
  | some p =>
    obtain ⟨a, b⟩ := p
    rw [hd] at h
    refine ⟨(nvp a).1, (nvp b).1, ?_⟩
    unfold nvp
    simp only at h ⊢
    cases ha : numS a with
    | none => simp
    | some n =>
      cases hb : numS b with
      | none => simp
      | some m =>
        simp only [ha, hb] at h
        by_cases h0 : m = 0
        · simp [h0]
        · rw [if_neg h0] at h; cases h
theorem dash_at {l : List UInt8} {i : Nat} (h : l[i]? = some 45) (hn : 45 ∉ l.take i) : dash l = some (l.take i, l.drop (i + 1)) := by
  obtain ⟨hlt, hv⟩ := List.getElem?_eq_some_iff.1 h
  have e : l = l.take i ++ 45 :: l.drop (i + 1) := by
    rw [← hv, ← List.drop_eq_getElem_cons hlt, List.take_append_drop]
  conv => lhs; rw [e]
  exact dash_app hn
def CI (l : List UInt8) (H : AH) (k : Nat) (tm : Tms) (H' : AH) : Prop := H' = H ∧ ∃ i : Nat, i + k = l.length ∧ tm 0 = .str l ∧ tm 4 = .int .i64 i ∧ tm 2 = .ptr (H.next - 1) 0 ∧ 45 ∉ l.take i
theorem RCounter (l : List UInt8) (hl : l.length ≤ 9223372036854775807) (H : AH) : ACall Tryz.prog 18 [.str l] H (fun v H' => v = rcV l ∧ H' = H) := by
  refine acall_enter fits18 (by simp) (rcV_plain l) fun hok => ?_
  simp (disch := first | omega | (simp; done) | assumption) [wr64, wrU8, wrU64, Nat.add_assoc, -getElem?_pos, List.getElem?_cons_zero, List.getElem?_cons_succ, ic18, rs18]
  refine iwp_loop (CI l _) l.length ⟨rfl, 0, by simp, by simp, by simp, by simp, by simp⟩ ?_
  rintro k tm _ ⟨rfl, i, hik, t0, t4, t2, hd⟩
  simp only [AH.new_next, Nat.add_sub_cancel] at t2
  by_cases hk : k = 0
  · have hi : i = l.length := by omega
    subst hi
    rw [List.take_length] at hd
    have hv : rcV l = .tuple [cnt true (nvp l).1 0, .bool (nvp l).2] := by unfold rcV; rw [dash_none hd]
    have hn := numV_nvp l
    simp (disch := first | omega | (simp; done) | assumption) [wr64, wrU8, wrU64, Nat.add_assoc, -getElem?_pos, List.getElem?_cons_zero, List.getElem?_cons_succ, *]
    repeat' (first | (refine Fork3.ndec (fun hh => ?_) (fun hh => ?_) <;> (first | (exfalso; omega) | simp (disch := first | omega | (simp; done) | assumption) [*, wr64, wrU8, wrU64, Nat.add_assoc, -getElem?_pos, List.getElem?_cons_zero, List.getElem?_cons_succ])) | (refine Fork3.dec (fun hh => ?_) (fun hh => ?_) <;> (first | (exfalso; omega) | simp (disch := first | omega | (simp; done) | assumption) [*, wr64, wrU8, wrU64, Nat.add_assoc, -getElem?_pos, List.getElem?_cons_zero, List.getElem?_cons_succ])) | (refine Fork3.intro (fun hh => ?_) (fun hh => ?_) <;> (try simp at hh) <;> (first | (exfalso; omega) | simp (disch := first | omega | (simp; done) | assumption) [*, wr64, wrU8, wrU64, Nat.add_assoc, -getElem?_pos, List.getElem?_cons_zero, List.getElem?_cons_succ])) | (refine Fork3.ite (fun hh => ?_) (fun hh => ?_) <;> (first | (exfalso; omega) | simp (disch := first | omega | (simp; done) | assumption) [*, wr64, wrU8, wrU64, Nat.add_assoc, -getElem?_pos, List.getElem?_cons_zero, List.getElem?_cons_succ])) | (refine Try.guard (by first | assumption | omega | (simp; omega) | (simp [*]; omega)) ?_; simp (disch := first | omega | (simp; done) | assumption) [*, wr64, wrU8, wrU64, Nat.add_assoc, -getElem?_pos, List.getElem?_cons_zero, List.getElem?_cons_succ]) | (refine Try.guardn (by first | assumption | omega | (simp; omega) | (simp [*]; omega)) ?_; simp (disch := first | omega | (simp; done) | assumption) [*, wr64, wrU8, wrU64, Nat.add_assoc, -getElem?_pos, List.getElem?_cons_zero, List.getElem?_cons_succ]) | (refine CallW.val (RNumber _ (by omega) _) ?_; simp (disch := first | omega | (simp; done) | assumption) [*, wr64, wrU8, wrU64, Nat.add_assoc, -getElem?_pos, List.getElem?_cons_zero, List.getElem?_cons_succ]))
    all_goals (first | (exfalso; omega) | ((repeat (first | exact AH.keepsAll_refl _ | refine keeps_set hok ?_ (by first | omega | (simp; done) | (simp; omega)) | refine keeps_new hok ?_ (by first | omega | (simp; done) | (simp; omega)))); done))
  · obtain ⟨c, hg⟩ : ∃ c, l[i]? = some c := ⟨l[i], List.getElem?_eq_getElem (by omega)⟩
    have hil : (i : Int) < (l.length : Int) := by omega
    by_cases hc : c = 45
    · subst hc
      have hv : rcV l = .tuple [cnt true (nvp (l.take i)).1 (nvp (l.drop (i + 1))).1, .bool ((nvp (l.take i)).2 && (nvp (l.drop (i + 1))).2 && decide (0 < (nvp (l.drop (i + 1))).1))] := by unfold rcV; rw [dash_at hg hd]
      have hn := numV_nvp (l.take i)
      have hm := numV_nvp (l.drop (i + 1))
      have h45 : ((45 : UInt8).toNat : Int) = 45 := rfl
      rw [hv]
      generalize nvp (l.take i) = P1 at *
      generalize nvp (l.drop (i + 1)) = P2 at *
      clear hv
      obtain ⟨p1, q1⟩ := P1
      obtain ⟨p2, q2⟩ := P2
      cases q1 <;> cases q2 <;> simp (disch := first | omega | (simp; done) | assumption) [wr64, wrU8, wrU64, Nat.add_assoc, -getElem?_pos, List.getElem?_cons_zero, List.getElem?_cons_succ, *]
      all_goals repeat' (first | (refine Fork3.ndec (fun hh => ?_) (fun hh => ?_) <;> (first | (exfalso; omega) | simp (disch := first | omega | (simp; done) | assumption) [*, wr64, wrU8, wrU64, Nat.add_assoc, -getElem?_pos, List.getElem?_cons_zero, List.getElem?_cons_succ])) | (refine Fork3.dec (fun hh => ?_) (fun hh => ?_) <;> (first | (exfalso; omega) | simp (disch := first | omega | (simp; done) | assumption) [*, wr64, wrU8, wrU64, Nat.add_assoc, -getElem?_pos, List.getElem?_cons_zero, List.getElem?_cons_succ])) | (refine Fork3.intro (fun hh => ?_) (fun hh => ?_) <;> (try simp at hh) <;> (first | (exfalso; omega) | simp (disch := first | omega | (simp; done) | assumption) [*, wr64, wrU8, wrU64, Nat.add_assoc, -getElem?_pos, List.getElem?_cons_zero, List.getElem?_cons_succ])) | (refine Fork3.ite (fun hh => ?_) (fun hh => ?_) <;> (first | (exfalso; omega) | simp (disch := first | omega | (simp; done) | assumption) [*, wr64, wrU8, wrU64, Nat.add_assoc, -getElem?_pos, List.getElem?_cons_zero, List.getElem?_cons_succ])) | (refine Try.guard (by first | assumption | omega | (simp; omega) | (simp [*]; omega)) ?_; simp (disch := first | omega | (simp; done) | assumption) [*, wr64, wrU8, wrU64, Nat.add_assoc, -getElem?_pos, List.getElem?_cons_zero, List.getElem?_cons_succ]) | (refine Try.guardn (by first | assumption | omega | (simp; omega) | (simp [*]; omega)) ?_; simp (disch := first | omega | (simp; done) | assumption) [*, wr64, wrU8, wrU64, Nat.add_assoc, -getElem?_pos, List.getElem?_cons_zero, List.getElem?_cons_succ]) | (refine CallW.val (RNumber _ (by first | omega | (simp; omega)) _) ?_; simp (disch := first | omega | (simp; done) | assumption) [*, wr64, wrU8, wrU64, Nat.add_assoc, -getElem?_pos, List.getElem?_cons_zero, List.getElem?_cons_succ]))
      all_goals (first | (exfalso; omega) | ((repeat (first | exact AH.keepsAll_refl _ | refine keeps_set hok ?_ (by first | omega | (simp; done) | (simp; omega)) | refine keeps_new hok ?_ (by first | omega | (simp; done) | (simp; omega)))); done))
    · have hc' : ¬ (c.toNat : Int) = 45 := fun e => hc (UInt8.toNat_inj.1 (by have : (45 : UInt8).toNat = 45 := rfl; omega))
      simp (disch := first | omega | (simp; done) | assumption) [wr64, wrU8, wrU64, Nat.add_assoc, -getElem?_pos, List.getElem?_cons_zero, List.getElem?_cons_succ, *]
      repeat' (first | (refine Fork3.ndec (fun hh => ?_) (fun hh => ?_) <;> (first | (exfalso; omega) | simp (disch := first | omega | (simp; done) | assumption) [*, wr64, wrU8, wrU64, Nat.add_assoc, -getElem?_pos, List.getElem?_cons_zero, List.getElem?_cons_succ])) | (refine Fork3.dec (fun hh => ?_) (fun hh => ?_) <;> (first | (exfalso; omega) | simp (disch := first | omega | (simp; done) | assumption) [*, wr64, wrU8, wrU64, Nat.add_assoc, -getElem?_pos, List.getElem?_cons_zero, List.getElem?_cons_succ])) | (refine Fork3.intro (fun hh => ?_) (fun hh => ?_) <;> (try simp at hh) <;> (first | (exfalso; omega) | simp (disch := first | omega | (simp; done) | assumption) [*, wr64, wrU8, wrU64, Nat.add_assoc, -getElem?_pos, List.getElem?_cons_zero, List.getElem?_cons_succ])) | (refine Fork3.ite (fun hh => ?_) (fun hh => ?_) <;> (first | (exfalso; omega) | simp (disch := first | omega | (simp; done) | assumption) [*, wr64, wrU8, wrU64, Nat.add_assoc, -getElem?_pos, List.getElem?_cons_zero, List.getElem?_cons_succ])) | (refine Try.guard (by first | assumption | omega | (simp; omega) | (simp [*]; omega)) ?_; simp (disch := first | omega | (simp; done) | assumption) [*, wr64, wrU8, wrU64, Nat.add_assoc, -getElem?_pos, List.getElem?_cons_zero, List.getElem?_cons_succ]) | (refine Try.guardn (by first | assumption | omega | (simp; omega) | (simp [*]; omega)) ?_; simp (disch := first | omega | (simp; done) | assumption) [*, wr64, wrU8, wrU64, Nat.add_assoc, -getElem?_pos, List.getElem?_cons_zero, List.getElem?_cons_succ]))
      all_goals (first | (exfalso; omega) | (refine ⟨k - 1, by omega, rfl, i + 1, by omega, by simp [t0], by simp, by simp [t2], ?_⟩; rw [take_succ_get hg]; simp; exact ⟨hd, fun e => hc e.symm⟩))
theorem plus_at {l : List UInt8} {i : Nat} (h : l[i]? = some 43) (hn : 43 ∉ l.drop (i + 1)) : plus l = some (l.take i, l.drop (i + 1)) := by
  obtain ⟨hlt, hv⟩ := List.getElem?_eq_some_iff.1 h
  have e : l = l.take i ++ 43 :: l.drop (i + 1) := by
    rw [← hv, ← List.drop_eq_getElem_cons hlt, List.take_append_drop]
  conv => lhs; rw [e]
  exact plus_app hn
theorem drop_mem {l : List UInt8} {i : Nat} {c : UInt8} (h : l[i]? = some c) (hc : c ≠ 43) (hn : 43 ∉ l.drop (i + 1)) : 43 ∉ l.drop i := by
  obtain ⟨hlt, hv⟩ := List.getElem?_eq_some_iff.1 h
  rw [List.drop_eq_getElem_cons hlt, hv]
  intro hm
  rcases List.mem_cons.1 hm with e | hm
  · exact hc e.symm
  · exact hn hm
theorem res_first {s : List UInt8} (h : 43 ∉ s.drop 1) : res s = (s, false, 0, 0) := by
  rcases plus_cases s with ⟨_, e⟩ | ⟨a, b, hs, hb, e⟩
  · unfold res; simp only [e]
  · have ha : a = [] := by
      cases a with
      | nil => rfl
      | cons x a => rw [hs] at h; simp at h
    unfold res
    simp only [e]
    rw [if_pos ha]
theorem suf_cases (l : List UInt8) : (Lib.hasSuffix l conf = true ∧ Lib.trimSuffix l conf = l.take (l.length - 5) ∧ 5 ≤ l.length ∧ l.drop (l.length - 5) = conf) ∨ (Lib.hasSuffix l conf = false ∧ (5 ≤ l.length → l.drop (l.length - 5) ≠ conf)) := by
  cases h : Lib.hasSuffix l conf with
  | true =>
    left
    have h' := h
    unfold Lib.hasSuffix at h'
    rw [List.isSuffixOf_iff_suffix] at h'
    obtain ⟨t, ht⟩ := h'
    have hl : l.length = t.length + 5 := by rw [← ht]; simp
    refine ⟨rfl, ?_, by omega, ?_⟩
    · unfold Lib.trimSuffix
      rw [if_pos h]
      rfl
    · rw [show l.length - 5 = t.length by omega, ← ht, List.drop_left]
  | false =>
    right
    refine ⟨rfl, fun h5 hd => ?_⟩
    have : conf <:+ l := ⟨l.take (l.length - 5), by rw [← hd, List.take_append_drop]⟩
    rw [← List.isSuffixOf_iff_suffix] at this
    unfold Lib.hasSuffix at h
    rw [this] at h
    cases h
def SI (l s : List UInt8) (H : AH) (k : Nat) (tm : Tms) (H' : AH) : Prop := H' = H ∧ k < s.length ∧ tm 0 = .str l ∧ tm 6 = .str s ∧ tm 7 = .int .i64 k ∧ tm 3 = .ptr (H.next - 1) 0 ∧ 43 ∉ s.drop (k + 1)
theorem SplitFile (l : List UInt8) (hl : l.length ≤ 9223372036854775807) (H : AH) : ACall Tryz.prog 8 [.str l] H (fun v H' => v = splitV l ∧ H' = H) := by
  refine acall_enter fits8 (by simp) (splitV_plain l) fun hok => ?_
  have no : (Lib.hasSuffix l conf = true ∧ Lib.trimSuffix l conf ≠ []) = False → splitV l = .tuple [.str [], cnt false 0 0, .bool false] := fun h => if_neg (by rw [h]; exact id)
  by_cases h6 : l.length ≤ 5
  · have hv := no (by
      rcases suf_cases l with ⟨_, h2, h5, _⟩ | ⟨h1, _⟩
      · rw [h2, show l.length - 5 = 0 by omega]; simp
      · rw [h1]; simp)
    have f1 : (l.length : Int) - 5 < 1 := by omega
    simp (disch := first | omega | (simp; done) | assumption) [wr64, wrU8, wrU64, Nat.add_assoc, -getElem?_pos, List.getElem?_cons_zero, List.getElem?_cons_succ, ic8, rs8]
    repeat' (first | (refine Fork3.ndec (fun hh => ?_) (fun hh => ?_) <;> (first | (exfalso; omega) | simp (disch := first | omega | (simp; done) | assumption) [*, wr64, wrU8, wrU64, Nat.add_assoc, -getElem?_pos, List.getElem?_cons_zero, List.getElem?_cons_succ])) | (refine Fork3.dec (fun hh => ?_) (fun hh => ?_) <;> (first | (exfalso; omega) | simp (disch := first | omega | (simp; done) | assumption) [*, wr64, wrU8, wrU64, Nat.add_assoc, -getElem?_pos, List.getElem?_cons_zero, List.getElem?_cons_succ])) | (refine Fork3.intro (fun hh => ?_) (fun hh => ?_) <;> (try simp at hh) <;> (first | (exfalso; omega) | simp (disch := first | omega | (simp; done) | assumption) [*, wr64, wrU8, wrU64, Nat.add_assoc, -getElem?_pos, List.getElem?_cons_zero, List.getElem?_cons_succ])) | (refine Fork3.ite (fun hh => ?_) (fun hh => ?_) <;> (first | (exfalso; omega) | simp (disch := first | omega | (simp; done) | assumption) [*, wr64, wrU8, wrU64, Nat.add_assoc, -getElem?_pos, List.getElem?_cons_zero, List.getElem?_cons_succ])) | (refine Try.guard (by first | assumption | omega | (simp; omega) | (simp [*]; omega)) ?_; simp (disch := first | omega | (simp; done) | assumption) [*, wr64, wrU8, wrU64, Nat.add_assoc, -getElem?_pos, List.getElem?_cons_zero, List.getElem?_cons_succ]) | (refine Try.guardn (by first | assumption | omega | (simp; omega) | (simp [*]; omega)) ?_; simp (disch := first | omega | (simp; done) | assumption) [*, wr64, wrU8, wrU64, Nat.add_assoc, -getElem?_pos, List.getElem?_cons_zero, List.getElem?_cons_succ]))
    all_goals (first | (exfalso; omega) | ((repeat (first | exact AH.keepsAll_refl _ | refine keeps_set hok ?_ (by first | omega | (simp; done) | (simp; omega)) | refine keeps_new hok ?_ (by first | omega | (simp; done) | (simp; omega)))); done))
  obtain ⟨n, hn⟩ : ∃ n, l.length = n + 5 := ⟨l.length - 5, by omega⟩
  have f1 : ¬ (l.length : Int) - 5 < 1 := by omega
  have f2 : ((l.length : Int) - 5) = (n : Int) := by omega
  have f3 : l.take l.length = l := List.take_length
  have f4 : l.take (n + 5) = l := by rw [← hn]; exact List.take_length
  have f5 : ¬ (n : Int) < 1 := by omega
  rcases suf_cases l with ⟨h1, h2, h5, h3⟩ | ⟨h1, h3⟩
  · rw [show l.length - 5 = n by omega] at h2 h3
    obtain ⟨s, hs⟩ : ∃ s, l.take n = s := ⟨_, rfl⟩
    have hsl : s.length = n := by rw [← hs, List.length_take]; omega
    have hv : splitV l = resV s := by unfold splitV; rw [h2, hs]; exact if_pos ⟨h1, by intro e; rw [e] at hsl; simp at hsl; omega⟩
    rw [hv]
    simp (disch := first | omega | (simp; done) | assumption) [wr64, wrU8, wrU64, Nat.add_assoc, -getElem?_pos, List.getElem?_cons_zero, List.getElem?_cons_succ, ic8, rs8, hn, f2, f4, f5, h3, hs, hsl]
    repeat' (first | (refine Fork3.ndec (fun hh => ?_) (fun hh => ?_) <;> (first | (exfalso; omega) | simp (disch := first | omega | (simp; done) | assumption) [*, wr64, wrU8, wrU64, Nat.add_assoc, -getElem?_pos, List.getElem?_cons_zero, List.getElem?_cons_succ])) | (refine Fork3.dec (fun hh => ?_) (fun hh => ?_) <;> (first | (exfalso; omega) | simp (disch := first | omega | (simp; done) | assumption) [*, wr64, wrU8, wrU64, Nat.add_assoc, -getElem?_pos, List.getElem?_cons_zero, List.getElem?_cons_succ])) | (refine Fork3.intro (fun hh => ?_) (fun hh => ?_) <;> (try simp at hh) <;> (first | (exfalso; omega) | simp (disch := first | omega | (simp; done) | assumption) [*, wr64, wrU8, wrU64, Nat.add_assoc, -getElem?_pos, List.getElem?_cons_zero, List.getElem?_cons_succ])) | (refine Fork3.ite (fun hh => ?_) (fun hh => ?_) <;> (first | (exfalso; omega) | simp (disch := first | omega | (simp; done) | assumption) [*, wr64, wrU8, wrU64, Nat.add_assoc, -getElem?_pos, List.getElem?_cons_zero, List.getElem?_cons_succ])) | (refine Try.guard (by first | assumption | omega | (simp; omega) | (simp [*]; omega)) ?_; simp (disch := first | omega | (simp; done) | assumption) [*, wr64, wrU8, wrU64, Nat.add_assoc, -getElem?_pos, List.getElem?_cons_zero, List.getElem?_cons_succ]) | (refine Try.guardn (by first | assumption | omega | (simp; omega) | (simp [*]; omega)) ?_; simp (disch := first | omega | (simp; done) | assumption) [*, wr64, wrU8, wrU64, Nat.add_assoc, -getElem?_pos, List.getElem?_cons_zero, List.getElem?_cons_succ]))
    refine iwp_loop (SI l s _) (n - 1) ⟨rfl, by omega, by simp, by simp, by simp; omega, by simp, ?_⟩ ?_
    · rw [List.drop_of_length_le (by omega)]; simp
    rintro k tm _ ⟨rfl, hks, t0, t6, t7, t3, hd⟩
    simp only [AH.new_next, Nat.add_sub_cancel] at t3
    have hsn : s.length ≤ 9223372036854775807 := by omega
    have hnn : n ≤ 9223372036854775807 := by omega
    clear no h1 h2 h3 hs f1 f2 f3 f4 f5 hn hv
    by_cases hk : k = 0
    · subst hk
      have hr : resV s = .tuple [.str s, cnt false 0 0, .bool true] := by unfold resV; rw [res_first hd]; rfl
      rw [hr]
      simp (disch := first | omega | (simp; done) | assumption) [wr64, wrU8, wrU64, Nat.add_assoc, -getElem?_pos, List.getElem?_cons_zero, List.getElem?_cons_succ, *]
      repeat' (first | (refine Fork3.ndec (fun hh => ?_) (fun hh => ?_) <;> (first | (exfalso; omega) | simp (disch := first | omega | (simp; done) | assumption) [*, wr64, wrU8, wrU64, Nat.add_assoc, -getElem?_pos, List.getElem?_cons_zero, List.getElem?_cons_succ])) | (refine Fork3.dec (fun hh => ?_) (fun hh => ?_) <;> (first | (exfalso; omega) | simp (disch := first | omega | (simp; done) | assumption) [*, wr64, wrU8, wrU64, Nat.add_assoc, -getElem?_pos, List.getElem?_cons_zero, List.getElem?_cons_succ])) | (refine Fork3.intro (fun hh => ?_) (fun hh => ?_) <;> (try simp at hh) <;> (first | (exfalso; omega) | simp (disch := first | omega | (simp; done) | assumption) [*, wr64, wrU8, wrU64, Nat.add_assoc, -getElem?_pos, List.getElem?_cons_zero, List.getElem?_cons_succ])) | (refine Fork3.ite (fun hh => ?_) (fun hh => ?_) <;> (first | (exfalso; omega) | simp (disch := first | omega | (simp; done) | assumption) [*, wr64, wrU8, wrU64, Nat.add_assoc, -getElem?_pos, List.getElem?_cons_zero, List.getElem?_cons_succ])) | (refine Try.guard (by first | assumption | omega | (simp; omega) | (simp [*]; omega)) ?_; simp (disch := first | omega | (simp; done) | assumption) [*, wr64, wrU8, wrU64, Nat.add_assoc, -getElem?_pos, List.getElem?_cons_zero, List.getElem?_cons_succ]) | (refine Try.guardn (by first | assumption | omega | (simp; omega) | (simp [*]; omega)) ?_; simp (disch := first | omega | (simp; done) | assumption) [*, wr64, wrU8, wrU64, Nat.add_assoc, -getElem?_pos, List.getElem?_cons_zero, List.getElem?_cons_succ]))
      all_goals (first | (exfalso; omega) | ((repeat (first | exact AH.keepsAll_refl _ | refine keeps_set hok ?_ (by first | omega | (simp; done) | (simp; omega)) | refine keeps_new hok ?_ (by first | omega | (simp; done) | (simp; omega)))); done))
    · obtain ⟨c, hg⟩ : ∃ c, s[k]? = some c := ⟨s[k], List.getElem?_eq_getElem (by omega)⟩
      have hk0 : 0 < (k : Int) := by omega
      have f3 : s.take s.length = s := List.take_length
      have f4 : s.take n = s := List.take_of_length_le (by omega)
      by_cases hc : c = 43
      · subst hc
        have hp := plus_at hg hd
        have h43 : ((43 : UInt8).toNat : Int) = 43 := rfl
        have hne : s.take k ≠ [] := by
          intro e
          have : (s.take k).length = 0 := by rw [e]; rfl
          rw [List.length_take] at this
          omega
        obtain ⟨b, hb⟩ : ∃ b, s.drop (k + 1) = b := ⟨_, rfl⟩
        rw [hb] at hp
        have hbl : b.length ≤ 9223372036854775807 := by rw [← hb, List.length_drop]; omega
        cases hcn : cntr b with
        | none =>
          have hr : resV s = .tuple [.str s, cnt false 0 0, .bool true] := by
            unfold resV res
            simp only [hp, if_neg hne, hcn]
            rfl
          obtain ⟨L, D, hrc⟩ := rcV_none hcn
          rw [hr]
          simp (disch := first | omega | (simp; done) | assumption) [wr64, wrU8, wrU64, Nat.add_assoc, -getElem?_pos, List.getElem?_cons_zero, List.getElem?_cons_succ, *]
          repeat' (first | (refine Fork3.ndec (fun hh => ?_) (fun hh => ?_) <;> (first | (exfalso; omega) | simp (disch := first | omega | (simp; done) | assumption) [*, wr64, wrU8, wrU64, Nat.add_assoc, -getElem?_pos, List.getElem?_cons_zero, List.getElem?_cons_succ])) | (refine Fork3.dec (fun hh => ?_) (fun hh => ?_) <;> (first | (exfalso; omega) | simp (disch := first | omega | (simp; done) | assumption) [*, wr64, wrU8, wrU64, Nat.add_assoc, -getElem?_pos, List.getElem?_cons_zero, List.getElem?_cons_succ])) | (refine Fork3.intro (fun hh => ?_) (fun hh => ?_) <;> (try simp at hh) <;> (first | (exfalso; omega) | simp (disch := first | omega | (simp; done) | assumption) [*, wr64, wrU8, wrU64, Nat.add_assoc, -getElem?_pos, List.getElem?_cons_zero, List.getElem?_cons_succ])) | (refine Fork3.ite (fun hh => ?_) (fun hh => ?_) <;> (first | (exfalso; omega) | simp (disch := first | omega | (simp; done) | assumption) [*, wr64, wrU8, wrU64, Nat.add_assoc, -getElem?_pos, List.getElem?_cons_zero, List.getElem?_cons_succ])) | (refine Try.guard (by first | assumption | omega | (simp; omega) | (simp [*]; omega)) ?_; simp (disch := first | omega | (simp; done) | assumption) [*, wr64, wrU8, wrU64, Nat.add_assoc, -getElem?_pos, List.getElem?_cons_zero, List.getElem?_cons_succ]) | (refine Try.guardn (by first | assumption | omega | (simp; omega) | (simp [*]; omega)) ?_; simp (disch := first | omega | (simp; done) | assumption) [*, wr64, wrU8, wrU64, Nat.add_assoc, -getElem?_pos, List.getElem?_cons_zero, List.getElem?_cons_succ]) | (refine CallW.val (RCounter _ hbl _) ?_; simp (disch := first | omega | (simp; done) | assumption) [*, wr64, wrU8, wrU64, Nat.add_assoc, -getElem?_pos, List.getElem?_cons_zero, List.getElem?_cons_succ]))
          all_goals (first | (exfalso; omega) | ((repeat (first | exact AH.keepsAll_refl _ | refine keeps_set hok ?_ (by first | omega | (simp; done) | (simp; omega)) | refine keeps_new hok ?_ (by first | omega | (simp; done) | (simp; omega)))); done))
        | some q =>
          obtain ⟨L, D⟩ := q
          have hr : resV s = .tuple [.str (s.take k), cnt true L D, .bool true] := by
            unfold resV res
            simp only [hp, if_neg hne, hcn]
          have hrc := rcV_some hcn
          rw [hr]
          simp (disch := first | omega | (simp; done) | assumption) [wr64, wrU8, wrU64, Nat.add_assoc, -getElem?_pos, List.getElem?_cons_zero, List.getElem?_cons_succ, *]
          repeat' (first | (refine Fork3.ndec (fun hh => ?_) (fun hh => ?_) <;> (first | (exfalso; omega) | simp (disch := first | omega | (simp; done) | assumption) [*, wr64, wrU8, wrU64, Nat.add_assoc, -getElem?_pos, List.getElem?_cons_zero, List.getElem?_cons_succ])) | (refine Fork3.dec (fun hh => ?_) (fun hh => ?_) <;> (first | (exfalso; omega) | simp (disch := first | omega | (simp; done) | assumption) [*, wr64, wrU8, wrU64, Nat.add_assoc, -getElem?_pos, List.getElem?_cons_zero, List.getElem?_cons_succ])) | (refine Fork3.intro (fun hh => ?_) (fun hh => ?_) <;> (try simp at hh) <;> (first | (exfalso; omega) | simp (disch := first | omega | (simp; done) | assumption) [*, wr64, wrU8, wrU64, Nat.add_assoc, -getElem?_pos, List.getElem?_cons_zero, List.getElem?_cons_succ])) | (refine Fork3.ite (fun hh => ?_) (fun hh => ?_) <;> (first | (exfalso; omega) | simp (disch := first | omega | (simp; done) | assumption) [*, wr64, wrU8, wrU64, Nat.add_assoc, -getElem?_pos, List.getElem?_cons_zero, List.getElem?_cons_succ])) | (refine Try.guard (by first | assumption | omega | (simp; omega) | (simp [*]; omega)) ?_; simp (disch := first | omega | (simp; done) | assumption) [*, wr64, wrU8, wrU64, Nat.add_assoc, -getElem?_pos, List.getElem?_cons_zero, List.getElem?_cons_succ]) | (refine Try.guardn (by first | assumption | omega | (simp; omega) | (simp [*]; omega)) ?_; simp (disch := first | omega | (simp; done) | assumption) [*, wr64, wrU8, wrU64, Nat.add_assoc, -getElem?_pos, List.getElem?_cons_zero, List.getElem?_cons_succ]) | (refine CallW.val (RCounter _ hbl _) ?_; simp (disch := first | omega | (simp; done) | assumption) [*, wr64, wrU8, wrU64, Nat.add_assoc, -getElem?_pos, List.getElem?_cons_zero, List.getElem?_cons_succ]))
          all_goals (first | (exfalso; omega) | ((repeat (first | exact AH.keepsAll_refl _ | refine keeps_set hok ?_ (by first | omega | (simp; done) | (simp; omega)) | refine keeps_new hok ?_ (by first | omega | (simp; done) | (simp; omega)))); done))
      · have hc' : ¬ (c.toNat : Int) = 43 := fun e => hc (UInt8.toNat_inj.1 (by have : (43 : UInt8).toNat = 43 := rfl; omega))
        simp (disch := first | omega | (simp; done) | assumption) [wr64, wrU8, wrU64, Nat.add_assoc, -getElem?_pos, List.getElem?_cons_zero, List.getElem?_cons_succ, *]
        repeat' (first | (refine Fork3.ndec (fun hh => ?_) (fun hh => ?_) <;> (first | (exfalso; omega) | simp (disch := first | omega | (simp; done) | assumption) [*, wr64, wrU8, wrU64, Nat.add_assoc, -getElem?_pos, List.getElem?_cons_zero, List.getElem?_cons_succ])) | (refine Fork3.dec (fun hh => ?_) (fun hh => ?_) <;> (first | (exfalso; omega) | simp (disch := first | omega | (simp; done) | assumption) [*, wr64, wrU8, wrU64, Nat.add_assoc, -getElem?_pos, List.getElem?_cons_zero, List.getElem?_cons_succ])) | (refine Fork3.intro (fun hh => ?_) (fun hh => ?_) <;> (try simp at hh) <;> (first | (exfalso; omega) | simp (disch := first | omega | (simp; done) | assumption) [*, wr64, wrU8, wrU64, Nat.add_assoc, -getElem?_pos, List.getElem?_cons_zero, List.getElem?_cons_succ])) | (refine Fork3.ite (fun hh => ?_) (fun hh => ?_) <;> (first | (exfalso; omega) | simp (disch := first | omega | (simp; done) | assumption) [*, wr64, wrU8, wrU64, Nat.add_assoc, -getElem?_pos, List.getElem?_cons_zero, List.getElem?_cons_succ])) | (refine Try.guard (by first | assumption | omega | (simp; omega) | (simp [*]; omega)) ?_; simp (disch := first | omega | (simp; done) | assumption) [*, wr64, wrU8, wrU64, Nat.add_assoc, -getElem?_pos, List.getElem?_cons_zero, List.getElem?_cons_succ]) | (refine Try.guardn (by first | assumption | omega | (simp; omega) | (simp [*]; omega)) ?_; simp (disch := first | omega | (simp; done) | assumption) [*, wr64, wrU8, wrU64, Nat.add_assoc, -getElem?_pos, List.getElem?_cons_zero, List.getElem?_cons_succ]))
        all_goals (first | (exfalso; omega) | (exact ⟨k - 1, by omega, rfl, by omega, by simp [t0], by simp [t6], by simp; omega, by simp [t3], by rw [show k - 1 + 1 = k by omega]; exact drop_mem hg hc hd⟩))
  · have hv := no (by rw [h1]; simp)
    have h3' := h3 (by omega)
    rw [show l.length - 5 = n by omega] at h3'
    simp (disch := first | omega | (simp; done) | assumption) [wr64, wrU8, wrU64, Nat.add_assoc, -getElem?_pos, List.getElem?_cons_zero, List.getElem?_cons_succ, ic8, rs8, hn, f2, f4, f5, h3']
    repeat' (first | (refine Fork3.ndec (fun hh => ?_) (fun hh => ?_) <;> (first | (exfalso; omega) | simp (disch := first | omega | (simp; done) | assumption) [*, wr64, wrU8, wrU64, Nat.add_assoc, -getElem?_pos, List.getElem?_cons_zero, List.getElem?_cons_succ])) | (refine Fork3.dec (fun hh => ?_) (fun hh => ?_) <;> (first | (exfalso; omega) | simp (disch := first | omega | (simp; done) | assumption) [*, wr64, wrU8, wrU64, Nat.add_assoc, -getElem?_pos, List.getElem?_cons_zero, List.getElem?_cons_succ])) | (refine Fork3.intro (fun hh => ?_) (fun hh => ?_) <;> (try simp at hh) <;> (first | (exfalso; omega) | simp (disch := first | omega | (simp; done) | assumption) [*, wr64, wrU8, wrU64, Nat.add_assoc, -getElem?_pos, List.getElem?_cons_zero, List.getElem?_cons_succ])) | (refine Fork3.ite (fun hh => ?_) (fun hh => ?_) <;> (first | (exfalso; omega) | simp (disch := first | omega | (simp; done) | assumption) [*, wr64, wrU8, wrU64, Nat.add_assoc, -getElem?_pos, List.getElem?_cons_zero, List.getElem?_cons_succ])) | (refine Try.guard (by first | assumption | omega | (simp; omega) | (simp [*]; omega)) ?_; simp (disch := first | omega | (simp; done) | assumption) [*, wr64, wrU8, wrU64, Nat.add_assoc, -getElem?_pos, List.getElem?_cons_zero, List.getElem?_cons_succ]) | (refine Try.guardn (by first | assumption | omega | (simp; omega) | (simp [*]; omega)) ?_; simp (disch := first | omega | (simp; done) | assumption) [*, wr64, wrU8, wrU64, Nat.add_assoc, -getElem?_pos, List.getElem?_cons_zero, List.getElem?_cons_succ]))
    all_goals (first | (exfalso; omega) | ((repeat (first | exact AH.keepsAll_refl _ | refine keeps_set hok ?_ (by first | omega | (simp; done) | (simp; omega)) | refine keeps_new hok ?_ (by first | omega | (simp; done) | (simp; omega)))); done))
end Go.Proofs.YtfimhkijacamoaaGreatDoor.CRefs

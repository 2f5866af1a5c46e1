/- What fault.faults, fault.Depth, fault.Ops, fault.Names answer. -/
import Derived.Test.YtpmlaaoideeafaaDoorEErr2
set_option linter.unusedVariables false
set_option linter.unusedSimpArgs false
set_option maxRecDepth 10000
set_option maxHeartbeats 4000000
namespace Go.Proofs.YtpmlaaoideeafaaDoor.EErr
open Go Go.RowKit Go.Proofs.YtpmlaaoideeafaaDoor Go.Proofs.YtpmlaaoideeafaaDoor.Abs Go.Proofs.YtpmlaaoideeafaaDoor.Ic Go.Proofs.YtpmlaaoideeafaaDoor.EAs
theorem append_nil1 (H : AH) {t bytes : Nat} {v : AV} (hb : bytes ≤ 70368744177664) (hv : v.one = true) :
    appendK (H.new (.cells false t [v])) false t 1 bytes .snil (.slice H.next 0 1 1) = some (.slice (H.next + 1) 0 1 1, (H.new (.cells false t [v])).new (.cells false t [v])) := by
  simp [appendK, appendA, isStrV, srcCells, hv, hb]
theorem append_one (H : AH) {t bytes q : Nat} {v : AV} {xs : List AV} (hq : H.at_ q = some (.cells false t xs)) (hqn : q < H.next) (hb : (xs.length + 1) * bytes ≤ 70368744177664) (hl : xs.length + 1 ≤ 70368744177664) (hv : v.one = true) :
    appendK (H.new (.cells false t [v])) false t 1 bytes (.slice q 0 xs.length 1) (.slice H.next 0 1 1) = some (.slice (H.next + 1) 0 (xs.length + 1) 1, ((H.new (.cells false t [v])).set q none).new (.cells false t (xs ++ [v]))) := by
  have h1 : ¬ (q = H.next) := by omega
  simp [appendK, appendA, isStrV, srcCells, hv, hb, hl, hq, h1]
/-- A slice of the call's own. -/
def OutS (B : Nat) (H : AH) (t : TypeId) (v : AV) (xs : List AV) : Prop :=
  xs = [] ∧ v = .snil ∨ ∃ q, v = .slice q 0 xs.length 1 ∧ xs ≠ [] ∧ H.at_ q = some (.cells false t xs) ∧ B ≤ q ∧ q < H.next
theorem OutS.sl {B : Nat} {H : AH} {t : TypeId} {v : AV} {xs : List AV} (h : OutS B H t v xs) : SL H v xs := by
  rcases h with ⟨rfl, rfl⟩ | ⟨q, rfl, h1, h2, _⟩
  · exact .inl ⟨rfl, .inl rfl⟩
  · refine .inr ⟨q, 0, rfl, h1, fun i hi => ?_⟩
    unfold loadC
    rw [h2]
    simp
abbrev fp (f : Fl) : AV := .ptr f.b 0
theorem EUnwrap_num (n : Int) (H : AH) : ACall Tryd.prog 15 [.iface 22 (.int .i64 n)] H (fun v H' => v = .nilIface ∧ H' = H) := by
  refine acall_of fits15 (by simp) ?_
  simp (disch := first | omega | (simp; done) | assumption) [wr64, wrU8, wrU64, Nat.add_assoc, -getElem?_pos, List.getElem?_cons_zero, List.getElem?_cons_succ, ic15, rs15, tasiA]
theorem EUnwrap_fault {b : Nat} {e : AV} {H : AH} (h2 : loadC H b 2 none = some e) : ACall Tryd.prog 15 [.iface 43 (.ptr b 0)] H (fun v H' => v = e ∧ H' = H) := by
  refine acall_of fits15 (by simp) ?_
  simp (disch := first | omega | (simp; done) | assumption) [wr64, wrU8, wrU64, Nat.add_assoc, -getElem?_pos, List.getElem?_cons_zero, List.getElem?_cons_succ, ic15, rs15, tasiA]
  refine CallJ.val (mr_unwrap _) (FUnwrap h2) ?_
  simp (disch := first | omega | (simp; done) | assumption) [wr64, wrU8, wrU64, Nat.add_assoc, -getElem?_pos, List.getElem?_cons_zero, List.getElem?_cons_succ, ]
/-- What stands at the end of an error. -/
def rest (e : AV) (l : List Fl) : Nat := match e with
  | .nilIface => 0
  | _ => l.length + 1
theorem rest_lt (e : AV) (l : List Fl) (t : TypeId) (v : AV) (f : Fl) : rest e l < rest (.iface t v) (f :: l) := by
  cases e <;> simp [rest]
def FaI (most : Nat) (l : List Fl) (r : Option Int) (H : AH) (k : Nat) (tm : Tms) (H' : AH) : Prop :=
  H.keepsAll H' ∧ H.next ≤ H'.next ∧ ∃ e p l' r', k = rest e l' ∧ l = p ++ l' ∧ p.length ≤ most ∧ Chain H e l' r' ∧ tm 0 = e ∧ tm 1 = .int .i64 (most : Int) ∧ OutS H.next H' 43 (tm 5) (p.map fp)
theorem Faults (most : Nat) (hm : most ≤ 1073741824) {e : AV} {l : List Fl} {r : Option Int} {H : AH} (h : Chain H e l r) (hl : l.length ≤ 1000000) :
    ACall Tryd.prog 22 [e, .int .i64 (most : Int)] H (fun v H' => H.keepsAll H' ∧ H.next ≤ H'.next ∧ OutS H.next H' 43 v ((l.take most).map fp)) := by
  refine acall_ok (bodyP_of fits22) fun hok => acall_of fits22 (by simp) ?_
  simp (disch := first | omega | (simp; done) | assumption) [wr64, wrU8, wrU64, Nat.add_assoc, -getElem?_pos, List.getElem?_cons_zero, List.getElem?_cons_succ, ic22, rs22]
  refine iwp_loop (FaI most l r H) (rest e l) ⟨AH.keepsAll_refl _, Nat.le_refl _, e, [], l, r, rfl, rfl, by simp, h, by simp, by simp, .inl ⟨rfl, by simp⟩⟩ ?_
  clear h
  rintro k tm H1 ⟨hk, hn, e, p, l', r', rfl, rfl, hpm, h, h0, h1, hout⟩
  obtain ⟨out, h5⟩ : ∃ out, tm 5 = out := ⟨_, rfl⟩
  rw [h5] at hout
  simp only [List.length_append] at hl
  have hfin : ∀ q : List Fl, q = (p ++ l').take most → OutS H.next H1 43 out (p.map fp) → q = p → OutS H.next H1 43 out (((p ++ l').take most).map fp) := fun q hq ho hqp => by rw [← hq, hqp]; exact ho
  have hnext : ∀ (H2 : AH) (v : AV) (ys : List Fl), H.keepsAll H2 → H.next ≤ H2.next → True := fun _ _ _ _ _ => trivial
  rcases hout with ⟨hp0, rfl⟩ | ⟨q, rfl, hq1, hq2, hq3, hq4⟩
  · obtain rfl : p = [] := by simpa using hp0
    cases h with
    | nil =>
      simp (disch := first | omega | (simp; done) | assumption) [wr64, wrU8, wrU64, Nat.add_assoc, -getElem?_pos, List.getElem?_cons_zero, List.getElem?_cons_succ, h0, h1, h5]
      exact ⟨hk, hn, .inl ⟨rfl, rfl⟩⟩
    | num n =>
      by_cases hm0 : 0 < most
      · simp (disch := first | omega | (simp; done) | assumption) [wr64, wrU8, wrU64, Nat.add_assoc, -getElem?_pos, List.getElem?_cons_zero, List.getElem?_cons_succ, h0, h1, h5, tasA]
        repeat' (first | (refine Fork3.ndec (fun hh => ?_) (fun hh => ?_) <;> (first | (exfalso; omega) | simp (disch := first | omega | (simp; done) | assumption) [*, wr64, wrU8, wrU64, Nat.add_assoc, -getElem?_pos, List.getElem?_cons_zero, List.getElem?_cons_succ, tasA])) | (refine Fork3.dec (fun hh => ?_) (fun hh => ?_) <;> (first | (exfalso; omega) | simp (disch := first | omega | (simp; done) | assumption) [*, wr64, wrU8, wrU64, Nat.add_assoc, -getElem?_pos, List.getElem?_cons_zero, List.getElem?_cons_succ, tasA])) | (refine Fork3.intro (fun hh => ?_) (fun hh => ?_) <;> (try simp at hh) <;> (first | (exfalso; omega) | simp (disch := first | omega | (simp; done) | assumption) [*, wr64, wrU8, wrU64, Nat.add_assoc, -getElem?_pos, List.getElem?_cons_zero, List.getElem?_cons_succ, tasA])) | (refine Fork3.ite (fun hh => ?_) (fun hh => ?_) <;> (first | (exfalso; omega) | simp (disch := first | omega | (simp; done) | assumption) [*, wr64, wrU8, wrU64, Nat.add_assoc, -getElem?_pos, List.getElem?_cons_zero, List.getElem?_cons_succ, tasA])) | (refine Try.guard (by first | assumption | omega | (simp; omega) | (simp [*]; omega)) ?_; simp (disch := first | omega | (simp; done) | assumption) [*, wr64, wrU8, wrU64, Nat.add_assoc, -getElem?_pos, List.getElem?_cons_zero, List.getElem?_cons_succ, tasA]) | (refine Try.guardn (by first | assumption | omega | (simp; omega) | (simp [*]; omega)) ?_; simp (disch := first | omega | (simp; done) | assumption) [*, wr64, wrU8, wrU64, Nat.add_assoc, -getElem?_pos, List.getElem?_cons_zero, List.getElem?_cons_succ, tasA]))
        refine CallW.val (EUnwrap_num n _) ?_
        simp (disch := first | omega | (simp; done) | assumption) [wr64, wrU8, wrU64, Nat.add_assoc, -getElem?_pos, List.getElem?_cons_zero, List.getElem?_cons_succ, h0, h1, h5]
        exact ⟨0, by simp [rest], hk, hn, .nilIface, [], [], none, rfl, rfl, by simp, .nil, by simp, by simp [h1], .inl ⟨rfl, by simp [h5]⟩⟩
      · obtain rfl : most = 0 := by omega
        simp (disch := first | omega | (simp; done) | assumption) [wr64, wrU8, wrU64, Nat.add_assoc, -getElem?_pos, List.getElem?_cons_zero, List.getElem?_cons_succ, h0, h1, h5, tasA]
        exact ⟨hk, hn, .inl ⟨rfl, rfl⟩⟩
    | @fault f e2 l2 r c0 c1 c2 h3 =>
      by_cases hm0 : 0 < most
      · simp (disch := first | omega | (simp; done) | assumption) [wr64, wrU8, wrU64, Nat.add_assoc, -getElem?_pos, List.getElem?_cons_zero, List.getElem?_cons_succ, h0, h1, h5, tasA]
        repeat' (first | (refine Fork3.ndec (fun hh => ?_) (fun hh => ?_) <;> (first | (exfalso; omega) | simp (disch := first | omega | (simp; done) | assumption) [*, wr64, wrU8, wrU64, Nat.add_assoc, -getElem?_pos, List.getElem?_cons_zero, List.getElem?_cons_succ, tasA])) | (refine Fork3.dec (fun hh => ?_) (fun hh => ?_) <;> (first | (exfalso; omega) | simp (disch := first | omega | (simp; done) | assumption) [*, wr64, wrU8, wrU64, Nat.add_assoc, -getElem?_pos, List.getElem?_cons_zero, List.getElem?_cons_succ, tasA])) | (refine Fork3.intro (fun hh => ?_) (fun hh => ?_) <;> (try simp at hh) <;> (first | (exfalso; omega) | simp (disch := first | omega | (simp; done) | assumption) [*, wr64, wrU8, wrU64, Nat.add_assoc, -getElem?_pos, List.getElem?_cons_zero, List.getElem?_cons_succ, tasA])) | (refine Fork3.ite (fun hh => ?_) (fun hh => ?_) <;> (first | (exfalso; omega) | simp (disch := first | omega | (simp; done) | assumption) [*, wr64, wrU8, wrU64, Nat.add_assoc, -getElem?_pos, List.getElem?_cons_zero, List.getElem?_cons_succ, tasA])) | (refine Try.guard (by first | assumption | omega | (simp; omega) | (simp [*]; omega)) ?_; simp (disch := first | omega | (simp; done) | assumption) [*, wr64, wrU8, wrU64, Nat.add_assoc, -getElem?_pos, List.getElem?_cons_zero, List.getElem?_cons_succ, tasA]) | (refine Try.guardn (by first | assumption | omega | (simp; omega) | (simp [*]; omega)) ?_; simp (disch := first | omega | (simp; done) | assumption) [*, wr64, wrU8, wrU64, Nat.add_assoc, -getElem?_pos, List.getElem?_cons_zero, List.getElem?_cons_succ, tasA]))
        refine Try.intro (append_nil1 H1 (by omega) rfl) ?_
        simp (disch := first | omega | (simp; done) | assumption) [wr64, wrU8, wrU64, Nat.add_assoc, -getElem?_pos, List.getElem?_cons_zero, List.getElem?_cons_succ, h0, h1, h5]
        have hkk : H.keepsAll ((H1.new (.cells false 43 [.ptr f.b 0])).new (.cells false 43 [.ptr f.b 0])) := keeps_new hok (keeps_new hok hk hn) (by simp; omega)
        refine CallW.val (EUnwrap_fault (loadC_keeps hkk c2)) ?_
        simp (disch := first | omega | (simp; done) | assumption) [wr64, wrU8, wrU64, Nat.add_assoc, -getElem?_pos, List.getElem?_cons_zero, List.getElem?_cons_succ, h0, h1, h5]
        exact ⟨rest e2 l2, rest_lt _ _ _ _ _, hkk, by simp; omega, e2, [f], l2, _, rfl, rfl, by simp; omega, h3, by simp, by simp [h1], .inr ⟨H1.next + 1, by simp, by simp, by simp, by omega, by simp⟩⟩
      · obtain rfl : most = 0 := by omega
        simp (disch := first | omega | (simp; done) | assumption) [wr64, wrU8, wrU64, Nat.add_assoc, -getElem?_pos, List.getElem?_cons_zero, List.getElem?_cons_succ, h0, h1, h5, tasA]
        exact ⟨hk, hn, .inl ⟨rfl, rfl⟩⟩
  · have hpl : (p.map fp).length = p.length := by simp
    rw [hpl] at h5
    have hpne : p ≠ [] := by simpa using hq1
    have hp1 : 0 < p.length := List.length_pos_iff.2 hpne
    have hqn : q < H1.next := hq4
    cases h with
    | nil =>
      have ht : (p ++ []).take most = p := by rw [List.append_nil]; exact List.take_of_length_le hpm
      simp (disch := first | omega | (simp; done) | assumption) [wr64, wrU8, wrU64, Nat.add_assoc, -getElem?_pos, List.getElem?_cons_zero, List.getElem?_cons_succ, h0, h1, h5]
      exact ⟨hk, hn, .inr ⟨q, by simp; omega, by simpa [List.take_of_length_le hpm, ← List.map_take] using hq1, by rw [← List.map_take, List.take_of_length_le hpm]; exact hq2, hq3, hq4⟩⟩
    | num n =>
      by_cases hm0 : p.length < most
      · simp (disch := first | omega | (simp; done) | assumption) [wr64, wrU8, wrU64, Nat.add_assoc, -getElem?_pos, List.getElem?_cons_zero, List.getElem?_cons_succ, h0, h1, h5, tasA]
        repeat' (first | (refine Fork3.ndec (fun hh => ?_) (fun hh => ?_) <;> (first | (exfalso; omega) | simp (disch := first | omega | (simp; done) | assumption) [*, wr64, wrU8, wrU64, Nat.add_assoc, -getElem?_pos, List.getElem?_cons_zero, List.getElem?_cons_succ, tasA])) | (refine Fork3.dec (fun hh => ?_) (fun hh => ?_) <;> (first | (exfalso; omega) | simp (disch := first | omega | (simp; done) | assumption) [*, wr64, wrU8, wrU64, Nat.add_assoc, -getElem?_pos, List.getElem?_cons_zero, List.getElem?_cons_succ, tasA])) | (refine Fork3.intro (fun hh => ?_) (fun hh => ?_) <;> (try simp at hh) <;> (first | (exfalso; omega) | simp (disch := first | omega | (simp; done) | assumption) [*, wr64, wrU8, wrU64, Nat.add_assoc, -getElem?_pos, List.getElem?_cons_zero, List.getElem?_cons_succ, tasA])) | (refine Fork3.ite (fun hh => ?_) (fun hh => ?_) <;> (first | (exfalso; omega) | simp (disch := first | omega | (simp; done) | assumption) [*, wr64, wrU8, wrU64, Nat.add_assoc, -getElem?_pos, List.getElem?_cons_zero, List.getElem?_cons_succ, tasA])) | (refine Try.guard (by first | assumption | omega | (simp; omega) | (simp [*]; omega)) ?_; simp (disch := first | omega | (simp; done) | assumption) [*, wr64, wrU8, wrU64, Nat.add_assoc, -getElem?_pos, List.getElem?_cons_zero, List.getElem?_cons_succ, tasA]) | (refine Try.guardn (by first | assumption | omega | (simp; omega) | (simp [*]; omega)) ?_; simp (disch := first | omega | (simp; done) | assumption) [*, wr64, wrU8, wrU64, Nat.add_assoc, -getElem?_pos, List.getElem?_cons_zero, List.getElem?_cons_succ, tasA]))
        refine CallW.val (EUnwrap_num n _) ?_
        simp (disch := first | omega | (simp; done) | assumption) [wr64, wrU8, wrU64, Nat.add_assoc, -getElem?_pos, List.getElem?_cons_zero, List.getElem?_cons_succ, h0, h1, h5]
        exact ⟨0, by simp [rest], hk, hn, .nilIface, p, [], none, rfl, by simp, by omega, .nil, by simp, by simp [h1], .inr ⟨q, by simp [h5], hq1, hq2, hq3, hq4⟩⟩
      · obtain rfl : most = p.length := by omega
        simp (disch := first | omega | (simp; done) | assumption) [wr64, wrU8, wrU64, Nat.add_assoc, -getElem?_pos, List.getElem?_cons_zero, List.getElem?_cons_succ, h0, h1, h5, tasA]
        exact ⟨hk, hn, .inr ⟨q, by simp, by simpa using hq1, by rw [List.take_of_length_le (by simp)]; exact hq2, hq3, hq4⟩⟩
    | @fault f e2 l2 r c0 c1 c2 h3 =>
      by_cases hm0 : p.length < most
      · simp (disch := first | omega | (simp; done) | assumption) [wr64, wrU8, wrU64, Nat.add_assoc, -getElem?_pos, List.getElem?_cons_zero, List.getElem?_cons_succ, h0, h1, h5, tasA]
        repeat' (first | (refine Fork3.ndec (fun hh => ?_) (fun hh => ?_) <;> (first | (exfalso; omega) | simp (disch := first | omega | (simp; done) | assumption) [*, wr64, wrU8, wrU64, Nat.add_assoc, -getElem?_pos, List.getElem?_cons_zero, List.getElem?_cons_succ, tasA])) | (refine Fork3.dec (fun hh => ?_) (fun hh => ?_) <;> (first | (exfalso; omega) | simp (disch := first | omega | (simp; done) | assumption) [*, wr64, wrU8, wrU64, Nat.add_assoc, -getElem?_pos, List.getElem?_cons_zero, List.getElem?_cons_succ, tasA])) | (refine Fork3.intro (fun hh => ?_) (fun hh => ?_) <;> (try simp at hh) <;> (first | (exfalso; omega) | simp (disch := first | omega | (simp; done) | assumption) [*, wr64, wrU8, wrU64, Nat.add_assoc, -getElem?_pos, List.getElem?_cons_zero, List.getElem?_cons_succ, tasA])) | (refine Fork3.ite (fun hh => ?_) (fun hh => ?_) <;> (first | (exfalso; omega) | simp (disch := first | omega | (simp; done) | assumption) [*, wr64, wrU8, wrU64, Nat.add_assoc, -getElem?_pos, List.getElem?_cons_zero, List.getElem?_cons_succ, tasA])) | (refine Try.guard (by first | assumption | omega | (simp; omega) | (simp [*]; omega)) ?_; simp (disch := first | omega | (simp; done) | assumption) [*, wr64, wrU8, wrU64, Nat.add_assoc, -getElem?_pos, List.getElem?_cons_zero, List.getElem?_cons_succ, tasA]) | (refine Try.guardn (by first | assumption | omega | (simp; omega) | (simp [*]; omega)) ?_; simp (disch := first | omega | (simp; done) | assumption) [*, wr64, wrU8, wrU64, Nat.add_assoc, -getElem?_pos, List.getElem?_cons_zero, List.getElem?_cons_succ, tasA]))
        rw [← hpl]
        refine Try.intro (append_one (bytes := 8) H1 hq2 hqn (by rw [hpl]; simp at hl; omega) (by rw [hpl]; simp at hl; omega) rfl) ?_
        simp (disch := first | omega | (simp; done) | assumption) [wr64, wrU8, wrU64, Nat.add_assoc, -getElem?_pos, List.getElem?_cons_zero, List.getElem?_cons_succ, h0, h1, h5]
        have hkk : H.keepsAll (((H1.new (.cells false 43 [.ptr f.b 0])).set q none).new (.cells false 43 (p.map fp ++ [.ptr f.b 0]))) := keeps_new hok (keeps_set hok (keeps_new hok hk hn) hq3) (by simp; omega)
        refine CallW.val (EUnwrap_fault (loadC_keeps hkk c2)) ?_
        simp (disch := first | omega | (simp; done) | assumption) [wr64, wrU8, wrU64, Nat.add_assoc, -getElem?_pos, List.getElem?_cons_zero, List.getElem?_cons_succ, h0, h1, h5]
        exact ⟨rest e2 l2, rest_lt _ _ _ _ _, hkk, by simp; omega, e2, p ++ [f], l2, _, rfl, by simp, by simp; omega, h3, by simp, by simp [h1], .inr ⟨H1.next + 1, by simp, by simp, by simp, by omega, by simp⟩⟩
      · obtain rfl : most = p.length := by omega
        simp (disch := first | omega | (simp; done) | assumption) [wr64, wrU8, wrU64, Nat.add_assoc, -getElem?_pos, List.getElem?_cons_zero, List.getElem?_cons_succ, h0, h1, h5, tasA]
        exact ⟨hk, hn, .inr ⟨q, by simp, by simpa using hq1, by simpa using hq2, hq3, hq4⟩⟩
theorem OutS.len {B : Nat} {H : AH} {t : TypeId} {v : AV} {xs : List AV} (h : OutS B H t v xs) : xs.length = 0 ∧ v = .snil ∨ ∃ q, v = .slice q 0 xs.length 1 := by
  rcases h with ⟨rfl, rfl⟩ | ⟨q, rfl, _⟩
  · exact .inl ⟨rfl, rfl⟩
  · exact .inr ⟨q, rfl⟩
theorem EDepth {e : AV} {l : List Fl} {r : Option Int} {H : AH} (h : Chain H e l r) (hl : l.length ≤ 1000000) : ACall Tryd.prog 11 [e] H (fun v H' => v = .int .i64 (l.length : Int) ∧ H' = H) := by
  refine acall_enter fits11 (by simp) (by simp) fun hok => ?_
  simp (disch := first | omega | (simp; done) | assumption) [wr64, wrU8, wrU64, Nat.add_assoc, -getElem?_pos, List.getElem?_cons_zero, List.getElem?_cons_succ, ic11, rs11]
  refine CallW.of (Faults 1073741824 (Nat.le_refl _) h hl) ?_
  rintro v H2 ⟨hk, hn, ho⟩
  rw [List.take_of_length_le (by omega)] at ho
  rcases ho.len with ⟨h0, rfl⟩ | ⟨q, rfl⟩
  · have : l.length = 0 := by simpa using h0
    simp (disch := first | omega | (simp; done) | assumption) [wr64, wrU8, wrU64, Nat.add_assoc, -getElem?_pos, List.getElem?_cons_zero, List.getElem?_cons_succ, this]
    exact hk
  · simp (disch := first | omega | (simp; done) | assumption) [wr64, wrU8, wrU64, Nat.add_assoc, -getElem?_pos, List.getElem?_cons_zero, List.getElem?_cons_succ, ]
    exact hk
def OpI (g : Fl → List UInt8) (fs : AV) (l : List Fl) (H H0 : AH) (k : Nat) (tm : Tms) (H' : AH) : Prop :=
  H0.keepsAll H' ∧ H0.next ≤ H'.next ∧ ∃ i, k = l.length - i ∧ i ≤ l.length ∧ tm 7 = fs ∧ tm 8 = .int .i64 (l.length : Int) ∧ tm 9 = .int .i64 (i : Int) ∧ OutS H0.next H' 9 (tm 3) ((l.take i).map fun f => .str (g f))
/-- What is known of a chain's Faults, each by itself. -/
theorem Chain.get {H : AH} {e : AV} {l : List Fl} {r : Option Int} (h : Chain H e l r) : ∀ (i : Nat) (hi : i < l.length), loadC H l[i].b 0 none = some (.str l[i].op) ∧ loadC H l[i].b 1 none = some (.str l[i].name) := by
  induction h with
  | nil => intro i hi; simp at hi
  | num n => intro i hi; simp at hi
  | @fault f e l r h0 h1 h2 h ih =>
    intro i hi
    cases i with
    | zero => exact ⟨h0, h1⟩
    | succ i => exact ih i (by simpa using hi)
theorem CallW.ofk {f : FuncId} {args : List AV} {H : AH} {Q Q' : AV → AH → Prop} {m : MarkQ H Q'} (h : ACall Tryd.prog f args H Q) (hq : ∀ v H', Q v H' → H'.ok → Q' v H') : CallW Tryd.prog f args H Q' m :=
  ⟨h.1, fun j w cargs hr hv => (h.2 j w cargs hr hv).mono fun e w' ⟨v, vc, j', H', he, q, hp, hvr⟩ => ⟨v, vc, j', H', he, hq v H' q hp.rel.ok, hp, hvr⟩⟩
theorem EOps {e : AV} {l m : List Fl} {r : Option Int} {H : AH} (h : Chain H e l r) (hl : l.length ≤ 1000000) (hm : l.take 100 = m) :
    ACall Tryd.prog 17 [e] H (fun v H' => H.keepsAll H' ∧ H.next ≤ H'.next ∧ SL H' v (m.map fun f => .str f.op)) := by
  refine acall_ok (bodyP_of fits17) fun hok => acall_of fits17 (by simp) ?_
  simp (disch := first | omega | (simp; done) | assumption) [wr64, wrU8, wrU64, Nat.add_assoc, -getElem?_pos, List.getElem?_cons_zero, List.getElem?_cons_succ, ic17, rs17]
  refine CallW.ofk (Faults 100 (by omega) h hl) ?_
  rintro fs H2 ⟨hk, hn, ho⟩ hok2
  simp only [newO_none] at hk hn ho
  rw [hm] at ho
  have hlm : m.length ≤ 100 := by rw [← hm]; simp; omega
  have hch : ∀ (i : Nat) (hi : i < m.length), loadC H2 m[i].b 0 none = some (.str m[i].op) := fun i hi => by
    subst hm
    simp at hi
    simp only [List.getElem_take]
    exact loadC_keeps hk (h.get i (by omega)).1
  clear h hm
  rcases ho with ⟨h0, rfl⟩ | ⟨q, rfl, hq1, hq2, hq3, hq4⟩
  · obtain rfl : m = [] := by simpa using h0
    simp (disch := first | omega | (simp; done) | assumption) [wr64, wrU8, wrU64, Nat.add_assoc, -getElem?_pos, List.getElem?_cons_zero, List.getElem?_cons_succ, ]
    refine iwp_loop (fun _ tm H' => H' = H2 ∧ tm 8 = .int .i64 0 ∧ tm 9 = .int .i64 0 ∧ tm 3 = .snil) 0 ⟨rfl, by simp, by simp, by simp⟩ ?_
    rintro k tm _ ⟨rfl, h8, h9, h3⟩
    simp (disch := first | omega | (simp; done) | assumption) [wr64, wrU8, wrU64, Nat.add_assoc, -getElem?_pos, List.getElem?_cons_zero, List.getElem?_cons_succ, h8, h9, h3, slcA, Abs.bounds]
    exact ⟨hk, hn, .inl ⟨rfl, .inl rfl⟩⟩
  · have hml : (m.map fp).length = m.length := by simp
    have hm0 : 0 < m.length := by have := List.length_pos_iff.2 hq1; omega
    have hload : ∀ (i : Nat) (hi : i < m.length), loadC H2 q i none = some (.ptr m[i].b 0) := fun i hi => by unfold loadC; rw [hq2]; simp [hi]
    rw [hml]
    simp (disch := first | omega | (simp; done) | assumption) [wr64, wrU8, wrU64, Nat.add_assoc, -getElem?_pos, List.getElem?_cons_zero, List.getElem?_cons_succ, ]
    refine iwp_loop (OpI Fl.op (.slice q 0 m.length 1) m H H2) m.length ⟨AH.keepsAll_refl _, Nat.le_refl _, 0, rfl, by omega, by simp, by simp, by simp, .inl ⟨rfl, by simp⟩⟩ ?_
    rintro k tm H3 ⟨hk3, hn3, i, rfl, hi, h7, h8, h9, ho⟩
    obtain ⟨out, h3⟩ : ∃ out, tm 3 = out := ⟨_, rfl⟩
    rw [h3] at ho
    by_cases hlt : i < m.length
    · have hld := loadC_keeps hk3 (hload i hlt)
      have hop := loadC_keeps hk3 (hch i hlt)
      simp only [loadC] at hld hop
      have htk : (m.take (i + 1)).map (fun f => AV.str f.op) = (m.take i).map (fun f => AV.str f.op) ++ [.str m[i].op] := by rw [List.take_succ_eq_append_getElem hlt, List.map_append]; rfl
      have hil : ((m.take i).map fun f => AV.str f.op).length = i := by simp; omega
      simp (disch := first | omega | (simp; done) | assumption) [wr64, wrU8, wrU64, Nat.add_assoc, -getElem?_pos, List.getElem?_cons_zero, List.getElem?_cons_succ, h3, h7, h8, h9, hlt]
      refine Try.intro hld ?_
      simp (disch := first | omega | (simp; done) | assumption) [wr64, wrU8, wrU64, Nat.add_assoc, -getElem?_pos, List.getElem?_cons_zero, List.getElem?_cons_succ, h3, h7, h8, h9]
      refine Try.intro hop ?_
      simp (disch := first | omega | (simp; done) | assumption) [wr64, wrU8, wrU64, Nat.add_assoc, -getElem?_pos, List.getElem?_cons_zero, List.getElem?_cons_succ, h3, h7, h8, h9]
      rcases ho with ⟨he, rfl⟩ | ⟨q2, rfl, hr1, hr2, hr3, hr4⟩
      · refine Try.intro (append_nil1 H3 (by omega) rfl) ?_
        simp (disch := first | omega | (simp; done) | assumption) [wr64, wrU8, wrU64, Nat.add_assoc, -getElem?_pos, List.getElem?_cons_zero, List.getElem?_cons_succ, h3, h7, h8, h9]
        rw [he] at htk
        refine ⟨m.length - (i + 1), by omega, keeps_new hok2 (keeps_new hok2 hk3 hn3) (by simp; omega), by simp; omega, i + 1, rfl, by omega, by simp [h7], by simp [h8], by simp, ?_⟩
        rw [htk]
        exact .inr ⟨H3.next + 1, by simp, by simp, by simp, by omega, by simp⟩
      · refine Try.intro (append_one (bytes := 16) H3 hr2 hr4 (by rw [hil]; omega) (by rw [hil]; omega) rfl) ?_
        simp (disch := first | omega | (simp; done) | assumption) [wr64, wrU8, wrU64, Nat.add_assoc, -getElem?_pos, List.getElem?_cons_zero, List.getElem?_cons_succ, h3, h7, h8, h9]
        refine ⟨m.length - (i + 1), by omega, keeps_new hok2 (keeps_set hok2 (keeps_new hok2 hk3 hn3) hr3) (by simp; omega), by simp; omega, i + 1, rfl, by omega, by simp [h7], by simp [h8], by simp, ?_⟩
        rw [htk]
        exact .inr ⟨H3.next + 1, by simp; omega, by simp, by simp, by omega, by simp⟩
    · obtain rfl : i = m.length := by omega
      rw [List.take_length] at ho
      rcases ho with ⟨he, rfl⟩ | ⟨q2, rfl, hr1, hr2, hr3, hr4⟩
      · exfalso
        have hm1 : m = [] := by simpa using he
        rw [hm1] at hm0
        simp at hm0
      · have hkk : H.keepsAll H3 := fun b o hb => hk3 b o (hk b o hb)
        have hml2 : (m.map fun f => AV.str f.op).length = m.length := by simp
        rw [hml2] at h3
        have hz : ¬ (m.length = 0) := by omega
        simp (disch := first | omega | (simp; done) | assumption) [wr64, wrU8, wrU64, Nat.add_assoc, -getElem?_pos, List.getElem?_cons_zero, List.getElem?_cons_succ, h3, h7, h8, h9, slcA, Abs.bounds, hz]
        exact ⟨hkk, by omega, .inr ⟨q2, 0, by simp, by simpa using hr1, fun i hi => by unfold loadC; rw [hr2]; simp⟩⟩
theorem ENames {e : AV} {l m : List Fl} {r : Option Int} {H : AH} (h : Chain H e l r) (hl : l.length ≤ 1000000) (hm : l.take 100 = m) :
    ACall Tryd.prog 19 [e] H (fun v H' => H.keepsAll H' ∧ H.next ≤ H'.next ∧ SL H' v (m.map fun f => .str f.name)) := by
  refine acall_ok (bodyP_of fits19) fun hok => acall_of fits19 (by simp) ?_
  simp (disch := first | omega | (simp; done) | assumption) [wr64, wrU8, wrU64, Nat.add_assoc, -getElem?_pos, List.getElem?_cons_zero, List.getElem?_cons_succ, ic19, rs19]
  refine CallW.ofk (Faults 100 (by omega) h hl) ?_
  rintro fs H2 ⟨hk, hn, ho⟩ hok2
  simp only [newO_none] at hk hn ho
  rw [hm] at ho
  have hlm : m.length ≤ 100 := by rw [← hm]; simp; omega
  have hch : ∀ (i : Nat) (hi : i < m.length), loadC H2 m[i].b 1 none = some (.str m[i].name) := fun i hi => by
    subst hm
    simp at hi
    simp only [List.getElem_take]
    exact loadC_keeps hk (h.get i (by omega)).2
  clear h hm
  rcases ho with ⟨h0, rfl⟩ | ⟨q, rfl, hq1, hq2, hq3, hq4⟩
  · obtain rfl : m = [] := by simpa using h0
    simp (disch := first | omega | (simp; done) | assumption) [wr64, wrU8, wrU64, Nat.add_assoc, -getElem?_pos, List.getElem?_cons_zero, List.getElem?_cons_succ, ]
    refine iwp_loop (fun _ tm H' => H' = H2 ∧ tm 8 = .int .i64 0 ∧ tm 9 = .int .i64 0 ∧ tm 3 = .snil) 0 ⟨rfl, by simp, by simp, by simp⟩ ?_
    rintro k tm _ ⟨rfl, h8, h9, h3⟩
    simp (disch := first | omega | (simp; done) | assumption) [wr64, wrU8, wrU64, Nat.add_assoc, -getElem?_pos, List.getElem?_cons_zero, List.getElem?_cons_succ, h8, h9, h3, slcA, Abs.bounds]
    exact ⟨hk, hn, .inl ⟨rfl, .inl rfl⟩⟩
  · have hml : (m.map fp).length = m.length := by simp
    have hm0 : 0 < m.length := by have := List.length_pos_iff.2 hq1; omega
    have hload : ∀ (i : Nat) (hi : i < m.length), loadC H2 q i none = some (.ptr m[i].b 0) := fun i hi => by unfold loadC; rw [hq2]; simp [hi]
    rw [hml]
    simp (disch := first | omega | (simp; done) | assumption) [wr64, wrU8, wrU64, Nat.add_assoc, -getElem?_pos, List.getElem?_cons_zero, List.getElem?_cons_succ, ]
    refine iwp_loop (OpI Fl.name (.slice q 0 m.length 1) m H H2) m.length ⟨AH.keepsAll_refl _, Nat.le_refl _, 0, rfl, by omega, by simp, by simp, by simp, .inl ⟨rfl, by simp⟩⟩ ?_
    rintro k tm H3 ⟨hk3, hn3, i, rfl, hi, h7, h8, h9, ho⟩
    obtain ⟨out, h3⟩ : ∃ out, tm 3 = out := ⟨_, rfl⟩
    rw [h3] at ho
    by_cases hlt : i < m.length
    · have hld := loadC_keeps hk3 (hload i hlt)
      have hop := loadC_keeps hk3 (hch i hlt)
      simp only [loadC] at hld hop
      have htk : (m.take (i + 1)).map (fun f => AV.str f.name) = (m.take i).map (fun f => AV.str f.name) ++ [.str m[i].name] := by rw [List.take_succ_eq_append_getElem hlt, List.map_append]; rfl
      have hil : ((m.take i).map fun f => AV.str f.name).length = i := by simp; omega
      simp (disch := first | omega | (simp; done) | assumption) [wr64, wrU8, wrU64, Nat.add_assoc, -getElem?_pos, List.getElem?_cons_zero, List.getElem?_cons_succ, h3, h7, h8, h9, hlt]
      refine Try.intro hld ?_
      simp (disch := first | omega | (simp; done) | assumption) [wr64, wrU8, wrU64, Nat.add_assoc, -getElem?_pos, List.getElem?_cons_zero, List.getElem?_cons_succ, h3, h7, h8, h9]
      refine Try.intro hop ?_
      simp (disch := first | omega | (simp; done) | assumption) [wr64, wrU8, wrU64, Nat.add_assoc, -getElem?_pos, List.getElem?_cons_zero, List.getElem?_cons_succ, h3, h7, h8, h9]
      rcases ho with ⟨he, rfl⟩ | ⟨q2, rfl, hr1, hr2, hr3, hr4⟩
      · refine Try.intro (append_nil1 H3 (by omega) rfl) ?_
        simp (disch := first | omega | (simp; done) | assumption) [wr64, wrU8, wrU64, Nat.add_assoc, -getElem?_pos, List.getElem?_cons_zero, List.getElem?_cons_succ, h3, h7, h8, h9]
        rw [he] at htk
        refine ⟨m.length - (i + 1), by omega, keeps_new hok2 (keeps_new hok2 hk3 hn3) (by simp; omega), by simp; omega, i + 1, rfl, by omega, by simp [h7], by simp [h8], by simp, ?_⟩
        rw [htk]
        exact .inr ⟨H3.next + 1, by simp, by simp, by simp, by omega, by simp⟩
      · refine Try.intro (append_one (bytes := 16) H3 hr2 hr4 (by rw [hil]; omega) (by rw [hil]; omega) rfl) ?_
        simp (disch := first | omega | (simp; done) | assumption) [wr64, wrU8, wrU64, Nat.add_assoc, -getElem?_pos, List.getElem?_cons_zero, List.getElem?_cons_succ, h3, h7, h8, h9]
        refine ⟨m.length - (i + 1), by omega, keeps_new hok2 (keeps_set hok2 (keeps_new hok2 hk3 hn3) hr3) (by simp; omega), by simp; omega, i + 1, rfl, by omega, by simp [h7], by simp [h8], by simp, ?_⟩
        rw [htk]
        exact .inr ⟨H3.next + 1, by simp; omega, by simp, by simp, by omega, by simp⟩
    · obtain rfl : i = m.length := by omega
      rw [List.take_length] at ho
      rcases ho with ⟨he, rfl⟩ | ⟨q2, rfl, hr1, hr2, hr3, hr4⟩
      · exfalso
        have hm1 : m = [] := by simpa using he
        rw [hm1] at hm0
        simp at hm0
      · have hkk : H.keepsAll H3 := fun b o hb => hk3 b o (hk b o hb)
        have hml2 : (m.map fun f => AV.str f.name).length = m.length := by simp
        rw [hml2] at h3
        have hz : ¬ (m.length = 0) := by omega
        simp (disch := first | omega | (simp; done) | assumption) [wr64, wrU8, wrU64, Nat.add_assoc, -getElem?_pos, List.getElem?_cons_zero, List.getElem?_cons_succ, h3, h7, h8, h9, slcA, Abs.bounds, hz]
        exact ⟨hkk, by omega, .inr ⟨q2, 0, by simp, by simpa using hr1, fun i hi => by unfold loadC; rw [hr2]; simp⟩⟩
end Go.Proofs.YtpmlaaoideeafaaDoor.EErr

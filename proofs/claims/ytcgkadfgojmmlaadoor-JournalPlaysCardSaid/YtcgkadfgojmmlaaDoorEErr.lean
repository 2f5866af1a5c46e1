/- errors.As, errors.Is, errors.Unwrap over chains of Faults. -/
import Derived.Test.YtcgkadfgojmmlaaDoorEAs
set_option linter.unusedVariables false
set_option linter.unusedSimpArgs false
set_option maxRecDepth 10000
set_option maxHeartbeats 4000000
namespace Go.Proofs.YtcgkadfgojmmlaaDoor.EErr
open Go Go.RowKit Go.Proofs.YtcgkadfgojmmlaaDoor Go.Proofs.YtcgkadfgojmmlaaDoor.Abs Go.Proofs.YtcgkadfgojmmlaaDoor.Ic Go.Proofs.YtcgkadfgojmmlaaDoor.EAs
/-- A Fault: where it lies, its Op and Name. -/
structure Fl where
  b : Nat
  op : List UInt8
  name : List UInt8
/-- An error: Faults, the outmost first, around a number, or around nothing. -/
inductive Chain (H : AH) : AV → List Fl → Option Int → Prop
  | nil : Chain H .nilIface [] none
  | num (n : Int) : Chain H (.iface 61 (.int .i64 n)) [] (some n)
  | fault {f : Fl} {e : AV} {l : List Fl} {r : Option Int} (h0 : loadC H f.b 0 none = some (.str f.op)) (h1 : loadC H f.b 1 none = some (.str f.name)) (h2 : loadC H f.b 2 none = some e) (h : Chain H e l r) : Chain H (.iface 74 (.ptr f.b 0)) (f :: l) r
theorem Chain.keeps {H H1 : AH} (hk : H.keepsAll H1) {e : AV} {l : List Fl} {r : Option Int} (h : Chain H e l r) : Chain H1 e l r := by
  induction h with
  | nil => exact .nil
  | num n => exact .num n
  | fault h0 h1 h2 _ ih => exact .fault (loadC_keeps hk h0) (loadC_keeps hk h1) (loadC_keeps hk h2) ih
/-- (*Fault).Unwrap tells what is within. -/
theorem FUnwrap {b : Nat} {e : AV} {H : AH} (h2 : loadC H b 2 none = some e) : ACall Tryd.prog 91 [.ptr b 0] H (fun v H' => v = e ∧ H' = H) := by
  refine acall_of fits91 (by simp) ?_
  simp (disch := first | omega | (simp; done) | assumption) [wr64, wrU8, wrU64, Nat.add_assoc, -getElem?_pos, List.getElem?_cons_zero, List.getElem?_cons_succ, ic91, rs91, h2, -loadC]
/-! ### errors.Is of a number -/
def IsI (n0 : Int) (H : AH) (r : Option Int) (k : Nat) (tm : Tms) (H' : AH) : Prop :=
  H' = H ∧ ∃ e l, k = l.length ∧ Chain H e l r ∧ e ≠ .nilIface ∧ tm 0 = e ∧ tm 1 = .iface 61 (.int .i64 n0) ∧ tm 2 = .bool true
theorem EIs0 (n0 : Int) {e : AV} {l : List Fl} {r : Option Int} {H : AH} (h : Chain H e l r) (hne : e ≠ .nilIface) :
    ACall Tryd.prog 52 [e, .iface 61 (.int .i64 n0), .bool true] H (fun v H' => v = .bool (decide (r = some n0)) ∧ H' = H) := by
  refine acall_enter fits52 (by simp) (by simp) fun hok => ?_
  simp (disch := first | omega | (simp; done) | assumption) [wr64, wrU8, wrU64, Nat.add_assoc, -getElem?_pos, List.getElem?_cons_zero, List.getElem?_cons_succ, ic52, rs52]
  refine iwp_loop (IsI n0 H r) l.length ⟨rfl, e, l, rfl, h, hne, by simp, by simp, by simp⟩ ?_
  rintro k tm _ ⟨rfl, e, l, rfl, h, hne, h0, h1, h2⟩
  cases h with
  | nil => exact absurd rfl hne
  | num n =>
    simp (disch := first | omega | (simp; done) | assumption) [wr64, wrU8, wrU64, Nat.add_assoc, -getElem?_pos, List.getElem?_cons_zero, List.getElem?_cons_succ, h0, h1, h2, tasiA]
    repeat' (first | (refine Fork3.ndec (fun hh => ?_) (fun hh => ?_) <;> (first | (exfalso; omega) | simp (disch := first | omega | (simp; done) | assumption) [*, wr64, wrU8, wrU64, Nat.add_assoc, -getElem?_pos, List.getElem?_cons_zero, List.getElem?_cons_succ, tasiA])) | (refine Fork3.dec (fun hh => ?_) (fun hh => ?_) <;> (first | (exfalso; omega) | simp (disch := first | omega | (simp; done) | assumption) [*, wr64, wrU8, wrU64, Nat.add_assoc, -getElem?_pos, List.getElem?_cons_zero, List.getElem?_cons_succ, tasiA])) | (refine Fork3.intro (fun hh => ?_) (fun hh => ?_) <;> (try simp at hh) <;> (first | (exfalso; omega) | simp (disch := first | omega | (simp; done) | assumption) [*, wr64, wrU8, wrU64, Nat.add_assoc, -getElem?_pos, List.getElem?_cons_zero, List.getElem?_cons_succ, tasiA])) | (refine Fork3.ite (fun hh => ?_) (fun hh => ?_) <;> (first | (exfalso; omega) | simp (disch := first | omega | (simp; done) | assumption) [*, wr64, wrU8, wrU64, Nat.add_assoc, -getElem?_pos, List.getElem?_cons_zero, List.getElem?_cons_succ, tasiA])) | (refine Try.guard (by first | assumption | omega | (simp; omega) | (simp [*]; omega)) ?_; simp (disch := first | omega | (simp; done) | assumption) [*, wr64, wrU8, wrU64, Nat.add_assoc, -getElem?_pos, List.getElem?_cons_zero, List.getElem?_cons_succ, tasiA]) | (refine Try.guardn (by first | assumption | omega | (simp; omega) | (simp [*]; omega)) ?_; simp (disch := first | omega | (simp; done) | assumption) [*, wr64, wrU8, wrU64, Nat.add_assoc, -getElem?_pos, List.getElem?_cons_zero, List.getElem?_cons_succ, tasiA]))
    all_goals (first | (exfalso; omega) | ((repeat (first | exact AH.keepsAll_refl _ | refine keeps_set hok ?_ (by first | omega | (simp; done) | (simp; omega)) | refine keeps_new hok ?_ (by first | omega | (simp; done) | (simp; omega)))); done) | (refine ⟨by simp_all, by repeat (first | exact AH.keepsAll_refl _ | refine keeps_set hok ?_ (by first | omega | (simp; done) | (simp; omega)) | refine keeps_new hok ?_ (by first | omega | (simp; done) | (simp; omega)))⟩))
  | @fault f e l r b0 b1 b2 h =>
    simp (disch := first | omega | (simp; done) | assumption) [wr64, wrU8, wrU64, Nat.add_assoc, -getElem?_pos, List.getElem?_cons_zero, List.getElem?_cons_succ, h0, h1, h2, tasiA]
    repeat' (first | (refine Fork3.ndec (fun hh => ?_) (fun hh => ?_) <;> (first | (exfalso; omega) | simp (disch := first | omega | (simp; done) | assumption) [*, wr64, wrU8, wrU64, Nat.add_assoc, -getElem?_pos, List.getElem?_cons_zero, List.getElem?_cons_succ, tasiA])) | (refine Fork3.dec (fun hh => ?_) (fun hh => ?_) <;> (first | (exfalso; omega) | simp (disch := first | omega | (simp; done) | assumption) [*, wr64, wrU8, wrU64, Nat.add_assoc, -getElem?_pos, List.getElem?_cons_zero, List.getElem?_cons_succ, tasiA])) | (refine Fork3.intro (fun hh => ?_) (fun hh => ?_) <;> (try simp at hh) <;> (first | (exfalso; omega) | simp (disch := first | omega | (simp; done) | assumption) [*, wr64, wrU8, wrU64, Nat.add_assoc, -getElem?_pos, List.getElem?_cons_zero, List.getElem?_cons_succ, tasiA])) | (refine Fork3.ite (fun hh => ?_) (fun hh => ?_) <;> (first | (exfalso; omega) | simp (disch := first | omega | (simp; done) | assumption) [*, wr64, wrU8, wrU64, Nat.add_assoc, -getElem?_pos, List.getElem?_cons_zero, List.getElem?_cons_succ, tasiA])) | (refine Try.guard (by first | assumption | omega | (simp; omega) | (simp [*]; omega)) ?_; simp (disch := first | omega | (simp; done) | assumption) [*, wr64, wrU8, wrU64, Nat.add_assoc, -getElem?_pos, List.getElem?_cons_zero, List.getElem?_cons_succ, tasiA]) | (refine Try.guardn (by first | assumption | omega | (simp; omega) | (simp [*]; omega)) ?_; simp (disch := first | omega | (simp; done) | assumption) [*, wr64, wrU8, wrU64, Nat.add_assoc, -getElem?_pos, List.getElem?_cons_zero, List.getElem?_cons_succ, tasiA]))
    refine CallJ.val (mr_unwrap _) (FUnwrap b2) ?_
    cases h with
    | nil =>
      simp (disch := first | omega | (simp; done) | assumption) [wr64, wrU8, wrU64, Nat.add_assoc, -getElem?_pos, List.getElem?_cons_zero, List.getElem?_cons_succ, h0, h1, h2, tasiA]
      first | done | ((repeat (first | exact AH.keepsAll_refl _ | refine keeps_set hok ?_ (by first | omega | (simp; done) | (simp; omega)) | refine keeps_new hok ?_ (by first | omega | (simp; done) | (simp; omega)))); done)
    | num n =>
      simp (disch := first | omega | (simp; done) | assumption) [wr64, wrU8, wrU64, Nat.add_assoc, -getElem?_pos, List.getElem?_cons_zero, List.getElem?_cons_succ, h0, h1, h2, tasiA]
      exact ⟨rfl, _, [], rfl, .num n, by simp, by simp, by simp [h1], by simp [h2]⟩
    | @fault f2 e2 l2 r c0 c1 c2 h3 =>
      simp (disch := first | omega | (simp; done) | assumption) [wr64, wrU8, wrU64, Nat.add_assoc, -getElem?_pos, List.getElem?_cons_zero, List.getElem?_cons_succ, h0, h1, h2, tasiA]
      exact ⟨l2.length + 1, by simp, rfl, _, f2 :: l2, rfl, .fault c0 c1 c2 h3, by simp, by simp, by simp [h1], by simp [h2]⟩
theorem EIs (n0 : Int) {e : AV} {l : List Fl} {r : Option Int} {H : AH} (h : Chain H e l r) :
    ACall Tryd.prog 36 [e, .iface 61 (.int .i64 n0)] H (fun v H' => v = .bool (decide (r = some n0)) ∧ H' = H) := by
  refine acall_enter fits36 (by simp) (by simp) fun hok => ?_
  have h' := h
  cases h with
  | nil =>
    simp (disch := first | omega | (simp; done) | assumption) [wr64, wrU8, wrU64, Nat.add_assoc, -getElem?_pos, List.getElem?_cons_zero, List.getElem?_cons_succ, ic36, rs36]
    first | done | ((repeat (first | exact AH.keepsAll_refl _ | refine keeps_set hok ?_ (by first | omega | (simp; done) | (simp; omega)) | refine keeps_new hok ?_ (by first | omega | (simp; done) | (simp; omega)))); done)
  | num n =>
    simp (disch := first | omega | (simp; done) | assumption) [wr64, wrU8, wrU64, Nat.add_assoc, -getElem?_pos, List.getElem?_cons_zero, List.getElem?_cons_succ, ic36, rs36]
    refine CallX.val (x_typeOf_E _) ?_
    simp (disch := first | omega | (simp; done) | assumption) [wr64, wrU8, wrU64, Nat.add_assoc, -getElem?_pos, List.getElem?_cons_zero, List.getElem?_cons_succ, ]
    refine CallJ.xval (mr_comparable _) x_comparable ?_
    simp (disch := first | omega | (simp; done) | assumption) [wr64, wrU8, wrU64, Nat.add_assoc, -getElem?_pos, List.getElem?_cons_zero, List.getElem?_cons_succ, ]
    refine CallW.val (EIs0 n0 h' (by simp)) ?_
    simp (disch := first | omega | (simp; done) | assumption) [wr64, wrU8, wrU64, Nat.add_assoc, -getElem?_pos, List.getElem?_cons_zero, List.getElem?_cons_succ, ]
    first | done | ((repeat (first | exact AH.keepsAll_refl _ | refine keeps_set hok ?_ (by first | omega | (simp; done) | (simp; omega)) | refine keeps_new hok ?_ (by first | omega | (simp; done) | (simp; omega)))); done)
  | fault b0 b1 b2 h =>
    simp (disch := first | omega | (simp; done) | assumption) [wr64, wrU8, wrU64, Nat.add_assoc, -getElem?_pos, List.getElem?_cons_zero, List.getElem?_cons_succ, ic36, rs36]
    refine CallX.val (x_typeOf_E _) ?_
    simp (disch := first | omega | (simp; done) | assumption) [wr64, wrU8, wrU64, Nat.add_assoc, -getElem?_pos, List.getElem?_cons_zero, List.getElem?_cons_succ, ]
    refine CallJ.xval (mr_comparable _) x_comparable ?_
    simp (disch := first | omega | (simp; done) | assumption) [wr64, wrU8, wrU64, Nat.add_assoc, -getElem?_pos, List.getElem?_cons_zero, List.getElem?_cons_succ, ]
    refine CallW.val (EIs0 n0 h' (by simp)) ?_
    simp (disch := first | omega | (simp; done) | assumption) [wr64, wrU8, wrU64, Nat.add_assoc, -getElem?_pos, List.getElem?_cons_zero, List.getElem?_cons_succ, ]
    first | done | ((repeat (first | exact AH.keepsAll_refl _ | refine keeps_set hok ?_ (by first | omega | (simp; done) | (simp; omega)) | refine keeps_new hok ?_ (by first | omega | (simp; done) | (simp; omega)))); done)

/-! ### errors.As to a number -/
theorem keeps_set2 {H H2 : AH} {c : Nat} {o : Option AObj} (h : H.keepsAll H2) : (H.set c o).keepsAll (H2.set c o) := fun b q hq => by
  by_cases e : b = c
  · subst e; rw [AH.set_same] at hq ⊢; exact hq
  · rw [AH.set_ne _ _ e] at hq ⊢; exact h b q hq
theorem store_one {H : AH} {c : Nat} {t : TypeId} {x0 v : AV} (h : H.at_ c = some (.cells false t [x0])) (hv : v.one = true) : storeC H c 0 [v] = some (H.set c (some (.cells false t [v]))) := by
  unfold storeC
  rw [h]
  simp [hv, setRange]
abbrev tE : Nat := 61
abbrev tPE : Nat := 80
abbrev tF : Nat := 74
abbrev tPF : Nat := 76
abbrev tV : Nat := 97
abbrev tErr : Nat := 25
def boxE (H : AH) (t vb : Nat) : AH := H.new (.cells false tV [hd t, .ptr vb 0, .int .u64 150])
def AsI (c vb : Nat) (tgt : AV) (H : AH) (r : Option Int) (k : Nat) (tm : Tms) (H' : AH) : Prop :=
  H' = boxE H tPE vb ∧ ∃ e l, k = l.length ∧ Chain H e l r ∧ e ≠ .nilIface ∧ tm 0 = e ∧ tm 1 = tgt ∧ tm 3 = rt tE ∧ tm 6 = .ptr H.next 0
theorem as_E {c vb : Nat} {x0 : AV} {tgt e : AV} {l : List Fl} {r : Option Int} {H : AH} (hc : H.at_ c = some (.cells false tE [x0])) (hv : loadC H vb 0 none = some (.ptr c 0)) (h : Chain H e l r) (hne : e ≠ .nilIface) :
    ACall Tryd.prog 50 [e, tgt, val tPE vb 150, rt tE] H (fun v H' => v = .bool r.isSome ∧ H' = (match r with | some n => H.set c (some (.cells false tE [.int .i64 n])) | none => H)) := by
  have key : ∀ (Hf : AH), (∀ n, r = some n → Hf = H.set c (some (.cells false tE [.int .i64 n]))) → (r = none → Hf = H) → H.ok → IWP Tryd.prog ic50 (fnPost rs50 fun v H' => v = .bool r.isSome ∧ Hf.keepsAll H') (tm0 [e, tgt, val tPE vb 150, rt tE]) H := by
    intro Hf hf1 hf2 hok
    have hcn := hok _ _ hc
    simp (disch := first | omega | (simp; done) | assumption) [wr64, wrU8, wrU64, Nat.add_assoc, -getElem?_pos, List.getElem?_cons_zero, List.getElem?_cons_succ, ic50, rs50]
    refine iwp_loop (AsI c vb tgt H r) l.length ⟨rfl, e, l, rfl, h, hne, by simp, by simp, by simp, by simp⟩ ?_
    rintro k tm _ ⟨rfl, e, l, rfl, h, hne, h0, h1, h3, h6⟩
    have hbk : H.keepsAll (boxE H tPE vb) := keeps_new hok (AH.keepsAll_refl _) (Nat.le_refl _)
    cases h with
    | nil => exact absurd rfl hne
    | num n =>
      simp (disch := first | omega | (simp; done) | assumption) [wr64, wrU8, wrU64, Nat.add_assoc, -getElem?_pos, List.getElem?_cons_zero, List.getElem?_cons_succ, h0, h1, h3, h6, tasiA]
      refine CallX.val (x_typeOf_E _) ?_
      simp (disch := first | omega | (simp; done) | assumption) [wr64, wrU8, wrU64, Nat.add_assoc, -getElem?_pos, List.getElem?_cons_zero, List.getElem?_cons_succ, h0, h1, h3, h6]
      refine CallJ.xval (mr_assignable _) (x_assignable tE tE true (by simp)) ?_
      simp (disch := first | omega | (simp; done) | assumption) [wr64, wrU8, wrU64, Nat.add_assoc, -getElem?_pos, List.getElem?_cons_zero, List.getElem?_cons_succ, h0, h1, h3, h6]
      have hld : loadC (boxE H tPE vb) H.next 0 (some 3) = some (val tPE vb 150) := by simp [boxE]
      refine Try.intro hld ?_
      simp (disch := first | omega | (simp; done) | assumption) [wr64, wrU8, wrU64, Nat.add_assoc, -getElem?_pos, List.getElem?_cons_zero, List.getElem?_cons_succ, h0, h1, h3, h6]
      refine CallX.val (x_velem_E vb c (loadC_keeps hbk hv)) ?_
      simp (disch := first | omega | (simp; done) | assumption) [wr64, wrU8, wrU64, Nat.add_assoc, -getElem?_pos, List.getElem?_cons_zero, List.getElem?_cons_succ, h0, h1, h3, h6]
      refine CallX.val (x_valueOf_E n) ?_
      simp (disch := first | omega | (simp; done) | assumption) [wr64, wrU8, wrU64, Nat.add_assoc, -getElem?_pos, List.getElem?_cons_zero, List.getElem?_cons_succ, h0, h1, h3, h6]
      refine CallX.val (x_set_E c _ n (H2 := ((boxE H tPE vb).new (.cells false tE [.int .i64 n])).set c (some (.cells false tE [.int .i64 n]))) (by simp) (store_one (keeps_new hok hbk (by simp [boxE]) _ _ hc) rfl)) ?_
      simp (disch := first | omega | (simp; done) | assumption) [wr64, wrU8, wrU64, Nat.add_assoc, -getElem?_pos, List.getElem?_cons_zero, List.getElem?_cons_succ, h0, h1, h3, h6]
      rw [hf1 n rfl]
      refine keeps_set2 (keeps_new hok hbk (by simp [boxE]))
    | @fault f e l r b0 b1 b2 h =>
      simp (disch := first | omega | (simp; done) | assumption) [wr64, wrU8, wrU64, Nat.add_assoc, -getElem?_pos, List.getElem?_cons_zero, List.getElem?_cons_succ, h0, h1, h3, h6, tasiA]
      refine CallX.val (x_typeOf_F _ _) ?_
      simp (disch := first | omega | (simp; done) | assumption) [wr64, wrU8, wrU64, Nat.add_assoc, -getElem?_pos, List.getElem?_cons_zero, List.getElem?_cons_succ, h0, h1, h3, h6]
      refine CallJ.xval (mr_assignable _) (x_assignable tF tE false (by simp)) ?_
      simp (disch := first | omega | (simp; done) | assumption) [wr64, wrU8, wrU64, Nat.add_assoc, -getElem?_pos, List.getElem?_cons_zero, List.getElem?_cons_succ, h0, h1, h3, h6, tasiA]
      refine CallJ.val (mr_unwrap _) (FUnwrap (loadC_keeps hbk b2)) ?_
      cases h with
      | nil =>
        simp (disch := first | omega | (simp; done) | assumption) [wr64, wrU8, wrU64, Nat.add_assoc, -getElem?_pos, List.getElem?_cons_zero, List.getElem?_cons_succ, h0, h1, h3, h6]
        rw [hf2 rfl]
        exact hbk
      | num n =>
        simp (disch := first | omega | (simp; done) | assumption) [wr64, wrU8, wrU64, Nat.add_assoc, -getElem?_pos, List.getElem?_cons_zero, List.getElem?_cons_succ, h0, h1, h3, h6]
        exact ⟨rfl, _, [], rfl, .num n, by simp, by simp, by simp [h1], by simp [h3], by simp [h6]⟩
      | @fault f2 e2 l2 r c0 c1 c2 h4 =>
        simp (disch := first | omega | (simp; done) | assumption) [wr64, wrU8, wrU64, Nat.add_assoc, -getElem?_pos, List.getElem?_cons_zero, List.getElem?_cons_succ, h0, h1, h3, h6]
        exact ⟨l2.length + 1, by simp, rfl, _, f2 :: l2, rfl, .fault c0 c1 c2 h4, by simp, by simp, by simp [h1], by simp [h3], by simp [h6]⟩
  cases r with
  | none => exact acall_enter fits50 (by simp) (by simp) (key H (fun n hn => by cases hn) (fun _ => rfl))
  | some n =>
    refine acall_set (.bool _) hc rfl (fun j w hr => ⟨.cells #[.int .i64 n] tE (0, 0), orel_one (.int _ _)⟩) (acall_ok (bodyP_of fits50) fun hok => acall_of fits50 (by simp) (key _ (fun m hm => by cases hm; rfl) (fun hh => by cases hh) hok))

def AsJ (e : AV) (vb : Nat) (tgt : AV) (H : AH) (k : Nat) (tm : Tms) (H' : AH) : Prop :=
  H' = boxE H tPF vb ∧ tm 0 = e ∧ tm 1 = tgt ∧ tm 3 = rt tF ∧ tm 6 = .ptr H.next 0
theorem as_F {c vb : Nat} {x0 : AV} {tgt : AV} {f : Fl} {H : AH} {p0 : AObj} (hc : H.at_ c = some (.cells false tF [x0])) (hv : loadC H vb 0 none = some (.ptr c 0)) (hp : H.at_ f.b = some p0) :
    ACall Tryd.prog 50 [.iface 74 (.ptr f.b 0), tgt, val tPF vb 150, rt tF] H (fun v H' => v = .bool true ∧ H' = H.set c (some (.cells false tF [.ptr f.b 0]))) := by
  refine acall_set (.bool _) hc rfl (fun j w hr => ?_) (acall_ok (bodyP_of fits50) fun hok => acall_of fits50 (by simp) ?_)
  · obtain ⟨d, x, hd, _⟩ := hr.obj _ _ hp
    exact ⟨.cells #[.pointer (some ⟨d, 0, none⟩)] tF (0, 0), orel_one (.ptr hd)⟩
  · have hcn := hok _ _ hc
    simp (disch := first | omega | (simp; done) | assumption) [wr64, wrU8, wrU64, Nat.add_assoc, -getElem?_pos, List.getElem?_cons_zero, List.getElem?_cons_succ, ic50, rs50]
    refine iwp_loop (AsJ (.iface 74 (.ptr f.b 0)) vb tgt H) 0 ⟨rfl, by simp, by simp, by simp, by simp⟩ ?_
    rintro k tm _ ⟨rfl, h0, h1, h3, h6⟩
    have hbk : H.keepsAll (boxE H tPF vb) := keeps_new hok (AH.keepsAll_refl _) (Nat.le_refl _)
    simp (disch := first | omega | (simp; done) | assumption) [wr64, wrU8, wrU64, Nat.add_assoc, -getElem?_pos, List.getElem?_cons_zero, List.getElem?_cons_succ, h0, h1, h3, h6, tasiA]
    refine CallX.val (x_typeOf_F _ _) ?_
    simp (disch := first | omega | (simp; done) | assumption) [wr64, wrU8, wrU64, Nat.add_assoc, -getElem?_pos, List.getElem?_cons_zero, List.getElem?_cons_succ, h0, h1, h3, h6]
    refine CallJ.xval (mr_assignable _) (x_assignable tF tF true (by simp)) ?_
    simp (disch := first | omega | (simp; done) | assumption) [wr64, wrU8, wrU64, Nat.add_assoc, -getElem?_pos, List.getElem?_cons_zero, List.getElem?_cons_succ, h0, h1, h3, h6]
    have hld : loadC (boxE H tPF vb) H.next 0 (some 3) = some (val tPF vb 150) := by simp [boxE]
    refine Try.intro hld ?_
    simp (disch := first | omega | (simp; done) | assumption) [wr64, wrU8, wrU64, Nat.add_assoc, -getElem?_pos, List.getElem?_cons_zero, List.getElem?_cons_succ, h0, h1, h3, h6]
    refine CallX.val (x_velem_F vb c (loadC_keeps hbk hv)) ?_
    simp (disch := first | omega | (simp; done) | assumption) [wr64, wrU8, wrU64, Nat.add_assoc, -getElem?_pos, List.getElem?_cons_zero, List.getElem?_cons_succ, h0, h1, h3, h6]
    refine CallX.val (x_valueOf_F _ _) ?_
    simp (disch := first | omega | (simp; done) | assumption) [wr64, wrU8, wrU64, Nat.add_assoc, -getElem?_pos, List.getElem?_cons_zero, List.getElem?_cons_succ, h0, h1, h3, h6]
    refine CallX.val (x_set_F f.b c _ 0 (by simp) (store_one (keeps_new hok hbk (by simp [boxE]) _ _ hc) rfl)) ?_
    simp (disch := first | omega | (simp; done) | assumption) [wr64, wrU8, wrU64, Nat.add_assoc, -getElem?_pos, List.getElem?_cons_zero, List.getElem?_cons_succ, h0, h1, h3, h6]
    exact keeps_set2 (keeps_new hok hbk (by simp [boxE]))
theorem as_F_num {vb : Nat} {tgt : AV} {n : Int} {H : AH} :
    ACall Tryd.prog 50 [.iface 61 (.int .i64 n), tgt, val tPF vb 150, rt tF] H (fun v H' => v = .bool false ∧ H' = H) := by
  refine acall_enter fits50 (by simp) (by simp) fun hok => ?_
  simp (disch := first | omega | (simp; done) | assumption) [wr64, wrU8, wrU64, Nat.add_assoc, -getElem?_pos, List.getElem?_cons_zero, List.getElem?_cons_succ, ic50, rs50]
  refine iwp_loop (AsJ (.iface 61 (.int .i64 n)) vb tgt H) 0 ⟨rfl, by simp, by simp, by simp, by simp⟩ ?_
  rintro k tm _ ⟨rfl, h0, h1, h3, h6⟩
  have hbk : H.keepsAll (boxE H tPF vb) := keeps_new hok (AH.keepsAll_refl _) (Nat.le_refl _)
  simp (disch := first | omega | (simp; done) | assumption) [wr64, wrU8, wrU64, Nat.add_assoc, -getElem?_pos, List.getElem?_cons_zero, List.getElem?_cons_succ, h0, h1, h3, h6, tasiA]
  refine CallX.val (x_typeOf_E _) ?_
  simp (disch := first | omega | (simp; done) | assumption) [wr64, wrU8, wrU64, Nat.add_assoc, -getElem?_pos, List.getElem?_cons_zero, List.getElem?_cons_succ, h0, h1, h3, h6]
  refine CallJ.xval (mr_assignable _) (x_assignable tE tF false (by simp)) ?_
  simp (disch := first | omega | (simp; done) | assumption) [wr64, wrU8, wrU64, Nat.add_assoc, -getElem?_pos, List.getElem?_cons_zero, List.getElem?_cons_succ, h0, h1, h3, h6, tasiA]
  exact hbk
/-! ### errors.As -/
theorem chain_live {H : AH} {f : Fl} {e : AV} {l : List Fl} {r : Option Int} (h : Chain H e (f :: l) r) : e = .iface 74 (.ptr f.b 0) ∧ ∃ p0, H.at_ f.b = some p0 := by
  cases h with
  | fault h0 h1 h2 h =>
    refine ⟨rfl, ?_⟩
    cases hb : H.at_ f.b with
    | none => unfold loadC at h0; rw [hb] at h0; cases h0
    | some p0 => exact ⟨p0, rfl⟩
theorem As_E {c : Nat} {x0 : AV} {e : AV} {l : List Fl} {r : Option Int} {H : AH} (hE : loadC H 0 0 none = some (rt tErr)) (hc : H.at_ c = some (.cells false tE [x0])) (h : Chain H e l r) :
    ACall Tryd.prog 35 [e, .iface 80 (.ptr c 0)] H (fun v H' => v = .bool r.isSome ∧ H' = (match r with | some n => H.set c (some (.cells false tE [.int .i64 n])) | none => H)) := by
  have key : ∀ (Hf : AH), (∀ n, r = some n → Hf = H.set c (some (.cells false tE [.int .i64 n]))) → (r = none → Hf = H) → H.ok → IWP Tryd.prog ic35 (fnPost rs35 fun v H' => v = .bool r.isSome ∧ Hf.keepsAll H') (tm0 [e, .iface 80 (.ptr c 0)]) H := by
    intro Hf hf1 hf2 hok
    have hcn := hok _ _ hc
    by_cases hne : e = .nilIface
    · subst hne
      cases h
      rw [hf2 rfl]
      simp (disch := first | omega | (simp; done) | assumption) [wr64, wrU8, wrU64, Nat.add_assoc, -getElem?_pos, List.getElem?_cons_zero, List.getElem?_cons_succ, ic35, rs35]
      exact AH.keepsAll_refl _
    · have hnil : aeq1 (.iface true []) e .nilIface = some false := by cases h with
        | nil => exact absurd rfl hne
        | _ => rfl
      obtain ⟨t1, v1, he⟩ : ∃ t1 v1, e = .iface t1 v1 := by cases h with
        | nil => exact absurd rfl hne
        | _ => exact ⟨_, _, rfl⟩
      have hk1 : H.keepsAll (H.new (.cells false tPE [.ptr c 0])) := keeps_new hok (AH.keepsAll_refl _) (Nat.le_refl _)
      subst he
      simp (disch := first | omega | (simp; done) | assumption) [wr64, wrU8, wrU64, Nat.add_assoc, -getElem?_pos, List.getElem?_cons_zero, List.getElem?_cons_succ, ic35, rs35]
      refine CallX.val (x_valueOf_PE c 0) ?_
      simp (disch := first | omega | (simp; done) | assumption) [wr64, wrU8, wrU64, Nat.add_assoc, -getElem?_pos, List.getElem?_cons_zero, List.getElem?_cons_succ, ]
      refine CallX.val (x_type tPE _ (by simp)) ?_
      simp (disch := first | omega | (simp; done) | assumption) [wr64, wrU8, wrU64, Nat.add_assoc, -getElem?_pos, List.getElem?_cons_zero, List.getElem?_cons_succ, ]
      refine CallJ.xval (mr_kind tPE) (x_kind tPE 22 (by simp)) ?_
      simp (disch := first | omega | (simp; done) | assumption) [wr64, wrU8, wrU64, Nat.add_assoc, -getElem?_pos, List.getElem?_cons_zero, List.getElem?_cons_succ, ]
      refine CallX.val (x_isNil tPE _ c 0 (by simp) (by simp)) ?_
      simp (disch := first | omega | (simp; done) | assumption) [wr64, wrU8, wrU64, Nat.add_assoc, -getElem?_pos, List.getElem?_cons_zero, List.getElem?_cons_succ, ]
      refine CallJ.xval (mr_elem _) (x_elem tPE tE (by simp)) ?_
      simp (disch := first | omega | (simp; done) | assumption) [wr64, wrU8, wrU64, Nat.add_assoc, -getElem?_pos, List.getElem?_cons_zero, List.getElem?_cons_succ, ]
      refine CallJ.xval (mr_kind tE) (x_kind tE 2 (by simp)) ?_
      simp (disch := first | omega | (simp; done) | assumption) [wr64, wrU8, wrU64, Nat.add_assoc, -getElem?_pos, List.getElem?_cons_zero, List.getElem?_cons_succ, ]
      have hE1 := hE
      simp only [loadC] at hE1
      have h0n : ¬ (0 = H.next) := by omega
      simp (disch := first | omega | (simp; done) | assumption) [wr64, wrU8, wrU64, Nat.add_assoc, -getElem?_pos, List.getElem?_cons_zero, List.getElem?_cons_succ, h0n]
      refine Try.intro hE1 ?_
      simp (disch := first | omega | (simp; done) | assumption) [wr64, wrU8, wrU64, Nat.add_assoc, -getElem?_pos, List.getElem?_cons_zero, List.getElem?_cons_succ, ]
      refine CallJ.xval (mr_implements _) (x_implements tE (by simp)) ?_
      simp (disch := first | omega | (simp; done) | assumption) [wr64, wrU8, wrU64, Nat.add_assoc, -getElem?_pos, List.getElem?_cons_zero, List.getElem?_cons_succ, ]
      have hc1 : ¬ (c = H.next) := by omega
      have hc2 : ¬ (c = H.next + 1) := by omega
      refine CallW.of (as_E (c := c) (vb := H.next) (x0 := x0) (l := l) (r := r) (by simp [hc, hc1, hc2]) (by simp) (Chain.keeps ?_ h) hne) ?_
      · ((repeat (first | exact AH.keepsAll_refl _ | refine keeps_set hok ?_ (by first | omega | (simp; done) | (simp; omega)) | refine keeps_new hok ?_ (by first | omega | (simp; done) | (simp; omega)))); done)
      · rintro v H2 ⟨rfl, rfl⟩
        simp (disch := first | omega | (simp; done) | assumption) [wr64, wrU8, wrU64, Nat.add_assoc, -getElem?_pos, List.getElem?_cons_zero, List.getElem?_cons_succ, ]
        cases r with
        | none => rw [hf2 rfl]; ((repeat (first | exact AH.keepsAll_refl _ | refine keeps_set hok ?_ (by first | omega | (simp; done) | (simp; omega)) | refine keeps_new hok ?_ (by first | omega | (simp; done) | (simp; omega)))); done)
        | some n => rw [hf1 n rfl]; refine keeps_set2 ?_; ((repeat (first | exact AH.keepsAll_refl _ | refine keeps_set hok ?_ (by first | omega | (simp; done) | (simp; omega)) | refine keeps_new hok ?_ (by first | omega | (simp; done) | (simp; omega)))); done)
  cases r with
  | none => exact acall_enter fits35 (by simp) (by simp) (key H (fun n hn => by cases hn) (fun _ => rfl))
  | some n =>
    refine acall_set (.bool _) hc rfl (fun j w hr => ⟨.cells #[.int .i64 n] tE (0, 0), orel_one (.int _ _)⟩) (acall_ok (bodyP_of fits35) fun hok => acall_of fits35 (by simp) (key _ (fun m hm => by cases hm; rfl) (fun hh => by cases hh) hok))
end Go.Proofs.YtcgkadfgojmmlaaDoor.EErr

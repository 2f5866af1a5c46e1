/- errors.As to a Fault; what fault.New, fault.Wrap, fault.Num and the laws' own Is answer. -/
import Derived.Test.YtcgkadfgojmmlaaDoorEErr
set_option linter.unusedVariables false
set_option linter.unusedSimpArgs false
set_option maxRecDepth 10000
set_option maxHeartbeats 4000000
namespace Go.Proofs.YtcgkadfgojmmlaaDoor.EErr
open Go Go.RowKit Go.Proofs.YtcgkadfgojmmlaaDoor Go.Proofs.YtcgkadfgojmmlaaDoor.Abs Go.Proofs.YtcgkadfgojmmlaaDoor.Ic Go.Proofs.YtcgkadfgojmmlaaDoor.EAs
theorem As_nil {t : AV} {H : AH} : ACall Tryd.prog 35 [.nilIface, t] H (fun v H' => v = .bool false ∧ H' = H) := by
  refine acall_enter fits35 (by simp) (by simp) fun hok => ?_
  simp (disch := first | omega | (simp; done) | assumption) [wr64, wrU8, wrU64, Nat.add_assoc, -getElem?_pos, List.getElem?_cons_zero, List.getElem?_cons_succ, ic35, rs35]
  exact AH.keepsAll_refl _
theorem As_F_key {c : Nat} {x0 : AV} {t1 : TypeId} {v1 : AV} {r : Bool} {H Hf : AH} {G : AH → AH} (hE : loadC H 0 0 none = some (rt tErr)) (hc : H.at_ c = some (.cells false tF [x0]))
    (has : ∀ Hx : AH, Hx.at_ c = some (.cells false tF [x0]) → H.keepsAll Hx → loadC Hx H.next 0 none = some (.ptr c 0) → ACall Tryd.prog 50 [.iface t1 v1, .iface 76 (.ptr c 0), val tPF H.next 150, rt tF] Hx (fun v H' => v = .bool r ∧ H' = G Hx))
    (hG : ∀ Hx, H.keepsAll Hx → Hf.keepsAll (G Hx)) (hok : H.ok) : IWP Tryd.prog ic35 (fnPost rs35 fun v H' => v = .bool r ∧ Hf.keepsAll H') (tm0 [.iface t1 v1, .iface 76 (.ptr c 0)]) H := by
  have hcn := hok _ _ hc
  have hk1 : H.keepsAll (H.new (.cells false tPF [.ptr c 0])) := keeps_new hok (AH.keepsAll_refl _) (Nat.le_refl _)
  simp (disch := first | omega | (simp; done) | assumption) [wr64, wrU8, wrU64, Nat.add_assoc, -getElem?_pos, List.getElem?_cons_zero, List.getElem?_cons_succ, ic35, rs35]
  refine CallX.val (x_valueOf_PF c 0) ?_
  simp (disch := first | omega | (simp; done) | assumption) [wr64, wrU8, wrU64, Nat.add_assoc, -getElem?_pos, List.getElem?_cons_zero, List.getElem?_cons_succ, ]
  refine CallX.val (x_type tPF _ (by simp)) ?_
  simp (disch := first | omega | (simp; done) | assumption) [wr64, wrU8, wrU64, Nat.add_assoc, -getElem?_pos, List.getElem?_cons_zero, List.getElem?_cons_succ, ]
  refine CallJ.xval (mr_kind tPF) (x_kind tPF 22 (by simp)) ?_
  simp (disch := first | omega | (simp; done) | assumption) [wr64, wrU8, wrU64, Nat.add_assoc, -getElem?_pos, List.getElem?_cons_zero, List.getElem?_cons_succ, ]
  refine CallX.val (x_isNil tPF _ c 0 (by simp) (by simp)) ?_
  simp (disch := first | omega | (simp; done) | assumption) [wr64, wrU8, wrU64, Nat.add_assoc, -getElem?_pos, List.getElem?_cons_zero, List.getElem?_cons_succ, ]
  refine CallJ.xval (mr_elem _) (x_elem tPF tF (by simp)) ?_
  simp (disch := first | omega | (simp; done) | assumption) [wr64, wrU8, wrU64, Nat.add_assoc, -getElem?_pos, List.getElem?_cons_zero, List.getElem?_cons_succ, ]
  refine CallJ.xval (mr_kind tF) (x_kind tF 22 (by simp)) ?_
  simp (disch := first | omega | (simp; done) | assumption) [wr64, wrU8, wrU64, Nat.add_assoc, -getElem?_pos, List.getElem?_cons_zero, List.getElem?_cons_succ, ]
  have hE1 := hE
  simp only [loadC] at hE1
  have h0n : ¬ (0 = H.next) := by omega
  simp (disch := first | omega | (simp; done) | assumption) [wr64, wrU8, wrU64, Nat.add_assoc, -getElem?_pos, List.getElem?_cons_zero, List.getElem?_cons_succ, h0n]
  refine Try.intro hE1 ?_
  simp (disch := first | omega | (simp; done) | assumption) [wr64, wrU8, wrU64, Nat.add_assoc, -getElem?_pos, List.getElem?_cons_zero, List.getElem?_cons_succ, ]
  refine CallJ.xval (mr_implements _) (x_implements tF (by simp)) ?_
  simp (disch := first | omega | (simp; done) | assumption) [wr64, wrU8, wrU64, Nat.add_assoc, -getElem?_pos, List.getElem?_cons_zero, List.getElem?_cons_succ, ]
  have hc1 : ¬ (c = H.next) := by omega
  have hc2 : ¬ (c = H.next + 1) := by omega
  refine CallW.of (has _ (by simp [hc, hc1, hc2]) ?_ (by simp)) ?_
  · ((repeat (first | exact AH.keepsAll_refl _ | refine keeps_set hok ?_ (by first | omega | (simp; done) | (simp; omega)) | refine keeps_new hok ?_ (by first | omega | (simp; done) | (simp; omega)))); done)
  · rintro v H2 ⟨rfl, rfl⟩
    simp (disch := first | omega | (simp; done) | assumption) [wr64, wrU8, wrU64, Nat.add_assoc, -getElem?_pos, List.getElem?_cons_zero, List.getElem?_cons_succ, ]
    refine hG _ ?_
    ((repeat (first | exact AH.keepsAll_refl _ | refine keeps_set hok ?_ (by first | omega | (simp; done) | (simp; omega)) | refine keeps_new hok ?_ (by first | omega | (simp; done) | (simp; omega)))); done)
theorem As_F {c : Nat} {x0 : AV} {f : Fl} {l : List Fl} {e : AV} {r : Option Int} {H : AH} (hE : loadC H 0 0 none = some (rt tErr)) (hc : H.at_ c = some (.cells false tF [x0])) (h : Chain H e (f :: l) r) :
    ACall Tryd.prog 35 [e, .iface 76 (.ptr c 0)] H (fun v H' => v = .bool true ∧ H' = H.set c (some (.cells false tF [.ptr f.b 0]))) := by
  obtain ⟨rfl, p0, hp⟩ := chain_live h
  refine acall_set (.bool _) hc rfl (fun j w hr => ?_) (acall_ok (bodyP_of fits35) fun hok => acall_of fits35 (by simp) ?_)
  · obtain ⟨d, x, hd, _⟩ := hr.obj _ _ hp
    exact ⟨.cells #[.pointer (some ⟨d, 0, none⟩)] tF (0, 0), orel_one (.ptr hd)⟩
  · exact As_F_key (G := fun Hx => Hx.set c (some (.cells false tF [.ptr f.b 0]))) hE hc (fun Hx h1 h2 h3 => as_F h1 h3 (h2 _ _ hp)) (fun Hx hk => keeps_set2 hk) hok
theorem As_F_num {c : Nat} {x0 : AV} {n : Int} {H : AH} (hE : loadC H 0 0 none = some (rt tErr)) (hc : H.at_ c = some (.cells false tF [x0])) :
    ACall Tryd.prog 35 [.iface 61 (.int .i64 n), .iface 76 (.ptr c 0)] H (fun v H' => v = .bool false ∧ H' = H) :=
  acall_enter fits35 (by simp) (by simp) fun hok => As_F_key (G := fun Hx => Hx) hE hc (fun Hx h1 h2 h3 => as_F_num) (fun Hx hk => hk) hok
/-- fault.New, fault.Wrap. -/
theorem ENew (op name : List UInt8) (n : Int) (H : AH) :
    ACall Tryd.prog 37 [.str op, .str name, .int .i64 n] H (fun v H' => if n = 0 then v = .nilIface ∧ H' = H else v = .iface 74 (.ptr H.next 0) ∧ H' = H.new (.cells false 78 [.str op, .str name, .iface 61 (.int .i64 n)])) := by
  refine acall_of fits37 (by simp) ?_
  by_cases hn : n = 0
  · simp (disch := first | omega | (simp; done) | assumption) [wr64, wrU8, wrU64, Nat.add_assoc, -getElem?_pos, List.getElem?_cons_zero, List.getElem?_cons_succ, ic37, rs37, hn]
  · simp (disch := first | omega | (simp; done) | assumption) [wr64, wrU8, wrU64, Nat.add_assoc, -getElem?_pos, List.getElem?_cons_zero, List.getElem?_cons_succ, ic37, rs37, hn]
theorem EWrap_nil (op name : List UInt8) (H : AH) : ACall Tryd.prog 40 [.str op, .str name, .nilIface] H (fun v H' => v = .nilIface ∧ H' = H) := by
  refine acall_of fits40 (by simp) ?_
  simp (disch := first | omega | (simp; done) | assumption) [wr64, wrU8, wrU64, Nat.add_assoc, -getElem?_pos, List.getElem?_cons_zero, List.getElem?_cons_succ, ic40, rs40]
theorem EWrap (op name : List UInt8) (t1 : TypeId) (v1 : AV) (H : AH) :
    ACall Tryd.prog 40 [.str op, .str name, .iface t1 v1] H (fun v H' => v = .iface 74 (.ptr H.next 0) ∧ H' = H.new (.cells false 78 [.str op, .str name, .iface t1 v1])) := by
  refine acall_of fits40 (by simp) ?_
  simp (disch := first | omega | (simp; done) | assumption) [wr64, wrU8, wrU64, Nat.add_assoc, -getElem?_pos, List.getElem?_cons_zero, List.getElem?_cons_succ, ic40, rs40]
/-- A new Fault around a chain. -/
theorem Chain.wrap {H : AH} (hok : H.ok) {op name : List UInt8} {e : AV} {l : List Fl} {r : Option Int} (h : Chain H e l r) : Chain (H.new (.cells false 78 [.str op, .str name, e])) (.iface 74 (.ptr H.next 0)) (⟨H.next, op, name⟩ :: l) r :=
  .fault (f := ⟨H.next, op, name⟩) (by simp) (by simp) (by simp) (h.keeps (keeps_new hok (AH.keepsAll_refl _) (Nat.le_refl _)))
/-- The laws' Is. -/
def isV (e : AV) (l : List Fl) (r : Option Int) (op name : List UInt8) (n : Int) : Bool := match e, l with
  | .nilIface, _ => decide (n = 0)
  | _, f :: _ => decide (n ≠ 0) && decide (f.op = op) && decide (f.name = name) && decide (r = some n)
  | _, _ => false
theorem ELawIs {e : AV} {l : List Fl} {r : Option Int} {H : AH} (op name : List UInt8) (n : Int) (hE : loadC H 0 0 none = some (rt tErr)) (h : Chain H e l r) :
    ACall Tryd.prog 17 [e, .str op, .str name, .int .i64 n] H (fun v H' => v = .bool (isV e l r op name n) ∧ H' = H) := by
  refine acall_enter fits17 (by simp) (by simp) fun hok => ?_
  have hk1 : H.keepsAll (H.new (.cells false tF [.pnil])) := keeps_new hok (AH.keepsAll_refl _) (Nat.le_refl _)
  have h' := h
  cases h with
  | nil =>
    simp (disch := first | omega | (simp; done) | assumption) [wr64, wrU8, wrU64, Nat.add_assoc, -getElem?_pos, List.getElem?_cons_zero, List.getElem?_cons_succ, ic17, rs17, isV]
    exact AH.keepsAll_refl _
  | num m =>
    by_cases hn : n = 0
    · simp (disch := first | omega | (simp; done) | assumption) [wr64, wrU8, wrU64, Nat.add_assoc, -getElem?_pos, List.getElem?_cons_zero, List.getElem?_cons_succ, ic17, rs17, isV, hn]
      exact hk1
    · simp (disch := first | omega | (simp; done) | assumption) [wr64, wrU8, wrU64, Nat.add_assoc, -getElem?_pos, List.getElem?_cons_zero, List.getElem?_cons_succ, ic17, rs17, isV, hn]
      refine CallW.val (As_F_num (c := H.next) (x0 := .pnil) (loadC_keeps hk1 hE) (by simp)) ?_
      simp (disch := first | omega | (simp; done) | assumption) [wr64, wrU8, wrU64, Nat.add_assoc, -getElem?_pos, List.getElem?_cons_zero, List.getElem?_cons_succ, ]
      exact hk1
  | @fault f e l r b0 b1 b2 h =>
    by_cases hn : n = 0
    · simp (disch := first | omega | (simp; done) | assumption) [wr64, wrU8, wrU64, Nat.add_assoc, -getElem?_pos, List.getElem?_cons_zero, List.getElem?_cons_succ, ic17, rs17, isV, hn]
      exact hk1
    · simp (disch := first | omega | (simp; done) | assumption) [wr64, wrU8, wrU64, Nat.add_assoc, -getElem?_pos, List.getElem?_cons_zero, List.getElem?_cons_succ, ic17, rs17, isV, hn]
      refine CallW.of (As_F (c := H.next) (x0 := .pnil) (loadC_keeps hk1 hE) (by simp) (h'.keeps hk1)) ?_
      rintro v H2 ⟨rfl, rfl⟩
      have hk2 : H.keepsAll ((H.new (.cells false tF [.pnil])).set H.next (some (.cells false tF [.ptr f.b 0]))) := keeps_set hok hk1 (Nat.le_refl _)
      have c0 := loadC_keeps hk2 b0
      have c1 := loadC_keeps hk2 b1
      simp only [loadC] at c0 c1
      simp (disch := first | omega | (simp; done) | assumption) [wr64, wrU8, wrU64, Nat.add_assoc, -getElem?_pos, List.getElem?_cons_zero, List.getElem?_cons_succ, ]
      refine Try.intro c0 ?_
      by_cases ho : f.op = op
      · simp (disch := first | omega | (simp; done) | assumption) [wr64, wrU8, wrU64, Nat.add_assoc, -getElem?_pos, List.getElem?_cons_zero, List.getElem?_cons_succ, ho]
        refine Try.intro c1 ?_
        by_cases hm : f.name = name
        · simp (disch := first | omega | (simp; done) | assumption) [wr64, wrU8, wrU64, Nat.add_assoc, -getElem?_pos, List.getElem?_cons_zero, List.getElem?_cons_succ, hm]
          refine CallW.val (EIs n (h'.keeps hk2)) ?_
          simp (disch := first | omega | (simp; done) | assumption) [wr64, wrU8, wrU64, Nat.add_assoc, -getElem?_pos, List.getElem?_cons_zero, List.getElem?_cons_succ, ]
          exact ⟨fun _ => ⟨ho, hm⟩, hk2⟩
        · simp (disch := first | omega | (simp; done) | assumption) [wr64, wrU8, wrU64, Nat.add_assoc, -getElem?_pos, List.getElem?_cons_zero, List.getElem?_cons_succ, hm]
          exact hk2
      · simp (disch := first | omega | (simp; done) | assumption) [wr64, wrU8, wrU64, Nat.add_assoc, -getElem?_pos, List.getElem?_cons_zero, List.getElem?_cons_succ, ho]
        exact hk2
/-- The laws' Num. -/
def lawNum (e : AV) (r : Option Int) : Int := match e with
  | .nilIface => 0
  | _ => r.getD (-1)
theorem ELawNum {e : AV} {l : List Fl} {r : Option Int} {H : AH} (hE : loadC H 0 0 none = some (rt tErr)) (h : Chain H e l r) :
    ACall Tryd.prog 21 [e] H (fun v H' => v = .int .i64 (lawNum e r) ∧ H' = H) := by
  refine acall_enter fits21 (by simp) (by simp) fun hok => ?_
  have hk1 : H.keepsAll (H.new (.cells false tE [.int .i64 0])) := keeps_new hok (AH.keepsAll_refl _) (Nat.le_refl _)
  by_cases hne : e = .nilIface
  · subst hne
    simp (disch := first | omega | (simp; done) | assumption) [wr64, wrU8, wrU64, Nat.add_assoc, -getElem?_pos, List.getElem?_cons_zero, List.getElem?_cons_succ, ic21, rs21, lawNum]
    first | exact hk1 | exact AH.keepsAll_refl _
  · obtain ⟨t1, v1, rfl⟩ : ∃ t1 v1, e = .iface t1 v1 := by cases h with
      | nil => exact absurd rfl hne
      | _ => exact ⟨_, _, rfl⟩
    simp (disch := first | omega | (simp; done) | assumption) [wr64, wrU8, wrU64, Nat.add_assoc, -getElem?_pos, List.getElem?_cons_zero, List.getElem?_cons_succ, ic21, rs21, lawNum]
    refine CallW.of (As_E (c := H.next) (x0 := .int .i64 0) (loadC_keeps hk1 hE) (by simp) (h.keeps hk1)) ?_
    rintro v H2 ⟨rfl, rfl⟩
    cases r with
    | none =>
      simp (disch := first | omega | (simp; done) | assumption) [wr64, wrU8, wrU64, Nat.add_assoc, -getElem?_pos, List.getElem?_cons_zero, List.getElem?_cons_succ, ]
      exact hk1
    | some n =>
      simp (disch := first | omega | (simp; done) | assumption) [wr64, wrU8, wrU64, Nat.add_assoc, -getElem?_pos, List.getElem?_cons_zero, List.getElem?_cons_succ, ]
      exact keeps_set hok hk1 (Nat.le_refl _)
end Go.Proofs.YtcgkadfgojmmlaaDoor.EErr

/- strings.Builder over the abstract heap: copyCheck, Grow, WriteString, String. -/
import Derived.Test.YtkehijlgbfjmkaaGreatDoorA24
import Derived.Test.YtkehijlgbfjmkaaGreatDoorDNew
import Derived.Test.YtkehijlgbfjmkaaGreatDoorShelf
import Derived.WalkKit
import Derived.RowKitTokens
set_option linter.unusedVariables false
set_option linter.unusedSimpArgs false
set_option maxRecDepth 10000
set_option maxHeartbeats 4000000
namespace Go.Proofs.YtkehijlgbfjmkaaGreatDoor.EErr
open Go Go.RowKit Go.Proofs.YtkehijlgbfjmkaaGreatDoor Go.Proofs.YtkehijlgbfjmkaaGreatDoor.Abs Go.Proofs.YtkehijlgbfjmkaaGreatDoor.Ic Go.Proofs.YtkehijlgbfjmkaaGreatDoor.EAs
abbrev tB : Nat := 58
theorem lies_self {P : Program} {T : TypeId} {n d : Nat} (hc : P.cellsOf T = 2) (hs : sameLayout P P.depth T T = true) (hd : P.depth = d + 1) (hn : 1 ≤ n / 2) : liesAt P P.depth T (n / P.cellsOf T) 0 T 1 = true := by
  have hs' : sameLayout P (d + 1) T T = true := hd ▸ hs
  have h : liesAt P (d + 1) T (n / 2) 0 T 1 = true := by
    unfold liesAt
    rw [hd]
    unfold rowAt
    simp [hc, hs', hn]
  rw [hc]
  rwa [← hd] at h
theorem lies_B (n : Nat) (hn : 2 ≤ n) : liesAt Tryz.prog Tryz.prog.depth tB (n / Tryz.prog.cellsOf tB) 0 tB 1 = true :=
  lies_self (d := Tryz.prog.depth - 1) (by kernel_rfl) (by kernel_rfl) (by kernel_rfl) (by omega)
theorem m_copyCheck (b n : Nat) (w : World) (h0 : w.cell? ⟨b, 0, none⟩ = some (.pointer none)) (hsh : w.shape? b = some (tB, n)) (hn : 2 ≤ n) (hfz : w.frozen? ⟨b, 0, none⟩ = false) :
    Calls Tryz.prog 51 #[.pointer (some ⟨b, 0, none⟩)] w fun e w' => e = .returned (.tuple #[]) ∧ w' = w.setCell ⟨b, 0, none⟩ (.pointer (some ⟨b, 0, none⟩)) := by
  obtain ⟨j, hj, hjs⟩ := Option.map_eq_some_iff.1 (show (Tryz.prog.info? tB).map (·.size) = some 2 by kernel_rfl)
  go_enter Tryz.func51, Tryz.ntmps51
  go_wp2
  rw [Lib.run_to_unsafe w ⟨b, 0, none⟩ Tryz.underlying56 Tryz.underlying91 hj (by rw [hjs]; decide) hsh (by show 0 < n; omega)]
  simp only [Result.andThen]
  rw [Oper.upon_value]
  go_wp2
  rw [run_callFunc_extern Tryz.func70 (by kernel_rfl) (by kernel_rfl) (by kernel_rfl) (e := Extern.AbiNoEscape.same) (by kernel_rfl)]
  rw [Lib.run_noEscape]
  simp only [Result.andThen]
  rw [Oper.upon_value]
  go_wp2
  rw [Lib.run_from_unsafe w ⟨b, 0, none⟩ Tryz.underlying91 Tryz.underlying56 hj hsh (lies_B n hn)]
  simp only [Result.andThen]
  rw [Oper.upon_value]
  go_wp2
  go_end0
  exact ⟨rfl, rfl⟩
theorem notFrozen {c : Array Value} {t : TypeId} {fz : Nat × Nat} {w : World} {k : Nat} (hx : w.heap[k]? = some (.cells c t fz)) (hf : fz.2 ≤ fz.1 ∨ c.size ≤ fz.1) {o : Nat} (ho : o < c.size) : w.frozen? ⟨k, o, none⟩ = false := by
  unfold World.frozen?
  obtain ⟨lo, hi⟩ := fz
  simp only [hx]
  simp at hf ⊢
  omega
theorem CopyCheck_fresh {b : Nat} {buf : AV} {H : AH} (hb : H.at_ b = some (.cells false tB [.pnil, buf])) :
    ACall Tryz.prog 51 [.ptr b 0] H (fun v H' => v = .tuple [] ∧ H' = H.set b (some (.cells false tB [.ptr b 0, buf]))) := by
  refine ⟨bodyP_of fits51, fun j w cargs hr hv => ?_⟩
  obtain ⟨u, rfl, hu⟩ := args1 hv
  obtain ⟨c, z, rfl, hc⟩ := hu.ptr_inv
  obtain ⟨c', x, hc', hx, ho⟩ := hr.obj b _ hb
  rw [hc] at hc'
  cases hc'
  cases x with
  | cells cs t fz =>
    simp only [ORel] at ho
    obtain ⟨rfl, hle, hrel, hfz⟩ := ho
    have hsz : 2 ≤ cs.size := by simpa using hle
    have hc0 : w.cell? ⟨c, 0, none⟩ = some (.pointer none) := by
      have := hrel 0 .pnil cs[0] rfl (Array.getElem?_eq_getElem (by omega))
      unfold World.cell?
      simp only [hx]
      simp [Array.getElem?_eq_getElem (show 0 < cs.size by omega)]
      generalize cs[0] = q at this
      cases this
      rfl
    have hfr := notFrozen hx (hfz trivial) (o := 0) (by omega)
    obtain ⟨w', hrun, hp⟩ := storeC_sound (P := Tryz.prog) hr hc (.cons (.ptr hc) .nil) (show storeC H b 0 [.ptr b 0] = some (H.set b (some (.cells false tB [.ptr b 0, buf]))) by unfold storeC; rw [hb]; simp [setRange])
    have hw : w' = w.setCell ⟨c, 0, none⟩ (.pointer (some ⟨c, 0, none⟩)) := by
      simp only [storeCells] at hrun
      rw [show (⟨c, 0, none⟩ : Addr).add 0 = ⟨c, 0, none⟩ from rfl, Sem.run_bind, run_store Tryz.prog w _ _ _ (by rfl), hc0] at hrun
      simp only [hfr] at hrun
      have h2 : Result.ok () (w.setCell ⟨c, 0, none⟩ (.pointer (some ⟨c, 0, none⟩))) = Result.ok () w' := hrun
      injection h2 with _ h3
      exact h3.symm
    refine (m_copyCheck c cs.size w hc0 (by unfold World.shape?; rw [hx]) hsz hfr).mono ?_
    rintro e w2 ⟨rfl, rfl⟩
    exact ⟨.tuple [], .tuple #[], j, _, rfl, ⟨rfl, rfl⟩, hw ▸ hp, .undef⟩
  | _ => simp only [ORel] at ho
theorem CopyCheck_used {b : Nat} {buf : AV} {H : AH} (hb : H.at_ b = some (.cells false tB [.ptr b 0, buf])) :
    ACall Tryz.prog 51 [.ptr b 0] H (fun v H' => v = .tuple [] ∧ H' = H) := by
  refine acall_of fits51 (by simp) ?_
  simp (disch := first | omega | (simp; done) | assumption) [wr64, wrU8, wrU64, Nat.add_assoc, -getElem?_pos, List.getElem?_cons_zero, List.getElem?_cons_succ, ic51, rs51, hb]
theorem CopyCheck {b : Nat} {a buf : AV} {H : AH} (hb : H.at_ b = some (.cells false tB [a, buf])) (ha : a = .pnil ∨ a = .ptr b 0) :
    ACall Tryz.prog 51 [.ptr b 0] H (fun v H' => v = .tuple [] ∧ H'.at_ b = some (.cells false tB [.ptr b 0, buf]) ∧ (∀ x, x ≠ b → H'.at_ x = H.at_ x) ∧ H'.next = H.next) := by
  rcases ha with rfl | rfl
  · exact (CopyCheck_fresh hb).mono fun v H' ⟨h1, h2⟩ => by subst h2; exact ⟨h1, AH.set_same _ _ _, fun x hx => AH.set_ne _ _ hx, rfl⟩
  · exact (CopyCheck_used hb).mono fun v H' ⟨h1, h2⟩ => by subst h2; exact ⟨h1, hb, fun x hx => rfl, rfl⟩
/-- A builder of the call's own that holds a text. -/
def BS (B : Nat) (H : AH) (b : Nat) (l : List UInt8) : Prop :=
  b < B ∧ B ≤ H.next ∧ ∃ a buf, H.at_ b = some (.cells false tB [a, buf]) ∧ (a = .pnil ∨ a = .ptr b 0) ∧
    (l = [] ∧ buf = .snil ∨ ∃ q, buf = .slice q 0 l.length 1 ∧ H.at_ q = some (.cells false 5 (l.map byteV)) ∧ B ≤ q ∧ q < H.next)
def KB (B b : Nat) (H H' : AH) : Prop := ∀ x o, x < B → x ≠ b → H.at_ x = some o → H'.at_ x = some o
theorem KB.trans {B b : Nat} {H H1 H2 : AH} (h : KB B b H H1) (h' : KB B b H1 H2) : KB B b H H2 := fun x o hx hn ho => h' x o hx hn (h x o hx hn ho)
theorem app_nil (H : AH) (s : List UInt8) (buf : AV) (hs : s = []) (hb : buf = .snil ∨ ∃ q n, buf = .slice q 0 n 1) : appendK H true 5 1 1 buf (.str s) = some (buf, H) := by
  subst hs
  rcases hb with rfl | ⟨q, n, rfl⟩ <;> simp [appendK, appendA, isStrV]
theorem app_new (H : AH) (s : List UInt8) (hs : s ≠ []) (hl : s.length ≤ 70368744177664) : appendK H true 5 1 1 .snil (.str s) = some (.slice H.next 0 s.length 1, H.new (.cells false 5 (s.map byteV))) := by
  simp [appendK, appendA, isStrV, srcCells, hs, hl]
  have e : List.take s.length (List.map (fun c : UInt8 => AV.int IntKind.u8 (c.toNat : Int)) s) = List.map byteV s := List.take_of_length_le (by simp)
  rw [e]
  exact ⟨fun x hx => by obtain ⟨c, _, rfl⟩ := List.mem_map.1 hx; rfl, rfl⟩
theorem app_old (H : AH) (l s : List UInt8) (q : Nat) (hq : H.at_ q = some (.cells false 5 (l.map byteV))) (hs : s ≠ []) (hl : l.length + s.length ≤ 70368744177664) :
    appendK H true 5 1 1 (.slice q 0 l.length 1) (.str s) = some (.slice H.next 0 (l.length + s.length) 1, (H.set q none).new (.cells false 5 ((l ++ s).map byteV))) := by
  simp [appendK, appendA, isStrV, srcCells, hs, hl, hq]
  have e : List.take s.length (List.map (fun c : UInt8 => AV.int IntKind.u8 (c.toNat : Int)) s) = List.map byteV s := List.take_of_length_le (by simp)
  rw [e]
  exact ⟨fun x hx => by obtain ⟨c, _, rfl⟩ := List.mem_map.1 hx; rfl, rfl⟩
theorem WriteString {B b : Nat} {l s : List UInt8} {H : AH} (h : BS B H b l) (hl : l.length + s.length ≤ 70368744177664) :
    ACall Tryz.prog 30 [.ptr b 0, .str s] H (fun v H' => BS B H' b (l ++ s) ∧ KB B b H H' ∧ H.next ≤ H'.next) := by
  obtain ⟨hB, hbn, a, buf, hb, ha, hbuf⟩ := h
  refine acall_ok (bodyP_of fits30) fun hok => acall_of fits30 (by simp) ?_
  simp (disch := first | omega | (simp; done) | assumption) [wr64, wrU8, wrU64, Nat.add_assoc, -getElem?_pos, List.getElem?_cons_zero, List.getElem?_cons_succ, ic30, rs30]
  refine CallW.of (CopyCheck hb ha) ?_
  rintro v H1 ⟨rfl, hb1, hx1, hn1⟩
  simp only [newO_none] at hx1 hn1
  have hk1 : KB B b H H1 := fun x o hx hxb ho => by rw [hx1 x hxb]; exact ho
  simp (disch := first | omega | (simp; done) | assumption) [wr64, wrU8, wrU64, Nat.add_assoc, -getElem?_pos, List.getElem?_cons_zero, List.getElem?_cons_succ, hb1]
  rcases hbuf with ⟨rfl, rfl⟩ | ⟨q, rfl, hq, hBq, hqn⟩
  · by_cases hs : s = []
    · refine Try.intro (app_nil H1 s .snil hs (.inl rfl)) ?_
      simp (disch := first | omega | (simp; done) | assumption) [wr64, wrU8, wrU64, Nat.add_assoc, -getElem?_pos, List.getElem?_cons_zero, List.getElem?_cons_succ, hb1]
      exact ⟨⟨hB, by simp; omega, .ptr b 0, .snil, by simp, .inr rfl, .inl ⟨by simp [hs], rfl⟩⟩, fun x o hx hxb ho => by rw [AH.set_ne _ _ (by omega)]; exact hk1 x o hx hxb ho, by omega⟩
    · refine Try.intro (app_new H1 s hs (by simp at hl; omega)) ?_
      have hne : ¬ (b = H1.next) := by omega
      simp (disch := first | omega | (simp; done) | assumption) [wr64, wrU8, wrU64, Nat.add_assoc, -getElem?_pos, List.getElem?_cons_zero, List.getElem?_cons_succ, hb1, hne]
      exact ⟨⟨hB, by simp; omega, .ptr b 0, .slice H1.next 0 s.length 1, by simp, .inr rfl, .inr ⟨H1.next, by simp, by simp; omega, by omega, by simp⟩⟩, fun x o hx hxb ho => by rw [AH.set_ne _ _ (by omega), AH.new_ne _ _ (by omega)]; exact hk1 x o hx hxb ho, by omega⟩
  · have hqb : q ≠ b := by omega
    have hq1 : H1.at_ q = some (.cells false 5 (l.map byteV)) := by rw [hx1 q hqb]; exact hq
    by_cases hs : s = []
    · refine Try.intro (app_nil H1 s _ hs (.inr ⟨q, _, rfl⟩)) ?_
      simp (disch := first | omega | (simp; done) | assumption) [wr64, wrU8, wrU64, Nat.add_assoc, -getElem?_pos, List.getElem?_cons_zero, List.getElem?_cons_succ, hb1]
      exact ⟨⟨hB, by simp; omega, .ptr b 0, .slice q 0 l.length 1, by simp, .inr rfl, .inr ⟨q, by simp [hs], by simp [hqb, hs, hq1], hBq, by simp; omega⟩⟩, fun x o hx hxb ho => by rw [AH.set_ne _ _ (by omega)]; exact hk1 x o hx hxb ho, by omega⟩
    · refine Try.intro (app_old H1 l s q hq1 hs hl) ?_
      have hne : ¬ (b = H1.next) := by omega
      have hne2 : ¬ (b = q) := fun e => hqb e.symm
      simp (disch := first | omega | (simp; done) | assumption) [wr64, wrU8, wrU64, Nat.add_assoc, -getElem?_pos, List.getElem?_cons_zero, List.getElem?_cons_succ, hb1, hne, hne2]
      exact ⟨⟨hB, by simp; omega, .ptr b 0, .slice H1.next 0 (l.length + s.length) 1, by simp, .inr rfl, .inr ⟨H1.next, by simp, by simp; omega, by omega, by simp⟩⟩, fun x o hx hxb ho => by rw [AH.set_ne _ _ (by omega), AH.new_ne _ _ (by simp; omega), AH.set_ne _ _ (by omega)]; exact hk1 x o hx hxb ho, by omega⟩
theorem m_String (b g n cap : Nat) (l : List UInt8) (w : World) (hb : w.cell? ⟨b, 1, none⟩ = some (.slice (some ⟨g, 0, none⟩) l.length cap)) (h0 : l ≠ []) (hcap : l.length ≤ cap) (hsh : w.shape? g = some (5, n)) (hn : l.length ≤ n) (hl : l.length ≤ 70368744177664)
    (hcell : ∀ j x, l[j]? = some x → w.cell? ((⟨g, 0, none⟩ : Addr).add j) = some (.int .u8 x.toNat)) :
    Calls Tryz.prog 31 #[.pointer (some ⟨b, 0, none⟩)] w fun e w' => e = .returned (.string ⟨l.toArray⟩) ∧ w'.heap = (w.freeze ⟨g, 0, none⟩ l.length).heap ∧ w'.os = w.os ∧ w'.tape = w.tape ∧ w'.output = w.output := by
  have hl0 : l.length ≠ 0 := by simpa using h0
  have c1 : w.drew.cell? ⟨b, 1, none⟩ = some (.slice (some ⟨g, 0, none⟩) l.length cap) := hb
  have hSD : (Builtin.unsafeSliceData_ #[34] 83 #[.slice (some ⟨g, 0, none⟩) l.length cap]).run Tryz.prog w.drew = .ok (.pointer (some ⟨g, 0, none⟩)) w.drew :=
    Lib.run_unsafeSliceData_row _ _ _ _ _ _ (by omega)
  have hUS : (Builtin.unsafeString_ #[83, 3] 9 #[.pointer (some ⟨g, 0, none⟩), .int .i64 l.length]).run Tryz.prog w.drew = .ok (.string ⟨l.toArray⟩) (w.drew.freeze ⟨g, 0, none⟩ l.length) :=
    Lib.run_unsafeString_row w.drew 83 3 9 5 Tryz.underlying83 (by kernel_rfl) g n hsh l h0 hn (by omega) hcell
  have mixed : Tryz.prog.follows .mixedOrders = true := fits31.follows
  have hfin : (w.drew.freeze ⟨g, 0, none⟩ l.length).heap = (w.freeze ⟨g, 0, none⟩ l.length).heap ∧ (w.drew.freeze ⟨g, 0, none⟩ l.length).os = w.os ∧ (w.drew.freeze ⟨g, 0, none⟩ l.length).tape = w.tape ∧ (w.drew.freeze ⟨g, 0, none⟩ l.length).output = w.output := by
    unfold World.freeze
    rw [if_neg hl0, if_neg hl0]
    exact ⟨rfl, rfl, rfl, rfl⟩
  go_enter Tryz.func31, Tryz.ntmps31
  go_wp2
  go_region_o
  all_goals (go_wp2; go_ret; exact ⟨rfl, hfin⟩)
theorem Post.touch {P : Program} {j : Inj} {H : AH} {w w' : World} (hr : Rel P j H w) {q g z : Nat} {o : AObj} (hq : H.at_ q = some o) (hro : o.ro = false) (hg : j q = some (g, z)) (hsz : w'.heap.size = w.heap.size)
    (hk : ∀ c, c ≠ g → w'.heap[c]? = w.heap[c]?) (h1 : w'.os = w.os) (h2 : w'.tape = w.tape) (h3 : w'.output = w.output) : Post P j H w j (H.set q none) w' := by
  have hne : ∀ a o', (H.set q none).at_ a = some o' → a ≠ q ∧ H.at_ a = some o' := fun a o' ha => by
    by_cases e : a = q
    · subst e; rw [AH.set_same] at ha; cases ha
    · rw [AH.set_ne H _ e] at ha; exact ⟨e, ha⟩
  refine ⟨⟨Inj.le_refl j, ⟨fun a c y ha => ⟨(hr.dom a c y ha).1, by rw [hsz]; exact (hr.dom a c y ha).2⟩, fun a b c y y' ha hb la lb => ?_, fun a o' ha => ?_, hr.glob⟩, ⟨h1, h2, h3, by rw [hsz]; exact Nat.le_refl _, fun c hc hn => hk c fun e => hn q z ⟨o, hq, hro⟩ (by rw [e]; exact hg)⟩, Nat.le_refl _, fun a c y ha hl hc => ?_⟩, fun _ _ => rfl⟩
  · obtain ⟨o1, ho1⟩ := AH.live_obj la
    obtain ⟨o2, ho2⟩ := AH.live_obj lb
    exact hr.inj a b c y y' ha hb (AH.live_of (hne _ _ ho1).2) (AH.live_of (hne _ _ ho2).2)
  · obtain ⟨ea, ha'⟩ := hne _ _ ha
    obtain ⟨c, x, hc, hx, ho⟩ := hr.obj a o' ha'
    have hcg : c ≠ g := fun e => by
      subst e
      exact ea (hr.inj a q _ _ _ hc hg (AH.live_of ha') (AH.live_of hq))
    exact ⟨c, x, hc, by rw [hk c hcg]; exact hx, ho⟩
  · obtain ⟨o1, ho1⟩ := AH.live_obj hl
    obtain ⟨e1, h1'⟩ := hne _ _ ho1
    refine ⟨a, y, AH.live_of h1', ha, fun ⟨o2, ho2, hr2⟩ => ?_⟩
    obtain ⟨_, h2'⟩ := hne _ _ ho2
    exact ⟨o2, h2', hr2⟩
theorem BString {B b : Nat} {l : List UInt8} {H : AH} (h : BS B H b l) (h0 : l ≠ []) (hl : l.length ≤ 70368744177664) :
    ACall Tryz.prog 31 [.ptr b 0] H (fun v H' => v = .str l ∧ KB B b H H' ∧ H.next ≤ H'.next) := by
  obtain ⟨hB, hbn, a, buf, hb, ha, hbuf⟩ := h
  rcases hbuf with ⟨rfl, rfl⟩ | ⟨q, rfl, hq, hBq, hqn⟩
  · exact absurd rfl h0
  refine ⟨bodyP_of fits31, fun j w cargs hr hv => ?_⟩
  obtain ⟨u, rfl, hu⟩ := args1 hv
  obtain ⟨c, z, rfl, hc⟩ := hu.ptr_inv
  obtain ⟨ub, hub, hvb⟩ := hr.loadC (n := none) (o := 1) (v := .slice q 0 l.length 1) (by unfold loadC; rw [hb]; rfl) hc
  obtain ⟨g, zg, cap, rfl, hg, hcap, hz⟩ := hvb.slice_inv
  obtain ⟨g', x, hg', hx, ho⟩ := hr.obj q _ hq
  rw [hg] at hg'
  cases hg'
  cases x with
  | cells cs t fz =>
    simp only [ORel] at ho
    obtain ⟨rfl, hle, hrel, hfz⟩ := ho
    have hle' : l.length ≤ cs.size := by simpa using hle
    have hg2 : g < w.heap.size := (hr.dom _ _ _ hg).2
    have hl0 : l.length ≠ 0 := by simpa using h0
    refine (m_String c g cs.size cap l w hub h0 hcap (by unfold World.shape?; rw [hx]) hle' hl ?_).mono ?_
    · intro i y hy
      have hi := (List.getElem?_eq_some_iff.1 hy).1
      have hcell : w.cell? ⟨g, 0 + i, none⟩ = some (.int .u8 y.toNat) := by
        have h1 := hrel i (byteV y) cs[i] (by simp [hy]) (Array.getElem?_eq_getElem (by omega))
        unfold World.cell?
        simp only [hx]
        simp [Array.getElem?_eq_getElem (show i < cs.size by omega)]
        generalize cs[i] = p at h1
        exact h1.int_inv
      unfold Addr.add
      split
      · rename_i e; subst e; exact hcell
      · exact hcell
    · rintro e w' ⟨rfl, hh, h1, h2, h3⟩
      have hfr : (w.freeze ⟨g, 0, none⟩ l.length).heap.size = w.heap.size ∧ ∀ k, k ≠ g → (w.freeze ⟨g, 0, none⟩ l.length).heap[k]? = w.heap[k]? := by
        unfold World.freeze
        rw [if_neg hl0]
        refine ⟨by simp, fun k hk => ?_⟩
        simp only [Array.getElem?_modify]
        rw [if_neg (fun e => hk e.symm)]
      refine ⟨.str l, _, j, H.set q none, rfl, ⟨rfl, fun y o hy hyb ho => by rw [AH.set_ne _ _ (by omega)]; exact ho, Nat.le_refl _⟩, Post.touch hr hq rfl hg (by rw [hh]; exact hfr.1) (fun k hk => by rw [hh]; exact hfr.2 k hk) h1 h2 h3, VR.str' l⟩
  | _ => simp only [ORel] at ho
end Go.Proofs.YtkehijlgbfjmkaaGreatDoor.EErr

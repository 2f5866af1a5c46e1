/- What cmd.Text, the document's Text and cmd.Data answer. -/
import Derived.Test.YtfimhkijacamoaaDoorCM2
import Derived.Test.YtfimhkijacamoaaDoorJoin
import Derived.Test.YtfimhkijacamoaaDoorDItoa
import Derived.Test.YtfimhkijacamoaaDoorCM1
import Derived.Test.YtfimhkijacamoaaDoorA24
set_option linter.unusedVariables false
set_option linter.unusedSimpArgs false
set_option maxRecDepth 10000
set_option maxHeartbeats 4000000
namespace Go.Proofs.YtfimhkijacamoaaDoor.CNumb
open Go Go.RowKit Go.Proofs.YtfimhkijacamoaaDoor Go.Proofs.YtfimhkijacamoaaDoor.Abs Go.Proofs.YtfimhkijacamoaaDoor.Ic Go.Proofs.YtfimhkijacamoaaDoor.EAs Go.Proofs.YtfimhkijacamoaaDoor.EErr Go.Proofs.YtfimhkijacamoaaDoor.CSpec Go.Proofs.YtfimhkijacamoaaDoor.LPcs Go.Proofs.YtfimhkijacamoaaDoor.LLib
/-- Any command, raw. -/
structure Rc where
  kind : Int
  a : List UInt8
  b : List UInt8
  n : Int
  m : Int
  k : Int
def rawL (c : Rc) : List AV := [.int .i64 c.kind, .str c.a, .str c.b, .int .i64 c.n, .int .i64 c.m, .int .i64 c.k]
def wordsT (c : Rc) : List (List UInt8) := (row c.kind.toNat).1 :: ([c.a, c.b].take (row c.kind.toNat).2.1)
def numsT (c : Rc) : List Int := [c.n, c.m, c.k].take (row c.kind.toNat).2.2
def lineT (c : Rc) : List UInt8 := joinW [32] (wordsT c ++ (numsT c).map Lib.itoa)
abbrev TC : ICode := ic23
def TxS (c : Rc) (ws : List (List UInt8)) (H : AH) (tm : Tms) (H' : AH) : Prop := H.keepsAll H' ∧ H.next + 3 ≤ H'.next ∧ H'.at_ H.next = some (.cells false tC (rawL c)) ∧ H'.at_ (H.next + 2) = some (.cells false 59 (tri (row c.kind.toNat))) ∧ tm 1 = .ptr H.next 0 ∧ tm 5 = .ptr (H.next + 2) 0 ∧
  OutS (H.next + 3) H' 9 (tm 6) (ws.map AV.str)
theorem T1 {c : Rc} {Q : IPost} {H : AH} (hok : H.ok) (h1 : 1 ≤ c.kind) (h2 : c.kind ≤ 26) (h : ∀ tm H', TxS c (wordsT c) H tm H' → IWP Tryd.prog (part_ [1, 1, 1, 1, 1] TC) Q tm H') : IWP Tryd.prog TC Q (tm0 [.agg (rawL c)]) H := by
  obtain ⟨k, hk⟩ : ∃ k : Nat, c.kind = (k : Int) := ⟨c.kind.toNat, by omega⟩
  have hkn : c.kind.toNat = k := by omega
  have hfl := flat_take k (by omega)
  have hle : k * 3 + 3 ≤ flat.length := by rw [flat_len]; omega
  have hb1 : (row k).2.1 ≤ 2 ∧ (row k).2.2 ≤ 3 := row_bounds k
  have hkI1 : ¬ (k : Int) < 1 := by omega
  have hkI2 : ¬ (26 : Int) < (k : Int) := by omega
  have hkI3 : (k : Int) < 27 := by omega
  have hk78 : k * 3 ≤ 78 := by omega
  unfold wordsT at h
  unfold TxS at h
  rw [hkn] at h
  have hc : rawL c = [.int .i64 (k : Int), .str c.a, .str c.b, .int .i64 c.n, .int .i64 c.m, .int .i64 c.k] := by rw [← hk]; rfl
  rw [hc] at h ⊢
  clear hc hk hkn h1 h2
  obtain ⟨kind, a, b, n, m, kk⟩ := c
  simp only at h ⊢
  change IWP Tryd.prog (.seq (part_ [0] TC) (.seq (part_ [1, 0] TC) (.seq (part_ [1, 1, 0] TC) (.seq (part_ [1, 1, 1, 0] TC) (.seq (part_ [1, 1, 1, 1, 0] TC) (part_ [1, 1, 1, 1, 1] TC)))))) _ _ _
  generalize part_ [1, 1, 1, 1, 1] TC = X at *
  simp (disch := first | omega | (simp; done) | assumption) [wr64, wrU8, wrU64, Nat.add_assoc, -getElem?_pos, List.getElem?_cons_zero, List.getElem?_cons_succ, part_, TC, ic23, hkI1, hkI2]
  refine CallW.val (Shapes _) ?_
  simp (disch := first | omega | (simp; done) | assumption) [wr64, wrU8, wrU64, Nat.add_assoc, -getElem?_pos, List.getElem?_cons_zero, List.getElem?_cons_succ, flat_len, set_flat]
  refine Try.guard flat_one ?_
  simp (disch := first | omega | (simp; done) | assumption) [wr64, wrU8, wrU64, Nat.add_assoc, -getElem?_pos, List.getElem?_cons_zero, List.getElem?_cons_succ, flat_len, set_flat, hfl, hle, tri, hkI3, hk78]
  simp only [tri] at h
  have hb2 := hb1.1
  clear hb1 hfl
  generalize (row k).2.1 = t at *
  generalize (row k).2.2 = m' at *
  generalize (row k).1 = w at *
  have h3 : t = 0 ∨ t = 1 ∨ t = 2 := by omega
  rcases h3 with rfl | rfl | rfl
  · simp (disch := first | omega | (simp; done) | assumption) [wr64, wrU8, wrU64, Nat.add_assoc, -getElem?_pos, List.getElem?_cons_zero, List.getElem?_cons_succ, slcA, Abs.bounds, appendK, appendA, isStrV, srcCells]
    refine h _ _ ⟨?_, by simp, by simp [Nat.add_assoc], by simp [Nat.add_assoc], by simp, by simp, .inr ⟨H.next + 3, by simp, by simp, by simp [Nat.add_assoc], by omega, by simp⟩⟩
    ((repeat (first | exact AH.keepsAll_refl _ | refine keeps_set hok ?_ (by first | omega | (simp; done) | (simp; omega)) | refine keeps_new hok ?_ (by first | omega | (simp; done) | (simp; omega)))); done)
  · simp (disch := first | omega | (simp; done) | assumption) [wr64, wrU8, wrU64, Nat.add_assoc, -getElem?_pos, List.getElem?_cons_zero, List.getElem?_cons_succ, slcA, Abs.bounds, appendK, appendA, isStrV, srcCells]
    refine h _ _ ⟨?_, by simp, by simp [Nat.add_assoc], by simp [Nat.add_assoc], by simp, by simp, .inr ⟨H.next + 5, by simp, by simp, by simp [Nat.add_assoc], by omega, by simp⟩⟩
    ((repeat (first | exact AH.keepsAll_refl _ | refine keeps_set hok ?_ (by first | omega | (simp; done) | (simp; omega)) | refine keeps_new hok ?_ (by first | omega | (simp; done) | (simp; omega)))); done)
  · simp (disch := first | omega | (simp; done) | assumption) [wr64, wrU8, wrU64, Nat.add_assoc, -getElem?_pos, List.getElem?_cons_zero, List.getElem?_cons_succ, slcA, Abs.bounds, appendK, appendA, isStrV, srcCells]
    refine h _ _ ⟨?_, by simp, by simp [Nat.add_assoc], by simp [Nat.add_assoc], by simp, by simp, .inr ⟨H.next + 5, by simp, by simp, by simp [Nat.add_assoc], by omega, by simp⟩⟩
    ((repeat (first | exact AH.keepsAll_refl _ | refine keeps_set hok ?_ (by first | omega | (simp; done) | (simp; omega)) | refine keeps_new hok ?_ (by first | omega | (simp; done) | (simp; omega)))); done)
end Go.Proofs.YtfimhkijacamoaaDoor.CNumb
set_option linter.unusedVariables false
set_option linter.unusedSimpArgs false
set_option maxRecDepth 10000
set_option maxHeartbeats 4000000
namespace Go.Proofs.YtfimhkijacamoaaDoor.CNumb
open Go Go.RowKit Go.Proofs.YtfimhkijacamoaaDoor Go.Proofs.YtfimhkijacamoaaDoor.Abs Go.Proofs.YtfimhkijacamoaaDoor.Ic Go.Proofs.YtfimhkijacamoaaDoor.EAs Go.Proofs.YtfimhkijacamoaaDoor.EErr Go.Proofs.YtfimhkijacamoaaDoor.CSpec Go.Proofs.YtfimhkijacamoaaDoor.LPcs Go.Proofs.YtfimhkijacamoaaDoor.LLib
theorem SL.upto {H : AH} {v : AV} {l : List AV} (h : SL H v l) (k : Nat) (hk : k ≤ l.length) : ∃ v', slcA 1 none (some (k : Int)) none v = some v' ∧ SL H v' (l.take k) ∧ ∀ b o n e, v' = .slice b o n e → ∃ o' n' e', v = .slice b o' n' e' := by
  rcases h with ⟨h1, h2⟩ | ⟨b, o, rfl, h2, h3⟩
  · have hk0 : k = 0 := by rw [h1] at hk; simpa using hk
    subst hk0 h1
    rcases h2 with rfl | rfl
    · exact ⟨.snil, by simp [slcA, Abs.bounds], .inl ⟨rfl, .inl rfl⟩, fun b o n e h => by cases h⟩
    · exact ⟨.sempty, by simp [slcA, Abs.bounds], .inl ⟨rfl, .inr rfl⟩, fun b o n e h => by cases h⟩
  · have e : Abs.bounds l.length none (some (k : Int)) none = some (0, k) := by
      unfold Abs.bounds
      simp
      exact hk
    by_cases hk0 : k = 0
    · exact ⟨.sempty, by simp [slcA, e, hk0], .inl ⟨by simp [hk0], .inr rfl⟩, fun b o n e h => by cases h⟩
    · refine ⟨.slice b o k 1, by simp [slcA, e, hk0, hk], .inr ⟨b, o, by simp; omega, ?_, fun i hi => ?_⟩, fun b o n e h => by cases h; exact ⟨_, _, _, rfl⟩⟩
      · intro e2
        have := congrArg List.length e2
        simp at this
        rcases this with h | h
        · exact hk0 h
        · exact h2 h
      · rw [List.length_take] at hi
        rw [h3 i (by omega), List.getElem?_take, if_pos (by omega)]
theorem appendOutX {B : Nat} {H : AH} {t : TypeId} {bytes : Nat} {v x : AV} {xs : List AV} (h : OutS B H t v xs) (hB : B ≤ H.next) (hx : x.one = true) (hb : (xs.length + 1) * bytes ≤ 70368744177664) (hl : xs.length + 1 ≤ 70368744177664) :
    ∃ v' H', appendK (H.new (.cells false t [x])) false t 1 bytes v (.slice H.next 0 1 1) = some (v', H') ∧ OutS B H' t v' (xs ++ [x]) ∧ H'.next = H.next + 2 ∧ KBel B H H' ∧ (∀ b o, b < H.next → (∀ n, v ≠ .slice b 0 n 1) → H.at_ b = some o → H'.at_ b = some o) ∧ ∀ b n, v' = .slice b 0 n 1 → H.next < b := by
  rcases h with ⟨rfl, rfl⟩ | ⟨q, rfl, h1, h2, h3, h4⟩
  · refine ⟨.slice (H.next + 1) 0 1 1, (H.new (.cells false t [x])).new (.cells false t [x]), ?_, .inr ⟨H.next + 1, by simp, by simp, by simp, by omega, by simp⟩, by simp, ((KBel.refl B H).new hB).new (by simp; omega), fun b o hb _ ho => ?_, fun b n h => by cases h; omega⟩
    · simp at hb
      simp [appendK, appendA, isStrV, srcCells, hx, hb]
    · rw [AH.new_ne _ _ (by simp; omega), AH.new_ne _ _ (by omega)]; exact ho
  · have e1 : ¬ (q = H.next) := by omega
    refine ⟨.slice (H.next + 1) 0 (xs.length + 1) 1, ((H.new (.cells false t [x])).set q none).new (.cells false t (xs ++ [x])), ?_, .inr ⟨H.next + 1, by simp, by simp, by simp, by omega, by simp⟩, by simp, (((KBel.refl B H).new hB).set h3).new (by simp; omega), fun b o hb hv ho => ?_, fun b n h => by cases h; omega⟩
    · simp [appendK, appendA, isStrV, srcCells, hx, hb, hl, h2, e1]
    · have hbq : b ≠ q := fun e => hv xs.length (by rw [e])
      rw [AH.new_ne _ _ (by simp; omega), AH.set_ne _ _ hbq, AH.new_ne _ _ (by omega)]; exact ho
theorem SL.same {H H1 : AH} {v : AV} {l : List AV} (h : SL H v l) (hk : ∀ b o, (∃ o n e, v = .slice b o n e) → H.at_ b = some o → H1.at_ b = some o) : SL H1 v l := by
  rcases h with h | ⟨b, o, h1, h2, h3⟩
  · exact .inl h
  · refine .inr ⟨b, o, h1, h2, fun i hi => ?_⟩
    have e := h3 i hi
    rw [List.getElem?_eq_getElem hi] at e ⊢
    unfold loadC at e ⊢
    cases hq : H.at_ b with
    | none => rw [hq] at e; cases e
    | some ob => rw [hk b ob ⟨_, _, _, h1⟩ hq]; rw [hq] at e; exact e
theorem TxS.step {c : Rc} {ws ws' : List (List UInt8)} {H H1 H2 : AH} {tm tm' : Tms} (h : TxS c ws H tm H1) (hok : H.ok) (hk : KBel (H.next + 3) H1 H2) (hn : H1.next ≤ H2.next) (e1 : tm' 1 = tm 1) (e5 : tm' 5 = tm 5) (ho : OutS (H.next + 3) H2 9 (tm' 6) (ws'.map AV.str)) : TxS c ws' H tm' H2 := by
  obtain ⟨r1, r2, r3, r4, r5, r6, _⟩ := h
  exact ⟨KBel.keepsAll r1 (fun x o hx ho => hk x o (by omega) ho) hok, by omega, hk _ _ (by omega) r3, hk _ _ (by omega) r4, by rw [e1]; exact r5, by rw [e5]; exact r6, ho⟩
theorem OutS.new_ {B : Nat} {H : AH} {t : TypeId} {v : AV} {xs : List AV} {o : AObj} (h : OutS B H t v xs) : OutS B (H.new o) t v xs := by
  rcases h with h | ⟨q, h1, h2, h3, h4, h5⟩
  · exact .inl h
  · exact .inr ⟨q, h1, h2, by rw [AH.new_ne _ _ (by omega)]; exact h3, h4, by simp; omega⟩
def intA (n : Int) : AV := .int .i64 n
def TnI (c : Rc) (v : AV) (q : Nat) (H : AH) (kk : Nat) (tm : Tms) (H' : AH) : Prop := ∃ i : Nat, kk = (numsT c).length - i ∧ i ≤ (numsT c).length ∧ TxS c (wordsT c ++ ((numsT c).take i).map Lib.itoa) H tm H' ∧
  tm 47 = v ∧ SL H' v ((numsT c).map intA) ∧ (∀ b o n e, v = .slice b o n e → b = q) ∧ q < H'.next ∧ (∀ n, tm 6 ≠ .slice q 0 n 1) ∧ tm 48 = .int .i64 ((numsT c).length : Int) ∧ tm 49 = .int .i64 (i : Int)
theorem T2 {c : Rc} {Q : IPost} {tm : Tms} {H H1 : AH} (hok : H.ok) (hG : CLaid.Ok H) (hS : TxS c (wordsT c) H tm H1) (hr : ∀ x ∈ [c.n, c.m, c.k], -9223372036854775808 ≤ x ∧ x ≤ 9223372036854775807)
    : IWP Tryd.prog (part_ [1, 1, 1, 1, 1, 0] TC) (IPost.then (TxS c (wordsT c ++ (numsT c).map Lib.itoa) H) Q) tm H1 := by
  have hb1 : (row c.kind.toNat).2.1 ≤ 2 ∧ (row c.kind.toNat).2.2 ≤ 3 := row_bounds _
  obtain ⟨r1, r2, r3, r4, r5, r6, ho⟩ := id hS
  have hr3 := r3
  have hr4 := r4
  simp only [rawL] at hr3
  simp only [tri] at hr4
  have h3 : SL (H1.new (.cells false 3 [intA c.n, intA c.m, intA c.k])) (.slice H1.next 0 3 1) ([c.n, c.m, c.k].map intA) := .inr ⟨H1.next, 0, rfl, by simp, fun i hi => by unfold loadC; simp⟩
  obtain ⟨v, hs, hv, hb⟩ := SL.upto h3 (row c.kind.toNat).2.2 (by simp; exact hb1.2)
  have hv' : SL (H1.new (.cells false 3 [intA c.n, intA c.m, intA c.k])) v ((numsT c).map intA) := by unfold numsT; rw [List.map_take]; exact hv
  have hl := SL.lenS hv'
  rw [List.length_map] at hl
  simp only [intA] at hv'
  have hne2 : ¬ (H.next + 2 = H1.next) := by omega
  have hne0 : ¬ (H.next = H1.next) := by omega
  simp (disch := first | omega | (simp; done) | assumption) [wr64, wrU8, wrU64, Nat.add_assoc, -getElem?_pos, List.getElem?_cons_zero, List.getElem?_cons_succ, part_, TC, ic23, r5, r6, hr3, hr4, hne2, hne0]
  refine Try.intro hs ?_
  simp (disch := first | omega | (simp; done) | assumption) [wr64, wrU8, wrU64, Nat.add_assoc, -getElem?_pos, List.getElem?_cons_zero, List.getElem?_cons_succ, hl]
  refine iwp_loop (TnI c v H1.next H) (numsT c).length ⟨0, rfl, by omega, hS.step hok (KBel.new (KBel.refl _ _) (by omega)) (by simp) (by simp) (by simp) ?_, by simp, hv', fun b o n e h => by obtain ⟨_, _, _, e2⟩ := hb b o n e h; cases e2; rfl, by simp, fun n h => ?_, by simp, by simp⟩ ?_
  · have := OutS.new_ (o := .cells false 3 [intA c.n, intA c.m, intA c.k]) ho
    simpa [intA] using this
  · rcases ho with ⟨_, e⟩ | ⟨q, e, _, _, h5, h6⟩
    · simp [e] at h
    · simp [e] at h; omega
  clear r1 r2 r3 r4 r5 r6 ho hS hs hv hv' hb hl h3 hr3 hr4
  generalize H1.next = q at *
  rintro kk tm H1 ⟨i, rfl, hi, hS, t47, hv, hbq, hqn, hq6, t48, t49⟩
  obtain ⟨r1, r2, r3, r4, r5, r6, ho⟩ := id hS
  by_cases hlt : i < (numsT c).length
  · have hlt' : (i : Int) < ((numsT c).length : Int) := by omega
    obtain ⟨b0, o0, e0, hld⟩ := SL.get hv i (by simpa using hlt)
    have hld' : loadC H1 b0 (o0 + i) none = some (.int .i64 (numsT c)[i]) := by simpa [intA] using hld
    unfold loadC at hld'
    have hrx := hr (numsT c)[i] (List.mem_of_mem_take (List.getElem_mem hlt))
    have htk : ((numsT c).take (i + 1)).map Lib.itoa = ((numsT c).take i).map Lib.itoa ++ [Lib.itoa (numsT c)[i]] := by
      rw [← List.take_append_getElem hlt, List.map_append]; rfl
    have hwl : (wordsT c).length ≤ 3 := by unfold wordsT; simp; omega
    have hnl : (numsT c).length ≤ 3 := by unfold numsT; simp; omega
    rw [List.length_map] at e0
    generalize (numsT c)[i] = x at *
    obtain ⟨v2, H2, a1, o1, n1, k1, k2, k3⟩ := appendOutX (bytes := 16) (x := .str (Lib.itoa x)) ho (by omega) rfl (by simp; omega) (by simp; omega)
    simp (disch := first | omega | (simp; done) | assumption) [wr64, wrU8, wrU64, Nat.add_assoc, -getElem?_pos, List.getElem?_cons_zero, List.getElem?_cons_succ, t47, t48, t49, hlt, hlt', e0]
    refine Try.intro hld' ?_
    simp (disch := first | omega | (simp; done) | assumption) [wr64, wrU8, wrU64, Nat.add_assoc, -getElem?_pos, List.getElem?_cons_zero, List.getElem?_cons_succ, t47, t48, t49]
    refine CallW.val (itoaAny x _ (.inr ⟨r1 _ _ hG.pow, hrx.1, hrx.2⟩)) ?_
    simp (disch := first | omega | (simp; done) | assumption) [wr64, wrU8, wrU64, Nat.add_assoc, -getElem?_pos, List.getElem?_cons_zero, List.getElem?_cons_succ, t47, t48, t49]
    refine Try.intro a1 ?_
    simp (disch := first | omega | (simp; done) | assumption) [wr64, wrU8, wrU64, Nat.add_assoc, -getElem?_pos, List.getElem?_cons_zero, List.getElem?_cons_succ, t47, t48, t49]
    refine ⟨(numsT c).length - (i + 1), by omega, i + 1, rfl, by omega, hS.step hok k1 (by omega) (by simp) (by simp) ?_, by simp [t47, e0], SL.same hv fun b o ⟨_, _, _, h⟩ hb => ?_, hbq, by omega, fun n h => ?_, by simp [t48], by simp⟩
    · rw [htk]
      simpa using o1
    · have := hbq _ _ _ _ h
      subst this
      exact k2 _ _ hqn hq6 hb
    · have := k3 q n (by simpa using h)
      omega
  · have hlt' : ¬ (i : Int) < ((numsT c).length : Int) := by omega
    obtain rfl : i = (numsT c).length := by omega
    rw [List.take_length] at hS
    simp (disch := first | omega | (simp; done) | assumption) [wr64, wrU8, wrU64, Nat.add_assoc, -getElem?_pos, List.getElem?_cons_zero, List.getElem?_cons_succ, t48, t49]
    exact hS.step hok (KBel.refl _ _) (Nat.le_refl _) (by simp) (by simp) (by simpa using hS.2.2.2.2.2.2)
end Go.Proofs.YtfimhkijacamoaaDoor.CNumb
set_option linter.unusedVariables false
set_option linter.unusedSimpArgs false
set_option maxRecDepth 10000
set_option maxHeartbeats 4000000
namespace Go.Proofs.YtfimhkijacamoaaDoor.CNumb
open Go Go.RowKit Go.Proofs.YtfimhkijacamoaaDoor Go.Proofs.YtfimhkijacamoaaDoor.Abs Go.Proofs.YtfimhkijacamoaaDoor.Ic Go.Proofs.YtfimhkijacamoaaDoor.EAs Go.Proofs.YtfimhkijacamoaaDoor.EErr Go.Proofs.YtfimhkijacamoaaDoor.CSpec Go.Proofs.YtfimhkijacamoaaDoor.LPcs Go.Proofs.YtfimhkijacamoaaDoor.LLib
abbrev same (d : Cm) (c : Rc) : Prop := (d.kind : Int) = c.kind ∧ d.a = c.a ∧ d.b = c.b ∧ (d.n : Int) = c.n ∧ (d.m : Int) = c.m ∧ (d.k : Int) = c.k
abbrev okT (c : Rc) : Prop := (1 ≤ c.kind ∧ c.kind ≤ 26) ∧ (parseC (lineT c)).1 = 0 ∧ same (parseC (lineT c)).2 c
def TextP (c : Rc) (H : AH) (v : AV) (H' : AH) : Prop := H.keepsAll H' ∧ H.next ≤ H'.next ∧ ∃ e, v = .tuple [.str (if okT c then lineT c else []), e] ∧ ErrP H' e (if okT c then 0 else 1)
theorem bad_err {c : Rc} {H H1 : AH} {v : AV} (hn : ¬ okT c) (hk : H.keepsAll H1) (hx : H.next ≤ H1.next) {g : Fl} (h3 : g.op = cmdB) (h4 : g.name = []) (hv : v = .iface 75 (.ptr g.b 0)) (h5 : Chain H1 v [g] (some 1)) : TextP c H (.tuple [.str [], v]) H1 := by
  refine ⟨hk, hx, v, by rw [if_neg hn], ?_⟩
  rw [if_neg hn]
  exact ⟨g, h3, h4, hv, h5⟩
theorem tot_append (l m : List (List UInt8)) : tot (l ++ m) = tot l + tot m := by simp [tot]
theorem row_len (k : Nat) : (row k).1.length ≤ 7 := by
  by_cases h : k < 27
  · have : ∀ k < 27, (row k).1.length ≤ 7 := by decide
    exact this k h
  · have : row k = ([], 0, 0) := by unfold row; rw [List.getD_eq_getElem?_getD, List.getElem?_eq_none (by simp [tab_len]; omega)]; rfl
    rw [this]; simp
theorem tot_line {c : Rc} (ha : c.a.length ≤ 1000000) (hb : c.b.length ≤ 1000000) (hr : ∀ x ∈ [c.n, c.m, c.k], -9223372036854775808 ≤ x ∧ x ≤ 9223372036854775807) :
    tot (wordsT c ++ (numsT c).map Lib.itoa) ≤ 1000000000 ∧ (wordsT c ++ (numsT c).map Lib.itoa).length ≤ 6 := by
  have hrl := row_len c.kind.toNat
  have h1 : tot ([c.a, c.b].take (row c.kind.toNat).2.1) ≤ 2000000 := Nat.le_trans (tot_take_le _ _) (by simp [tot]; omega)
  have h2 : tot (((numsT c).map Lib.itoa)) ≤ 63 := by
    unfold numsT
    rw [List.map_take]
    refine Nat.le_trans (tot_take_le _ _) ?_
    have e1 := hr c.n (by simp)
    have e2 := hr c.m (by simp)
    have e3 := hr c.k (by simp)
    have := Lib.itoa_length_le c.n e1.1 e1.2
    have := Lib.itoa_length_le c.m e2.1 e2.2
    have := Lib.itoa_length_le c.k e3.1 e3.2
    simp [tot]
    omega
  refine ⟨?_, ?_⟩
  · rw [tot_append]
    unfold wordsT
    have : tot ((row c.kind.toNat).1 :: [c.a, c.b].take (row c.kind.toNat).2.1) = (row c.kind.toNat).1.length + tot ([c.a, c.b].take (row c.kind.toNat).2.1) := by simp [tot]
    omega
  · unfold wordsT numsT
    simp
    omega
theorem Text (c : Rc) (H : AH) (hG : CLaid.Ok H) (ha : c.a.length ≤ 1000000) (hb : c.b.length ≤ 1000000) (hr : ∀ x ∈ [c.n, c.m, c.k], -9223372036854775808 ≤ x ∧ x ≤ 9223372036854775807) :
    ACall Tryd.prog 23 [.agg (rawL c)] H (TextP c H) := by
  refine acall_ok (bodyP_of fits23) fun hok => acall_of fits23 (by simp) ?_
  by_cases hkk : 1 ≤ c.kind ∧ c.kind ≤ 26
  · refine T1 hok hkk.1 hkk.2 fun tm H1 hS => ?_
    change IWP Tryd.prog (.seq (part_ [1, 1, 1, 1, 1, 0] TC) (.seq (part_ [1, 1, 1, 1, 1, 1, 0] TC) (part_ [1, 1, 1, 1, 1, 1, 1] TC))) _ _ _
    refine iwp_cut (TxS c (wordsT c ++ (numsT c).map Lib.itoa) H) (T2 hok hG hS hr) ?_
    clear hS tm H1
    rintro tm H1 ⟨r1, r2, r3, r4, r5, r6, ho⟩
    obtain ⟨ht1, ht2⟩ := tot_line ha hb hr
    simp (disch := first | omega | (simp; done) | assumption) [wr64, wrU8, wrU64, Nat.add_assoc, -getElem?_pos, List.getElem?_cons_zero, List.getElem?_cons_succ, part_, TC, ic23]
    refine CallW.val (Join ho.sl (by omega) (by omega)) ?_
    simp (disch := first | omega | (simp; done) | assumption) [wr64, wrU8, wrU64, Nat.add_assoc, -getElem?_pos, List.getElem?_cons_zero, List.getElem?_cons_succ, ]
    refine CallW.ofk (Parse (lineT c) _ (hG.keeps r1)) ?_
    rintro v2 H2 ⟨hk2, hn2, e, rfl, he⟩ hok2
    try simp only [newO_none, newO_some] at hk2 hn2
    have hr3 := hk2 _ _ r3
    have hkH : H.keepsAll H2 := fun x o hx => hk2 x o (r1 x o hx)
    have hnn : H.next + 3 ≤ H2.next := by omega
    have hne : ¬ (H.next = H2.next) := by omega
    have hiff : okT c ↔ (parseC (lineT c)).1 = 0 ∧ same (parseC (lineT c)).2 c := ⟨fun h => h.2, fun h => ⟨hkk, h⟩⟩
    have hline : joinW [32] (wordsT c ++ List.map Lib.itoa (numsT c)) = lineT c := rfl
    simp only [rawL] at hr3
    have hP : ∀ (v : AV) (H' : AH), TextP c H v H' → TextP c H v H' := fun _ _ h => h
    unfold TextP at hP ⊢
    simp only [hiff] at hP ⊢
    generalize (parseC (lineT c)).1 = cd at *
    generalize (parseC (lineT c)).2 = d at *
    by_cases hcd : cd = 0
    · subst hcd
      have he' : e = .nilIface := he
      subst he'
      by_cases hs : same d c
      · obtain ⟨q1, q2, q3, q4, q5, q6⟩ := id hs
        simp (disch := first | omega | (simp; done) | assumption) [wr64, wrU8, wrU64, Nat.add_assoc, -getElem?_pos, List.getElem?_cons_zero, List.getElem?_cons_succ, cmA, cmL, hr3, hne, r5, q1, q2, q3, q4, q5, q6, hline, rs23]
        refine ⟨?_, by omega, by rw [if_pos hs]; rfl⟩
        ((repeat (first | exact hkH | refine keeps_set hok ?_ (by first | omega | (simp; done) | (simp; omega)) | refine keeps_new hok ?_ (by first | omega | (simp; done) | (simp; omega)))); done)
      · have hneg : ¬ ((0 : Int) = 0 ∧ same d c) := fun h => hs h.2
        simp only [hs, and_false, if_false]
        simp (disch := first | omega | (simp; done) | assumption) [wr64, wrU8, wrU64, Nat.add_assoc, -getElem?_pos, List.getElem?_cons_zero, List.getElem?_cons_succ, cmA, cmL, hr3, hne, r5]
        refine Fork3.eqt (congrArg some ?_) ?_
        · apply Classical.byContradiction
          intro h
          exact hs (by simpa using h)
        simp (disch := first | omega | (simp; done) | assumption) [wr64, wrU8, wrU64, Nat.add_assoc, -getElem?_pos, List.getElem?_cons_zero, List.getElem?_cons_succ, ]
        refine CallW.of (ENewC _ _ (by decide) _) ?_
        rintro v H3 ⟨h1, h2, g, h3, h4, rfl, h5⟩
        try simp only [newO_none, newO_some] at h1 h2 h5
        simp (disch := first | omega | (simp; done) | assumption) [wr64, wrU8, wrU64, Nat.add_assoc, -getElem?_pos, List.getElem?_cons_zero, List.getElem?_cons_succ, rs23]
        refine ⟨fun x o hx => h1 x o ?_, by simp at h2; omega, ⟨g, h3, h4, rfl, h5⟩⟩
        have hxn := hok _ _ hx
        rw [AH.set_ne _ _ (by omega), AH.new_ne _ _ (by omega)]
        exact hkH x o hx
    · unfold ErrP at he
      rw [if_neg hcd] at he
      obtain ⟨g, h3, h4, rfl, h5⟩ := he
      have hneg : ¬ (cd = 0 ∧ same d c) := fun h => hcd h.1
      simp only [hneg, if_false]
      simp (disch := first | omega | (simp; done) | assumption) [wr64, wrU8, wrU64, Nat.add_assoc, -getElem?_pos, List.getElem?_cons_zero, List.getElem?_cons_succ, cmA, cmL, hr3, hne, r5, hline]
      refine CallW.of (ENewC _ _ (by decide) _) ?_
      rintro v H3 ⟨h1, h2, g', h3', h4', rfl, h5'⟩
      try simp only [newO_none, newO_some] at h1 h2 h5'
      simp (disch := first | omega | (simp; done) | assumption) [wr64, wrU8, wrU64, Nat.add_assoc, -getElem?_pos, List.getElem?_cons_zero, List.getElem?_cons_succ, rs23]
      refine ⟨fun x o hx => h1 x o ?_, by simp at h2; omega, ⟨g', h3', h4', rfl, h5'⟩⟩
      have hxn := hok _ _ hx
      rw [AH.set_ne _ _ (by omega), AH.new_ne _ _ (by omega)]
      exact hkH x o hx
  · have hn : ¬ okT c := fun h => hkk h.1
    by_cases h1 : c.kind < 1
    · simp (disch := first | omega | (simp; done) | assumption) [wr64, wrU8, wrU64, Nat.add_assoc, -getElem?_pos, List.getElem?_cons_zero, List.getElem?_cons_succ, ic23, rs23, rawL, h1]
      refine CallW.of (ENewC _ _ (by decide) _) ?_
      rintro v H2 ⟨h1, h2, g, h3, h4, rfl, h5⟩
      try simp only [newO_none, newO_some] at h1 h2 h5
      simp (disch := first | omega | (simp; done) | assumption) [wr64, wrU8, wrU64, Nat.add_assoc, -getElem?_pos, List.getElem?_cons_zero, List.getElem?_cons_succ, ]
      exact bad_err hn (fun x o hx => h1 x o (keeps_new hok (AH.keepsAll_refl _) (Nat.le_refl _) x o hx)) (by simp at h2; omega) h3 h4 rfl h5
    · have h2 : (26 : Int) < c.kind := by omega
      simp (disch := first | omega | (simp; done) | assumption) [wr64, wrU8, wrU64, Nat.add_assoc, -getElem?_pos, List.getElem?_cons_zero, List.getElem?_cons_succ, ic23, rs23, rawL, h1, h2]
      refine CallW.of (ENewC _ _ (by decide) _) ?_
      rintro v H2 ⟨h1, h2, g, h3, h4, rfl, h5⟩
      try simp only [newO_none, newO_some] at h1 h2 h5
      simp (disch := first | omega | (simp; done) | assumption) [wr64, wrU8, wrU64, Nat.add_assoc, -getElem?_pos, List.getElem?_cons_zero, List.getElem?_cons_succ, ]
      exact bad_err hn (fun x o hx => h1 x o (keeps_new hok (AH.keepsAll_refl _) (Nat.le_refl _) x o hx)) (by simp at h2; omega) h3 h4 rfl h5
end Go.Proofs.YtfimhkijacamoaaDoor.CNumb
set_option linter.unusedVariables false
set_option linter.unusedSimpArgs false
set_option maxRecDepth 10000
set_option maxHeartbeats 4000000
namespace Go.Proofs.YtfimhkijacamoaaDoor.CNumb
open Go Go.RowKit Go.Proofs.YtfimhkijacamoaaDoor Go.Proofs.YtfimhkijacamoaaDoor.Abs Go.Proofs.YtfimhkijacamoaaDoor.Ic Go.Proofs.YtfimhkijacamoaaDoor.EAs Go.Proofs.YtfimhkijacamoaaDoor.EErr Go.Proofs.YtfimhkijacamoaaDoor.CSpec Go.Proofs.YtfimhkijacamoaaDoor.LPcs Go.Proofs.YtfimhkijacamoaaDoor.LLib
def allT (c : Rc) : List (List UInt8) := wordsT c ++ (numsT c).map Lib.itoa
end Go.Proofs.YtfimhkijacamoaaDoor.CNumb
set_option linter.unusedVariables false
set_option linter.unusedSimpArgs false
set_option maxRecDepth 10000
set_option maxHeartbeats 4000000
namespace Go.Proofs.YtfimhkijacamoaaDoor.CNumb
open Go Go.RowKit Go.Proofs.YtfimhkijacamoaaDoor Go.Proofs.YtfimhkijacamoaaDoor.Abs Go.Proofs.YtfimhkijacamoaaDoor.Ic Go.Proofs.YtfimhkijacamoaaDoor.EAs Go.Proofs.YtfimhkijacamoaaDoor.EErr Go.Proofs.YtfimhkijacamoaaDoor.CSpec Go.Proofs.YtfimhkijacamoaaDoor.LPcs Go.Proofs.YtfimhkijacamoaaDoor.LLib
theorem getD_txt {l : List (List UInt8)} (h : l.all txtB = true) (i : Nat) : (l.getD i []).length ≤ 100 := by
  rw [List.getD_eq_getElem?_getD]
  by_cases hi : i < l.length
  · rw [List.getElem?_eq_getElem hi]
    have := List.all_eq_true.1 h l[i] (List.getElem_mem hi)
    simp [txtB] at this
    exact this.1.2
  · rw [List.getElem?_eq_none (by omega)]; simp
theorem parse_len {s : List UInt8} (h : (parseC s).1 = 0) : (parseC s).2.a.length ≤ 100 ∧ (parseC s).2.b.length ≤ 100 := by
  unfold parseC at h ⊢
  by_cases hl : 300 < s.length
  · rw [if_pos hl] at h; simp at h
  · rw [if_neg hl] at h ⊢
    cases hr : readC (pcs 32 s) with
    | none => rw [hr] at h; simp at h
    | some c =>
      simp only
      unfold readC at hr
      simp only at hr
      split at hr
      · cases hr
      · rename_i hc
        injection hr with hr
        subst hr
        have hb : (((pcs 32 s).drop 1).take (row (kindOf ((pcs 32 s).getD 0 []))).2.1).all txtB = true := by
          cases hx : (((pcs 32 s).drop 1).take (row (kindOf ((pcs 32 s).getD 0 []))).2.1).all txtB with
          | true => rfl
          | false => exact absurd (.inr (.inr (by rw [hx]; rfl))) hc
        exact ⟨getD_txt hb 0, getD_txt hb 1⟩
theorem line_ne {c : Rc} (h : 1 ≤ c.kind ∧ c.kind ≤ 26) : lineT c ≠ [] := by
  obtain ⟨k, hk⟩ : ∃ k : Nat, c.kind = (k : Int) := ⟨c.kind.toNat, by omega⟩
  have hkn : c.kind.toNat = k := by omega
  have hw : (row k).1 ≠ [] := by
    have : ∀ k < 27, 0 < k → (row k).1 ≠ [] := by decide
    exact this k (by omega) (by omega)
  have hjl := join_len [32] (wordsT c ++ (numsT c).map Lib.itoa) (by simp [wordsT])
  intro e
  unfold lineT at e
  rw [e] at hjl
  have h1 : (row k).1.length ≤ tot (wordsT c ++ (numsT c).map Lib.itoa) := by
    rw [tot_append]
    unfold wordsT
    rw [hkn]
    simp [tot]
    omega
  have h2 := List.length_pos_iff.2 hw
  have h3 : 1 ≤ (wordsT c ++ (numsT c).map Lib.itoa).length := by simp [wordsT]
  simp only [List.length_cons, List.length_nil] at hjl
  omega
end Go.Proofs.YtfimhkijacamoaaDoor.CNumb
set_option linter.unusedVariables false
set_option linter.unusedSimpArgs false
set_option maxRecDepth 10000
set_option maxHeartbeats 4000000
namespace Go.Proofs.YtfimhkijacamoaaDoor.CNumb
open Go Go.RowKit Go.Proofs.YtfimhkijacamoaaDoor Go.Proofs.YtfimhkijacamoaaDoor.Abs Go.Proofs.YtfimhkijacamoaaDoor.Ic Go.Proofs.YtfimhkijacamoaaDoor.EAs Go.Proofs.YtfimhkijacamoaaDoor.EErr
def dByte (seed : Int) (i : Nat) : UInt8 := UInt8.ofNat ((seed + 7 * (i : Int)) % 256).toNat
def dataL (seed : Int) (n : Nat) : List UInt8 := (List.range n).map (dByte seed)
def DataP (seed : Int) (N : Nat) (H : AH) (v : AV) (H' : AH) : Prop := H.keepsAll H' ∧ H.next ≤ H'.next ∧ v = .slice H.next 0 N 1 ∧ H'.at_ H.next = some (.cells false 5 ((dataL seed N).map byteV))
theorem wr8 (x : Int) : IntKind.u8.wrap (IntKind.i64.wrap x) = x % 256 := by
  rw [IntKind.wrap_i64]
  show (_ : Int) % 2 ^ 8 = _
  omega
theorem dByte_toNat (seed : Int) (i : Nat) : ((dByte seed i).toNat : Int) = (seed + 7 * (i : Int)) % 256 := by
  unfold dByte
  rw [UInt8.toNat_ofNat']
  have h1 : 0 ≤ (seed + 7 * (i : Int)) % 256 := Int.emod_nonneg _ (by omega)
  have h2 : (seed + 7 * (i : Int)) % 256 < 256 := Int.emod_lt_of_pos _ (by omega)
  omega
def DtI (seed : Int) (N : Nat) (v : AV) (H : AH) (k : Nat) (tm : Tms) (H' : AH) : Prop := H.keepsAll H' ∧ H'.next = H.next + 1 ∧ ∃ i : Nat, k = N - i ∧ i ≤ N ∧ tm 0 = .int .i64 seed ∧ tm 5 = .slice H.next 0 N 1 ∧ tm 12 = .int .i64 (N : Int) ∧ tm 13 = .int .i64 (i : Int) ∧
  H'.at_ H.next = some (.cells false 5 ((dataL seed i).map byteV ++ List.replicate (N - i) (.int .u8 0)))
theorem Data (seed n : Int) (N : Nat) (hN : (N : Int) = min (max n 0) 5000) (H : AH) : ACall Tryd.prog 12 [.int .i64 seed, .int .i64 n] H (DataP seed N H) := by
  refine acall_ok (bodyP_of fits12) fun hok => acall_of fits12 (by simp) ?_
  have hN' : min (max n 0) 5000 = (N : Int) := hN.symm
  have hN5 : N ≤ 5000 := by omega
  clear hN
  simp (disch := first | omega | (simp; done) | assumption) [wr64, wrU8, wrU64, Nat.add_assoc, -getElem?_pos, List.getElem?_cons_zero, List.getElem?_cons_succ, ic12, rs12, hN']
  refine Try.guard (by omega) ?_
  simp (disch := first | omega | (simp; done) | assumption) [wr64, wrU8, wrU64, Nat.add_assoc, -getElem?_pos, List.getElem?_cons_zero, List.getElem?_cons_succ, ]
  refine iwp_loop (DtI seed N (.slice H.next 0 N 1) H) N ⟨?_, by simp, 0, rfl, by omega, by simp, by simp, by simp, by simp, by simp [dataL]⟩ ?_
  · ((repeat (first | exact AH.keepsAll_refl _ | refine keeps_set hok ?_ (by first | omega | (simp; done) | (simp; omega)) | refine keeps_new hok ?_ (by first | omega | (simp; done) | (simp; omega)))); done)
  rintro k tm H1 ⟨hk, hn, i, rfl, hi, t0, t5, t12, t13, hat⟩
  by_cases hlt : i < N
  · have hlt' : (i : Int) < (N : Int) := by omega
    have h7 : IntKind.i64.wrap (7 * (i : Int)) = 7 * (i : Int) := wr64 (by omega) (by omega)
    have h8 := wr8 (seed + 7 * (i : Int))
    have hb := dByte_toNat seed i
    have hset : ((dataL seed i).map byteV ++ List.replicate (N - i) (AV.int .u8 0)).set i (.int .u8 ((seed + 7 * (i : Int)) % 256)) = (dataL seed (i + 1)).map byteV ++ List.replicate (N - (i + 1)) (.int .u8 0) := by
      have hl : ((dataL seed i).map byteV).length = i := by simp [dataL]
      rw [List.set_append_right _ _ (by omega), hl, Nat.sub_self]
      obtain ⟨m, hm⟩ : ∃ m, N - i = m + 1 := ⟨N - i - 1, by omega⟩
      rw [hm, show N - (i + 1) = m by omega, List.replicate_succ, List.set_cons_zero]
      unfold dataL
      rw [List.range_succ]
      simp [byteV, hb]
    have hll : i + (N - i) = N := by omega
    have hdl : (dataL seed i).length = i := by simp [dataL]
    simp (disch := first | omega | (simp; done) | assumption) [wr64, wrU8, wrU64, Nat.add_assoc, -getElem?_pos, List.getElem?_cons_zero, List.getElem?_cons_succ, t0, t5, t12, t13, hlt, hlt', h7, h8, hat, hll, hset, hdl]
    refine Try.guard (by omega) ?_
    simp (disch := first | omega | (simp; done) | assumption) [wr64, wrU8, wrU64, Nat.add_assoc, -getElem?_pos, List.getElem?_cons_zero, List.getElem?_cons_succ, t0, t5, t12, t13]
    refine ⟨N - (i + 1), by omega, ?_, by simpa using hn, i + 1, rfl, by omega, by simp [t0], by simp [t5], by simp [t12], by simp, by simp⟩
    ((repeat (first | exact hk | refine keeps_set hok ?_ (by first | omega | (simp; done) | (simp; omega)) | refine keeps_new hok ?_ (by first | omega | (simp; done) | (simp; omega)))); done)
  · have hlt' : ¬ (i : Int) < (N : Int) := by omega
    obtain rfl : i = N := by omega
    simp (disch := first | omega | (simp; done) | assumption) [wr64, wrU8, wrU64, Nat.add_assoc, -getElem?_pos, List.getElem?_cons_zero, List.getElem?_cons_succ, t0, t5, t12, t13]
    refine ⟨hk, by omega, rfl, by simpa using hat⟩
end Go.Proofs.YtfimhkijacamoaaDoor.CNumb

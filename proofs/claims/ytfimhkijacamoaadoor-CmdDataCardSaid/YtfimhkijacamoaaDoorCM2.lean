/- What cmd.Parse answers. -/
import Derived.Test.YtfimhkijacamoaaDoorCM1
set_option linter.unusedVariables false
set_option linter.unusedSimpArgs false
set_option maxRecDepth 10000
set_option maxHeartbeats 4000000
namespace Go.Proofs.YtfimhkijacamoaaDoor.CNumb
open Go Go.RowKit Go.Proofs.YtfimhkijacamoaaDoor Go.Proofs.YtfimhkijacamoaaDoor.Abs Go.Proofs.YtfimhkijacamoaaDoor.Ic Go.Proofs.YtfimhkijacamoaaDoor.EAs Go.Proofs.YtfimhkijacamoaaDoor.EErr Go.Proofs.YtfimhkijacamoaaDoor.CSpec Go.Proofs.YtfimhkijacamoaaDoor.LPcs Go.Proofs.YtfimhkijacamoaaDoor.LLib
def cmL (k : Nat) (a b : List UInt8) (n m o : Nat) : List AV := [.int .i64 (k : Int), .str a, .str b, .int .i64 (n : Int), .int .i64 (m : Int), .int .i64 (o : Int)]
def cmA (c : Cm) : AV := .agg (cmL c.kind c.a c.b c.n c.m c.k)
abbrev tC : Nat := 41
def natA (x : Nat) : AV := .int .i64 (x : Int)
def FillP (c : Nat) (k : Nat) (a b : List UInt8) (l : List Nat) (H : AH) (v : AV) (H' : AH) : Prop := v = .tuple [] ∧ H'.at_ c = some (.cells false tC (cmL k a b (l.getD 0 0) (l.getD 1 0) (l.getD 2 0))) ∧ (∀ x o, x ≠ c → H.at_ x = some o → H'.at_ x = some o) ∧ H'.next = H.next
theorem Fill {c k : Nat} {a b : List UInt8} {l : List Nat} {v : AV} {H : AH} (hv : SL H v (l.map natA)) (hl : l.length ≤ 3) (hc : H.at_ c = some (.cells false tC (cmL k a b 0 0 0))) (hq : ∀ q o n e, v = .slice q o n e → q ≠ c) :
    ACall Tryd.prog 52 [.ptr c 0, v] H (FillP c k a b l H) := by
  have hls := SL.lenS hv
  rw [List.length_map] at hls
  refine acall_of fits52 (by simp) ?_
  match l, hv, hl, hls with
  | [], hv, _, hls =>
    simp (disch := first | omega | (simp; done) | assumption) [wr64, wrU8, wrU64, Nat.add_assoc, -getElem?_pos, List.getElem?_cons_zero, List.getElem?_cons_succ, ic52, rs52, hls]
    exact ⟨rfl, hc, fun x o _ h => h, rfl⟩
  | [x], hv, _, hls =>
    obtain ⟨q, o, rfl, h0⟩ := SL.get hv 0 (by simp)
    have hne := hq _ _ _ _ rfl
    simp (disch := first | omega | (simp; done) | assumption) [wr64, wrU8, wrU64, Nat.add_assoc, -getElem?_pos, List.getElem?_cons_zero, List.getElem?_cons_succ, ic52, rs52, hls]
    refine Try.intro (by simpa using h0) ?_
    simp (disch := first | omega | (simp; done) | assumption) [wr64, wrU8, wrU64, Nat.add_assoc, -getElem?_pos, List.getElem?_cons_zero, List.getElem?_cons_succ, hc, cmL, natA]
    refine ⟨rfl, by simp [cmL], fun x o hx h => ?_, by simp⟩
    simp [hx, h]
  | [x, y], hv, _, hls =>
    obtain ⟨q, o, rfl, h1⟩ := SL.get hv 1 (by simp)
    obtain ⟨q', o', e, h0⟩ := SL.get hv 0 (by simp)
    cases e
    have hne := hq _ _ _ _ rfl
    have hne' : ¬ (c = q) := fun e => hne e.symm
    simp (disch := first | omega | (simp; done) | assumption) [wr64, wrU8, wrU64, Nat.add_assoc, -getElem?_pos, List.getElem?_cons_zero, List.getElem?_cons_succ, ic52, rs52, hls]
    refine Try.intro (by simpa using h1) ?_
    simp (disch := first | omega | (simp; done) | assumption) [wr64, wrU8, wrU64, Nat.add_assoc, -getElem?_pos, List.getElem?_cons_zero, List.getElem?_cons_succ, hc, cmL, natA]
    refine Try.intro (by simpa [hne, hne'] using h0) ?_
    simp (disch := first | omega | (simp; done) | assumption) [wr64, wrU8, wrU64, Nat.add_assoc, -getElem?_pos, List.getElem?_cons_zero, List.getElem?_cons_succ, hc, cmL, natA]
    refine ⟨rfl, by simp [cmL], fun x o hx h => ?_, by simp⟩
    simp [hx, h]
  | [x, y, z], hv, _, hls =>
    obtain ⟨q, o, rfl, h2⟩ := SL.get hv 2 (by simp)
    obtain ⟨q', o', e, h1⟩ := SL.get hv 1 (by simp)
    cases e
    obtain ⟨q', o', e, h0⟩ := SL.get hv 0 (by simp)
    cases e
    have hne := hq _ _ _ _ rfl
    have hne' : ¬ (c = q) := fun e => hne e.symm
    simp (disch := first | omega | (simp; done) | assumption) [wr64, wrU8, wrU64, Nat.add_assoc, -getElem?_pos, List.getElem?_cons_zero, List.getElem?_cons_succ, ic52, rs52, hls]
    refine Try.intro (by simpa using h2) ?_
    simp (disch := first | omega | (simp; done) | assumption) [wr64, wrU8, wrU64, Nat.add_assoc, -getElem?_pos, List.getElem?_cons_zero, List.getElem?_cons_succ, hc, cmL, natA]
    refine Try.intro (by simpa [hne, hne'] using h1) ?_
    simp (disch := first | omega | (simp; done) | assumption) [wr64, wrU8, wrU64, Nat.add_assoc, -getElem?_pos, List.getElem?_cons_zero, List.getElem?_cons_succ, hc, cmL, natA]
    refine Try.intro (by simpa [hne, hne'] using h0) ?_
    simp (disch := first | omega | (simp; done) | assumption) [wr64, wrU8, wrU64, Nat.add_assoc, -getElem?_pos, List.getElem?_cons_zero, List.getElem?_cons_succ, hc, cmL, natA]
    refine ⟨rfl, by simp [cmL], fun x o hx h => ?_, by simp⟩
    simp [hx, h]
  | x :: y :: z :: u :: l, _, hl, _ => simp at hl
end Go.Proofs.YtfimhkijacamoaaDoor.CNumb
set_option linter.unusedVariables false
set_option linter.unusedSimpArgs false
set_option maxRecDepth 10000
set_option maxHeartbeats 4000000
namespace Go.Proofs.YtfimhkijacamoaaDoor.CNumb
open Go Go.RowKit Go.Proofs.YtfimhkijacamoaaDoor Go.Proofs.YtfimhkijacamoaaDoor.Abs Go.Proofs.YtfimhkijacamoaaDoor.Ic Go.Proofs.YtfimhkijacamoaaDoor.EAs Go.Proofs.YtfimhkijacamoaaDoor.EErr Go.Proofs.YtfimhkijacamoaaDoor.CSpec Go.Proofs.YtfimhkijacamoaaDoor.LPcs Go.Proofs.YtfimhkijacamoaaDoor.LLib
abbrev RC : ICode := ic35
def ReadP (ws : List (List UInt8)) (H : AH) (v : AV) (H' : AH) : Prop := H.keepsAll H' ∧ H.next ≤ H'.next ∧ ∃ c b, v = .tuple [cmA c, .bool b] ∧ match readC ws with
  | some c' => c = c' ∧ b = true
  | none => b = false
abbrev RQ (ws : List (List UInt8)) (H : AH) : IPost := fnPost rs35 (ReadP ws H)
theorem SL.from {H : AH} {v : AV} {l : List AV} (h : SL H v l) (k : Nat) (hk : k ≤ l.length) : ∃ v', slcA 1 (some (k : Int)) none none v = some v' ∧ SL H v' (l.drop k) ∧ ∀ b o n e, v' = .slice b o n e → ∃ o' n' e', v = .slice b o' n' e' := by
  rcases h with ⟨h1, h2⟩ | ⟨b, o, rfl, h2, h3⟩
  · have hk0 : k = 0 := by rw [h1] at hk; simpa using hk
    subst hk0 h1
    rcases h2 with rfl | rfl
    · exact ⟨.snil, by simp [slcA, Abs.bounds], .inl ⟨rfl, .inl rfl⟩, fun b o n e h => by cases h⟩
    · exact ⟨.sempty, by simp [slcA, Abs.bounds], .inl ⟨rfl, .inr rfl⟩, fun b o n e h => by cases h⟩
  · have e : Abs.bounds l.length (some (k : Int)) none none = some (k, l.length) := by
      unfold Abs.bounds
      simp
      exact hk
    by_cases hkl : k = l.length
    · exact ⟨.sempty, by simp [slcA, e, hkl], .inl ⟨by simp [hkl], .inr rfl⟩, fun b o n e h => by cases h⟩
    · refine ⟨.slice b (o + k) (l.length - k) 1, ?_, .inr ⟨b, o + k, by simp, ?_, fun i hi => ?_⟩, fun b o n e h => by cases h; exact ⟨_, _, _, rfl⟩⟩
      · simp [slcA, e]
        exact ⟨hk, fun e2 => hkl e2.symm⟩
      · intro e2
        have := congrArg List.length e2
        simp at this
        omega
      · rw [List.length_drop] at hi
        rw [Nat.add_assoc, h3 (k + i) (by omega), List.getElem?_drop]
theorem SL.set_ne {H : AH} {v : AV} {l : List AV} {c : Nat} {x : Option AObj} (h : SL H v l) (hn : ∀ b o n e, v = .slice b o n e → b ≠ c) : SL (H.set c x) v l := by
  rcases h with h | ⟨b, o, h1, h2, h3⟩
  · exact .inl h
  · refine .inr ⟨b, o, h1, h2, fun i hi => ?_⟩
    rw [← h3 i hi]
    have := hn _ _ _ _ h1
    unfold loadC
    rw [AH.set_ne _ _ this]
theorem ownT_sl {H : AH} {q : Nat} {ws : List (List UInt8)} (h : OwnT H q ws) (hne : 0 < ws.length) : SL H (.slice q 0 ws.length 1) (ws.map AV.str) :=
  .inr ⟨q, 0, by simp, by simp; exact List.ne_nil_of_length_pos hne, fun i hi => by unfold loadC; rw [h]; simp⟩
def RdS (H : AH) (k : Nat) (ws : List (List UInt8)) (a b : List UInt8) (tm : Tms) (H' : AH) : Prop :=
  H.keepsAll H' ∧ H.next + 4 ≤ H'.next ∧ H'.at_ H.next = some (.cells false tC (cmL 0 [] [] 0 0 0)) ∧ H'.at_ (H.next + 1) = some (.cells false tC (cmL k a b 0 0 0)) ∧ H'.at_ (H.next + 3) = some (.cells false 59 (tri (row k))) ∧
    SL H' (tm 0) (ws.map AV.str) ∧ (∀ b o n e, tm 0 = .slice b o n e → b < H.next) ∧ tm 2 = .ptr H.next 0 ∧ tm 4 = .ptr (H.next + 1) 0 ∧ tm 6 = .ptr (H.next + 3) 0
theorem flat_one : ∀ x ∈ flat, x.one = true := by
  intro x hx
  unfold flat at hx
  obtain ⟨r, _, h⟩ := List.mem_flatMap.1 hx
  simp [tri] at h
  rcases h with rfl | rfl | rfl <;> rfl
theorem set_full (x : List AV) : ∀ (a l : List AV), l.length = x.length → setRange (a ++ l) a.length x = a ++ x := by
  induction x with
  | nil => intro a l h; rw [List.eq_nil_of_length_eq_zero h]; rfl
  | cons v x ih =>
    intro a l h
    cases l with
    | nil => simp at h
    | cons y l =>
      have := ih (a ++ [v]) l (by simpa using h)
      rw [setRange, List.set_append_right _ _ (Nat.le_refl _)]
      simp at this ⊢
      exact this
theorem set_flat {l : List AV} (h : l.length = 81) : setRange l 0 flat = flat := set_full flat [] l (by rw [h]; rfl)
theorem kind_le (w : List UInt8) : kindOf w ≤ 26 := by
  unfold kindOf
  split
  · rename_i i h
    have := (List.findIdx?_eq_some_iff_getElem.1 h).1
    rw [tab_len] at this
    omega
  · omega
theorem Read1 {ws : List (List UInt8)} {q : Nat} {H : AH} (hok : H.ok) (hO : OwnT H q ws) (hne : 0 < ws.length)
    (h : ∀ tm H', RdS H (kindOf ws[0]) (ws.drop 1) [] [] tm H' → kindOf ws[0] ≠ 0 → ws.length = 1 + ((row (kindOf ws[0])).2.1 + (row (kindOf ws[0])).2.2) → IWP Tryd.prog (part_ [1, 1, 1, 1, 1, 1] RC) (RQ ws H) tm H') :
    IWP Tryd.prog RC (RQ ws H) (tm0 [.slice q 0 ws.length 1]) H := by
  have hq := hok _ _ hO
  have hw0 : ws.getD 0 [] = ws[0] := by rw [List.getD_eq_getElem?_getD, List.getElem?_eq_getElem hne]; rfl
  have hl0 : loadC H q 0 none = some (.str ws[0]) := by
    unfold loadC; rw [hO]; simp
  have hr : readC ws = if kindOf ws[0] = 0 ∨ ws.length ≠ 1 + ((row (kindOf ws[0])).2.1 + (row (kindOf ws[0])).2.2) then none else readC ws := by
    split
    · rename_i e
      unfold readC
      simp only [hw0]
      rw [if_pos]
      rcases e with e | e
      · exact .inl e
      · exact .inr (.inl e)
    · rfl
  have hkl := kind_le ws[0]
  have g0 : ws[0]? = some ws[0] := List.getElem?_eq_getElem hne
  generalize ws[0] = w at *
  have hqn : ¬ (q = H.next) := by omega
  obtain ⟨v1, hs1, hv1, hb1⟩ := SL.from (ownT_sl hO hne) 1 (by simp; omega)
  have hO1 : H.at_ q = some (.cells false 9 (ws.map AV.str)) := hO
  have hfl := flat_take (kindOf w) (by omega)
  have hle : kindOf w * 3 + 3 ≤ flat.length := by rw [flat_len]; omega
  generalize hk : kindOf w = k at *
  change IWP Tryd.prog (.seq (part_ [0] RC) (.seq (part_ [1, 0] RC) (.seq (part_ [1, 1, 0] RC) (.seq (part_ [1, 1, 1, 0] RC) (.seq (part_ [1, 1, 1, 1, 0] RC) (.seq (part_ [1, 1, 1, 1, 1, 0] RC) (part_ [1, 1, 1, 1, 1, 1] RC))))))) _ _ _
  generalize part_ [1, 1, 1, 1, 1, 1] RC = X at *
  simp (disch := first | omega | (simp; done) | assumption) [wr64, wrU8, wrU64, Nat.add_assoc, -getElem?_pos, List.getElem?_cons_zero, List.getElem?_cons_succ, part_, RC, ic35, hne, g0, hO1, hqn]
  refine CallW.val (Kind w _) ?_
  simp (disch := first | omega | (simp; done) | assumption) [wr64, wrU8, wrU64, Nat.add_assoc, -getElem?_pos, List.getElem?_cons_zero, List.getElem?_cons_succ, hk]
  refine CallW.val (Shapes _) ?_
  simp (disch := first | omega | (simp; done) | assumption) [wr64, wrU8, wrU64, Nat.add_assoc, -getElem?_pos, List.getElem?_cons_zero, List.getElem?_cons_succ, hk, flat_len, set_flat, hfl, hle, tri]
  refine Try.guard flat_one ?_
  by_cases hk0 : k = 0
  · subst hk0
    have hfl0 : flat.take 3 = tri (row 0) := by simpa using hfl
    have hle0 : 3 ≤ flat.length := by omega
    simp (disch := first | omega | (simp; done) | assumption) [wr64, wrU8, wrU64, Nat.add_assoc, -getElem?_pos, List.getElem?_cons_zero, List.getElem?_cons_succ, hk, flat_len, set_flat, hfl0, hle0, tri]
    refine Try.intro hs1 ?_
    simp (disch := first | omega | (simp; done) | assumption) [wr64, wrU8, wrU64, Nat.add_assoc, -getElem?_pos, List.getElem?_cons_zero, List.getElem?_cons_succ, rs35]
    refine ⟨?_, by simp; omega, ⟨0, [], [], 0, 0, 0⟩, _, rfl, ?_⟩
    · ((repeat (first | exact AH.keepsAll_refl _ | refine keeps_set hok ?_ (by first | omega | (simp; done) | (simp; omega)) | refine keeps_new hok ?_ (by first | omega | (simp; done) | (simp; omega)))); done)
    · rw [hr]; simp
  have hkI : (k : Int) < 27 := by omega
  have hk78 : k * 3 ≤ 78 := by omega
  have hkI0 : ¬ (k : Int) = 0 := by omega
  have hl1 := SL.lenS hv1
  have hLn : (List.drop 1 (ws.map AV.str)).length = ws.length - 1 := by simp
  rw [hLn] at hl1
  simp (disch := first | omega | (simp; done) | assumption) [wr64, wrU8, wrU64, Nat.add_assoc, -getElem?_pos, List.getElem?_cons_zero, List.getElem?_cons_succ, hk, flat_len, set_flat, hfl, hle, tri, hkI, hk78]
  refine Try.intro hs1 ?_
  by_cases hlen : ws.length = 1 + ((row k).2.1 + (row k).2.2)
  · have h37 : ((ws.length - 1 : Nat) : Int) = ((row k).2.1 : Int) + ((row k).2.2 : Int) := by omega
    have hb2 : (row k).2.1 ≤ 2 ∧ (row k).2.2 ≤ 3 := row_bounds k
    generalize ws.length - 1 = L at *
    simp (disch := first | omega | (simp; done) | assumption) [wr64, wrU8, wrU64, Nat.add_assoc, -getElem?_pos, List.getElem?_cons_zero, List.getElem?_cons_succ, hk0, hkI0, rs35, hl1, h37]
    refine h _ _ ⟨?_, by simp, by simp [cmL, Nat.add_assoc], by simp [cmL, Nat.add_assoc], by simp [tri, Nat.add_assoc], ?_, ?_, by simp, by simp, by simp⟩ hk0 hlen
    · ((repeat (first | exact AH.keepsAll_refl _ | refine keeps_set hok ?_ (by first | omega | (simp; done) | (simp; omega)) | refine keeps_new hok ?_ (by first | omega | (simp; done) | (simp; omega)))); done)
    · rw [List.map_drop]
      refine SL.keeps ?_ (by simpa using hv1)
      ((repeat (first | exact AH.keepsAll_refl _ | refine keeps_set hok ?_ (by first | omega | (simp; done) | (simp; omega)) | refine keeps_new hok ?_ (by first | omega | (simp; done) | (simp; omega)))); done)
    · intro b o n e h
      obtain ⟨_, _, _, e2⟩ := hb1 b o n e (by simpa using h)
      cases e2
      exact hq
  · have h37 : ¬ ((ws.length - 1 : Nat) : Int) = ((row k).2.1 : Int) + ((row k).2.2 : Int) := by omega
    have hb2 : (row k).2.1 ≤ 2 ∧ (row k).2.2 ≤ 3 := row_bounds k
    generalize ws.length - 1 = L at *
    simp (disch := first | omega | (simp; done) | assumption) [wr64, wrU8, wrU64, Nat.add_assoc, -getElem?_pos, List.getElem?_cons_zero, List.getElem?_cons_succ, hk0, hkI0, rs35, hl1, h37]
    refine ⟨?_, by simp; omega, ⟨k, [], [], 0, 0, 0⟩, _, rfl, ?_⟩
    · ((repeat (first | exact AH.keepsAll_refl _ | refine keeps_set hok ?_ (by first | omega | (simp; done) | (simp; omega)) | refine keeps_new hok ?_ (by first | omega | (simp; done) | (simp; omega)))); done)
    · rw [hr]; simp [hlen]
/-! ### Texts -/
def aA (t : Nat) (args : List (List UInt8)) (i : Nat) : List UInt8 := if 0 < i ∧ 0 < t then args.getD 0 [] else []
def bA (t : Nat) (args : List (List UInt8)) (i : Nat) : List UInt8 := if 1 < i ∧ 1 < t then args.getD 1 [] else []
def TlI (H : AH) (k : Nat) (args : List (List UInt8)) (t : Nat) (kk : Nat) (tm : Tms) (H' : AH) : Prop := ∃ i : Nat, kk = 2 - i ∧ i ≤ 2 ∧ RdS H k args (aA t args i) (bA t args i) tm H' ∧ (∀ j, j < i → j < t → txtB (args.getD j []) = true) ∧
  tm 42 = .agg [.ptr (H.next + 1) 1, .ptr (H.next + 1) 2] ∧ tm 43 = .int .i64 (i : Int)
def TlM (H : AH) (k : Nat) (args : List (List UInt8)) (t : Nat) (tm : Tms) (H' : AH) : Prop := RdS H k args (aA t args 2) (bA t args 2) tm H' ∧ ∀ j, j < 2 → j < t → txtB (args.getD j []) = true
theorem Read2 {ws : List (List UInt8)} {k : Nat} {args : List (List UInt8)} {H H1 : AH} {tm : Tms} (hok : H.ok) (hR : RdS H k args [] [] tm H1) (hlen : args.length = (row k).2.1 + (row k).2.2) (hw : ∀ w ∈ args, w.length ≤ 281474976710656)
    (bad : ∀ j, j < (row k).2.1 → txtB (args.getD j []) = false → readC ws = none) : IWP Tryd.prog (part_ [1, 1, 1, 1, 1, 1, 0] RC) (IPost.then (TlM H k args (row k).2.1) (RQ ws H)) tm H1 := by
  have hb1 : (row k).2.1 ≤ 2 ∧ (row k).2.2 ≤ 3 := row_bounds k
  obtain ⟨r1, r2, r3, r4, r5, r6, r0, r7, r8, r9⟩ := hR
  simp (disch := first | omega | (simp; done) | assumption) [wr64, wrU8, wrU64, Nat.add_assoc, -getElem?_pos, List.getElem?_cons_zero, List.getElem?_cons_succ, part_, RC, ic35, r7, r8, r9]
  refine iwp_loop (TlI H k args (row k).2.1) 2 ⟨0, rfl, by omega, ⟨r1, r2, r3, by simpa [aA, bA] using r4, r5, by simpa using r6, by simpa using r0, by simp [r7], by simp [r8], by simp [r9]⟩, fun j h => by omega, by simp, by simp⟩ ?_
  clear r1 r2 r3 r4 r5 r6 r0 r7 r8 r9
  rintro kk tm H1 ⟨i, rfl, hi, ⟨r1, r2, r3, r4, r5, r6, r0, r7, r8, r9⟩, hall, t42, t43⟩
  have r5' := r5
  simp only [tri] at r5'
  generalize (row k).2.1 = t at *
  generalize (row k).2.2 = m at *
  by_cases hlt : i < 2
  · have hlt' : (i : Int) < 2 := by omega
    by_cases hit : i < t
    · have hit' : (i : Int) < (t : Int) := by omega
      have hia : i < args.length := by omega
      obtain ⟨b, o, e0, hld⟩ := SL.get r6 i (by simpa using hia)
      have hgi : args.getD i [] = args[i] := by rw [List.getD_eq_getElem?_getD, List.getElem?_eq_getElem hia]; rfl
      have hwi := hw args[i] (List.getElem_mem hia)
      have hi01 : i = 0 ∨ i = 1 := by omega
      have hbn := r0 _ _ _ _ e0
      have hb1n : ¬ (b = H.next + 1) := by omega
      have hb3n : ¬ (H.next + 3 = H.next + 1) := by omega
      have hld' : loadC H1 b (o + i) none = some (.str args[i]) := by simpa using hld
      unfold loadC at hld'
      have hw1 : args[i] ∈ args := List.getElem_mem hia
      generalize args[i] = w at *
      have hgd := hgi
      rw [List.getD_eq_getElem?_getD] at hgd
      rcases hi01 with rfl | rfl
      · have hia0 : 0 < args.length := hia
        have hld0 := hld'
        simp only [Nat.add_zero] at hld0
        simp (disch := first | omega | (simp; done) | assumption) [wr64, wrU8, wrU64, Nat.add_assoc, -getElem?_pos, List.getElem?_cons_zero, List.getElem?_cons_succ, r5', r4, r7, r8, r9, t42, t43, hlt, hlt', hit, hit', e0, hia0, cmL]
        refine Try.intro hld0 ?_
        simp (disch := first | omega | (simp; done) | assumption) [wr64, wrU8, wrU64, Nat.add_assoc, -getElem?_pos, List.getElem?_cons_zero, List.getElem?_cons_succ, r5', r4, r7, r8, r9, t42, t43, hlt, hlt', hit, hit', e0, hia0, cmL, hb1n]
        refine Try.intro hld0 ?_
        simp (disch := first | omega | (simp; done) | assumption) [wr64, wrU8, wrU64, Nat.add_assoc, -getElem?_pos, List.getElem?_cons_zero, List.getElem?_cons_succ, r5', r4, r7, r8, r9, t42, t43, hlt, hlt', hit, hit', e0, hia0, cmL, hb1n]
        refine CallW.val (TextW w _ (hw w hw1)) ?_
        cases htx : txtB w with
        | false =>
          have hbd := bad 0 hit (by rw [hgi]; exact htx)
          simp (disch := first | omega | (simp; done) | assumption) [wr64, wrU8, wrU64, Nat.add_assoc, -getElem?_pos, List.getElem?_cons_zero, List.getElem?_cons_succ, r5', r4, r3, r7, r8, r9, t42, t43, hlt, hlt', hit, hit', e0, hia0, cmL, hb1n, htx, rs35]
          refine ⟨?_, by simp; omega, ⟨k, w, bA t args 0, 0, 0, 0⟩, _, rfl, by rw [hbd]⟩
          ((repeat (first | exact r1 | refine keeps_set hok ?_ (by first | omega | (simp; done) | (simp; omega)) | refine keeps_new hok ?_ (by first | omega | (simp; done) | (simp; omega)))); done)
        | true =>
          simp (disch := first | omega | (simp; done) | assumption) [wr64, wrU8, wrU64, Nat.add_assoc, -getElem?_pos, List.getElem?_cons_zero, List.getElem?_cons_succ, r5', r4, r3, r7, r8, r9, t42, t43, hlt, hlt', hit, hit', e0, hia0, cmL, hb1n, htx]
          refine ⟨1, by omega, 1, rfl, by omega, ⟨?_, by simp; omega, by simp [r3], ?_, by simp [r5], ?_, by simpa using r0, by simp [r7], by simp [r8], by simp [r9]⟩, fun j h1 h2 => ?_, by simp [t42], by simp⟩
          · ((repeat (first | exact r1 | refine keeps_set hok ?_ (by first | omega | (simp; done) | (simp; omega)) | refine keeps_new hok ?_ (by first | omega | (simp; done) | (simp; omega)))); done)
          · simp [cmL, aA, bA, hit, hgd]
          · exact SL.set_ne (by simpa using r6) fun b o n e h => by have := r0 b o n e (by simpa using h); omega
          · obtain rfl : j = 0 := by omega
            rw [hgi]; exact htx
      · have hia0 : 1 < args.length := hia
        have hia1 : (1 : Int) < (args.length : Int) := by omega
        have hit1 : (1 : Int) < (t : Int) := by omega
        have ht0 : 0 < t := by omega
        simp (disch := first | omega | (simp; done) | assumption) [wr64, wrU8, wrU64, Nat.add_assoc, -getElem?_pos, List.getElem?_cons_zero, List.getElem?_cons_succ, r5', r4, r7, r8, r9, t42, t43, hlt, hlt', hit, hit1, e0, hia0, hia1, cmL]
        refine Try.intro hld' ?_
        simp (disch := first | omega | (simp; done) | assumption) [wr64, wrU8, wrU64, Nat.add_assoc, -getElem?_pos, List.getElem?_cons_zero, List.getElem?_cons_succ, r5', r4, r7, r8, r9, t42, t43, hlt, hlt', hit, hit1, e0, hia0, hia1, cmL, hb1n]
        refine Try.intro hld' ?_
        simp (disch := first | omega | (simp; done) | assumption) [wr64, wrU8, wrU64, Nat.add_assoc, -getElem?_pos, List.getElem?_cons_zero, List.getElem?_cons_succ, r5', r4, r7, r8, r9, t42, t43, hlt, hlt', hit, hit1, e0, hia0, hia1, cmL, hb1n]
        refine CallW.val (TextW w _ (hw w hw1)) ?_
        cases htx : txtB w with
        | false =>
          have hbd := bad 1 hit (by rw [hgi]; exact htx)
          simp (disch := first | omega | (simp; done) | assumption) [wr64, wrU8, wrU64, Nat.add_assoc, -getElem?_pos, List.getElem?_cons_zero, List.getElem?_cons_succ, r5', r4, r3, r7, r8, r9, t42, t43, hlt, hlt', hit, hit', e0, hia0, cmL, hb1n, htx, hia1, hit1, rs35]
          refine ⟨?_, by simp; omega, ⟨k, aA t args 1, w, 0, 0, 0⟩, _, rfl, by rw [hbd]⟩
          ((repeat (first | exact r1 | refine keeps_set hok ?_ (by first | omega | (simp; done) | (simp; omega)) | refine keeps_new hok ?_ (by first | omega | (simp; done) | (simp; omega)))); done)
        | true =>
          simp (disch := first | omega | (simp; done) | assumption) [wr64, wrU8, wrU64, Nat.add_assoc, -getElem?_pos, List.getElem?_cons_zero, List.getElem?_cons_succ, r5', r4, r3, r7, r8, r9, t42, t43, hlt, hlt', hit, hit', e0, hia0, cmL, hb1n, htx, hia1, hit1]
          refine ⟨2, rfl, by omega, ⟨?_, by simp; omega, by simp [r3], ?_, by simp [r5], ?_, by simpa using r0, by simp [r7], by simp [r8], by simp [r9]⟩, fun j h1 h2 => ?_, by simp [t42], by simp⟩
          · ((repeat (first | exact r1 | refine keeps_set hok ?_ (by first | omega | (simp; done) | (simp; omega)) | refine keeps_new hok ?_ (by first | omega | (simp; done) | (simp; omega)))); done)
          · simp [cmL, aA, bA, hit, ht0, hgd]
          · exact SL.set_ne (by simpa using r6) fun b o n e h => by have := r0 b o n e (by simpa using h); omega
          · by_cases e : j = 0
            · subst e; exact hall 0 (by omega) h2
            · obtain rfl : j = 1 := by omega
              rw [hgi]; exact htx
    · have hit' : ¬ (i : Int) < (t : Int) := by omega
      have hia : i = 0 ∨ i = 1 := by omega
      rcases hia with rfl | rfl
      · simp (disch := first | omega | (simp; done) | assumption) [wr64, wrU8, wrU64, Nat.add_assoc, -getElem?_pos, List.getElem?_cons_zero, List.getElem?_cons_succ, r5', r7, r8, r9, t42, t43, hlt, hlt', hit, hit']
        exact ⟨1, by omega, 1, rfl, by omega, ⟨r1, r2, r3, by simpa [aA, bA, hit] using r4, r5, by simpa using r6, by simpa using r0, by simp [r7], by simp [r8], by simp [r9]⟩, fun j h1 h2 => by omega, by simp [t42], by simp⟩
      · have hit1 : ¬ (1 : Int) < (t : Int) := by omega
        simp (disch := first | omega | (simp; done) | assumption) [wr64, wrU8, wrU64, Nat.add_assoc, -getElem?_pos, List.getElem?_cons_zero, List.getElem?_cons_succ, r5', r7, r8, r9, t42, t43, hlt, hlt', hit, hit1]
        exact ⟨2, rfl, by omega, ⟨r1, r2, r3, by simpa [aA, bA, hit] using r4, r5, by simpa using r6, by simpa using r0, by simp [r7], by simp [r8], by simp [r9]⟩, fun j h1 h2 => hall j (by omega) h2, by simp [t42], by simp⟩
  · have hlt' : ¬ (i : Int) < 2 := by omega
    obtain rfl : i = 2 := by omega
    simp (disch := first | omega | (simp; done) | assumption) [wr64, wrU8, wrU64, Nat.add_assoc, -getElem?_pos, List.getElem?_cons_zero, List.getElem?_cons_succ, t42, t43]
    exact ⟨⟨r1, r2, r3, r4, r5, by simpa using r6, by simpa using r0, by simp [r7], by simp [r8], by simp [r9]⟩, fun j h1 h2 => hall j h1 h2⟩
end Go.Proofs.YtfimhkijacamoaaDoor.CNumb
set_option linter.unusedVariables false
set_option linter.unusedSimpArgs false
set_option maxRecDepth 10000
set_option maxHeartbeats 4000000
namespace Go.Proofs.YtfimhkijacamoaaDoor.CNumb
open Go Go.RowKit Go.Proofs.YtfimhkijacamoaaDoor Go.Proofs.YtfimhkijacamoaaDoor.Abs Go.Proofs.YtfimhkijacamoaaDoor.Ic Go.Proofs.YtfimhkijacamoaaDoor.EAs Go.Proofs.YtfimhkijacamoaaDoor.EErr Go.Proofs.YtfimhkijacamoaaDoor.CSpec Go.Proofs.YtfimhkijacamoaaDoor.LPcs Go.Proofs.YtfimhkijacamoaaDoor.LLib
theorem SL.kbel {B : Nat} {H H1 : AH} {v : AV} {l : List AV} (h : SL H v l) (hn : ∀ b o n e, v = .slice b o n e → b < B) (hk : KBel B H H1) : SL H1 v l := by
  rcases h with h | ⟨b, o, h1, h2, h3⟩
  · exact .inl h
  · refine .inr ⟨b, o, h1, h2, fun i hi => ?_⟩
    have hb := hn _ _ _ _ h1
    have e := h3 i hi
    rw [List.getElem?_eq_getElem hi] at e ⊢
    unfold loadC at e ⊢
    cases hq : H.at_ b with
    | none => rw [hq] at e; cases e
    | some ob => rw [hk b ob hb hq]; rw [hq] at e; exact e
theorem RdS.step {H H1 H2 : AH} {k : Nat} {args : List (List UInt8)} {a b : List UInt8} {tm tm' : Tms} (h : RdS H k args a b tm H1) (hok : H.ok) (hk : KBel (H.next + 4) H1 H2) (hn : H1.next ≤ H2.next) (e0 : tm' 0 = tm 0) (e2 : tm' 2 = tm 2) (e4 : tm' 4 = tm 4) (e6 : tm' 6 = tm 6) : RdS H k args a b tm' H2 := by
  obtain ⟨r1, r2, r3, r4, r5, r6, r0, r7, r8, r9⟩ := h
  refine ⟨KBel.keepsAll r1 (fun x o hx ho => hk x o (by omega) ho) hok, by omega, hk _ _ (by omega) r3, hk _ _ (by omega) r4, hk _ _ (by omega) r5, ?_, by rw [e0]; exact r0, by rw [e2]; exact r7, by rw [e4]; exact r8, by rw [e6]; exact r9⟩
  rw [e0]
  exact SL.kbel r6 (fun b o n e h => by have := r0 b o n e h; omega) hk
def NlI (H : AH) (k : Nat) (args : List (List UInt8)) (a b : List UInt8) (t m : Nat) (v : AV) (kk : Nat) (tm : Tms) (H' : AH) : Prop := ∃ i : Nat, kk = m - i ∧ i ≤ m ∧ RdS H k args a b tm H' ∧ (∀ j, j < i → numB (args.getD (t + j) []) = true) ∧
  tm 68 = v ∧ SL H' v ((args.drop t).map AV.str) ∧ (∀ b o n e, v = .slice b o n e → b < H.next) ∧ tm 69 = .int .i64 (m : Int) ∧ tm 70 = .int .i64 (i : Int) ∧ OutS (H.next + 4) H' 3 (tm 9) ((((args.drop t).map numV).take i).map natA)
def NlM (H : AH) (k : Nat) (args : List (List UInt8)) (a b : List UInt8) (t m : Nat) (tm : Tms) (H' : AH) : Prop := RdS H k args a b tm H' ∧ (∀ j, j < m → numB (args.getD (t + j) []) = true) ∧ OutS (H.next + 4) H' 3 (tm 9) (((args.drop t).map numV).map natA)
theorem Read3 {ws : List (List UInt8)} {k : Nat} {args : List (List UInt8)} {a b : List UInt8} {H H1 : AH} {tm : Tms} (hok : H.ok) (hG : CLaid.Ok H) (hR : RdS H k args a b tm H1) (hlen : args.length = (row k).2.1 + (row k).2.2) (hw : ∀ w ∈ args, w.length ≤ 281474976710656)
    (bad : ∀ j, j < (row k).2.2 → numB (args.getD ((row k).2.1 + j) []) = false → readC ws = none) : IWP Tryd.prog (.seq (part_ [1, 1, 1, 1, 1, 1, 1, 0] RC) (part_ [1, 1, 1, 1, 1, 1, 1, 1, 0] RC)) (IPost.then (NlM H k args a b (row k).2.1 (row k).2.2) (RQ ws H)) tm H1 := by
  have hb1 : (row k).2.1 ≤ 2 ∧ (row k).2.2 ≤ 3 := row_bounds k
  have hR' := hR
  obtain ⟨r1, r2, r3, r4, r5, r6, r0, r7, r8, r9⟩ := hR'
  obtain ⟨v1, hs1, hv1, hb2⟩ := SL.from r6 (row k).2.1 (by simp; omega)
  have hl1 := SL.lenS hv1
  rw [show (List.drop (row k).2.1 (args.map AV.str)).length = (row k).2.2 by simp; omega] at hl1
  have hbv : ∀ b o n e, v1 = .slice b o n e → b < H.next := fun b o n e h => by
    obtain ⟨_, _, _, e2⟩ := hb2 b o n e h
    exact r0 _ _ _ _ e2
  simp only [tri] at r5
  generalize ht : (row k).2.1 = t at *
  generalize hm : (row k).2.2 = m at *
  simp (disch := first | omega | (simp; done) | assumption) [wr64, wrU8, wrU64, Nat.add_assoc, -getElem?_pos, List.getElem?_cons_zero, List.getElem?_cons_succ, part_, RC, ic35, r5, r7, r8, r9]
  refine Try.intro hs1 ?_
  simp (disch := first | omega | (simp; done) | assumption) [wr64, wrU8, wrU64, Nat.add_assoc, -getElem?_pos, List.getElem?_cons_zero, List.getElem?_cons_succ, part_, RC, ic35, r5, r7, r8, r9, hl1]
  refine iwp_loop (NlI H k args a b t m v1) m ⟨0, rfl, by omega, hR.step hok (KBel.refl _ _) (Nat.le_refl _) (by simp) (by simp) (by simp) (by simp), fun j h => by omega, by simp, by simpa [List.map_drop] using hv1, hbv, by simp, by simp, .inl ⟨by simp, by simp⟩⟩ ?_
  clear r1 r2 r3 r4 r5 r6 r0 r7 r8 r9 hR hs1 hl1 hv1 hb2
  rintro kk tm H1 ⟨i, rfl, hi, hR, hall, t68, hv1, _, t69, t70, hout⟩
  by_cases hlt : i < m
  · have hlt' : (i : Int) < (m : Int) := by omega
    have hia : t + i < args.length := by omega
    obtain ⟨b0, o0, e0, hld⟩ := SL.get hv1 i (by simp; omega)
    have hgi : args.getD (t + i) [] = args[t + i] := by rw [List.getD_eq_getElem?_getD, List.getElem?_eq_getElem hia]; rfl
    have hld' : loadC H1 b0 (o0 + i) none = some (.str args[t + i]) := by simpa using hld
    unfold loadC at hld'
    have hw1 : args[t + i] ∈ args := List.getElem_mem hia
    have hi1 : i < (args.drop t).length := by simp; omega
    have htk : ((args.drop t).map numV).take (i + 1) = ((args.drop t).map numV).take i ++ [numV args[t + i]] := by
      have := (List.take_append_getElem (l := (args.drop t).map numV) (i := i) (by simpa using hi1)).symm
      simpa using this
    have hlen1 : (((args.drop t).map numV).take i).length = i := by simp; omega
    have hl2 : ((args.drop t).map AV.str).length = m := by simp; omega
    rw [hl2] at e0
    generalize args[t + i] = w at *
    obtain ⟨r1, r2, r3, r4, r5, r6, r0, r7, r8, r9⟩ := id hR
    simp (disch := first | omega | (simp; done) | assumption) [wr64, wrU8, wrU64, Nat.add_assoc, -getElem?_pos, List.getElem?_cons_zero, List.getElem?_cons_succ, t68, t69, t70, hlt, hlt', e0]
    refine Try.intro hld' ?_
    simp (disch := first | omega | (simp; done) | assumption) [wr64, wrU8, wrU64, Nat.add_assoc, -getElem?_pos, List.getElem?_cons_zero, List.getElem?_cons_succ, t68, t69, t70, hlt, hlt', e0]
    refine CallW.val (Number w _ (hw w hw1) (hG.keeps r1)) ?_
    cases hnb : numB w with
    | false =>
      have hbd := bad i hlt (by rw [hgi]; exact hnb)
      simp (disch := first | omega | (simp; done) | assumption) [wr64, wrU8, wrU64, Nat.add_assoc, -getElem?_pos, List.getElem?_cons_zero, List.getElem?_cons_succ, t68, t69, t70, hlt, hlt', e0, hnb, r7, r8, r3, r4, cmL, rs35]
      refine ⟨?_, by simp; omega, ⟨k, a, b, 0, 0, 0⟩, _, rfl, by rw [hbd]⟩
      ((repeat (first | exact r1 | refine keeps_set hok ?_ (by first | omega | (simp; done) | (simp; omega)) | refine keeps_new hok ?_ (by first | omega | (simp; done) | (simp; omega)))); done)
    | true =>
      have hnn : numN w = (numV w : Int) := by unfold numN; rw [atoi_num hnb]
      obtain ⟨v2, H2, a1, o1, n1, k1⟩ := appendOut (bytes := 8) (x := natA (numV w)) hout (by omega) rfl (by simp; omega) (by simp; omega)
      simp only [natA] at a1
      simp (disch := first | omega | (simp; done) | assumption) [wr64, wrU8, wrU64, Nat.add_assoc, -getElem?_pos, List.getElem?_cons_zero, List.getElem?_cons_succ, t68, t69, t70, hlt, hlt', e0, hnb, hnn]
      refine Try.intro a1 ?_
      simp (disch := first | omega | (simp; done) | assumption) [wr64, wrU8, wrU64, Nat.add_assoc, -getElem?_pos, List.getElem?_cons_zero, List.getElem?_cons_succ, t68, t69, t70]
      refine ⟨m - (i + 1), by omega, i + 1, rfl, by omega, hR.step hok k1 (by omega) (by simp) (by simp) (by simp) (by simp), fun j h => ?_, by simp [t68, e0], SL.kbel hv1 (fun b o n e h => by have := hbv b o n e h; omega) k1, hbv, by simp [t69], by simp, ?_⟩
      · by_cases e : j = i
        · subst e; rw [hgi]; exact hnb
        · exact hall j (by omega)
      · rw [htk]
        simpa [natA] using o1
  · have hlt' : ¬ (i : Int) < (m : Int) := by omega
    obtain rfl : i = m := by omega
    rw [List.take_of_length_le (by simp; omega)] at hout
    simp (disch := first | omega | (simp; done) | assumption) [wr64, wrU8, wrU64, Nat.add_assoc, -getElem?_pos, List.getElem?_cons_zero, List.getElem?_cons_succ, t69, t70, hlt, hlt']
    exact ⟨hR.step hok (KBel.refl _ _) (Nat.le_refl _) (by simp) (by simp) (by simp) (by simp), hall, by simpa using hout⟩
theorem Read4 {ws : List (List UInt8)} {k : Nat} {args : List (List UInt8)} {a b : List UInt8} {H H1 : AH} {tm : Tms} (hok : H.ok) (hR : NlM H k args a b (row k).2.1 (row k).2.2 tm H1) (hlen : args.length = (row k).2.1 + (row k).2.2)
    (good : (∀ j, j < (row k).2.2 → numB (args.getD ((row k).2.1 + j) []) = true) → readC ws = some ⟨k, a, b, ((args.drop (row k).2.1).map numV).getD 0 0, ((args.drop (row k).2.1).map numV).getD 1 0, ((args.drop (row k).2.1).map numV).getD 2 0⟩) : IWP Tryd.prog (part_ [1, 1, 1, 1, 1, 1, 1, 1, 1] RC) (RQ ws H) tm H1 := by
  have hb1 : (row k).2.1 ≤ 2 ∧ (row k).2.2 ≤ 3 := row_bounds k
  obtain ⟨⟨r1, r2, r3, r4, r5, r6, r0, r7, r8, r9⟩, hall, hout⟩ := hR
  have hrd := good hall
  clear good
  have hll : ((args.drop (row k).2.1).map numV).length ≤ 3 := by simp; omega
  generalize (args.drop (row k).2.1).map numV = l at *
  simp (disch := first | omega | (simp; done) | assumption) [wr64, wrU8, wrU64, Nat.add_assoc, -getElem?_pos, List.getElem?_cons_zero, List.getElem?_cons_succ, part_, RC, ic35, r7, r8, r9]
  refine CallW.of (Fill (k := k) (a := a) (b := b) (l := l) hout.sl hll (by simpa using r4) fun q o n e h => ?_) ?_
  · rcases hout with ⟨_, e2⟩ | ⟨q2, e2, _, _, h3, h4⟩
    · rw [e2] at h; cases h
    · rw [e2] at h; cases h; omega
  rintro v2 H2 ⟨rfl, f1, f2, f3⟩
  have f2r := f2 H.next _ (by omega) (by simpa using r3)
  try simp only [newO_none] at f1 f2 f3 f2r
  simp (disch := first | omega | (simp; done) | assumption) [wr64, wrU8, wrU64, Nat.add_assoc, -getElem?_pos, List.getElem?_cons_zero, List.getElem?_cons_succ, r7, r8, f1, f2r, cmL, rs35]
  refine ⟨fun x o hx => ?_, by simp; omega, ⟨k, a, b, l.getD 0 0, l.getD 1 0, l.getD 2 0⟩, _, rfl, by rw [hrd]; exact ⟨rfl, rfl⟩⟩
  have hxn := hok _ _ hx
  rw [AH.set_ne _ _ (by omega)]
  exact f2 x o (by omega) (r1 x o hx)
theorem Read {ws : List (List UInt8)} {q : Nat} {H : AH} (hG : CLaid.Ok H) (hO : OwnT H q ws) (hne : 0 < ws.length) (hw : ∀ w ∈ ws, w.length ≤ 281474976710656) :
    ACall Tryd.prog 35 [.slice q 0 ws.length 1] H (ReadP ws H) := by
  refine acall_ok (bodyP_of fits35) fun hok => acall_of fits35 (by simp) ?_
  have hw0 : ws.getD 0 [] = ws[0] := by rw [List.getD_eq_getElem?_getD, List.getElem?_eq_getElem hne]; rfl
  refine Read1 hok hO hne fun tm H1 hR hk0 hlen => ?_
  have hwa : ∀ w ∈ ws.drop 1, w.length ≤ 281474976710656 := fun w h => hw w (List.mem_of_mem_drop h)
  have hal : (ws.drop 1).length = (row (kindOf ws[0])).2.1 + (row (kindOf ws[0])).2.2 := by simp; omega
  have hr : readC ws = if (((ws.drop 1).take (row (kindOf ws[0])).2.1).all txtB && ((ws.drop 1).drop (row (kindOf ws[0])).2.1).all numB) = false then none else
      some ⟨kindOf ws[0], ((ws.drop 1).take (row (kindOf ws[0])).2.1).getD 0 [], ((ws.drop 1).take (row (kindOf ws[0])).2.1).getD 1 [], (((ws.drop 1).drop (row (kindOf ws[0])).2.1).map numV).getD 0 0, (((ws.drop 1).drop (row (kindOf ws[0])).2.1).map numV).getD 1 0, (((ws.drop 1).drop (row (kindOf ws[0])).2.1).map numV).getD 2 0⟩ := by
    unfold readC
    simp only [hw0]
    by_cases hb : (((ws.drop 1).take (row (kindOf ws[0])).2.1).all txtB && ((ws.drop 1).drop (row (kindOf ws[0])).2.1).all numB) = false
    · rw [if_pos (.inr (.inr hb)), if_pos hb]
    · rw [if_neg (fun h => by rcases h with h | h | h; exact hk0 h; exact h hlen; exact hb h), if_neg hb]
  generalize kindOf ws[0] = k at *
  generalize ws.drop 1 = args at *
  have hb1 : (row k).2.1 ≤ 2 ∧ (row k).2.2 ≤ 3 := row_bounds k
  have hg : ∀ j, args.getD j [] = if h : j < args.length then args[j] else [] := fun j => by
    rw [List.getD_eq_getElem?_getD]
    split
    · rename_i h; rw [List.getElem?_eq_getElem h]; rfl
    · rename_i h; rw [List.getElem?_eq_none (by omega)]; rfl
  have bad1 : ∀ j, j < (row k).2.1 → txtB (args.getD j []) = false → readC ws = none := fun j h1 h2 => by
    rw [hg j, dif_pos (by omega)] at h2
    rw [hr, if_pos]
    rw [Bool.and_eq_false_iff]
    refine .inl (List.all_eq_false.2 ⟨args[j]'(by omega), ?_, by simp [h2]⟩)
    exact List.mem_take_iff_getElem.2 ⟨j, by omega, rfl⟩
  have bad2 : ∀ j, j < (row k).2.2 → numB (args.getD ((row k).2.1 + j) []) = false → readC ws = none := fun j h1 h2 => by
    rw [hg, dif_pos (by omega)] at h2
    rw [hr, if_pos]
    rw [Bool.and_eq_false_iff]
    refine .inr (List.all_eq_false.2 ⟨args[(row k).2.1 + j]'(by omega), ?_, by simp [h2]⟩)
    exact List.mem_drop_iff_getElem.2 ⟨j, by omega, rfl⟩
  change IWP Tryd.prog (.seq (part_ [1, 1, 1, 1, 1, 1, 0] RC) (.seq (part_ [1, 1, 1, 1, 1, 1, 1, 0] RC) (.seq (part_ [1, 1, 1, 1, 1, 1, 1, 1, 0] RC) (part_ [1, 1, 1, 1, 1, 1, 1, 1, 1] RC)))) _ _ _
  have htk : ∀ j, ((args.take (row k).2.1).getD j []) = if j < (row k).2.1 then args.getD j [] else [] := fun j => by
    rw [List.getD_eq_getElem?_getD, List.getElem?_take]
    split
    · rw [List.getD_eq_getElem?_getD]
    · rfl
  refine iwp_cut (TlM H k args (row k).2.1) (Read2 hok hR hal hwa bad1) ?_
  rintro tm2 H2 ⟨hR2, htx⟩
  refine iwp_cut2 (NlM H k args (aA (row k).2.1 args 2) (bA (row k).2.1 args 2) (row k).2.1 (row k).2.2) (Read3 hok hG hR2 hal hwa bad2) ?_
  rintro tm3 H3 hN
  refine Read4 hok hN hal fun hnm => ?_
  rw [hr, if_neg, htk 0, htk 1]
  · simp [aA, bA]
  · intro hb
    rw [Bool.and_eq_false_iff] at hb
    rcases hb with hb | hb
    · obtain ⟨x, hx, h2⟩ := List.all_eq_false.1 hb
      obtain ⟨j, hj, rfl⟩ := List.mem_take_iff_getElem.1 hx
      have := htx j (by omega) (by omega)
      rw [hg j, dif_pos (by omega)] at this
      exact h2 this
    · obtain ⟨x, hx, h2⟩ := List.all_eq_false.1 hb
      obtain ⟨j, hj, rfl⟩ := List.mem_drop_iff_getElem.1 hx
      have := hnm j (by omega)
      rw [hg, dif_pos (by omega)] at this
      exact h2 this
end Go.Proofs.YtfimhkijacamoaaDoor.CNumb
set_option linter.unusedVariables false
set_option linter.unusedSimpArgs false
set_option maxRecDepth 10000
set_option maxHeartbeats 4000000
namespace Go.Proofs.YtfimhkijacamoaaDoor.CNumb
open Go Go.RowKit Go.Proofs.YtfimhkijacamoaaDoor Go.Proofs.YtfimhkijacamoaaDoor.Abs Go.Proofs.YtfimhkijacamoaaDoor.Ic Go.Proofs.YtfimhkijacamoaaDoor.EAs Go.Proofs.YtfimhkijacamoaaDoor.EErr Go.Proofs.YtfimhkijacamoaaDoor.CSpec Go.Proofs.YtfimhkijacamoaaDoor.LPcs Go.Proofs.YtfimhkijacamoaaDoor.LLib
def cmdB : List UInt8 := [99, 109, 100]
/-- An error of this package, of this number (0: none). -/
def ErrP (H : AH) (e : AV) (n : Int) : Prop := if n = 0 then e = .nilIface else ∃ g : Fl, g.op = cmdB ∧ g.name = [] ∧ e = .iface 75 (.ptr g.b 0) ∧ Chain H e [g] (some n)
def ParseP (s : List UInt8) (H : AH) (v : AV) (H' : AH) : Prop := H.keepsAll H' ∧ H.next ≤ H'.next ∧ ∃ e, v = .tuple [cmA (parseC s).2, e] ∧ ErrP H' e (parseC s).1
theorem pcs_lens {q : UInt8} {s : List UInt8} : ∀ w ∈ pcs q s, w.length ≤ s.length := by
  induction s with
  | nil => intro w h; simp [pcs] at h; subst h; simp
  | cons c l ih =>
    intro w h
    unfold pcs at h
    split at h
    · rcases List.mem_cons.1 h with rfl | h
      · simp
      · have := ih w h; simp; omega
    · cases hp : pcs q l with
      | nil => exact absurd hp (pcs_ne l)
      | cons p ps =>
        rw [hp] at h ih
        simp only at h
        rcases List.mem_cons.1 h with rfl | h
        · have := ih p (List.mem_cons_self ..); simp; omega
        · have := ih w (List.mem_cons_of_mem _ h); simp; omega
theorem keeps_same {H : AH} {b : Nat} {o : AObj} (h : H.at_ b = some o) : H.keepsAll (H.set b (some o)) := fun x q hx => by
  by_cases e : x = b
  · subst e; rw [h] at hx; cases hx; simp
  · rw [AH.set_ne _ _ e]; exact hx
theorem Parse (s : List UInt8) (H : AH) (hG : CLaid.Ok H) : ACall Tryd.prog 22 [.str s] H (ParseP s H) := by
  refine acall_ok (bodyP_of fits22) fun hok => acall_of fits22 (by simp) ?_
  by_cases hl : 300 < s.length
  · have hl' : (300 : Int) < (s.length : Int) := by omega
    have hp : parseC s = (2, zeroC) := by unfold parseC; rw [if_pos hl]
    simp (disch := first | omega | (simp; done) | assumption) [wr64, wrU8, wrU64, Nat.add_assoc, -getElem?_pos, List.getElem?_cons_zero, List.getElem?_cons_succ, ic22, rs22, hl, hl']
    refine CallW.of (ENewC _ _ (by decide) _) ?_
    rintro v H2 ⟨h1, h2, g, h3, h4, rfl, h5⟩
    try simp only [newO_none, newO_some] at h1 h2 h5
    have hB : H2.at_ H.next = some (.cells false tC (cmL 0 [] [] 0 0 0)) := h1 _ _ (by simp [cmL])
    have hs := keeps_same hB
    have hkk : H.keepsAll H2 := fun x o hx => h1 x o (keeps_new hok (AH.keepsAll_refl _) (Nat.le_refl _) x o hx)
    have hnn : H.next ≤ H2.next := by simp at h2; omega
    simp only [cmL] at hB hs
    simp (disch := first | omega | (simp; done) | assumption) [wr64, wrU8, wrU64, Nat.add_assoc, -getElem?_pos, List.getElem?_cons_zero, List.getElem?_cons_succ, rs22, hB]
    refine ⟨fun x o hx => hs x o (hkk x o hx), by simpa using hnn, _, by rw [hp]; rfl, ?_⟩
    rw [hp]
    exact ⟨g, h3, h4, rfl, h5.keeps hs⟩
  · have hl' : ¬ (300 : Int) < (s.length : Int) := by omega
    simp (disch := first | omega | (simp; done) | assumption) [wr64, wrU8, wrU64, Nat.add_assoc, -getElem?_pos, List.getElem?_cons_zero, List.getElem?_cons_succ, ic22, rs22, hl, hl']
    refine CallW.ofk (Split s 32 (by omega) _) ?_
    rintro v1 H1 ⟨hk1, hn1, rfl, hO⟩ hok1
    try simp only [newO_none, newO_some] at hk1 hn1 hO
    simp (disch := first | omega | (simp; done) | assumption) [wr64, wrU8, wrU64, Nat.add_assoc, -getElem?_pos, List.getElem?_cons_zero, List.getElem?_cons_succ, ]
    refine CallW.ofk (Read (hG.keeps ?_) hO (List.length_pos_iff.2 (pcs_ne s)) fun w hw => ?_) ?_
    · exact fun x o hx => hk1 x o (keeps_new hok (AH.keepsAll_refl _) (Nat.le_refl _) x o hx)
    · have := pcs_lens w hw; omega
    rintro v2 H2 ⟨hk2, hn2, c, b, rfl, hr⟩ hok2
    try simp only [newO_none, newO_some] at hk2 hn2
    have hB2 : H2.at_ H.next = some (.cells false tC (cmL 0 [] [] 0 0 0)) := hk2 _ _ (hk1 _ _ (by simp [cmL]))
    have hk0 : H.keepsAll H2 := fun x o hx => hk2 x o (hk1 x o (keeps_new hok (AH.keepsAll_refl _) (Nat.le_refl _) x o hx))
    have hn0 : H.next + 1 < H2.next := by simp at hn1; omega
    have hne : ¬ (H.next = H2.next) := by omega
    cases hrc : readC (pcs 32 s) with
    | none =>
      have hp : parseC s = (3, zeroC) := by unfold parseC; rw [if_neg hl, hrc]
      simp only [hrc] at hr
      subst hr
      simp (disch := first | omega | (simp; done) | assumption) [wr64, wrU8, wrU64, Nat.add_assoc, -getElem?_pos, List.getElem?_cons_zero, List.getElem?_cons_succ, cmA, cmL]
      refine CallW.of (ENewC _ _ (by decide) _) ?_
      rintro v H3 ⟨h1, h2, g, h3, h4, rfl, h5⟩
      try simp only [newO_none, newO_some] at h1 h2 h5
      have hB : H3.at_ H.next = some (.cells false tC (cmL 0 [] [] 0 0 0)) := h1 _ _ (by simpa [hne] using hB2)
      have hs := keeps_same hB
      have hk3 : H.keepsAll H3 := fun x o hx => by
        have := hok _ _ hx
        exact h1 x o (by simpa [show ¬ (x = H2.next) by omega] using hk0 x o hx)
      have hn3 : H.next ≤ H3.next := by simp at h2; omega
      simp only [cmL] at hB hs
      simp (disch := first | omega | (simp; done) | assumption) [wr64, wrU8, wrU64, Nat.add_assoc, -getElem?_pos, List.getElem?_cons_zero, List.getElem?_cons_succ, rs22, hB]
      refine ⟨fun x o hx => hs x o (hk3 x o hx), by simpa using hn3, _, by rw [hp]; rfl, ?_⟩
      rw [hp]
      exact ⟨g, h3, h4, rfl, h5.keeps hs⟩
    | some c' =>
      have hp : parseC s = (0, c') := by unfold parseC; rw [if_neg hl, hrc]
      simp only [hrc] at hr
      obtain ⟨rfl, rfl⟩ := hr
      simp only [cmL] at hB2
      simp (disch := first | omega | (simp; done) | assumption) [wr64, wrU8, wrU64, Nat.add_assoc, -getElem?_pos, List.getElem?_cons_zero, List.getElem?_cons_succ, cmA, cmL, rs22, hB2, hne]
      refine ⟨?_, by simp; omega, _, by rw [hp]; rfl, by rw [hp]; exact rfl⟩
      ((repeat (first | exact hk0 | refine keeps_set hok ?_ (by first | omega | (simp; done) | (simp; omega)) | refine keeps_new hok ?_ (by first | omega | (simp; done) | (simp; omega)))); done)
end Go.Proofs.YtfimhkijacamoaaDoor.CNumb

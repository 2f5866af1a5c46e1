/- Which goes first: what package pick's functions answer, and an order of candidates. -/
import Derived.Test.YtfimhkijacamoaaGreatDoorPVer
import Derived.Test.YtfimhkijacamoaaGreatDoorCBig
import Derived.Test.YtfimhkijacamoaaGreatDoorSrt3
set_option linter.unusedVariables false
set_option linter.unusedSimpArgs false
set_option maxRecDepth 10000
set_option maxHeartbeats 4000000
namespace Go.Proofs.YtfimhkijacamoaaGreatDoor.PPick
open Go Go.RowKit Go.Proofs.YtfimhkijacamoaaGreatDoor Go.Proofs.YtfimhkijacamoaaGreatDoor.Abs Go.Proofs.YtfimhkijacamoaaGreatDoor.Ic Go.Proofs.YtfimhkijacamoaaGreatDoor.Vm Go.Proofs.YtfimhkijacamoaaGreatDoor.Dg Go.Proofs.YtfimhkijacamoaaGreatDoor.PVer Go.Proofs.YtfimhkijacamoaaGreatDoor.CFn Go.Proofs.YtfimhkijacamoaaGreatDoor.SP Go.Proofs.YtfimhkijacamoaaGreatDoor.Srt
structure Cd where
  file : List UInt8
  stem : List UInt8
  has : Bool
  left : Int
  done : Int
  ver : List UInt8
  deriving DecidableEq
def d0 : Cd := ⟨[], [], false, 0, 0, []⟩
def cdC (c : Cd) : List AV := [.str c.file, .str c.stem, .bool c.has, .int .i64 c.left, .int .i64 c.done, .str c.ver]
theorem cdC_len (c : Cd) : (cdC c).length = 6 := rfl
theorem cdC_one (c : Cd) : (cdC c).all AV.one = true := rfl
def badC (c : Cd) : Bool := c.has && !decide (0 < c.left)
def rankC (c : Cd) : Int := if badC c then 1 else 0
def goodC (c : Cd) : Int := if c.has then 1 else 0
def VOk (c : Cd) : Prop := c.ver.length ≤ 1000000
def cmpC : Cd → Cd → Int := Ord.lexc (fun a b => cmpI (rankC a) (rankC b)) (Ord.lexc (fun a b => cmpV b.ver a.ver) (Ord.lexc (fun a b => cmpI (goodC a) (goodC b)) (fun a b => cmpB a.file b.file)))
theorem cmpV_ord : Ord cmpV := cmpT_ord.on toks
theorem flip_ord {α : Type} {c : α → α → Int} (h : Ord c) : Ord (fun a b => c b a) :=
  ⟨fun a b => h.rng b a, fun a b => h.anti b a, fun a b d h1 h2 => h.tr d b a h2 h1⟩
theorem cmpC_ord : Ord cmpC := (cmpI_ord.on rankC).lex (((flip_ord cmpV_ord).on (fun c : Cd => c.ver)).lex ((cmpI_ord.on goodC).lex (cmpB_ord.on (fun c : Cd => c.file))))
theorem less_bytes : ∀ (x y : List UInt8), Op.bytesLess x y = decide (cmpB x y < 0)
  | [], [] => by simp [Op.bytesLess, Lib.compareBytes]
  | _ :: _, [] => by simp [Op.bytesLess, Lib.compareBytes]
  | [], _ :: _ => by simp [Op.bytesLess, Lib.compareBytes]
  | a :: x, b :: y => by
    rw [Op.bytesLess, less_bytes x y, cmpB_cons]
    unfold cmpc
    by_cases h1 : a < b
    · simp [h1]
    · by_cases h2 : b < a
      · have hne : ¬ a = b := fun e => by subst e; exact h1 h2
        simp [h1, h2, hne]
      · have he : a = b := UInt8.le_antisymm (UInt8.not_lt.1 h2) (UInt8.not_lt.1 h1)
        subst he
        simp [h1]
theorem state_bad (c : Cd) : state c.has c.left = if badC c then 2 else if c.has then 1 else 0 := by
  unfold state badC
  cases c.has <;> by_cases h : 0 < c.left <;> simp [h]
theorem Startable (c : Cd) (H : AH) : ACall Tryz.prog 16 [.agg (cdC c)] H (fun v H' => v = .bool (!badC c) ∧ H' = H) := by
  refine acall_enter fits16 (by simp) (by simp) fun hok => ?_
  simp (disch := first | omega | (simp; done) | assumption) [wr64, wrU8, wrU64, Nat.add_assoc, -getElem?_pos, List.getElem?_cons_zero, List.getElem?_cons_succ, ic16, rs16, cdC]
  refine CallW.val (State _ _ _ _) ?_
  rw [state_bad]
  cases hb : badC c with
  | true =>
    simp (disch := first | omega | (simp; done) | assumption) [wr64, wrU8, wrU64, Nat.add_assoc, -getElem?_pos, List.getElem?_cons_zero, List.getElem?_cons_succ, cdC]
    ((repeat (first | exact AH.keepsAll_refl _ | refine keeps_set hok ?_ (by first | omega | (simp; done) | (simp; omega)) | refine keeps_new hok ?_ (by first | omega | (simp; done) | (simp; omega)))); done)
  | false =>
    cases hh : c.has with
    | true => simp (disch := first | omega | (simp; done) | assumption) [wr64, wrU8, wrU64, Nat.add_assoc, -getElem?_pos, List.getElem?_cons_zero, List.getElem?_cons_succ, cdC, hh]; ((repeat (first | exact AH.keepsAll_refl _ | refine keeps_set hok ?_ (by first | omega | (simp; done) | (simp; omega)) | refine keeps_new hok ?_ (by first | omega | (simp; done) | (simp; omega)))); done)
    | false => simp (disch := first | omega | (simp; done) | assumption) [wr64, wrU8, wrU64, Nat.add_assoc, -getElem?_pos, List.getElem?_cons_zero, List.getElem?_cons_succ, cdC, hh]; ((repeat (first | exact AH.keepsAll_refl _ | refine keeps_set hok ?_ (by first | omega | (simp; done) | (simp; omega)) | refine keeps_new hok ?_ (by first | omega | (simp; done) | (simp; omega)))); done)
theorem Rank (c : Cd) (H : AH) : ACall Tryz.prog 17 [.agg (cdC c)] H (fun v H' => v = .int .i64 (rankC c) ∧ H' = H) := by
  refine acall_enter fits17 (by simp) (by simp) fun hok => ?_
  have hS := Startable c
  unfold rankC
  simp only [cdC] at hS ⊢
  simp (disch := first | omega | (simp; done) | assumption) [wr64, wrU8, wrU64, Nat.add_assoc, -getElem?_pos, List.getElem?_cons_zero, List.getElem?_cons_succ, ic17, rs17]
  refine CallW.val (hS _) ?_
  cases hb : badC c with
  | true => simp (disch := first | omega | (simp; done) | assumption) [wr64, wrU8, wrU64, Nat.add_assoc, -getElem?_pos, List.getElem?_cons_zero, List.getElem?_cons_succ, ]; ((repeat (first | exact AH.keepsAll_refl _ | refine keeps_set hok ?_ (by first | omega | (simp; done) | (simp; omega)) | refine keeps_new hok ?_ (by first | omega | (simp; done) | (simp; omega)))); done)
  | false => simp (disch := first | omega | (simp; done) | assumption) [wr64, wrU8, wrU64, Nat.add_assoc, -getElem?_pos, List.getElem?_cons_zero, List.getElem?_cons_succ, ]; ((repeat (first | exact AH.keepsAll_refl _ | refine keeps_set hok ?_ (by first | omega | (simp; done) | (simp; omega)) | refine keeps_new hok ?_ (by first | omega | (simp; done) | (simp; omega)))); done)
theorem Good1 (c : Cd) (H : AH) : ACall Tryz.prog 30 [.agg (cdC c)] H (fun v H' => v = .bool (decide (goodC c = 0)) ∧ H' = H) := by
  refine acall_enter fits30 (by simp) (by simp) fun hok => ?_
  simp (disch := first | omega | (simp; done) | assumption) [wr64, wrU8, wrU64, Nat.add_assoc, -getElem?_pos, List.getElem?_cons_zero, List.getElem?_cons_succ, ic30, rs30, cdC]
  refine CallW.val (State _ _ _ _) ?_
  unfold goodC
  rw [state_bad]
  cases hh : c.has with
  | true =>
    cases hb : badC c with
    | true => simp (disch := first | omega | (simp; done) | assumption) [wr64, wrU8, wrU64, Nat.add_assoc, -getElem?_pos, List.getElem?_cons_zero, List.getElem?_cons_succ, ]; ((repeat (first | exact AH.keepsAll_refl _ | refine keeps_set hok ?_ (by first | omega | (simp; done) | (simp; omega)) | refine keeps_new hok ?_ (by first | omega | (simp; done) | (simp; omega)))); done)
    | false => simp (disch := first | omega | (simp; done) | assumption) [wr64, wrU8, wrU64, Nat.add_assoc, -getElem?_pos, List.getElem?_cons_zero, List.getElem?_cons_succ, ]; ((repeat (first | exact AH.keepsAll_refl _ | refine keeps_set hok ?_ (by first | omega | (simp; done) | (simp; omega)) | refine keeps_new hok ?_ (by first | omega | (simp; done) | (simp; omega)))); done)
  | false =>
    have hb : badC c = false := by unfold badC; rw [hh]; rfl
    simp (disch := first | omega | (simp; done) | assumption) [wr64, wrU8, wrU64, Nat.add_assoc, -getElem?_pos, List.getElem?_cons_zero, List.getElem?_cons_succ, hb]; ((repeat (first | exact AH.keepsAll_refl _ | refine keeps_set hok ?_ (by first | omega | (simp; done) | (simp; omega)) | refine keeps_new hok ?_ (by first | omega | (simp; done) | (simp; omega)))); done)
/-- The first question whose answers are unlike. -/
def firstC (a b : Cd) : Int := if rankC a ≠ rankC b then 0 else if cmpV a.ver b.ver ≠ 0 then 1 else if goodC a ≠ goodC b then 2 else 3
theorem goodC_rng (c : Cd) : goodC c = 0 ∨ goodC c = 1 := by unfold goodC; split <;> omega
theorem First (a b : Cd) (ha : VOk a) (hb : VOk b) (H : AH) : ACall Tryz.prog 20 [.agg (cdC a), .agg (cdC b)] H (fun v H' => v = .int .i64 (firstC a b) ∧ H' = H) := by
  refine acall_enter fits20 (by simp) (by simp) fun hok => ?_
  have r1 := Rank a
  have r2 := Rank b
  have g1 := Good1 a
  have g2 := Good1 b
  unfold firstC
  have q1 := goodC_rng a
  have q2 := goodC_rng b
  simp only [cdC] at r1 r2 g1 g2 ⊢
  simp (disch := first | omega | (simp; done) | assumption) [wr64, wrU8, wrU64, Nat.add_assoc, -getElem?_pos, List.getElem?_cons_zero, List.getElem?_cons_succ, ic20, rs20]
  refine CallW.val (r1 _) ?_
  simp (disch := first | omega | (simp; done) | assumption) [wr64, wrU8, wrU64, Nat.add_assoc, -getElem?_pos, List.getElem?_cons_zero, List.getElem?_cons_succ, ]
  refine CallW.val (r2 _) ?_
  by_cases h1 : rankC a = rankC b
  · simp (disch := first | omega | (simp; done) | assumption) [wr64, wrU8, wrU64, Nat.add_assoc, -getElem?_pos, List.getElem?_cons_zero, List.getElem?_cons_succ, h1]
    refine CallW.val (Compare a.ver b.ver ha hb _) ?_
    by_cases h2 : cmpV a.ver b.ver = 0
    · simp (disch := first | omega | (simp; done) | assumption) [wr64, wrU8, wrU64, Nat.add_assoc, -getElem?_pos, List.getElem?_cons_zero, List.getElem?_cons_succ, h2]
      refine CallW.val (g1 _) ?_
      simp (disch := first | omega | (simp; done) | assumption) [wr64, wrU8, wrU64, Nat.add_assoc, -getElem?_pos, List.getElem?_cons_zero, List.getElem?_cons_succ, ]
      refine CallW.val (g2 _) ?_
      by_cases h3 : goodC a = goodC b
      · simp (disch := first | omega | (simp; done) | assumption) [wr64, wrU8, wrU64, Nat.add_assoc, -getElem?_pos, List.getElem?_cons_zero, List.getElem?_cons_succ, h1, h2, h3]
        ((repeat (first | exact AH.keepsAll_refl _ | refine keeps_set hok ?_ (by first | omega | (simp; done) | (simp; omega)) | refine keeps_new hok ?_ (by first | omega | (simp; done) | (simp; omega)))); done)
      · rcases q1 with q1 | q1 <;> rcases q2 with q2 | q2
        · omega
        · simp (disch := first | omega | (simp; done) | assumption) [wr64, wrU8, wrU64, Nat.add_assoc, -getElem?_pos, List.getElem?_cons_zero, List.getElem?_cons_succ, h1, h2, q1, q2]; ((repeat (first | exact AH.keepsAll_refl _ | refine keeps_set hok ?_ (by first | omega | (simp; done) | (simp; omega)) | refine keeps_new hok ?_ (by first | omega | (simp; done) | (simp; omega)))); done)
        · simp (disch := first | omega | (simp; done) | assumption) [wr64, wrU8, wrU64, Nat.add_assoc, -getElem?_pos, List.getElem?_cons_zero, List.getElem?_cons_succ, h1, h2, q1, q2]; ((repeat (first | exact AH.keepsAll_refl _ | refine keeps_set hok ?_ (by first | omega | (simp; done) | (simp; omega)) | refine keeps_new hok ?_ (by first | omega | (simp; done) | (simp; omega)))); done)
        · omega
    · simp (disch := first | omega | (simp; done) | assumption) [wr64, wrU8, wrU64, Nat.add_assoc, -getElem?_pos, List.getElem?_cons_zero, List.getElem?_cons_succ, h1, h2]
      ((repeat (first | exact AH.keepsAll_refl _ | refine keeps_set hok ?_ (by first | omega | (simp; done) | (simp; omega)) | refine keeps_new hok ?_ (by first | omega | (simp; done) | (simp; omega)))); done)
  · simp (disch := first | omega | (simp; done) | assumption) [wr64, wrU8, wrU64, Nat.add_assoc, -getElem?_pos, List.getElem?_cons_zero, List.getElem?_cons_succ, h1]
    ((repeat (first | exact AH.keepsAll_refl _ | refine keeps_set hok ?_ (by first | omega | (simp; done) | (simp; omega)) | refine keeps_new hok ?_ (by first | omega | (simp; done) | (simp; omega)))); done)
theorem cmpC_neg (a b : Cd) : cmpC a b < 0 ↔ (rankC a ≠ rankC b ∧ rankC a < rankC b) ∨ (rankC a = rankC b ∧ cmpV a.ver b.ver ≠ 0 ∧ 0 < cmpV a.ver b.ver) ∨
    (rankC a = rankC b ∧ cmpV a.ver b.ver = 0 ∧ goodC a ≠ goodC b ∧ goodC a = 0) ∨ (rankC a = rankC b ∧ cmpV a.ver b.ver = 0 ∧ goodC a = goodC b ∧ cmpB a.file b.file < 0) := by
  have hv := cmpV_ord.anti a.ver b.ver
  have q1 := goodC_rng a
  have q2 := goodC_rng b
  unfold cmpC Ord.lexc
  simp only []
  by_cases h1 : rankC a = rankC b
  · rw [if_pos (cmpI_zero.2 h1)]
    by_cases h2 : cmpV a.ver b.ver = 0
    · rw [if_pos (by omega)]
      by_cases h3 : goodC a = goodC b
      · rw [if_pos (cmpI_zero.2 h3)]
        omega
      · rw [if_neg (by rw [cmpI_zero]; exact h3)]
        unfold cmpI
        repeat' split
        all_goals omega
    · rw [if_neg (by omega)]
      omega
  · rw [if_neg (by rw [cmpI_zero]; exact h1)]
    unfold cmpI
    repeat' split
    all_goals omega
theorem Less (a b : Cd) (ha : VOk a) (hb : VOk b) (H : AH) : ACall Tryz.prog 13 [.agg (cdC a), .agg (cdC b)] H (fun v H' => v = .bool (decide (cmpC a b < 0)) ∧ H' = H) := by
  refine acall_enter fits13 (by simp) (by simp) fun hok => ?_
  have r1 := Rank a
  have r2 := Rank b
  have hF := First a b ha hb
  have q1 := goodC_rng a
  have q2 := goodC_rng b
  have hn := cmpC_neg a b
  have hfl := less_bytes a.file b.file
  have hst := state_bad a
  simp only [cdC] at r1 r2 hF ⊢
  simp (disch := first | omega | (simp; done) | assumption) [wr64, wrU8, wrU64, Nat.add_assoc, -getElem?_pos, List.getElem?_cons_zero, List.getElem?_cons_succ, ic13, rs13]
  refine CallW.val (hF _) ?_
  unfold firstC
  by_cases h1 : rankC a = rankC b
  · by_cases h2 : cmpV a.ver b.ver = 0
    · by_cases h3 : goodC a = goodC b
      · by_cases h4 : cmpB a.file b.file < 0
        · have hr : cmpC a b < 0 := hn.2 (by omega)
          simp (disch := first | omega | (simp; done) | assumption) [wr64, wrU8, wrU64, Nat.add_assoc, -getElem?_pos, List.getElem?_cons_zero, List.getElem?_cons_succ, h1, h2, h3, hfl, h4, hr]
          ((repeat (first | exact AH.keepsAll_refl _ | refine keeps_set hok ?_ (by first | omega | (simp; done) | (simp; omega)) | refine keeps_new hok ?_ (by first | omega | (simp; done) | (simp; omega)))); done)
        · have hr : ¬ cmpC a b < 0 := fun e => by have := hn.1 e; omega
          simp (disch := first | omega | (simp; done) | assumption) [wr64, wrU8, wrU64, Nat.add_assoc, -getElem?_pos, List.getElem?_cons_zero, List.getElem?_cons_succ, h1, h2, h3, hfl, h4]
          refine CallW.val (Compare a.ver b.ver ha hb _) ?_
          simp (disch := first | omega | (simp; done) | assumption) [wr64, wrU8, wrU64, Nat.add_assoc, -getElem?_pos, List.getElem?_cons_zero, List.getElem?_cons_succ, h2, hr]
          ((repeat (first | exact AH.keepsAll_refl _ | refine keeps_set hok ?_ (by first | omega | (simp; done) | (simp; omega)) | refine keeps_new hok ?_ (by first | omega | (simp; done) | (simp; omega)))); done)
      · have hz : (state a.has a.left = 0) = (goodC a = 0) := by
          rw [state_bad]; unfold goodC badC
          cases a.has <;> by_cases h : 0 < a.left <;> simp [h]
        simp (disch := first | omega | (simp; done) | assumption) [wr64, wrU8, wrU64, Nat.add_assoc, -getElem?_pos, List.getElem?_cons_zero, List.getElem?_cons_succ, h1, h2, h3]
        refine CallW.val (State _ _ _ _) ?_
        rcases q1 with q | q
        · have hr : cmpC a b < 0 := hn.2 (by omega)
          simp (disch := first | omega | (simp; done) | assumption) [wr64, wrU8, wrU64, Nat.add_assoc, -getElem?_pos, List.getElem?_cons_zero, List.getElem?_cons_succ, hz, q, hr]
          ((repeat (first | exact AH.keepsAll_refl _ | refine keeps_set hok ?_ (by first | omega | (simp; done) | (simp; omega)) | refine keeps_new hok ?_ (by first | omega | (simp; done) | (simp; omega)))); done)
        · have hr : ¬ cmpC a b < 0 := fun e => by have := hn.1 e; omega
          simp (disch := first | omega | (simp; done) | assumption) [wr64, wrU8, wrU64, Nat.add_assoc, -getElem?_pos, List.getElem?_cons_zero, List.getElem?_cons_succ, hz, q, hr]
          ((repeat (first | exact AH.keepsAll_refl _ | refine keeps_set hok ?_ (by first | omega | (simp; done) | (simp; omega)) | refine keeps_new hok ?_ (by first | omega | (simp; done) | (simp; omega)))); done)
    · simp (disch := first | omega | (simp; done) | assumption) [wr64, wrU8, wrU64, Nat.add_assoc, -getElem?_pos, List.getElem?_cons_zero, List.getElem?_cons_succ, h1, h2]
      refine CallW.val (Compare a.ver b.ver ha hb _) ?_
      by_cases h4 : 0 < cmpV a.ver b.ver
      · have hr : cmpC a b < 0 := hn.2 (by omega)
        simp (disch := first | omega | (simp; done) | assumption) [wr64, wrU8, wrU64, Nat.add_assoc, -getElem?_pos, List.getElem?_cons_zero, List.getElem?_cons_succ, h4, hr]
        ((repeat (first | exact AH.keepsAll_refl _ | refine keeps_set hok ?_ (by first | omega | (simp; done) | (simp; omega)) | refine keeps_new hok ?_ (by first | omega | (simp; done) | (simp; omega)))); done)
      · have hr : ¬ cmpC a b < 0 := fun e => by have := hn.1 e; omega
        simp (disch := first | omega | (simp; done) | assumption) [wr64, wrU8, wrU64, Nat.add_assoc, -getElem?_pos, List.getElem?_cons_zero, List.getElem?_cons_succ, h4, hr]
        ((repeat (first | exact AH.keepsAll_refl _ | refine keeps_set hok ?_ (by first | omega | (simp; done) | (simp; omega)) | refine keeps_new hok ?_ (by first | omega | (simp; done) | (simp; omega)))); done)
  · simp (disch := first | omega | (simp; done) | assumption) [wr64, wrU8, wrU64, Nat.add_assoc, -getElem?_pos, List.getElem?_cons_zero, List.getElem?_cons_succ, h1]
    refine CallW.val (r1 _) ?_
    simp (disch := first | omega | (simp; done) | assumption) [wr64, wrU8, wrU64, Nat.add_assoc, -getElem?_pos, List.getElem?_cons_zero, List.getElem?_cons_succ, ]
    refine CallW.val (r2 _) ?_
    by_cases h4 : rankC a < rankC b
    · have hr : cmpC a b < 0 := hn.2 (by omega)
      simp (disch := first | omega | (simp; done) | assumption) [wr64, wrU8, wrU64, Nat.add_assoc, -getElem?_pos, List.getElem?_cons_zero, List.getElem?_cons_succ, h4, hr]
      ((repeat (first | exact AH.keepsAll_refl _ | refine keeps_set hok ?_ (by first | omega | (simp; done) | (simp; omega)) | refine keeps_new hok ?_ (by first | omega | (simp; done) | (simp; omega)))); done)
    · have hr : ¬ cmpC a b < 0 := fun e => by have := hn.1 e; omega
      simp (disch := first | omega | (simp; done) | assumption) [wr64, wrU8, wrU64, Nat.add_assoc, -getElem?_pos, List.getElem?_cons_zero, List.getElem?_cons_succ, h4, hr]
      ((repeat (first | exact AH.keepsAll_refl _ | refine keeps_set hok ?_ (by first | omega | (simp; done) | (simp; omega)) | refine keeps_new hok ?_ (by first | omega | (simp; done) | (simp; omega)))); done)
theorem Cmp (a b : Cd) (ha : VOk a) (hb : VOk b) (H : AH) : ACall Tryz.prog 12 [.agg (cdC a), .agg (cdC b)] H (fun v H' => v = .int .i64 (cmpC a b) ∧ H' = H) := by
  refine acall_enter fits12 (by simp) (by simp) fun hok => ?_
  have l1 := Less a b ha hb
  have l2 := Less b a hb ha
  have hr := cmpC_ord.rng a b
  have hs := cmpC_ord.anti a b
  simp only [cdC] at l1 l2 ⊢
  simp (disch := first | omega | (simp; done) | assumption) [wr64, wrU8, wrU64, Nat.add_assoc, -getElem?_pos, List.getElem?_cons_zero, List.getElem?_cons_succ, ic12, rs12]
  refine CallW.val (l1 _) ?_
  rw [hs] at l2
  rcases hr with h | h | h
  · simp (disch := first | omega | (simp; done) | assumption) [wr64, wrU8, wrU64, Nat.add_assoc, -getElem?_pos, List.getElem?_cons_zero, List.getElem?_cons_succ, h]
    ((repeat (first | exact AH.keepsAll_refl _ | refine keeps_set hok ?_ (by first | omega | (simp; done) | (simp; omega)) | refine keeps_new hok ?_ (by first | omega | (simp; done) | (simp; omega)))); done)
  · simp (disch := first | omega | (simp; done) | assumption) [wr64, wrU8, wrU64, Nat.add_assoc, -getElem?_pos, List.getElem?_cons_zero, List.getElem?_cons_succ, h]
    refine CallW.val (l2 _) ?_
    simp (disch := first | omega | (simp; done) | assumption) [wr64, wrU8, wrU64, Nat.add_assoc, -getElem?_pos, List.getElem?_cons_zero, List.getElem?_cons_succ, h]
    ((repeat (first | exact AH.keepsAll_refl _ | refine keeps_set hok ?_ (by first | omega | (simp; done) | (simp; omega)) | refine keeps_new hok ?_ (by first | omega | (simp; done) | (simp; omega)))); done)
  · simp (disch := first | omega | (simp; done) | assumption) [wr64, wrU8, wrU64, Nat.add_assoc, -getElem?_pos, List.getElem?_cons_zero, List.getElem?_cons_succ, h]
    refine CallW.val (l2 _) ?_
    simp (disch := first | omega | (simp; done) | assumption) [wr64, wrU8, wrU64, Nat.add_assoc, -getElem?_pos, List.getElem?_cons_zero, List.getElem?_cons_succ, h]
    ((repeat (first | exact AH.keepsAll_refl _ | refine keeps_set hok ?_ (by first | omega | (simp; done) | (simp; omega)) | refine keeps_new hok ?_ (by first | omega | (simp; done) | (simp; omega)))); done)
/-! ### Putting in order -/
abbrev rowsC (L : List Cd) : List (List AV) := L.map cdC
theorem all6 (L : List Cd) : All 6 (rowsC L) := fun x hx => by obtain ⟨c, _, rfl⟩ := List.mem_map.1 hx; rfl
theorem Clone {B : Nat} {H : AH} {v : AV} {L : List Cd} (h : OutF B H tE 6 v (rowsC L)) (hl : L.length ≤ 1000) :
    ACall Tryz.prog 10 [v] H (fun r H' => H.keepsAll H' ∧ H.next ≤ H'.next ∧ OutF H.next H' tE 6 r (rowsC L)) := by
  refine acall_ok (bodyP_of fits10) fun hok => acall_of fits10 (by simp) ?_
  rcases h with ⟨h1, rfl⟩ | ⟨q, rfl, hne, hq, hB, hqn⟩
  · simp (disch := first | omega | (simp; done) | assumption) [wr64, wrU8, wrU64, Nat.add_assoc, -getElem?_pos, List.getElem?_cons_zero, List.getElem?_cons_succ, ic10, rs10]
    exact ⟨AH.keepsAll_refl _, .inl ⟨h1, rfl⟩⟩
  · have hl6 : (rowsC L).flatten.length = (rowsC L).length * 6 := flat_len (all6 L)
    have hn0 : ¬ (rowsC L).length = 0 := fun e => hne (List.eq_nil_of_length_eq_zero e)
    have hq1 : ¬ q = H.next := by omega
    have hone : (rowsC L).flatten.all AV.one = true := flat_mem fun l hl x hx => by
      obtain ⟨c, _, rfl⟩ := List.mem_map.1 hl
      exact List.all_eq_true.1 (cdC_one c) x hx
    have hlen : (rowsC L).length ≤ 1000 := by rw [List.length_map]; exact hl
    have hap : appendK (H.new (.cells false tE [])) false tE 6 72 (.slice H.next 0 0 6) (.slice q 0 (rowsC L).length 6) = some (.slice (H.next + 1) 0 (rowsC L).length 6, ((H.new (.cells false tE [])).set H.next none).new (.cells false tE (rowsC L).flatten)) := by
      have hsrc : srcCells (H.new (.cells false tE [])) 6 (rowsC L).length (.slice q 0 (rowsC L).length 6) = some (rowsC L).flatten := by
        have : loadC (H.new (.cells false tE [])) q 0 (some ((rowsC L).length * 6)) = some (.agg (rowsC L).flatten) := load_own (by rw [AH.new_ne _ _ hq1]; exact hq) hl6
        simp only [srcCells, this]
      simp only [appendK, isStrV, if_true, appendA, lenA, Option.bind_some, if_neg hn0, hsrc, hone]
      simp
      omega
    generalize rowsC L = R at *
    simp (disch := first | omega | (simp; done) | assumption) [wr64, wrU8, wrU64, Nat.add_assoc, -getElem?_pos, List.getElem?_cons_zero, List.getElem?_cons_succ, ic10, rs10]
    refine Try.intro hap ?_
    simp (disch := first | omega | (simp; done) | assumption) [wr64, wrU8, wrU64, Nat.add_assoc, -getElem?_pos, List.getElem?_cons_zero, List.getElem?_cons_succ, ]
    refine ⟨by ((repeat (first | exact AH.keepsAll_refl _ | refine keeps_set hok ?_ (by first | omega | (simp; done) | (simp; omega)) | refine keeps_new hok ?_ (by first | omega | (simp; done) | (simp; omega)))); done), .inr ⟨H.next + 1, by simp, hne, by simp, by omega, by simp⟩⟩
theorem Clip6 {B : Nat} {H : AH} {v : AV} {L : List (List AV)} (h : OutF B H tE 6 v L) : ACall Tryz.prog 9 [v] H (fun r H' => r = v ∧ H' = H) := by
  have hl := h.lenS
  refine acall_of fits9 (by simp) ?_
  simp (disch := first | omega | (simp; done) | assumption) [wr64, wrU8, wrU64, Nat.add_assoc, -getElem?_pos, List.getElem?_cons_zero, List.getElem?_cons_succ, ic9, rs9, hl]
  rcases h with ⟨rfl, rfl⟩ | ⟨q, rfl, hne, _⟩
  · simp (disch := first | omega | (simp; done) | assumption) [wr64, wrU8, wrU64, Nat.add_assoc, -getElem?_pos, List.getElem?_cons_zero, List.getElem?_cons_succ, slcA, Abs.bounds]
  · have h0 : ¬ L.length = 0 := fun e => hne (List.eq_nil_of_length_eq_zero e)
    have h0' : L ≠ [] := hne
    simp (disch := first | omega | (simp; done) | assumption) [wr64, wrU8, wrU64, Nat.add_assoc, -getElem?_pos, List.getElem?_cons_zero, List.getElem?_cons_succ, slcA, Abs.bounds, h0, h0']
/-- M is L, put in order; what is alike stays as it stood. -/
def Stab (L M : List Cd) : Prop := ∃ ps : List Nat, ps.Perm (List.range L.length) ∧ Srt (fun p q => cmpC (L.getD p d0) (L.getD q d0)) (gt ps) 0 L.length ∧ M = ps.map fun p => L.getD p d0
theorem cOrd (L : List Cd) : COrd (fun p q => cmpC (L.getD p d0) (L.getD q d0)) := ⟨fun a b => cmpC_ord.anti _ _, fun a b d => cmpC_ord.tr _ _ _⟩
theorem map_getD {α : Type} (d : α) (L : List α) : (List.range L.length).map (fun p => L.getD p d) = L := by
  apply List.ext_getElem
  · simp
  · intro i h1 h2
    simp at h1 ⊢
    rw [List.getElem?_eq_getElem h1]; rfl
theorem InsNil (cf : FuncId) (H : AH) : ACall Tryz.prog 28 [.snil, .int .i64 0, .int .i64 0, .func (.func cf) [] []] H (fun v H' => v = .tuple [] ∧ H' = H) := by
  refine acall_of fits28 (by simp) ?_
  simp (disch := first | omega | (simp; done) | assumption) [wr64, wrU8, wrU64, Nat.add_assoc, -getElem?_pos, List.getElem?_cons_zero, List.getElem?_cons_succ, ic28, rs28]
  refine iwp_loop (fun n tm H' => H' = H ∧ tm 2 = .int .i64 0 ∧ tm 8 = .int .i64 1) 0 ⟨rfl, by simp, by simp⟩ ?_
  rintro n tm H' ⟨rfl, t2, t8⟩
  simp (disch := first | omega | (simp; done) | assumption) [wr64, wrU8, wrU64, Nat.add_assoc, -getElem?_pos, List.getElem?_cons_zero, List.getElem?_cons_succ, t2, t8]
theorem StableNil (cf : FuncId) (H : AH) : ACall Tryz.prog 11 [.snil, .func (.func cf) [] []] H (fun v H' => v = .tuple [] ∧ H' = H) := by
  have hS : ACall Tryz.prog 19 [.snil, .int .i64 0, .func (.func cf) [] []] H (fun v H' => v = .tuple [] ∧ H' = H) := by
    refine acall_of fits19 (by simp) ?_
    simp (disch := first | omega | (simp; done) | assumption) [wr64, wrU8, wrU64, Nat.add_assoc, -getElem?_pos, List.getElem?_cons_zero, List.getElem?_cons_succ, ic19, rs19]
    refine iwp_loop (fun n tm H' => H' = H ∧ tm 0 = .snil ∧ tm 1 = .int .i64 0 ∧ tm 2 = .func (.func cf) [] [] ∧ tm 6 = .int .i64 20 ∧ tm 7 = .int .i64 0 ∧ tm 8 = .int .i64 20) 0 ⟨rfl, by simp, by simp, by simp, by simp, by simp, by simp⟩ ?_
    rintro n tm H' ⟨rfl, t0, t1, t2, t6, t7, t8⟩
    simp (disch := first | omega | (simp; done) | assumption) [wr64, wrU8, wrU64, Nat.add_assoc, -getElem?_pos, List.getElem?_cons_zero, List.getElem?_cons_succ, t0, t1, t2, t6, t7, t8]
    refine CallW.val (InsNil cf _) ?_
    simp (disch := first | omega | (simp; done) | assumption) [wr64, wrU8, wrU64, Nat.add_assoc, -getElem?_pos, List.getElem?_cons_zero, List.getElem?_cons_succ, t0, t1, t2, t6, t7, t8]
    refine iwp_loop (fun n tm H2 => H2 = H' ∧ tm 1 = .int .i64 0 ∧ tm 6 = .int .i64 20) 0 ⟨rfl, by simp [t1], by simp [t6]⟩ ?_
    rintro n tm H' ⟨rfl, t1, t6⟩
    simp (disch := first | omega | (simp; done) | assumption) [wr64, wrU8, wrU64, Nat.add_assoc, -getElem?_pos, List.getElem?_cons_zero, List.getElem?_cons_succ, t1, t6]
  refine acall_of fits11 (by simp) ?_
  simp (disch := first | omega | (simp; done) | assumption) [wr64, wrU8, wrU64, Nat.add_assoc, -getElem?_pos, List.getElem?_cons_zero, List.getElem?_cons_succ, ic11, rs11]
  refine CallW.val hS ?_
  simp (disch := first | omega | (simp; done) | assumption) [wr64, wrU8, wrU64, Nat.add_assoc, -getElem?_pos, List.getElem?_cons_zero, List.getElem?_cons_succ, ]
theorem Order {B : Nat} {H : AH} {v : AV} {L : List Cd} (h : OutF B H tE 6 v (rowsC L)) (hl : L.length ≤ 40) (hv : ∀ c ∈ L, VOk c) :
    ACall Tryz.prog 5 [v] H (fun r H' => H.keepsAll H' ∧ H.next ≤ H'.next ∧ ∃ M, Stab L M ∧ OutF H.next H' tE 6 r (rowsC M)) := by
  refine acall_ok (bodyP_of fits5) fun hok => acall_of fits5 (by simp) ?_
  simp (disch := first | omega | (simp; done) | assumption) [wr64, wrU8, wrU64, Nat.add_assoc, -getElem?_pos, List.getElem?_cons_zero, List.getElem?_cons_succ, ic5, rs5]
  refine CallW.okof (Clone h (by omega)) ?_
  rintro r H1 ⟨hk1, hn1, ho1⟩ hok1
  try simp only [newO_none] at hk1 hn1 ho1
  simp (disch := first | omega | (simp; done) | assumption) [wr64, wrU8, wrU64, Nat.add_assoc, -getElem?_pos, List.getElem?_cons_zero, List.getElem?_cons_succ, ]
  refine CallW.val (Clip6 ho1) ?_
  simp (disch := first | omega | (simp; done) | assumption) [wr64, wrU8, wrU64, Nat.add_assoc, -getElem?_pos, List.getElem?_cons_zero, List.getElem?_cons_succ, ]
  by_cases h0 : L = []
  · subst h0
    rcases ho1 with ⟨_, rfl⟩ | ⟨_, _, h2, _⟩
    · refine CallW.val (StableNil _ _) ?_
      simp (disch := first | omega | (simp; done) | assumption) [wr64, wrU8, wrU64, Nat.add_assoc, -getElem?_pos, List.getElem?_cons_zero, List.getElem?_cons_succ, ]
      exact ⟨hk1, hn1, [], ⟨[], by simp, fun i j i1 i2 i3 => by simp at i3, rfl⟩, .inl ⟨rfl, rfl⟩⟩
    · exact absurd rfl h2
  · rcases ho1 with ⟨h2, _⟩ | ⟨q, rfl, h2, hq, hB, hqn⟩
    · exact absurd (by simpa using h2) h0
    · have hval : ∀ p, VOk (L.getD p d0) := fun p => by
        rw [List.getD_eq_getElem?_getD]
        cases hx : L[p]? with
        | none => show (0 : Nat) ≤ _; omega
        | some y => exact hv y (List.mem_of_getElem? hx)
      have E : Env (fun p => cdC (L.getD p d0)) (fun p q => cmpC (L.getD p d0) (L.getD q d0)) 12 := ⟨fun p => cdC_len _, fun p => cdC_one _, fun p q H => Cmp _ _ (hval p) (hval q) H, cOrd L⟩
      have hrow : rowsE (fun p => cdC (L.getD p d0)) (List.range L.length) = (rowsC L).flatten := by
        unfold rowsE
        have := congrArg (List.map cdC) (map_getD d0 L)
        rw [List.map_map] at this
        exact congrArg List.flatten this
      have hA : Srt.At (fun p => cdC (L.getD p d0)) q (List.range L.length) H1 := by unfold Srt.At; rw [hrow]; exact hq
      have hS := SortStable E hA hl
      rw [show (rowsC L).length = L.length by simp]
      refine CallW.of hS ?_
      rintro u H2 ⟨rfl, ps, rfl, w1, w2, w3⟩
      simp (disch := first | omega | (simp; done) | assumption) [wr64, wrU8, wrU64, Nat.add_assoc, -getElem?_pos, List.getElem?_cons_zero, List.getElem?_cons_succ, ]
      refine ⟨?_, by show H.next ≤ H1.next; exact hn1, ps.map (fun p => L.getD p d0), ⟨ps, w2, w3, rfl⟩, .inr ⟨q, by simp [w1], ?_, ?_, hB, by show q < H1.next; exact hqn⟩⟩
      · intro x o hx
        have := hok _ _ hx
        unfold Set
        rw [AH.set_ne _ _ (by omega)]
        exact hk1 x o hx
      · intro e
        have := congrArg List.length e
        simp [w1] at this
        exact h0 this
      · unfold Set rowsE
        rw [AH.set_same]
        unfold rowsC
        rw [List.map_map]
        rfl
end Go.Proofs.YtfimhkijacamoaaGreatDoor.PPick

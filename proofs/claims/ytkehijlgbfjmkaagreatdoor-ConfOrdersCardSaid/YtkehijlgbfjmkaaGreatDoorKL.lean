/- One line of an entry's text: what the functions make of it. No condition. -/
import Derived.Test.YtkehijlgbfjmkaaGreatDoorKW5
import Derived.Test.YtkehijlgbfjmkaaGreatDoorFRow
set_option linter.unusedVariables false
set_option linter.unusedSimpArgs false
set_option maxRecDepth 10000
set_option maxHeartbeats 4000000
namespace Go.Proofs.YtkehijlgbfjmkaaGreatDoor.KW
open Go Go.RowKit Go.Proofs.YtkehijlgbfjmkaaGreatDoor Go.Proofs.YtkehijlgbfjmkaaGreatDoor.Abs Go.Proofs.YtkehijlgbfjmkaaGreatDoor.Ic Go.Proofs.YtkehijlgbfjmkaaGreatDoor.St
/-- The document's blob of a line. -/
def rblobV (s : List UInt8) : AV := if cutF 32 s then .tuple [.agg [.str (cutA 32 s), .str (cutB 32 s)], .bool (blobOk (cutA 32 s) (cutB 32 s))] else .tuple [.agg [.str [], .str []], .bool false]
def RbI (s : List UInt8) (H : AH) (b : Nat) (kk : Nat) (tm : Tms) (H' : AH) : Prop := H' = H ∧ ∃ i : Nat, kk = s.length - i ∧ i ≤ s.length ∧ (∀ k, k < i → s[k]? ≠ some 32) ∧ tm 0 = .str s ∧ tm 2 = .ptr b 0 ∧ tm 4 = .int .i64 (i : Int)
theorem cut_at {s : List UInt8} {i : Nat} (hi : i < s.length) (hb : ∀ k, k < i → s[k]? ≠ some 32) (h : s[i] = 32) : cutF 32 s = true ∧ cutA 32 s = s.take i ∧ cutB 32 s = s.drop (i + 1) := by
  rcases idx_cut 32 s with ⟨h1, _, _, h4⟩ | ⟨o, h1, h2, h3, h4, h5⟩
  · exact absurd (Lib.indexByte_none h1 i) (by rw [List.getElem?_eq_getElem hi, h]; simp)
  · obtain ⟨g1, g2⟩ := Lib.indexByte_some h1
    have : o = i := by
      rcases Nat.lt_trichotomy o i with hlt | rfl | hlt
      · exact absurd g1 (hb o hlt)
      · rfl
      · exact absurd (by rw [List.getElem?_eq_getElem hi, h]) (g2 i hlt)
    subst this
    exact ⟨h5, h3, h4⟩
theorem cut_no {s : List UInt8} (hb : ∀ k, k < s.length → s[k]? ≠ some 32) : cutF 32 s = false := by
  unfold cutF
  rw [Bool.eq_false_iff]
  intro h
  obtain ⟨k, hk, e⟩ := List.getElem_of_mem (List.contains_iff_mem.1 h)
  exact hb k hk (by rw [List.getElem?_eq_getElem hk, e])
theorem RBlob (s : List UInt8) (H : AH) (hs : s.length ≤ 9223372036854775000) : ACall Tryz.prog 67 [.str s] H (fun v H' => v = rblobV s ∧ H' = H) := by
  have hp : Plain (rblobV s) := by unfold rblobV; split <;> exact plain2 _ _ _
  refine acall_enter fits67 (by simp) hp fun hok => ?_
  clear hp
  simp (disch := first | omega | (simp; done) | assumption) [wr64, wrU8, wrU64, Nat.add_assoc, -getElem?_pos, List.getElem?_cons_zero, List.getElem?_cons_succ, ic67, rs67]
  refine iwp_loop (RbI s (H.new (.cells false tB [.str [], .str []])) H.next) s.length ⟨rfl, 0, rfl, by omega, fun k hk => by omega, by simp, by simp, by simp⟩ ?_
  rintro kk tm H1 ⟨rfl, i, rfl, hi, hbe, t0, t2, t4⟩
  by_cases hlt : i < s.length
  · have hlt' : (i : Int) < (s.length : Int) := by omega
    have hx : s[i]? = some s[i] := List.getElem?_eq_getElem hlt
    have hcut := cut_at hlt hbe
    have hmore : s[i] ≠ 32 → ∀ k, k < i + 1 → s[k]? ≠ some 32 := fun h k hk => by
      by_cases e : k = i
      · subst e; rw [hx]; simpa using h
      · exact hbe k (by omega)
    by_cases hc : s[i] = 32
    · obtain ⟨c1, c2, c3⟩ := hcut hc
      have hB := RBlobOk (cutA 32 s) (cutB 32 s)
      have l1 := cutA_len 32 s
      have l2 := cutB_len 32 s
      unfold rblobV
      rw [c1, if_pos rfl]
      rw [hc] at hx
      rw [c2, c3] at *
      have b1 : (i : Int) ≤ (s.length : Int) := by omega
      have b2 : (i : Int) + 1 ≤ (s.length : Int) := by omega
      have b3 : (0 : Int) ≤ (i : Int) + 1 := by omega
      have b4 : ((i : Int) + 1).toNat = i + 1 := by omega
      have hi2 : i ≤ s.length := by omega
      simp (disch := first | omega | (simp; done) | assumption) [wr64, wrU8, wrU64, Nat.add_assoc, -getElem?_pos, List.getElem?_cons_zero, List.getElem?_cons_succ, t0, t2, t4, hlt, hlt', hx, Abs.bounds, b1, b2, b3, b4, hi2]
      refine CallW.val (hB _ (by omega) (by omega)) ?_
      simp (disch := first | omega | (simp; done) | assumption) [wr64, wrU8, wrU64, Nat.add_assoc, -getElem?_pos, List.getElem?_cons_zero, List.getElem?_cons_succ, t0, t2, t4]
      ((repeat (first | exact AH.keepsAll_refl _ | refine keeps_set hok ?_ (by first | omega | (simp; done) | (simp; omega)) | refine keeps_new hok ?_ (by first | omega | (simp; done) | (simp; omega)))); done)
    · have hn : ¬ ((s[i].toNat : Int) = 32) := fun e => hc (UInt8.toNat_inj.1 (by simp; omega))
      have hn' : ¬ (s[i].toNat = 32) := fun e => hn (by omega)
      have hmore' := hmore hc
      generalize s[i] = c at *
      simp (disch := first | omega | (simp; done) | assumption) [wr64, wrU8, wrU64, Nat.add_assoc, -getElem?_pos, List.getElem?_cons_zero, List.getElem?_cons_succ, t0, t2, t4, hlt, hlt', hx, hn, hn']
      exact ⟨s.length - (i + 1), by omega, rfl, i + 1, rfl, by omega, hmore', by simp [t0], by simp [t2], by simp⟩
  · have hlt' : ¬ (i : Int) < (s.length : Int) := by omega
    unfold rblobV
    rw [cut_no fun k hk => hbe k (by omega), if_neg (by simp)]
    simp (disch := first | omega | (simp; done) | assumption) [wr64, wrU8, wrU64, Nat.add_assoc, -getElem?_pos, List.getElem?_cons_zero, List.getElem?_cons_succ, t0, t2, t4, hlt, hlt']
    ((repeat (first | exact AH.keepsAll_refl _ | refine keeps_set hok ?_ (by first | omega | (simp; done) | (simp; omega)) | refine keeps_new hok ?_ (by first | omega | (simp; done) | (simp; omega)))); done)
/-- What an entry says. -/
structure En where
  ver : List UInt8
  kn : List UInt8
  ks : List UInt8
  ex : List (List UInt8 × List UInt8)
  op : List UInt8
  deriving DecidableEq
def e0 : En := ⟨[], [], [], [], []⟩
def blobC (p : List UInt8 × List UInt8) : List AV := [.str p.1, .str p.2]
def rowsB (ex : List (List UInt8 × List UInt8)) : List (List AV) := ex.map blobC
theorem allB (ex : List (List UInt8 × List UInt8)) : All 2 (rowsB ex) := fun l hl => by obtain ⟨p, _, rfl⟩ := List.mem_map.1 hl; rfl
abbrev tEn : Nat := 26
def entC (e : En) (vx : AV) : List AV := [.str e.ver, .str e.kn, .str e.ks, vx, .str e.op]
/-- Block b says the entry e. -/
def IsE (B : Nat) (H : AH) (b : Nat) (e : En) : Prop := ∃ vx, H.at_ b = some (.cells false tEn (entC e vx)) ∧ OutF B H tB 2 vx (rowsB e.ex)
/-- Blocks below B, but for b, lie as they lay. -/
def KBx (b B : Nat) (H H' : AH) : Prop := ∀ y o, y < B → y ≠ b → H.at_ y = some o → H'.at_ y = some o
theorem KBx.trans {b B : Nat} {H H1 H2 : AH} (h : KBx b B H H1) (h' : KBx b B H1 H2) : KBx b B H H2 := fun y o h1 h2 ho => h' y o h1 h2 (h y o h1 h2 ho)
def wVer : List UInt8 := [118, 101, 114, 115, 105, 111, 110]
def wOpt : List UInt8 := [111, 112, 116, 105, 111, 110, 115]
def wKer : List UInt8 := [107, 101, 114, 110, 101, 108]
def wExt : List UInt8 := [101, 120, 116, 114, 97]
/-- One line, put down. -/
def lineE (e : En) (s : List UInt8) : Option En :=
  let w := cutA 32 s
  let r := cutB 32 s
  if w = wVer then (if e.ver = [] ∧ verOk r = true then some { e with ver := r } else none)
  else if w = wOpt then (if e.op = [] ∧ r ≠ [] ∧ optOk r = true then some { e with op := r } else none)
  else if w = wKer then (if e.kn = [] ∧ blobOk (cutA 32 r) (cutB 32 r) = true then some { e with kn := cutA 32 r, ks := cutB 32 r } else none)
  else if w = wExt then (if blobOk (cutA 32 r) (cutB 32 r) = true ∧ e.ex.length + 1 ≤ 8 then some { e with ex := e.ex ++ [(cutA 32 r, cutB 32 r)] } else none)
  else none
def LnQ (B : Nat) (b : Nat) (e : En) (s : List UInt8) (H : AH) (v : AV) (H' : AH) : Prop := KBx b B H H' ∧ H.next ≤ H'.next ∧ match lineE e s with
  | some e' => v = .bool true ∧ IsE B H' b e'
  | none => v = .bool false
end Go.Proofs.YtkehijlgbfjmkaaGreatDoor.KW

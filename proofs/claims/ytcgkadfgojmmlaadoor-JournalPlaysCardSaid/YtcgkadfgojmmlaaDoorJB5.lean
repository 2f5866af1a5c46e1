/- A journal's blocks: numbers, then bytes. No condition. -/
import Derived.Test.YtcgkadfgojmmlaaDoorJB4
set_option linter.unusedVariables false
set_option linter.unusedSimpArgs false
set_option maxRecDepth 10000
set_option maxHeartbeats 4000000
namespace Go.Proofs.YtcgkadfgojmmlaaDoor.JN
open Go Go.RowKit Go.Proofs.YtcgkadfgojmmlaaDoor Go.Proofs.YtcgkadfgojmmlaaDoor.Abs Go.Proofs.YtcgkadfgojmmlaaDoor.Ic Go.Proofs.YtcgkadfgojmmlaaDoor.EAs Go.Proofs.YtcgkadfgojmmlaaDoor.EErr Go.Proofs.YtcgkadfgojmmlaaDoor.DFn
/-- A block to be written: its number, where its bytes are, its bytes. -/
abbrev Ib := Nat × Qb
theorem sl_one (x : Qb) : (sl x).one = true := rfl
theorem sl_cells (x : Qb) : (sl x).cells = [sl x] := rfl
def rowI (x : Ib) : List AV := [.int .i64 (x.1 : Int), sl x.2]
def rowsI (l : List Ib) : List (List AV) := l.map rowI
theorem allI (l : List Ib) : All 2 (rowsI l) := fun r hr => by obtain ⟨x, _, rfl⟩ := List.mem_map.1 hr; rfl
def wr (x : Ib) : Wr := (x.1, x.2.2)
def BI (H : AH) (v : AV) (l : List Ib) : Prop := ∃ b, v = .slice b 0 l.length 2 ∧ H.at_ b = some (.cells false tBk (rowsI l).flatten) ∧ ∀ x ∈ l, QOk H x.2
theorem BI.keeps {H H' : AH} {v : AV} {l : List Ib} (hk : H.keepsAll H') (h : BI H v l) : BI H' v l := by
  obtain ⟨b, h1, h2, h3⟩ := h
  exact ⟨b, h1, hk _ _ h2, fun x hx => ⟨(h3 x hx).1, hk _ _ (h3 x hx).2⟩⟩
theorem BI.at {H : AH} {b : Nat} {l : List Ib} (h : H.at_ b = some (.cells false tBk (rowsI l).flatten)) {i : Nat} (hi : i < l.length) : loadC H b (i * 2) (some 2) = some (.agg [.int .i64 (l[i].1 : Int), sl l[i].2]) := by
  have := load_flat h (allI l) (k := i) (by simpa [rowsI] using hi)
  simpa [rowsI, rowI] using this
def numF : List Nat → Nat → Bs → Bs
  | [], _, b => b
  | n :: r, i, b => numF r (i + 1) (putP b (8 * i) (n : Int) 8)
def numB (l : List Wr) (k : Nat) : Bs := numF (((l.drop (16 * k)).take 16).map (·.1)) 0 zer
def bodyB (l : List Wr) : List Bs := (List.range (lists l.length)).map (numB l) ++ l.map (·.2)
theorem numF_len : ∀ (ns : List Nat) (i : Nat) (b : Bs), b.length = 128 → i + ns.length ≤ 16 → (numF ns i b).length = 128
  | [], i, b, h, _ => h
  | n :: r, i, b, h, hi => by
    rw [numF]
    simp at hi
    exact numF_len r (i + 1) _ (by rw [putP_len _ (by omega) (by omega), h]) (by omega)
theorem bodyB_len (l : List Wr) : (bodyB l).length = lists l.length + l.length := by simp [bodyB]
theorem appX {B sz : Nat} {H H' : AH} {t : TypeId} {v : AV} {L : List (List AV)} (ho : OutF B H t sz v L) (g : ∀ y o, y < H.next → H.at_ y = some o → (∀ n, v ≠ .slice y 0 n sz) → H'.at_ y = some o) : ∀ y t' cs, y < H.next → H.at_ y = some (.cells false t' cs) → t' ≠ t → H'.at_ y = some (.cells false t' cs) := fun y t' cs hy h hne => g y _ hy h fun n e => by
  rcases ho with ⟨_, rfl⟩ | ⟨q, rfl, h1, h2, _⟩
  · cases e
  · injection e with e
    subst e
    rw [h2] at h
    injection h with h
    injection h with _ h _
    exact hne h.symm
theorem appQ {B : Nat} {H : AH} {v : AV} {L : List Qb} {x : Qb} (ho : OutF B H tBS 1 v (rowsQ L)) (hq : ∀ y ∈ L, QOk H y) (hx : QOk H x) (hlt : ∀ y ∈ L ++ [x], y.1 < H.next) (hB : B ≤ H.next) (hl : L.length ≤ 1000) :
    ∃ v' H', appendK (H.new (.cells false tBS [sl x])) false tBS 1 24 v (.slice H.next 0 1 1) = some (v', H') ∧ OutF B H' tBS 1 v' (rowsQ (L ++ [x])) ∧ (∀ y ∈ L ++ [x], QOk H' y) ∧ H'.next = H.next + 2 ∧ KBel B H H' ∧
      (∀ y o, y < H.next → H.at_ y = some o → (∀ n, v ≠ .slice y 0 n 1) → H'.at_ y = some o) ∧ ∀ y t cs, y < H.next → H.at_ y = some (.cells false t cs) → t ≠ tBS → H'.at_ y = some (.cells false t cs) := by
  obtain ⟨v', H', a1, o1, n1, k1, g1, _⟩ := appendOutG (bytes := 24) (x := [sl x]) ho (allQ L) (by omega) hB rfl rfl (by rw [rowsQ_len]; omega) (by rw [rowsQ_len]; omega)
  refine ⟨v', H', a1, by simpa [rowsQ] using o1, fun y hy => ?_, n1, k1, g1, appX ho g1⟩
  have hy2 : QOk H y := by
    rcases List.mem_append.1 hy with hy | hy
    · exact hq y hy
    · obtain rfl := List.mem_singleton.1 hy; exact hx
  refine ⟨hy2.1, g1 _ _ (hlt y hy) hy2.2 fun n e => ?_⟩
  rcases ho with ⟨_, rfl⟩ | ⟨q, rfl, h1, h2, _⟩
  · cases e
  · injection e with e
    subst e
    have := h2.symm.trans hy2.2
    injection this with this
    injection this with _ this _
    exact absurd this (by decide)
theorem Chunk (v : AV) (hc : v.cells = [v]) (h1 : v.one = true) (H : AH) : ACall Tryd.prog 41 [v, .int .i64 16] H (fun r H' => r = .func (.func 57) [] [.ptr H.next 0, .ptr (H.next + 1) 0] ∧
    H' = (H.new (.cells false 31 [v])).new (.cells false 3 [.int .i64 16])) := by
  refine acall_of fits41 (by simp) ?_
  have hny : Fn.notYield (.func 57) = true := rfl
  simp (disch := first | omega | (simp; done) | assumption) [wr64, wrU8, wrU64, Nat.add_assoc, -getElem?_pos, List.getElem?_cons_zero, List.getElem?_cons_succ, ic41, rs41, hny, hc, h1]
def ChI (I : Nat → AH → Prop) (y bs bn N : Nat) (kk : Nat) (tm : Tms) (H' : AH) : Prop := ∃ k : Nat, kk = N + 16 - 16 * k ∧ 16 * k < N + 16 ∧ I k H' ∧ tm 0 = .yield y ∧ tm 1 = .ptr bs 0 ∧ tm 2 = .ptr bn 0 ∧ tm 4 = .int .i64 ((16 * k : Nat) : Int)
theorem ChunkIter {y b bs bn N : Nat} {H : AH} (I : Nat → AH → Prop) (X : AH → Prop) (Q : AV → AH → Prop) (hN : N ≤ 100000)
    (hI : ∀ k H', I k H' → H'.at_ bs = some (.cells false 31 [.slice b 0 N 2]) ∧ H'.at_ bn = some (.cells false 3 [.int .i64 16]))
    (hround : ∀ k H', I k H' → 16 * k < N → AYield Tryd.prog y [.slice b (16 * k * 2) (min 16 (N - 16 * k)) 2] H' fun v H2 => (v = .bool true ∧ I (k + 1) H2) ∨ (v = .bool false ∧ X H2))
    (hend : ∀ k H', I k H' → N ≤ 16 * k → 16 * k < N + 16 → Q (.tuple []) H') (hstop : ∀ H', X H' → Q (.tuple []) H') (h0 : I 0 H) :
    ACall Tryd.prog 57 [.yield y, .ptr bs 0, .ptr bn 0] H Q := by
  refine acall_of fits57 (by simp) ?_
  simp (disch := first | omega | (simp; done) | assumption) [wr64, wrU8, wrU64, Nat.add_assoc, -getElem?_pos, List.getElem?_cons_zero, List.getElem?_cons_succ, ic57, rs57]
  refine iwp_loop (ChI I y bs bn N) (N + 16) ⟨0, rfl, by omega, h0, by simp, by simp, by simp, by simp⟩ ?_
  rintro kk tm H1 ⟨k, rfl, hk16, hk, t0, t1, t2, t4⟩
  obtain ⟨g1, g2⟩ := hI _ _ hk
  generalize hj : 16 * k = j at *
  by_cases hlt : j < N
  · have hlt' : (j : Int) < (N : Int) := by omega
    have hle' : (j : Int) ≤ (N : Int) := by omega
    have hrd := hround k H1 hk (by omega)
    rw [hj] at hrd
    have hmin : min (16 : Int) ((N : Int) - (j : Int)) = ((min 16 (N - j) : Nat) : Int) := by omega
    have hs1 : slcA 2 (some (j : Int)) none none (.slice b 0 N 2) = some (.slice b (j * 2) (N - j) 2) := by
      have hb : Abs.bounds N (some (j : Int)) none none = some (j, N) := by
        simp [Abs.bounds]
        omega
      simp only [slcA, if_true, hb, Option.map_some]
      rw [if_neg (by omega)]
      simp
    have hs2 : slcA 2 (some (j : Int)) (some ((j : Int) + min 16 ((N - j : Nat) : Int))) (some ((j : Int) + min 16 ((N - j : Nat) : Int))) (.slice b 0 N 2) = some (.slice b (j * 2) (min 16 (N - j)) 2) := by
      rw [show (j : Int) + min 16 ((N - j : Nat) : Int) = ((j + min 16 (N - j) : Nat) : Int) by omega]
      have h0 : 0 < min 16 (N - j) := by omega
      have h1 : j + min 16 (N - j) ≤ N := by omega
      generalize min 16 (N - j) = m at *
      have hb : Abs.bounds N (some (j : Int)) (some ((j + m : Nat) : Int)) (some ((j + m : Nat) : Int)) = some (j, j + m) := by
        unfold Abs.bounds
        simp
        omega
      simp only [slcA, if_true, hb, Option.map_some]
      rw [if_neg (by omega)]
      simp
    have hw : -9223372036854775808 ≤ (j : Int) + min 16 ((N - j : Nat) : Int) ∧ (j : Int) + min 16 ((N - j : Nat) : Int) ≤ 9223372036854775807 := by omega
    simp (disch := first | omega | (simp; done) | assumption) [wr64, wrU8, wrU64, Nat.add_assoc, -getElem?_pos, List.getElem?_cons_zero, List.getElem?_cons_succ, t0, t1, t2, t4, g1, g2, hlt, hlt', hs1, hs2]
    refine YieldW.of hrd ?_
    rintro v H2 (⟨rfl, h⟩ | ⟨rfl, h⟩)
    · obtain ⟨k1, k2⟩ := hI _ _ h
      simp (disch := first | omega | (simp; done) | assumption) [wr64, wrU8, wrU64, Nat.add_assoc, -getElem?_pos, List.getElem?_cons_zero, List.getElem?_cons_succ, t0, t1, t2, t4, k1, k2]
      exact ⟨N + 16 - 16 * (k + 1), by omega, k + 1, rfl, by omega, h, by simp [t0], by simp [t1], by simp [t2], by simp; omega⟩
    · simp (disch := first | omega | (simp; done) | assumption) [wr64, wrU8, wrU64, Nat.add_assoc, -getElem?_pos, List.getElem?_cons_zero, List.getElem?_cons_succ, t0, t1, t2, t4]
      exact hstop _ h
  · have hlt' : ¬ (j : Int) < (N : Int) := by omega
    simp (disch := first | omega | (simp; done) | assumption) [wr64, wrU8, wrU64, Nat.add_assoc, -getElem?_pos, List.getElem?_cons_zero, List.getElem?_cons_succ, t0, t1, t2, t4, g1, g2, hlt, hlt']
    exact hend k H1 hk (by omega) (by omega)
end Go.Proofs.YtcgkadfgojmmlaaDoor.JN

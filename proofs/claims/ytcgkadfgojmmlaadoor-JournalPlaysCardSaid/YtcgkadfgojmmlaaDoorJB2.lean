/- A journal's small functions: lists, Need, errors, digests, the head. No condition. -/
import Derived.Test.YtcgkadfgojmmlaaDoorJB1
set_option linter.unusedVariables false
set_option linter.unusedSimpArgs false
set_option maxRecDepth 10000
set_option maxHeartbeats 4000000
namespace Go.Proofs.YtcgkadfgojmmlaaDoor.JN
open Go Go.RowKit Go.Proofs.YtcgkadfgojmmlaaDoor Go.Proofs.YtcgkadfgojmmlaaDoor.Abs Go.Proofs.YtcgkadfgojmmlaaDoor.Ic Go.Proofs.YtcgkadfgojmmlaaDoor.EAs Go.Proofs.YtcgkadfgojmmlaaDoor.EErr Go.Proofs.YtcgkadfgojmmlaaDoor.DFn
theorem wrapI {x : Int} (h1 : -9223372036854775808 ≤ x) (h2 : x ≤ 9223372036854775807) : IntKind.i64.wrap x = x := by
  unfold IntKind.wrap
  simp [IntKind.signed, IntKind.bits]
  omega
theorem Lists {n : Nat} (h : n ≤ 100000) (H : AH) : ACall Tryd.prog 55 [.int .i64 (n : Int)] H (fun v H' => v = .int .i64 (lists n : Int) ∧ H' = H) := by
  refine acall_of fits55 (by simp) ?_
  have e : ((n : Int) + 16 - 1).tdiv 16 = (lists n : Int) := by
    rw [Int.tdiv_eq_ediv_of_nonneg (by omega)]
    unfold lists
    omega
  simp (disch := first | omega | (simp; done) | assumption) [wr64, wrU8, wrU64, Nat.add_assoc, -getElem?_pos, List.getElem?_cons_zero, List.getElem?_cons_succ, ic55, rs55]
  repeat' (refine Try.guard (by omega) ?_; simp (disch := first | omega | (simp; done) | assumption) [wr64, wrU8, wrU64, Nat.add_assoc, -getElem?_pos, List.getElem?_cons_zero, List.getElem?_cons_succ, e])
  rw [e]
  exact wrapI (by omega) (by unfold lists; omega)
theorem Need {m : Int} {k : Nat} (hk : max m 1 = (k : Int)) (h : m ≤ 1099511627776) (H : AH) : ACall Tryd.prog 16 [.int .i64 m] H (fun v H' => v = .int .i64 (need k : Int) ∧ H' = H) := by
  refine acall_of fits16 (by simp) ?_
  have e1 : ((k : Int)).tdiv 16 = ((k / 16 : Nat) : Int) := by rw [Int.tdiv_eq_ediv_of_nonneg (by omega)]; omega
  have e2 : ((k : Int)).tmod 16 = ((k % 16 : Nat) : Int) := by rw [Int.tmod_eq_emod_of_nonneg (by omega)]; omega
  simp (disch := first | omega | (simp; done) | assumption) [wr64, wrU8, wrU64, Nat.add_assoc, -getElem?_pos, List.getElem?_cons_zero, List.getElem?_cons_succ, ic16, rs16, hk, e1, e2]
  repeat' (refine Try.guard (by omega) ?_; simp (disch := first | omega | (simp; done) | assumption) [wr64, wrU8, wrU64, Nat.add_assoc, -getElem?_pos, List.getElem?_cons_zero, List.getElem?_cons_succ, hk, e1, e2])
  unfold need lists
  omega
def jrn : List UInt8 := [106, 111, 117, 114, 110, 97, 108]
def WrongP (n : Int) (H : AH) (v : AV) (H' : AH) : Prop := H.keepsAll H' ∧ H.next ≤ H'.next ∧ ∃ f : Fl, f.op = jrn ∧ f.name = [] ∧ v = .iface 74 (.ptr f.b 0) ∧ Chain H' v [f] (some n)
theorem JWrong {n : Int} (hn : n ≠ 0) (H : AH) : ACall Tryd.prog 26 [.int .i64 n] H (WrongP n H) := by
  refine acall_ok (bodyP_of fits26) fun hok => acall_of fits26 (by simp) ?_
  simp (disch := first | omega | (simp; done) | assumption) [wr64, wrU8, wrU64, Nat.add_assoc, -getElem?_pos, List.getElem?_cons_zero, List.getElem?_cons_succ, ic26, rs26]
  refine CallW.of (ENewC jrn [] hn _) ?_
  rintro v H1 ⟨hk, hn1, f, h1, h2, rfl, hc⟩
  simp only [newO_none] at hk hn1
  simp (disch := first | omega | (simp; done) | assumption) [wr64, wrU8, wrU64, Nat.add_assoc, -getElem?_pos, List.getElem?_cons_zero, List.getElem?_cons_succ, ]
  exact ⟨hk, hn1, f, h1, h2, rfl, hc⟩
theorem Told_nil (H : AH) : ACall Tryd.prog 28 [.nilIface] H (fun v H' => v = .nilIface ∧ H' = H) := by
  refine acall_of fits28 (by simp) ?_
  simp (disch := first | omega | (simp; done) | assumption) [wr64, wrU8, wrU64, Nat.add_assoc, -getElem?_pos, List.getElem?_cons_zero, List.getElem?_cons_succ, ic28, rs28]
  refine CallW.val (EWrap_nil _ _ _) ?_
  simp (disch := first | omega | (simp; done) | assumption) [wr64, wrU8, wrU64, Nat.add_assoc, -getElem?_pos, List.getElem?_cons_zero, List.getElem?_cons_succ, ]
/-- A disk's error, wrapped. -/
def TolP (H : AH) (v : AV) (H' : AH) : Prop := H.keepsAll H' ∧ H.next ≤ H'.next ∧ ∃ f g : Fl, f.op = jrn ∧ f.name = [] ∧ v = .iface 74 (.ptr f.b 0) ∧ Chain H' v [f, g] (some 50)
theorem Told {e : AV} {g : Fl} {H : AH} (h : Chain H e [g] (some 50)) : ACall Tryd.prog 28 [e] H (TolP H) := by
  refine acall_ok (bodyP_of fits28) fun hok => acall_of fits28 (by simp) ?_
  obtain ⟨rfl, _⟩ := chain_live h
  simp (disch := first | omega | (simp; done) | assumption) [wr64, wrU8, wrU64, Nat.add_assoc, -getElem?_pos, List.getElem?_cons_zero, List.getElem?_cons_succ, ic28, rs28]
  refine CallW.of (EWrap jrn [] _ _ _) ?_
  rintro v H1 ⟨rfl, rfl⟩
  simp (disch := first | omega | (simp; done) | assumption) [wr64, wrU8, wrU64, Nat.add_assoc, -getElem?_pos, List.getElem?_cons_zero, List.getElem?_cons_succ, ]
  exact ⟨keeps_new hok (AH.keepsAll_refl _) (Nat.le_refl _), by simp, ⟨H.next, jrn, []⟩, g, rfl, rfl, rfl, Chain.wrap hok h⟩
theorem Most {H : AH} {jb p : Nat} {at_ most : Int} (h : H.at_ jb = some (.cells false 67 [.ptr p 0, .int .i64 at_, .int .i64 most])) : ACall Tryd.prog 18 [.ptr jb 0] H (fun v H' => v = .int .i64 most ∧ H' = H) := by
  refine acall_of fits18 (by simp) ?_
  simp (disch := first | omega | (simp; done) | assumption) [wr64, wrU8, wrU64, Nat.add_assoc, -getElem?_pos, List.getElem?_cons_zero, List.getElem?_cons_succ, ic18, rs18, h]
/-! ### Digests -/
abbrev Qb := Nat × Bs
def sl (x : Qb) : AV := .slice x.1 0 128 1
def rowsQ (l : List Qb) : List (List AV) := l.map fun x => [sl x]
theorem rowsQ_len (l : List Qb) : (rowsQ l).length = l.length := by simp [rowsQ]
theorem allQ (l : List Qb) : All 1 (rowsQ l) := fun r hr => by obtain ⟨x, _, rfl⟩ := List.mem_map.1 hr; rfl
def QOk (H : AH) (x : Qb) : Prop := x.2.length = 128 ∧ H.at_ x.1 = some (.cells false tU8 (x.2.map byteV))
/-- A row of blocks' bytes. -/
def RQ (H : AH) (v : AV) (l : List Qb) : Prop := ∃ A, v = .slice A 0 l.length 1 ∧ H.at_ A = some (.cells false tBS (l.map sl)) ∧ ∀ x ∈ l, QOk H x
def hB (n : Int) : Bs → Int
  | [] => n
  | c :: r => hB (IntKind.u64.wrap (bits .xor .u64 n (IntKind.u64.wrap (c.toNat : Int)) * 1099511628211)) r
theorem hB_snoc (c : UInt8) : ∀ (a : Bs) (n : Int), hB n (a ++ [c]) = IntKind.u64.wrap (bits .xor .u64 (hB n a) (IntKind.u64.wrap (c.toNat : Int)) * 1099511628211)
  | [], n => rfl
  | d :: a, n => hB_snoc c a _
def hP (n : Int) : List Bs → Int
  | [] => n
  | b :: r => hP (hB n b) r
theorem hP_snoc (b : Bs) : ∀ (a : List Bs) (n : Int), hP n (a ++ [b]) = hB (hP n a) b
  | [], n => rfl
  | d :: a, n => hP_snoc b a _
def hash (l : List Bs) : Int := hP 14695981039346656037 l
def PaI (v : AV) (l : List Qb) (H : AH) (kk : Nat) (tm : Tms) (H' : AH) : Prop := H' = H ∧ ∃ i : Nat, kk = l.length - i ∧ i ≤ l.length ∧ tm 3 = .int .u64 (hash ((l.take i).map (·.2))) ∧ tm 8 = v ∧ tm 9 = .int .i64 (l.length : Int) ∧ tm 10 = .int .i64 (i : Int)
def PaJ (v : AV) (l : List Qb) (i : Nat) (x : Qb) (h0 : Int) (H : AH) (kk : Nat) (tm : Tms) (H' : AH) : Prop := H' = H ∧ ∃ k : Nat, kk = 128 - k ∧ k ≤ 128 ∧ tm 3 = .int .u64 (hB h0 (x.2.take k)) ∧ tm 8 = v ∧ tm 9 = .int .i64 (l.length : Int) ∧ tm 10 = .int .i64 (i : Int) ∧
  tm 14 = sl x ∧ tm 15 = .int .i64 128 ∧ tm 16 = .int .i64 (k : Int)
theorem Parts {H : AH} {v : AV} {l : List Qb} (h : RQ H v l) (hn : l.length ≤ 100000) : ACall Tryd.prog 46 [v] H (fun r H' => r = .int .u64 (hash (l.map (·.2))) ∧ H' = H) := by
  refine acall_of fits46 (by simp) ?_
  obtain ⟨A, rfl, hA, hq⟩ := h
  simp (disch := first | omega | (simp; done) | assumption) [wr64, wrU8, wrU64, Nat.add_assoc, -getElem?_pos, List.getElem?_cons_zero, List.getElem?_cons_succ, ic46, rs46]
  refine iwp_loop (PaI (.slice A 0 l.length 1) l H) l.length ⟨rfl, 0, rfl, by omega, by simp [hash, hP], by simp, by simp, by simp⟩ ?_
  rintro kk tm H1 ⟨rfl, i, rfl, hi, t3, t8, t9, t10⟩
  by_cases hlt : i < l.length
  · have hlt' : (i : Int) < (l.length : Int) := by omega
    obtain ⟨hx1, hx2⟩ := hq _ (List.getElem_mem hlt)
    have hci : (l.map sl)[i]? = some (sl l[i]) := by simp [hlt]
    have hnext : (l.take (i + 1)).map (·.2) = (l.take i).map (·.2) ++ [l[i].2] := by rw [List.take_add_one, List.getElem?_eq_getElem hlt, List.map_append]; rfl
    have hsn := hP_snoc l[i].2 ((l.take i).map (·.2)) 14695981039346656037
    rw [← hnext] at hsn
    clear hnext
    change hash ((l.take (i + 1)).map (·.2)) = hB (hash ((l.take i).map (·.2))) l[i].2 at hsn
    generalize hash ((l.take i).map (·.2)) = h0 at *
    generalize hx : l[i] = x at *
    simp only [sl] at hci
    simp (disch := first | omega | (simp; done) | assumption) [wr64, wrU8, wrU64, Nat.add_assoc, -getElem?_pos, List.getElem?_cons_zero, List.getElem?_cons_succ, t3, t8, t9, t10, hlt, hlt', hA, hci]
    refine iwp_loop (PaJ (.slice A 0 l.length 1) l i x h0 H1) 128 ⟨rfl, 0, rfl, by omega, by simp [t3, hB], by simp [t8], by simp [t9], by simp [t10], by simp [sl], by simp, by simp⟩ ?_
    rintro kk tm H2 ⟨rfl, k, rfl, hk, t3, t8, t9, t10, t14, t15, t16⟩
    simp only [sl] at t14
    by_cases hkt : k < 128
    · have hkt' : (k : Int) < 128 := by omega
      have hkl : k < x.2.length := by omega
      have hck : x.2[k]? = some x.2[k] := List.getElem?_eq_getElem hkl
      have hs := hB_snoc x.2[k] (x.2.take k) h0
      rw [show x.2.take k ++ [x.2[k]] = x.2.take (k + 1) by rw [List.take_add_one, hck]; rfl] at hs
      generalize x.2[k] = c at *
      simp (disch := first | omega | (simp; done) | assumption) [wr64, wrU8, wrU64, Nat.add_assoc, -getElem?_pos, List.getElem?_cons_zero, List.getElem?_cons_succ, t3, t8, t9, t10, t14, t15, t16, hkt, hkt', hx2, hck]
      exact ⟨128 - (k + 1), by omega, rfl, k + 1, rfl, by omega, by simp [hs], by simp [t8], by simp [t9], by simp [t10], by simp [t14, sl], by simp [t15], by simp⟩
    · obtain rfl : k = 128 := by omega
      rw [List.take_of_length_le (by omega)] at t3
      simp (disch := first | omega | (simp; done) | assumption) [wr64, wrU8, wrU64, Nat.add_assoc, -getElem?_pos, List.getElem?_cons_zero, List.getElem?_cons_succ, t3, t8, t9, t10, t14, t15, t16]
      exact ⟨l.length - (i + 1), by omega, rfl, i + 1, rfl, by omega, by rw [hsn]; simp [t3], by simp [t8], by simp [t9], by simp⟩
  · obtain rfl : i = l.length := by omega
    rw [List.take_of_length_le (Nat.le_refl _)] at t3
    simp (disch := first | omega | (simp; done) | assumption) [wr64, wrU8, wrU64, Nat.add_assoc, -getElem?_pos, List.getElem?_cons_zero, List.getElem?_cons_succ, t3, t8, t9, t10]
theorem Equal {H : AH} {a b : Qb} (ha : QOk H a) (hb : QOk H b) : ACall Tryd.prog 56 [sl a, sl b] H (fun v H' => v = .bool (decide (a.2 = b.2)) ∧ H' = H) := by
  refine acall_of fits56 (by simp) ?_
  have h1 := b2s_row (H := H) (v := sl a) (q := a.1) (bs := a.2) ⟨rfl, ha.1, ha.2⟩
  have h2 := b2s_row (H := H) (v := sl b) (q := b.1) (bs := b.2) ⟨rfl, hb.1, hb.2⟩
  simp only [sl] at *
  simp (disch := first | omega | (simp; done) | assumption) [wr64, wrU8, wrU64, Nat.add_assoc, -getElem?_pos, List.getElem?_cons_zero, List.getElem?_cons_succ, ic56, rs56, h1, h2]
end Go.Proofs.YtcgkadfgojmmlaaDoor.JN

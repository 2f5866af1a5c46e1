/- A journal's numbers: put, get, lists, Need. No condition. -/
import Derived.Test.YtcgkadfgojmmlaaDoorJPl
import Derived.Test.YtcgkadfgojmmlaaDoorFRow
set_option linter.unusedVariables false
set_option linter.unusedSimpArgs false
set_option maxRecDepth 10000
set_option maxHeartbeats 4000000
namespace Go.Proofs.YtcgkadfgojmmlaaDoor.JN
open Go Go.RowKit Go.Proofs.YtcgkadfgojmmlaaDoor Go.Proofs.YtcgkadfgojmmlaaDoor.Abs Go.Proofs.YtcgkadfgojmmlaaDoor.Ic Go.Proofs.YtcgkadfgojmmlaaDoor.EAs Go.Proofs.YtcgkadfgojmmlaaDoor.EErr Go.Proofs.YtcgkadfgojmmlaaDoor.DFn
def putV (n : Int) (i : Nat) : Int := IntKind.u8.wrap (n.fdiv (2 ^ min (8 * i) IntKind.u64.bits))
def putAt (n : Int) (i : Nat) : UInt8 := UInt8.ofNat (putV n i).toNat
theorem putV_range (n : Int) (i : Nat) : 0 ≤ putV n i ∧ putV n i ≤ 255 := by
  have h : ∀ x : Int, IntKind.u8.wrap x = x % 256 := fun x => rfl
  unfold putV
  rw [h]
  omega
theorem byteV_put (n : Int) (i : Nat) : byteV (putAt n i) = .int .u8 (putV n i) := by
  have := putV_range n i
  show AV.int .u8 (((putAt n i).toNat : Nat) : Int) = _
  unfold putAt
  rw [UInt8.toNat_ofNat', Nat.mod_eq_of_lt (by omega)]
  congr 1
  omega
def put8 (n : Int) : Bs := (List.range 8).map (putAt n)
theorem put8_len (n : Int) : (put8 n).length = 8 := by simp [put8]
theorem put8_get (n : Int) (i : Nat) (h : i < (put8 n).length) : (put8 n)[i] = putAt n i := by simp [put8]
/-- What stands there when i bytes are put. -/
def putP (bs : Bs) (o : Nat) (n : Int) (i : Nat) : Bs := bs.take o ++ (put8 n).take i ++ bs.drop (o + i)
theorem putP_len {bs : Bs} {o i : Nat} (n : Int) (h : o + 8 ≤ bs.length) (hi : i ≤ 8) : (putP bs o n i).length = bs.length := by
  unfold putP
  simp [put8_len]
  omega
theorem putP_zero (bs : Bs) (o : Nat) (n : Int) : putP bs o n 0 = bs := by simp [putP]
theorem putP_set {bs : Bs} {o i : Nat} (n : Int) (h : o + 8 ≤ bs.length) (hi : i < 8) : ((putP bs o n i).map byteV).set (o + i) (.int .u8 (putV n i)) = (putP bs o n (i + 1)).map byteV := by
  rw [← byteV_put, ← List.map_set]
  congr 1
  unfold putP
  have h1 : (bs.take o).length = o := by simp; omega
  have h2 : ((put8 n).take i).length = i := by simp [put8_len]; omega
  rw [List.append_assoc, List.set_append_right _ _ (by omega), h1, Nat.add_sub_cancel_left, List.set_append_right _ _ (by omega), h2, Nat.sub_self]
  rw [List.drop_eq_getElem_cons (by omega), List.set_cons_zero, List.take_add_one, List.getElem?_eq_getElem (by rw [put8_len]; exact hi), put8_get]
  simp [Nat.add_assoc]
def PutQ (q : Nat) (cs : Bs) (H H' : AH) : Prop := H'.next = H.next ∧ (∀ x, x ≠ q → H'.at_ x = H.at_ x) ∧ H'.at_ q = some (.cells false tU8 (cs.map byteV))
def PutI (q o m : Nat) (n : Int) (bs : Bs) (H : AH) (kk : Nat) (tm : Tms) (H' : AH) : Prop := ∃ i : Nat, kk = 8 - i ∧ i ≤ 8 ∧ tm 0 = .slice q o m 1 ∧ tm 1 = .int .u64 n ∧ tm 5 = .int .i64 (i : Int) ∧ PutQ q (putP bs o n i) H H'
theorem Put {H : AH} {q o m : Nat} {bs : Bs} (n : Int) (hq : H.at_ q = some (.cells false tU8 (bs.map byteV))) (h : o + 8 ≤ bs.length) (hm : 8 ≤ m) :
    ACall Tryd.prog 42 [.slice q o m 1, .int .u64 n] H (fun v H' => v = .tuple [] ∧ PutQ q (putP bs o n 8) H H') := by
  refine acall_of fits42 (by simp) ?_
  simp (disch := first | omega | (simp; done) | assumption) [wr64, wrU8, wrU64, Nat.add_assoc, -getElem?_pos, List.getElem?_cons_zero, List.getElem?_cons_succ, ic42, rs42]
  refine iwp_loop (PutI q o m n bs H) 8 ⟨0, rfl, by omega, by simp, by simp, by simp, rfl, fun x _ => rfl, by rw [putP_zero]; exact hq⟩ ?_
  rintro kk tm H1 ⟨i, rfl, hi, t0, t1, t5, hn, hk, hat⟩
  by_cases hlt : i < 8
  · have hlt' : (i : Int) < 8 := by omega
    have hlen := putP_len (i := i) n h hi
    have hset := putP_set (i := i) n h hlt
    have hil : (i : Int) < (m : Int) := by omega
    have him : i < m := by omega
    simp (disch := first | omega | (simp; done) | assumption) [wr64, wrU8, wrU64, Nat.add_assoc, -getElem?_pos, List.getElem?_cons_zero, List.getElem?_cons_succ, t0, t1, t5, hlt, hlt', hat, hil, him]
    have h8 : ¬ 8 * (i : Int) < 0 := by omega
    have h8n : (8 * (i : Int)).toNat = 8 * i := by omega
    unfold putV at hset
    have hoi : o + (i + 1) ≤ bs.length := by omega
    simp (disch := first | omega | (simp; done) | assumption) [wr64, wrU8, wrU64, Nat.add_assoc, -getElem?_pos, List.getElem?_cons_zero, List.getElem?_cons_succ, h8, h8n, t0, t1, t5, hat, hlen, hset, hil, him, hoi]
    refine ⟨8 - (i + 1), by omega, i + 1, rfl, by omega, by simp [t0], by simp [t1], by simp, by simpa using hn, fun x hx => ?_, by simp⟩
    rw [AH.set_ne _ _ hx]
    exact hk x hx
  · obtain rfl : i = 8 := by omega
    simp (disch := first | omega | (simp; done) | assumption) [wr64, wrU8, wrU64, Nat.add_assoc, -getElem?_pos, List.getElem?_cons_zero, List.getElem?_cons_succ, t0, t1, t5]
    exact ⟨hn, hk, hat⟩
def getA (bs : Bs) : Nat → Int
  | 0 => 0
  | i + 1 => bits .or .u64 (getA bs i) (IntKind.u64.wrap (IntKind.u64.wrap (((bs.getD i 0).toNat : Nat) : Int) * 2 ^ min (8 * i) IntKind.u64.bits))
def get8 (bs : Bs) : Int := getA bs 8
theorem get_put0 : ∀ n : Fin 512, get8 (put8 (n.val : Int)) = (n.val : Int) := by decide +kernel
theorem getA_app (a b : Bs) : ∀ i, i ≤ a.length → getA (a ++ b) i = getA a i
  | 0, _ => rfl
  | i + 1, h => by
    rw [getA, getA, getA_app a b i (by omega)]
    congr 5
    rw [List.getD_eq_getElem?_getD, List.getD_eq_getElem?_getD, List.getElem?_append_left (by omega)]
theorem get_put {n : Nat} (hn : n < 512) (r : Bs) : get8 (put8 (n : Int) ++ r) = (n : Int) := by
  unfold get8
  rw [getA_app _ _ _ (by rw [put8_len]; exact Nat.le_refl _)]
  exact get_put0 ⟨n, hn⟩
def GetI (q o m : Nat) (bs : Bs) (H : AH) (kk : Nat) (tm : Tms) (H' : AH) : Prop := H' = H ∧ ∃ i : Nat, kk = 8 - i ∧ i ≤ 8 ∧ tm 0 = .slice q o m 1 ∧ tm 3 = .int .u64 (getA (bs.drop o) i) ∧ tm 5 = .int .i64 (i : Int)
theorem Get {H : AH} {q o m : Nat} {bs : Bs} (hq : H.at_ q = some (.cells false tU8 (bs.map byteV))) (h : o + 8 ≤ bs.length) (hm : 8 ≤ m) :
    ACall Tryd.prog 54 [.slice q o m 1] H (fun v H' => v = .int .u64 (get8 (bs.drop o)) ∧ H' = H) := by
  refine acall_of fits54 (by simp) ?_
  simp (disch := first | omega | (simp; done) | assumption) [wr64, wrU8, wrU64, Nat.add_assoc, -getElem?_pos, List.getElem?_cons_zero, List.getElem?_cons_succ, ic54, rs54]
  refine iwp_loop (GetI q o m bs H) 8 ⟨rfl, 0, rfl, by omega, by simp, by simp [getA], by simp⟩ ?_
  rintro kk tm H1 ⟨rfl, i, rfl, hi, t0, t3, t5⟩
  by_cases hlt : i < 8
  · have hlt' : (i : Int) < 8 := by omega
    have hil : (i : Int) < (m : Int) := by omega
    have him : i < m := by omega
    have hob : o + i < bs.length := by omega
    have hbs : bs[o + i]? = some bs[o + i] := List.getElem?_eq_getElem hob
    have hgs : getA (bs.drop o) (i + 1) = bits .or .u64 (getA (bs.drop o) i) (IntKind.u64.wrap (IntKind.u64.wrap ((bs[o + i].toNat : Nat) : Int) * 2 ^ min (8 * i) IntKind.u64.bits)) := by
      rw [getA]
      congr 5
      rw [List.getD_eq_getElem?_getD, List.getElem?_drop, hbs]
      rfl
    generalize bs[o + i] = c at *
    have h8 : ¬ 8 * (i : Int) < 0 := by omega
    have h8n : (8 * (i : Int)).toNat = 8 * i := by omega
    simp (disch := first | omega | (simp; done) | assumption) [wr64, wrU8, wrU64, Nat.add_assoc, -getElem?_pos, List.getElem?_cons_zero, List.getElem?_cons_succ, t0, t3, t5, hlt, hlt', hq, hil, him, hbs, h8, h8n]
    exact ⟨8 - (i + 1), by omega, rfl, i + 1, rfl, by omega, by simp [t0], by simp [hgs], by simp⟩
  · obtain rfl : i = 8 := by omega
    simp (disch := first | omega | (simp; done) | assumption) [wr64, wrU8, wrU64, Nat.add_assoc, -getElem?_pos, List.getElem?_cons_zero, List.getElem?_cons_succ, t0, t3, t5]
    rfl
end Go.Proofs.YtcgkadfgojmmlaaDoor.JN

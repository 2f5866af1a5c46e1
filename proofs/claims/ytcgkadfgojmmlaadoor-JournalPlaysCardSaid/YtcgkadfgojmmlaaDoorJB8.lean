/- The group that stands in a journal. No condition. -/
import Derived.Test.YtcgkadfgojmmlaaDoorJB7
set_option linter.unusedVariables false
set_option linter.unusedSimpArgs false
set_option maxRecDepth 10000
set_option maxHeartbeats 4000000
namespace Go.Proofs.YtcgkadfgojmmlaaDoor.JN
open Go Go.RowKit Go.Proofs.YtcgkadfgojmmlaaDoor Go.Proofs.YtcgkadfgojmmlaaDoor.Abs Go.Proofs.YtcgkadfgojmmlaaDoor.Ic Go.Proofs.YtcgkadfgojmmlaaDoor.EAs Go.Proofs.YtcgkadfgojmmlaaDoor.EErr Go.Proofs.YtcgkadfgojmmlaaDoor.DFn
/-! ### Numbers are read again -/
theorem putP_full (b : Bs) (o : Nat) (n : Int) : putP b o n 8 = b.take o ++ (put8 n ++ b.drop (o + 8)) := by
  unfold putP
  rw [show (put8 n).take 8 = put8 n from List.take_of_length_le (by rw [put8_len]; exact Nat.le_refl _), List.append_assoc]
theorem putP_take {b : Bs} {o k : Nat} (n : Int) (hk : 8 * k + 8 ≤ o) (h : o + 8 ≤ b.length) : get8 ((putP b o n 8).drop (8 * k)) = get8 (b.drop (8 * k)) := by
  have h1 : (putP b o n 8).drop (8 * k) = (b.take o).drop (8 * k) ++ (put8 n ++ b.drop (o + 8)) := by
    rw [putP_full, List.drop_append_of_le_length (by simp; omega)]
  have h2 : b.drop (8 * k) = (b.take o).drop (8 * k) ++ b.drop o := by
    conv => lhs; rw [← List.take_append_drop o b]
    rw [List.drop_append_of_le_length (by simp; omega)]
  rw [h1, h2]
  unfold get8
  rw [getA_app _ _ _ (by simp; omega), getA_app _ _ _ (by simp; omega)]
theorem putP_here {b : Bs} {o n : Nat} (hn : n < 512) (h : o + 8 ≤ b.length) : get8 ((putP b o (n : Int) 8).drop o) = (n : Int) := by
  rw [putP_full, List.drop_append_of_le_length (by simp; omega), List.drop_take, Nat.sub_self, List.take_zero, List.nil_append]
  exact get_put hn _
theorem numF_low : ∀ (ns : List Nat) (i k : Nat) (b : Bs), k < i → b.length = 128 → i + ns.length ≤ 16 → get8 ((numF ns i b).drop (8 * k)) = get8 (b.drop (8 * k))
  | [], i, k, b, _, _, _ => rfl
  | n :: r, i, k, b, hk, hb, hi => by
    simp at hi
    rw [numF, numF_low r (i + 1) k _ (by omega) (by rw [putP_len _ (by omega) (by omega), hb]) (by omega), putP_take _ (by omega) (by omega)]
theorem numF_get : ∀ (ns : List Nat) (i t : Nat) (b : Bs) (ht : t < ns.length), b.length = 128 → i + ns.length ≤ 16 → (∀ n ∈ ns, n < 512) → get8 ((numF ns i b).drop (8 * (i + t))) = (ns[t] : Int)
  | n :: r, i, 0, b, _, hb, hi, hs => by
    simp at hi
    rw [numF, Nat.add_zero, numF_low r (i + 1) i _ (by omega) (by rw [putP_len _ (by omega) (by omega), hb]) (by omega)]
    exact putP_here (hs n (by simp)) (by omega)
  | n :: r, i, t + 1, b, ht, hb, hi, hs => by
    simp at hi ht
    have := numF_get r (i + 1) t (putP b (8 * i) (n : Int) 8) (by omega) (by rw [putP_len _ (by omega) (by omega), hb]) (by omega) (fun x hx => hs x (by simp [hx]))
    rw [numF, show i + (t + 1) = i + 1 + t by omega, this]
    simp
theorem numB_get {l : List Wr} {i : Nat} (h : i < l.length) (hs : ∀ x ∈ l, x.1 < 512) : get8 ((numB l (i / 16)).drop (8 * (i % 16))) = (l[i].1 : Int) := by
  unfold numB
  have hm : i % 16 < (((l.drop (16 * (i / 16))).take 16).map (·.1)).length := by simp; omega
  have := numF_get (((l.drop (16 * (i / 16))).take 16).map (·.1)) 0 (i % 16) zer hm zer_len (by simp; omega) (fun n hn => by
    obtain ⟨x, hx, rfl⟩ := List.mem_map.1 hn
    exact hs x (List.mem_of_mem_drop (List.mem_of_mem_take hx)))
  rw [Nat.zero_add] at this
  rw [this]
  simp only [List.getElem_map, List.getElem_take, List.getElem_drop]
  congr 3
  omega
theorem head_magic (n : Int) (bd : List Bs) : (headB n bd).take 8 = mgc := by
  unfold headB putP
  rfl
theorem head_num {n : Nat} (hn : n < 512) (bd : List Bs) : get8 ((headB (n : Int) bd).drop 8) = (n : Int) := by
  unfold headB
  have h1 : (putP mg0 8 (n : Int) 8).length = 128 := by rw [putP_len _ (by rw [mg0_len]; omega) (by omega), mg0_len]
  have := putP_take (b := putP mg0 8 (n : Int) 8) (o := 16) (k := 1) (hash bd) (by omega) (by omega)
  rw [show 8 * 1 = 8 from rfl] at this
  rw [this]
  exact putP_here hn (by rw [mg0_len]; omega)
theorem bodyB_num {l : List Wr} {k : Nat} (h : k < lists l.length) : (bodyB l)[k]? = some (numB l k) := by
  unfold bodyB
  rw [List.getElem?_append_left (by simpa using h)]
  simp [h]
theorem bodyB_dat {l : List Wr} {i : Nat} (h : i < l.length) : (bodyB l)[lists l.length + i]? = some l[i].2 := by
  unfold bodyB
  rw [List.getElem?_append_right (by simp)]
  simp [h]
end Go.Proofs.YtcgkadfgojmmlaaDoor.JN

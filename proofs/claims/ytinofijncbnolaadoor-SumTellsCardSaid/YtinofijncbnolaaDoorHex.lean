/- strconv.FormatUint in base 16, walked: its digits. -/
import Derived.Test.YtinofijncbnolaaDoorProg
import Derived.WalkKit
import Derived.Lib.Hide
import Derived.Outline
import Derived.Lib.LaidTab
import Derived.Lib.AppendIntMem
import Derived.Lib.ItoaMem
import Derived.Laws.OwnMore
import Derived.Laws.Rows
import Derived.Deep.Draws
import Derived.Laws.BitsAllLaws
set_option linter.unusedVariables false
namespace Go.Proofs.YtinofijncbnolaaDoor.Hex
open Go Go.RowKit
set_option maxRecDepth 100000 in
theorem tz64 (w : World) (hc0 : w.cell? ⟨3, 15, none⟩ = some (.int .u8 4)) : Calls Tryd.prog 44 #[.int .u64 16] w fun e w' => e = .returned (.int .i64 4) ∧ w' = w := by
  have hc : w.cell? ⟨3, (IntKind.u64.wrap (bits BinOp.and IntKind.u64 16 (IntKind.u64.wrap (-16)) * 285870213051353865) / 288230376151711744).toNat, none⟩ = some (.int .u8 4) := by
    have e : (IntKind.u64.wrap (bits BinOp.and IntKind.u64 16 (IntKind.u64.wrap (-16)) * 285870213051353865) / 288230376151711744).toNat = 15 := by decide +kernel
    rw [e]; exact hc0
  clear hc0
  go_enter Tryd.func44, Tryd.ntmps44
  go_wp2
  go_ret
  exact ⟨rfl, rfl⟩
theorem tz (w : World) (hc : w.cell? ⟨3, 15, none⟩ = some (.int .u8 4)) : Calls Tryd.prog 40 #[.int .u64 16] w fun e w' => e = .returned (.int .i64 4) ∧ w' = w := by
  go_enter Tryd.func40, Tryd.ntmps40
  go_wp2_with (first | (go_at_call 44; refine (tz64 _ hc).mono ?_; rintro e w' ⟨rfl, rfl⟩))
  go_ret
  exact ⟨rfl, rfl⟩
theorem pow2 (w : World) : Calls Tryd.prog 39 #[.int .i64 16] w fun e w' => e = .returned (.bool true) ∧ w' = w := by
  go_enter Tryd.func39, Tryd.ntmps39
  go_wp2
  go_ret
  exact ⟨rfl, rfl⟩
def z65 : Array Value := Array.replicate 65 (.int .u8 0)
theorem zero71 (w : World) : (zeroValue 71).run Tryd.prog w = .ok (.agg z65) w := by kernel_rfl
def hexd (d : Nat) : UInt8 := if d < 10 then UInt8.ofNat (48 + d) else UInt8.ofNat (87 + d)
def lowd : Nat → Nat → List UInt8
  | 0, _ => []
  | j + 1, U => hexd (U / 16 ^ j % 16) :: lowd j U
def cellsAt (n : Nat) (d : List UInt8) : Array Value := (List.replicate n (Value.int .u8 0) ++ d.map (fun c => Value.int .u8 (c.toNat : Int))).toArray
theorem lowd_len (j U : Nat) : (lowd j U).length = j := by
  induction j with
  | zero => rfl
  | succ j ih => simp [lowd, ih]
theorem z65_eq : z65 = cellsAt 65 [] := by unfold z65 cellsAt; rw [List.map_nil, List.append_nil]; exact (List.toArray_replicate 65 (Value.int .u8 0)).symm
theorem cellsAt_get (n : Nat) (d : List UInt8) (h : 0 < n) : (cellsAt n d)[n - 1]? = some (Value.int .u8 0) := by
  unfold cellsAt
  rw [List.getElem?_toArray, List.getElem?_append_left (by simp; omega), List.getElem?_replicate, if_pos (by omega)]
theorem cellsAt_set (n : Nat) (d : List UInt8) (c : UInt8) (h : 0 < n) : (cellsAt n d).setIfInBounds (n - 1) (Value.int .u8 (c.toNat : Int)) = cellsAt (n - 1) (c :: d) := by
  unfold cellsAt
  obtain ⟨m, rfl⟩ : ∃ m, n = m + 1 := ⟨n - 1, by omega⟩
  rw [List.setIfInBounds_toArray, List.replicate_succ', List.append_assoc]
  have hl : (List.replicate m (Value.int .u8 0)).length = m := List.length_replicate
  rw [List.set_append_right _ _ (by omega), hl, Nat.add_sub_cancel, Nat.sub_self]
  rfl
def HexBlk (w : World) (g n : Nat) (d : List UInt8) : Prop := w.heap[g]? = some (.cells (cellsAt n d) 71 (0, 0))
theorem HexBlk.lt {w : World} {g n : Nat} {d : List UInt8} (h : HexBlk w g n d) : g < w.heap.size := by
  rcases Nat.lt_or_ge g w.heap.size with hlt | hge
  · exact hlt
  · unfold HexBlk at h; rw [Array.getElem?_eq_none hge] at h; cases h
theorem HexBlk.cell {w : World} {g n : Nat} {d : List UInt8} (h : HexBlk w g n d) (hn : 0 < n) : w.cell? ⟨g, n - 1, none⟩ = some (Value.int .u8 0) := (cell_of_row w g (n - 1) _ 71 (0, 0) h).trans (cellsAt_get n d hn)
theorem HexBlk.free {w : World} {g n : Nat} {d : List UInt8} (h : HexBlk w g n d) (i : Nat) : w.frozen? ⟨g, i, none⟩ = false := by
  unfold HexBlk at h
  simp [World.frozen?, h]
theorem HexBlk.put {w : World} {g n : Nat} {d : List UInt8} (h : HexBlk w g n d) (hn : 0 < n) (c : UInt8) : HexBlk (w.setCell ⟨g, n - 1, none⟩ (Value.int .u8 (c.toNat : Int))) g (n - 1) (c :: d) := by
  unfold HexBlk at h ⊢
  rw [← cellsAt_set n d c hn]
  simp [World.setCell, Array.getElem?_modify, h]
theorem HexBlk.out {w : World} {g n : Nat} {d : List UInt8} (h : HexBlk w g n d) (hn : 0 < n) (i : Nat) (hi : i < d.length) : w.cell? ((⟨g, n, none⟩ : Addr).add i) = some (Value.int .u8 (d[i].toNat : Int)) := by
  have ea : (⟨g, n, none⟩ : Addr).add i = ⟨g, n + i, none⟩ := by unfold Addr.add; split <;> simp_all
  rw [ea]
  refine (cell_of_row w g (n + i) _ 71 (0, 0) h).trans ?_
  unfold cellsAt
  rw [List.getElem?_toArray, List.getElem?_append_right (by simp)]
  simp [hi]
theorem digit_at (k : Nat) (hk : k < 16) : ∀ h : k < (⟨#[48, 49, 50, 51, 52, 53, 54, 55, 56, 57, 97, 98, 99, 100, 101, 102, 103, 104, 105, 106, 107, 108, 109, 110, 111, 112, 113, 114, 115, 116, 117, 118, 119, 120, 121, 122]⟩ : ByteArray).size,
    (((⟨#[48, 49, 50, 51, 52, 53, 54, 55, 56, 57, 97, 98, 99, 100, 101, 102, 103, 104, 105, 106, 107, 108, 109, 110, 111, 112, 113, 114, 115, 116, 117, 118, 119, 120, 121, 122]⟩ : ByteArray)[k]'h).toNat : Int) = ((hexd k).toNat : Int) := by
  intro h
  have : ∀ k < 16, ([48, 49, 50, 51, 52, 53, 54, 55, 56, 57, 97, 98, 99, 100, 101, 102, 103, 104, 105, 106, 107, 108, 109, 110, 111, 112, 113, 114, 115, 116, 117, 118, 119, 120, 121, 122] : List UInt8)[k]? = some (hexd k) := by decide
  have h2 := this k hk
  have h3 : ([48, 49, 50, 51, 52, 53, 54, 55, 56, 57, 97, 98, 99, 100, 101, 102, 103, 104, 105, 106, 107, 108, 109, 110, 111, 112, 113, 114, 115, 116, 117, 118, 119, 120, 121, 122] : List UInt8)[k]? = some ((⟨#[48, 49, 50, 51, 52, 53, 54, 55, 56, 57, 97, 98, 99, 100, 101, 102, 103, 104, 105, 106, 107, 108, 109, 110, 111, 112, 113, 114, 115, 116, 117, 118, 119, 120, 121, 122]⟩ : ByteArray)[k]'h) := List.getElem?_eq_getElem h
  rw [h3] at h2
  rw [Option.some.inj h2]
theorem and15 (n : Nat) (h : n < 18446744073709551616) : bits .and .u64 (n : Int) 15 = ((n % 16 : Nat) : Int) := by
  have := u64_and_nat n 15 h (by omega)
  rw [show ((15 : Nat) : Int) = 15 from rfl] at this
  rw [this, nat_mask4]
set_option maxHeartbeats 1000000 in
set_option maxRecDepth 100000 in
theorem formatBits (U : Nat) (hU : U < 18446744073709551616) (w : World) (hc0 : w.cell? ⟨3, 15, none⟩ = some (.int .u8 4)) :
    Calls Tryd.prog 30 #[.slice none 0 0, .int .u64 (U : Int), .int .i64 16, .bool false, .bool false] w fun e w' => ∃ (v : Value) (j : Nat), e = .returned (.tuple #[v, .string ⟨(lowd (j + 1) U).toArray⟩]) ∧ j ≤ 15 ∧ U / 16 ^ j < 16 ∧ (0 < j → 16 ≤ U / 16 ^ (j - 1)) ∧ Below w.heap.size w w' := by
  have hlt := World.block_lt_of_cell? w _ hc0
  have hc1 : ∀ o, (w.alloc o).cell? ⟨3, 15, none⟩ = some (.int .u8 4) := fun o => (World.cell?_alloc_lt w o _ hlt).trans hc0
  have hz := zero71
  go_enter Tryd.func30, Tryd.ntmps30
  go_wp2_with (first | (go_at_call 39; refine (pow2 _).mono ?_; rintro e w' ⟨rfl, rfl⟩) | (go_at_call 40; refine (tz _ (hc1 _)).mono ?_; rintro e w' ⟨rfl, rfl⟩))
  go_loopw [1, 13] (fun u i wr => ∃ (n j : Nat), n + j = 65 ∧ j ≤ 15 ∧ u = .int .u64 ((U / 16 ^ j : Nat) : Int) ∧ i = .int .i64 (n : Int) ∧ HexBlk wr w.heap.size n (lowd j U) ∧ Below w.heap.size w wr ∧ (0 < j → 16 ≤ U / 16 ^ (j - 1)))
    (fun u _ _ => (intOf u).toNat)
  case atStart => exact ⟨65, 0, rfl, by omega, by simp, rfl, by unfold HexBlk; rw [show lowd 0 U = [] from rfl, ← z65_eq]; exact heap_alloc_new w _, (Below.refl _ _).alloc (Nat.le_refl _) _, fun h => absurd h (by omega)⟩
  case round =>
    obtain ⟨n, j, hn, hj, rfl, rfl, hblk, hbel, hbig⟩ := hrel
    have hcell := hblk.cell (by omega)
    have hfree := hblk.free (n - 1)
    obtain ⟨q, hq⟩ : ∃ q, U / 16 ^ j = q := ⟨_, rfl⟩
    rw [hq]
    have hq64 : q < 18446744073709551616 := by rw [← hq]; exact Nat.lt_of_le_of_lt (Nat.div_le_self _ _) hU
    have hand := and15 q hq64
    have hdig := digit_at (q % 16) (Nat.mod_lt _ (by omega))
    have Hq := Lib.hid hq
    clear hq
    have hn1 : 50 ≤ n := by omega
    have hn2 : n ≤ 65 := by omega
    have Hn := Lib.hid hn
    clear hn
    by_cases h16 : 16 ≤ q
    · have hput := hblk.put (by omega) (hexd (q % 16))
      go_wp2
      have e1 : U / 16 ^ (j + 1) = q / 16 := by rw [Nat.pow_succ, ← Nat.div_div_eq_div_mul, Hq.out]
      have e2 : lowd (j + 1) U = hexd (q % 16) :: lowd j U := by show hexd (U / 16 ^ j % 16) :: _ = _; rw [Hq.out]
      have hj15 : j + 1 ≤ 15 := by
        rcases Nat.lt_or_ge j 15 with h | h
        · omega
        · exfalso
          have hj' : j = 15 := by omega
          subst hj'
          have := Hq.out
          omega
      refine ⟨⟨n - 1, j + 1, by have := Hn.out; omega, hj15, by rw [e1]; congr 1, by congr 1; omega, by rw [e2]; exact hput, hbel.setCell (Nat.le_refl _) _, fun _ => by rw [Nat.add_sub_cancel, Hq.out]; exact h16⟩, by simp [intOf]; omega⟩
    · have hdig2 := digit_at q (by omega)
      have hput := hblk.put (by omega) (hexd q)
      have hlen : (hexd q :: lowd j U).length = 66 - n := by have := Hn.out; simp [lowd_len]; omega
      have hsl : ∀ W, (Instr.sliceAt 71 (.pointer (some ⟨w.heap.size, 0, none⟩)) (some (.int .i64 ((n : Int) - 1))) none none).run Tryd.prog W = .ok (.slice (some ⟨w.heap.size, n - 1, none⟩) (66 - n) (66 - n)) W := fun W => by
        rw [run_sliceAt_array_l W 71 ⟨w.heap.size, 0, none⟩ (by simp [Program.arrayLen, Program.elem, Tryd.underlying71]) .i64 ((n : Int) - 1) (by omega) (by simp [Program.arrayLen, Tryd.underlying71]; omega)]
        have e1 : ((n : Int) - 1).toNat = n - 1 := by omega
        have es : (sizeOf (Tryd.prog.elem 71)).run Tryd.prog W = .ok 1 W := by kernel_rfl
        have el : Tryd.prog.arrayLen 71 = 65 := by kernel_rfl
        rw [es, el]
        show Result.ok (slicedAt _ _ _ _ _) _ = _
        unfold slicedAt Addr.add
        rw [e1, show 65 - (n - 1) = 66 - n by omega]
        by_cases h65 : 65 = n - 1
        · omega
        · rw [if_neg h65]
          congr 1
          split
          · congr 2; omega
          · congr 2
            congr 1
            simp
      have hcv : (convert 22 9 (.slice (some ⟨w.heap.size, n - 1, none⟩) (66 - n) (66 - n))).run Tryd.prog (wr.setCell ⟨w.heap.size, n - 1, none⟩ (.int .u8 ((hexd q).toNat : Int))) = .ok (.string ⟨(hexd q :: lowd j U).toArray⟩) (wr.setCell ⟨w.heap.size, n - 1, none⟩ (.int .u8 ((hexd q).toNat : Int))) := by
        rw [← hlen]
        exact run_convert_bytes_back _ 22 9 5 _ _ _ Tryd.underlying22 Tryd.underlying5 Tryd.underlying9 (fun i hi => hput.out (by omega) i hi)
      have eL : lowd (j + 1) U = hexd q :: lowd j U := by show hexd (U / 16 ^ j % 16) :: _ = _; rw [Hq.out, Nat.mod_eq_of_lt (by omega)]
      have eQ : U / 16 ^ j < 16 := by rw [Hq.out]; omega
      have hdone : ∃ (v : Value) (j' : Nat), Ending.returned (.tuple #[Value.slice none 0 0, .string ⟨(hexd q :: lowd j U).toArray⟩]) = Ending.returned (.tuple #[v, .string ⟨(lowd (j' + 1) U).toArray⟩]) ∧ j' ≤ 15 ∧ U / 16 ^ j' < 16 ∧ (0 < j' → 16 ≤ U / 16 ^ (j' - 1)) ∧ Below w.heap.size w (wr.setCell ⟨w.heap.size, n - 1, none⟩ (.int .u8 ((hexd q).toNat : Int))) := ⟨_, j, by rw [eL], hj, eQ, hbig, hbel.setCell (Nat.le_refl _) _⟩
      have Hdone := Lib.hid hdone
      clear hblk hput eL eQ hdone hbig hbel
      go_wp2
      go_ret2
      exact Hdone.out
set_option maxRecDepth 100000 in
theorem format20 (U : Nat) (hU : U < 18446744073709551616) (w : World) (hc0 : w.cell? ⟨3, 15, none⟩ = some (.int .u8 4)) :
    Calls Tryd.prog 20 #[.int .u64 (U : Int), .int .i64 16] w fun e w' => ∃ j, e = .returned (.string ⟨(lowd (j + 1) U).toArray⟩) ∧ j ≤ 15 ∧ U / 16 ^ j < 16 ∧ (0 < j → 16 ≤ U / 16 ^ (j - 1)) ∧ Below w.heap.size w w' := by
  go_enter Tryd.func20, Tryd.ntmps20
  go_wp2_with (first | (go_at_call 30; refine (formatBits U hU _ hc0).mono ?_; rintro e w' ⟨v, j, rfl, hj, hlo, hhi, hb⟩))
  go_ret
  exact ⟨j, rfl, hj, hlo, hhi, hb⟩
set_option maxRecDepth 100000 in
theorem format18 (U : Nat) (hU : U < 18446744073709551616) (w : World) (hc0 : w.cell? ⟨3, 15, none⟩ = some (.int .u8 4)) :
    Calls Tryd.prog 18 #[.int .u64 (U : Int), .int .i64 16] w fun e w' => ∃ j, e = .returned (.string ⟨(lowd (j + 1) U).toArray⟩) ∧ j ≤ 15 ∧ U / 16 ^ j < 16 ∧ (0 < j → 16 ≤ U / 16 ^ (j - 1)) ∧ Below w.heap.size w w' := by
  go_enter Tryd.func18, Tryd.ntmps18
  go_wp2_with (first | (go_at_call 20; refine (format20 U hU _ hc0).mono ?_; rintro e w' ⟨j, rfl, hj, hlo, hhi, hb⟩))
  go_ret
  exact ⟨j, rfl, hj, hlo, hhi, hb⟩
def hj (U : Nat) : Nat := ((List.range 16).find? (fun j => decide (U / 16 ^ j < 16))).getD 0
/-- The digits of a number, as FormatUint writes them. -/
def hexs (U : Nat) : List UInt8 := lowd (hj U + 1) U
theorem hj_find {U j : Nat} (h1 : j ≤ 15) (hlo : U / 16 ^ j < 16) (hhi : 0 < j → 16 ≤ U / 16 ^ (j - 1)) : (List.range 16).find? (fun j => decide (U / 16 ^ j < 16)) = some j := by
  rw [List.find?_range_eq_some]
  refine ⟨by simpa using hlo, by simp; omega, fun i hi => ?_⟩
  have h2 := hhi (by omega)
  have h3 : U / 16 ^ (j - 1) ≤ U / 16 ^ i := Nat.div_le_div_left (Nat.pow_le_pow_right (by omega) (by omega)) (Nat.pow_pos (by omega))
  simp only [Bool.not_eq_true', decide_eq_false_iff_not]
  omega
theorem hj_eq {U j : Nat} (h1 : j ≤ 15) (hlo : U / 16 ^ j < 16) (hhi : 0 < j → 16 ≤ U / 16 ^ (j - 1)) : hj U = j := by
  unfold hj
  rw [hj_find h1 hlo hhi]
  rfl
theorem hj_small {U : Nat} (hU : U < 18446744073709551616) : hj U ≤ 15 ∧ U / 16 ^ hj U < 16 := by
  unfold hj
  cases h : (List.range 16).find? (fun j => decide (U / 16 ^ j < 16)) with
  | none =>
    rw [List.find?_eq_none] at h
    have := h 15 (by simp)
    simp at this
    omega
  | some j =>
    have h1 := List.find?_some h
    have h2 := List.mem_of_find?_eq_some h
    simp at h1 h2
    exact ⟨by show j ≤ 15; omega, h1⟩
/-- What the package's table must hold: handed along, for of what was there nothing turns. -/
def GW (w : World) : Prop := w.cell? ⟨3, 15, none⟩ = some (.int .u8 4)
theorem GW_below {w W : World} (h : GW w) (hb : Below w.heap.size w W) : GW W := (hb.cell (World.block_lt_of_cell? w _ h)).trans h
end Go.Proofs.YtinofijncbnolaaDoor.Hex

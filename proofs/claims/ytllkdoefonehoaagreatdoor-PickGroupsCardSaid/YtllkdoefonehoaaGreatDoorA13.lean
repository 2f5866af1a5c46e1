/- The steps that act: a store, a call, an append, a copy. No condition. -/
import Derived.Test.YtllkdoefonehoaaGreatDoorA12
import Derived.Laws.Append
set_option linter.unusedVariables false
set_option linter.unusedSimpArgs false
namespace Go.Proofs.YtllkdoefonehoaaGreatDoor.Abs
open Go Go.RowKit

section
variable {P : Program} {j : Inj} {H : AH} {w : World}

theorem Rel.of_heap (hr : Rel P j H w) {w' : World} (h : w'.heap = w.heap) : Rel P j H w' :=
  ⟨fun a c z x => by rw [h]; exact hr.dom a c z x, hr.inj, fun a o ho => by obtain ⟨c, x, h1, h2, h3⟩ := hr.obj a o ho; exact ⟨c, x, h1, by rw [h]; exact h2, h3⟩, hr.glob⟩
theorem Post.of_heap (hr : Rel P j H w) {w' : World} (h : w'.heap = w.heap) (h1 : w'.os = w.os) (h2 : w'.tape = w.tape) (h3 : w'.output = w.output) : Post P j H w j H w' :=
  ⟨⟨Inj.le_refl j, hr.of_heap h, ⟨h1, h2, h3, by rw [h]; exact Nat.le_refl _, fun c _ _ => by rw [h]⟩, Nat.le_refl _, fun a c z hc hl _ => ⟨a, z, hl, hc, id⟩⟩, fun _ _ => rfl⟩

theorem all_one {l : List AV} {r : List Value} (h : VRs j l r) (h1 : l.all AV.one = true) : (r.all (·.oneCell')) = true := by
  induction l generalizing r with
  | nil => rw [h.nil_right]; rfl
  | cons a l ih =>
    obtain ⟨b, r', rfl, hb, hr'⟩ := h.cons_left
    simp only [List.all_cons, Bool.and_eq_true] at h1 ⊢
    exact ⟨by rw [← hb.one]; exact h1.1, ih hr' h1.2⟩
theorem setRange_take : ∀ (ws l : List Value) (o n : Nat), o + ws.length ≤ n → (setRangeV l o ws).take n = setRangeV (l.take n) o ws
  | [], l, o, n, _ => rfl
  | v :: ws, l, o, n, h => by
    rw [setRangeV, setRangeV, setRange_take ws _ (o + 1) n (by simp at h; omega), List.take_set]

/-- A store through an address. -/
theorem storeC_sound (hr : Rel P j H w) {b c z o : Nat} {vs : List AV} {us : List Value} {H' : AH} (hb : j b = some (c, z)) (hv : VRs j vs us) (h : storeC H b o vs = some H') :
    ∃ w', (storeCells ⟨c, o, none⟩ us).run P w = .ok () w' ∧ Post P j H w j H' w' := by
  unfold storeC at h
  split at h
  · rename_i t cs hat
    split at h
    · rename_i hc
      obtain ⟨hle, hone⟩ := hc
      cases h
      obtain ⟨x, fz, hx, hz, hle2, hvs, hfz⟩ := hr.cells hat hb
      have hlen := hv.1
      obtain ⟨x', hrun, hx', hs'⟩ := run_storeCells_set (P := P) (c := c) (o := o) (t := t) (fz := fz) us 0 x w hx (by omega) (hfz rfl) (all_one hv hone)
      refine ⟨_, hrun, Post.update hr hat rfl hb hx ?_ (by simp only [csize]; exact hs')⟩
      have hset : VRs j (setRange cs o vs) (x'.toList.take cs.length) := by
        rw [hx', Nat.add_zero, setRange_take _ _ _ _ (by omega)]
        exact VRs.setRange o hvs hv
      refine ⟨rfl, by rw [setRange_length]; omega, fun i a v ha hv' => ?_, fun _ => by rw [hs']; exact hfz rfl⟩
      have hi : i < cs.length := by have := (List.getElem?_eq_some_iff.1 ha).1; rwa [setRange_length] at this
      refine hset.2 i a v ha ?_
      rw [List.getElem?_take, if_pos hi]
      simpa using hv'
    · cases h
  · cases h
theorem run_storeAt (hr : Rel P j H w) {t : TypeId} {n b o : Nat} {a : Value} {v : AV} {u : Value} {H' : AH} (hs : sizeP P t = some n) (ha : VR j (.ptr b o) a) (hv : VR j v u) (hn : v.cells.length = n) (h : storeC H b o v.cells = some H') :
    ∃ w', (Instr.storeAt t a u).run P w = .ok () w' ∧ Post P j H w j H' w' := by
  obtain ⟨c, z, rfl, hc⟩ := ha.ptr_inv
  obtain ⟨w', hrun, hp⟩ := storeC_sound hr hc hv.cells h
  refine ⟨w', ?_, hp⟩
  have hsz : u.cells.size = n := by rw [← hn]; exact hv.cells.size.symm
  simp [Instr.storeAt, Instr.sureAddr, storeVar, run_sizeOf hs, hsz, hrun]

/-! ### What an append takes -/
theorem run_lenOf {x : Value} {a : AV} {m : Nat} (hx : VR j a x) (h : lenA a = some m) (w : World) : (Builtin.lenOf x).run P w = .ok m w := by
  cases a <;> simp only [lenA] at h <;> first | (cases h; done) | skip
  · cases h
    obtain ⟨s, rfl, rfl⟩ := hx.str_inv
    have : s.data.toList.length = s.size := by rw [Array.length_toList]; rfl
    rw [this]; rfl
  · cases h
    obtain ⟨c, z, k, rfl, _⟩ := hx.slice_inv
    rfl
  · cases h; cases hx; rfl
  · cases h; cases hx; rfl
  · cases h; cases hx; rfl
theorem run_firstCells (hr : Rel P j H w) {x : Value} {a : AV} {m size : Nat} {xs : List AV} (hx : VR j a x) (hl : ∃ k, lenA a = some k ∧ m ≤ k) (h : srcCells H size m a = some xs) :
    ∃ us : List Value, (∀ w1 : World, w1.heap = w.heap → (Builtin.firstCells size m x).run P w1 = .ok us.toArray w1) ∧ VRs j xs us := by
  obtain ⟨k, hl, hm⟩ := hl
  cases a <;> simp only [srcCells] at h <;> first | (cases h; done) | skip
  · cases h
    obtain ⟨s, rfl, rfl⟩ := hx.str_inv
    refine ⟨(s.data.toList.take m).map fun b => .int .u8 b.toNat, fun w1 _ => ?_, ?_⟩
    · have e : ((s.extract 0 m).data.map fun (b : UInt8) => Value.int .u8 b.toNat) = ((s.data.toList.take m).map fun (b : UInt8) => Value.int .u8 b.toNat).toArray := by
        apply Array.toList_inj.1
        rw [Array.toList_map, Go.Lib.extract_data]
        simp
      rw [Builtin.firstCells, e]
      rfl
    · refine ⟨by simp, fun i p q hp hq => ?_⟩
      rw [List.getElem?_map] at hp hq
      cases hc : (s.data.toList.take m)[i]? with
      | none => rw [hc] at hp; cases hp
      | some c => rw [hc] at hp hq; cases hp; cases hq; exact .int _ _
  · split at h
    · rename_i cs hld
      cases h
      obtain ⟨c, z, k', rfl, hc, _, _⟩ := hx.slice_inv
      obtain ⟨us, vs, hvs, hlen, hrel, hcell⟩ := hr.loadC hld hc
      cases hvs
      refine ⟨us, fun w1 hw1 => ?_, hrel⟩
      have hload := run_loadCells_of (P := P) (w := w1) (fun i u hu => by have := hcell i u hu; simp only [World.cell?, hw1] at this ⊢; exact this)
      rw [hlen] at hload
      simp [Builtin.firstCells, hload]
    · cases h
  · cases h
    cases hx
    exact ⟨[], fun _ _ => rfl, .nil⟩
  · cases h
    cases hx
    cases hl
    have : m = 0 := by omega
    subst this
    exact ⟨[], fun _ _ => by simp [Builtin.firstCells, loadCells, loadCellsFrom], .nil⟩
  · cases h
    cases hx
    cases hl
    have : m = 0 := by omega
    subst this
    exact ⟨[], fun _ _ => by simp [Builtin.firstCells, loadCells, loadCellsFrom], .nil⟩
theorem srcCells_length (size m : Nat) {a : AV} {k : Nat} (hl : lenA a = some k) (hm : m ≤ k) {xs : List AV} (h : srcCells H size m a = some xs) (hstr : ∀ l, a = .str l → size = 1) (hnz : a = .snil ∨ a = .sempty ∨ a = .szero → m = 0) : xs.length = m * size := by
  cases a <;> simp only [srcCells] at h <;> first | (cases h; done) | skip
  · cases h
    cases hl
    rw [hstr _ rfl, List.length_map, List.length_take]
    omega
  · split at h
    · rename_i cs hld
      cases h
      simp only [Abs.loadC] at hld
      split at hld
      · split at hld
        · rename_i hle
          cases hld
          rw [List.length_take, List.length_drop]
          omega
        · cases hld
      · split at hld
        · cases hld
        · simp only [Option.map_eq_some_iff] at hld
          obtain ⟨l, hg, e⟩ := hld
          cases e
          exact rowGet_len hg
      · cases hld
    · cases h
  · cases h; rw [hnz (.inl rfl)]; simp
  · cases h; rw [hnz (.inr (.inl rfl))]; simp
  · cases h; rw [hnz (.inr (.inr rfl))]; simp

theorem growBy_bound (n : Nat) : ∀ (r c : Nat), c ≤ 2 * n + 200 → Builtin.growBy n r c ≤ 2 * n + 200
  | 0, c, h => h
  | r + 1, c, h => by
    unfold Builtin.growBy
    split
    · exact h
    · rename_i hlt
      exact growBy_bound n r _ (by omega)
theorem nextcap_bound {need cap bytes : Nat} (h : need * bytes ≤ 70368744177664) (hc : cap < need) : ¬ Builtin.nextslicecap need cap * bytes > 2 ^ 48 := by
  have h3 : need * bytes * 3 ≤ 2 ^ 48 := by omega
  have key : ∀ q, q ≤ 3 * need → ¬ q * bytes > 2 ^ 48 := by
    intro q hq
    have : q * bytes ≤ 3 * need * bytes := Nat.mul_le_mul_right _ hq
    have e : 3 * need * bytes = need * bytes * 3 := by rw [Nat.mul_assoc, Nat.mul_comm]
    omega
  apply key
  unfold Builtin.nextslicecap
  split
  · omega
  · split
    · omega
    · have := growBy_bound need 4 cap (by omega)
      omega

theorem setRange_append : ∀ (ws l : List Value) (o : Nat), o + ws.length ≤ l.length → (setRangeV l o ws).take (o + ws.length) = l.take o ++ ws
  | [], l, o, h => by simp [setRangeV]
  | v :: ws, l, o, h => by
    simp only [List.length_cons] at h ⊢
    rw [setRangeV]
    have := setRange_append ws (l.set o v) (o + 1) (by simp; omega)
    rw [show o + (ws.length + 1) = o + 1 + ws.length by omega, this]
    rw [List.take_add_one, List.take_set_of_le (Nat.le_refl o)]
    rw [List.getElem?_set_self (by omega)]
    simp

/-- An append where there is room. -/
theorem run_append_room {t0 t1 e : TypeId} {ty : TypeId} {i : TypeInfo} {d1 : TypeDesc} (hu : P.underlying t0 = some (.slice e)) (hu1 : P.underlying t1 = some d1) (hd1 : d1 = .string ∨ ∃ e', d1 = .slice e')
    (hi : P.info? e = some i) {base : Option Addr} {n k m : Nat} {x : Value} {us : Array Value} {w' : World} (hlen : (Builtin.lenOf x).run P w = .ok m w) (hle : n + m ≤ k) (hf : (Builtin.firstCells i.size m x).run P w = .ok us w)
    (hst : match base with | some a => (storeCells (a.add (n * i.size)) us.toList).run P w = .ok () w' | none => w' = w) : (Builtin.append_ #[t0, t1] ty #[.slice base n k, x]).run P w = .ok (.slice base (n + m) k) w' := by
  rcases hd1 with rfl | ⟨e', rfl⟩
  all_goals
    cases base with
    | none =>
      subst hst
      simp [Builtin.append_, run_underlying hu, run_underlying hu1, sizeOf, typeInfo, hi, hlen, hle, hf]
    | some a =>
      simp only at hst
      simp [Builtin.append_, run_underlying hu, run_underlying hu1, sizeOf, typeInfo, hi, hlen, hle, hf, hst]
/-- An append that grows. -/
theorem run_append_grow {t0 t1 e : TypeId} {ty : TypeId} {i : TypeInfo} {d1 : TypeDesc} {z : Value} (hu : P.underlying t0 = some (.slice e)) (hu1 : P.underlying t1 = some d1) (hd1 : d1 = .string ∨ ∃ e', d1 = .slice e')
    (hi : P.info? e = some i) (hz : i.zero = some z) {base : Option Addr} {n k m : Nat} {x : Value} {os us : Array Value} (hlen : (Builtin.lenOf x).run P w = .ok m w) (hle : ¬ n + m ≤ k)
    (hf1 : (Builtin.firstCells i.size n (.slice base n k)).run P w.drew = .ok os w.drew) (hf2 : (Builtin.firstCells i.size m x).run P w.drew = .ok us w.drew) (hb1 : (n + m) * i.bytes ≤ 70368744177664) (hb2 : n + m ≤ 70368744177664) :
    (Builtin.append_ #[t0, t1] ty #[.slice base n k, x]).run P w =
      .ok (.slice (some ⟨w.heap.size, 0, none⟩) (n + m) (grownCap w (n + m) k e)) (w.drew.alloc (.cells (os ++ us ++ Builtin.zeroCells z.cells (grownCap w (n + m) k e - (n + m))) e)) := by
  have h63' : ¬ (9223372036854775807 < ((n : Int) + (m : Int))) := by omega
  have h48' : ¬ (281474976710656 < Builtin.nextslicecap (n + m) k * i.bytes) := by have := nextcap_bound hb1 (show k < n + m by omega); omega
  rcases hd1 with rfl | ⟨e', rfl⟩
  all_goals
    simp [Builtin.append_, run_underlying hu, run_underlying hu1, sizeOf, typeInfo, zeroValue, hi, hz, hlen, hle, h63', h48', Question.forced, hf1, hf2, newRow, grownCap]
end
end Go.Proofs.YtllkdoefonehoaaGreatDoor.Abs

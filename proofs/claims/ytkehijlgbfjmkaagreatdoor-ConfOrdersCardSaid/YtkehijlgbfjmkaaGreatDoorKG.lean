/- slices.Grow and slices.Concat of blobs, conf.Blobs. No condition. -/
import Derived.Shelf.SlGeneric
import Derived.Shelf.Spec.SlicesGrow
import Derived.Test.YtkehijlgbfjmkaaGreatDoorKL
import Derived.Test.YtkehijlgbfjmkaaGreatDoorIns3
set_option linter.unusedVariables false
set_option linter.unusedSimpArgs false
set_option maxRecDepth 10000
set_option maxHeartbeats 4000000
namespace Go.Proofs
open Go.Shelf
def Tryz.growB_ren : Go.Shelf.Ren := ⟨fun | 4 => 68 | n => n, fun | 22 => 24 | 25 => 23 | 3 => 3 | 4 => 4 | 9 => 9 | 20 => 20 | 0 => 0 | n => n, fun | n => n⟩
theorem Tryz.growB : Go.Proofs.Lays8.n4 Tryz.prog Tryz.growB_ren := {
  mixed := by kernel_rfl
  f4 := ⟨Tryz.f68.name, by decide, Tryz.func68.trans (congrArg some (by kernel_rfl))⟩
  t0 := Tryz.underlying0
  a0 := Tryz.isAgg0
  z0 := Tryz.sizeOf0
  v0 := Tryz.zeroValue0
  t3 := Tryz.underlying3
  a3 := Tryz.isAgg3
  z3 := Tryz.sizeOf3
  v3 := Tryz.zeroValue3
  t4 := Tryz.underlying4
  a4 := Tryz.isAgg4
  z4 := Tryz.sizeOf4
  v4 := Tryz.zeroValue4
  t9 := Tryz.underlying9
  a9 := Tryz.isAgg9
  z9 := Tryz.sizeOf9
  v9 := Tryz.zeroValue9
  t20 := Tryz.underlying20
  a20 := Tryz.isAgg20
  z20 := Tryz.sizeOf20
  v20 := Tryz.zeroValue20
  t22 := Tryz.underlying24
  a22 := Tryz.isAgg24
  z22 := Tryz.sizeOf24
  v22 := Tryz.zeroValue24 }
end Go.Proofs
namespace Go.Proofs.YtkehijlgbfjmkaaGreatDoor.KW
open Go Go.RowKit Go.Proofs.YtkehijlgbfjmkaaGreatDoor Go.Proofs.YtkehijlgbfjmkaaGreatDoor.Abs Go.Proofs.YtkehijlgbfjmkaaGreatDoor.Ic Go.Proofs.YtkehijlgbfjmkaaGreatDoor.St
theorem GrowB (n : Nat) (h1 : 1 ≤ n) (hn : n ≤ 1000000) (H : AH) :
    ACall Tryz.prog 68 [.snil, .int .i64 (n : Int)] H (fun v H' => v = .slice H.next 0 0 2 ∧ H' = H.new (.cells false tB [])) := by
  refine ⟨by kernel_rfl, fun j w cargs hr hv => ?_⟩
  have hargs : cargs = #[.slice none 0 0, .int .i64 (n : Int)] := by
    obtain ⟨u, r, h1, hu, h2⟩ := hv.cons_left
    obtain ⟨u2, r2, h3, hu2, h4⟩ := h2.cons_left
    obtain rfl := h4.nil_right
    obtain rfl := hu2.int_inv
    cases hu
    cases cargs; simp_all
  subst hargs
  obtain ⟨i0, hi0, hp⟩ := Option.map_eq_some_iff.1 (show (Tryz.prog.info? tB).map (fun i => (i.size, i.bytes, i.zero)) = some (2, 32, some (.agg #[.string ⟨#[]⟩, .string ⟨#[]⟩])) by kernel_rfl)
  obtain ⟨hs, hb, hz⟩ : i0.size = 2 ∧ i0.bytes = 32 ∧ i0.zero = some (.agg #[.string ⟨#[]⟩, .string ⟨#[]⟩]) := by
    injection hp with a b; injection b with b c; exact ⟨a, b, c⟩
  refine (Any8.slices_Grow_grow Tryz.growB i0 _ hi0 hz (by omega) none 0 0 n [] w (Nat.le_refl _) (by omega) (by rw [hb]; omega) (by omega) (by simp) (fun _ => rfl) (fun a ha => by cases ha)).mono ?_
  rintro e w' ⟨rfl, rfl⟩
  have hge : 0 + n ≤ grownCap w (0 + n) 0 tB := grownCap_ge w _ _ _
  refine ⟨.slice H.next 0 0 2, _, _, _, rfl, ⟨rfl, rfl⟩, Post.new hr (x := .cells (([] : List Value).toArray ++ Builtin.zeroCells (Value.cells (.agg #[.string ⟨#[]⟩, .string ⟨#[]⟩])) (0 + n - 0) ++ Builtin.zeroCells (Value.cells (.agg #[.string ⟨#[]⟩, .string ⟨#[]⟩])) (grownCap w (0 + n) 0 tB - (0 + n))) tB) rfl rfl rfl rfl ⟨rfl, by simp, by simp, fun _ => .inl (Nat.le_refl _)⟩, .slice (Inj.add_same _ _ _) (Nat.zero_le _) ?_⟩
  have zl : ∀ (z : Array Value), z.size = 2 → ∀ k, (Builtin.zeroCells z k).size = k * 2 := fun z hz k => by
    simp [Builtin.zeroCells, hz]
  have z2 : (Value.cells (.agg #[.string ⟨#[]⟩, .string ⟨#[]⟩])).size = 2 := by decide +kernel
  have l1 := zl _ z2 (0 + n - 0)
  have l2 := zl _ z2 (grownCap w (0 + n) 0 tB - (0 + n))
  show 0 + grownCap w (0 + n) 0 tB * 2 ≤ Array.size _
  rw [Array.size_append, Array.size_append, l1, l2]
  omega
theorem _root_.Go.Proofs.YtkehijlgbfjmkaaGreatDoor.Abs.SF.src {H : AH} {v : AV} {sz : Nat} {L : List (List AV)} (h : SF H v sz L) (hs : 0 < sz) : lenA v = some L.length ∧ (L ≠ [] → srcCells H sz L.length v = some L.flatten) ∧ isStrV v = false := by
  rcases h with ⟨rfl, rfl | rfl⟩ | ⟨b, o, rfl, h2, h3⟩
  · exact ⟨rfl, fun h => absurd rfl h, rfl⟩
  · exact ⟨rfl, fun h => absurd rfl h, rfl⟩
  · refine ⟨rfl, fun _ => ?_, rfl⟩
    have hL : All sz L := fun l hl => by
      obtain ⟨i, hi, rfl⟩ := List.getElem_of_mem hl
      exact (h3 i hi).1
    have hlen := flat_len hL
    have hpos : 0 < L.length := by cases L <;> simp at h2 ⊢
    have := load_many (H := H) (b := b) (o := o) (l := L.flatten) (fun e => by rw [e] at hlen; have := Nat.mul_pos hpos hs; simp at hlen; omega) (fun q hq => by
      rw [hlen] at hq
      have hk : q / sz < L.length := (Nat.div_lt_iff_lt_mul hs).2 hq
      have hm : q % sz < sz := Nat.mod_lt _ hs
      have e : q / sz * sz + q % sz = q := by rw [Nat.mul_comm]; exact Nat.div_add_mod q sz
      rw [← e, flat_at hL hk hm]
      exact (h3 _ hk).2 _ hm)
    rw [hlen] at this
    simp only [srcCells, this]
def CcI (b q : Nat) (vx : AV) (n : Nat) (H : AH) (kk : Nat) (tm : Tms) (H' : AH) : Prop := H' = H ∧ tm 0 = .slice b 0 2 1 ∧ tm 9 = .slice b 0 2 1 ∧ tm 10 = .int .i64 2 ∧
  ((kk = 3 ∧ tm 11 = .int .i64 0 ∧ tm 3 = .int .i64 0) ∨ (kk = 2 ∧ tm 11 = .int .i64 1 ∧ tm 3 = .int .i64 1) ∨ (kk = 1 ∧ tm 11 = .int .i64 2 ∧ tm 3 = .int .i64 ((n + 1 : Nat) : Int)))
def CdI (b q : Nat) (kn ks : List UInt8) (ex : List (List UInt8 × List UInt8)) (H : AH) (kk : Nat) (tm : Tms) (H' : AH) : Prop := H.keepsAll H' ∧ H.next ≤ H'.next ∧ tm 25 = .slice b 0 2 1 ∧ tm 26 = .int .i64 2 ∧
  ((kk = 3 ∧ tm 27 = .int .i64 0 ∧ OwnZ H.next H' tB 2 (tm 6) (rowsB [])) ∨ (kk = 2 ∧ tm 27 = .int .i64 1 ∧ OwnZ H.next H' tB 2 (tm 6) (rowsB [(kn, ks)])) ∨ (kk = 1 ∧ tm 27 = .int .i64 2 ∧ OwnZ H.next H' tB 2 (tm 6) (rowsB ((kn, ks) :: ex))))
theorem rowsB_one (ex : List (List UInt8 × List UInt8)) : (rowsB ex).flatten.all AV.one = true := flat_mem fun l hl x hx => by
  obtain ⟨p, _, rfl⟩ := List.mem_map.1 hl
  simp [blobC] at hx
  rcases hx with rfl | rfl <;> rfl
theorem ConcatB {b q : Nat} {vx : AV} {kn ks : List UInt8} {ex : List (List UInt8 × List UInt8)} {H : AH} (hb : H.at_ b = some (.cells false 24 [.slice q 0 1 2, vx])) (hq : H.at_ q = some (.cells false tB [.str kn, .str ks]))
    (hx : SF H vx 2 (rowsB ex)) (hn : ex.length ≤ 100000) :
    ACall Tryz.prog 46 [.slice b 0 2 1] H (fun v H' => H.keepsAll H' ∧ H.next ≤ H'.next ∧ OwnZ H.next H' tB 2 v (rowsB ((kn, ks) :: ex))) := by
  have hvl := hx.len
  have hlen : (rowsB ex).length = ex.length := by simp [rowsB]
  rw [hlen] at hvl
  have hv1 : vx.cells = [vx] ∧ vx.one = true := by
    rcases hx with ⟨_, rfl | rfl⟩ | ⟨_, _, rfl, _⟩ <;> exact ⟨rfl, rfl⟩
  have hlens : lenS vx = some ex.length := by
    rcases hx with ⟨h, rfl | rfl⟩ | ⟨_, _, rfl, _⟩
    · rw [← hlen, h]; rfl
    · rw [← hlen, h]; rfl
    · rw [← hlen]; rfl
  refine acall_ok (bodyP_of fits46) fun hok => acall_of fits46 (by simp) ?_
  simp (disch := first | omega | (simp; done) | assumption) [wr64, wrU8, wrU64, Nat.add_assoc, -getElem?_pos, List.getElem?_cons_zero, List.getElem?_cons_succ, ic46, rs46]
  refine iwp_loop (CcI b q vx ex.length H) 3 ⟨rfl, by simp, by simp, by simp, .inl ⟨rfl, by simp, by simp⟩⟩ ?_
  rintro kk tm H1 ⟨rfl, t0, t9, t10, ⟨rfl, t11, t3⟩ | ⟨rfl, t11, t3⟩ | ⟨rfl, t11, t3⟩⟩
  · simp (disch := first | omega | (simp; done) | assumption) [wr64, wrU8, wrU64, Nat.add_assoc, -getElem?_pos, List.getElem?_cons_zero, List.getElem?_cons_succ, t0, t9, t10, t11, t3, hb]
    exact ⟨2, by omega, rfl, by simp [t0], by simp [t9], by simp [t10], .inr (.inl ⟨rfl, by simp, by simp⟩)⟩
  · generalize hN : ex.length = N at *
    have e1 : ¬ (((1 : Int) + (N : Int)) < 0) := by omega
    simp (disch := first | omega | (simp; done) | assumption) [wr64, wrU8, wrU64, Nat.add_assoc, -getElem?_pos, List.getElem?_cons_zero, List.getElem?_cons_succ, t0, t9, t10, t11, t3, hb, hlens, hv1.1, hv1.2, e1]
    exact ⟨1, by omega, rfl, by simp [t0], by simp [t9], by simp [t10], .inr (.inr ⟨rfl, by simp, by simp; omega⟩)⟩
  · simp (disch := first | omega | (simp; done) | assumption) [wr64, wrU8, wrU64, Nat.add_assoc, -getElem?_pos, List.getElem?_cons_zero, List.getElem?_cons_succ, t0, t9, t10, t11, t3]
    refine CallW.of (GrowB (ex.length + 1) (by omega) (by omega) H1) ?_
    rintro v H2 ⟨rfl, rfl⟩
    try simp only [newO_none]
    have hkH : H1.keepsAll (H1.new (.cells false tB [])) := fun y o h => by rw [AH.new_ne _ _ (by have := hok _ _ h; omega)]; exact h
    simp (disch := first | omega | (simp; done) | assumption) [wr64, wrU8, wrU64, Nat.add_assoc, -getElem?_pos, List.getElem?_cons_zero, List.getElem?_cons_succ, t0, t9, t10, t11, t3]
    refine iwp_loop (CdI b q kn ks ex H1) 3 ⟨hkH, by simp, by simp, by simp, .inl ⟨rfl, by simp, H1.next, by simp [rowsB], by simp [rowsB], by omega, by simp⟩⟩ ?_
    rintro kk tm H2 ⟨hk2, hn2, t25, t26, ⟨rfl, t27, ho⟩ | ⟨rfl, t27, ho⟩ | ⟨rfl, t27, ho⟩⟩
    · generalize t6 : tm 6 = v at *
      have hb2 := hk2 _ _ hb
      have hq2 := hk2 _ _ hq
      have hsrc : srcCells H2 2 (rowsB [(kn, ks)]).length (.slice q 0 1 2) = some (rowsB [(kn, ks)]).flatten := by
        simp [srcCells, hq2, rowsB, blobC]
      obtain ⟨v', H', a1, o1, n1, k1, _⟩ := appendZ (bytes := 32) (x := .slice q 0 1 2) (M := rowsB [(kn, ks)]) ho (allB _) hn2 rfl (fun _ => hsrc) (rowsB_one _) rfl (by simp [rowsB]) (by simp [rowsB])
      simp (disch := first | omega | (simp; done) | assumption) [wr64, wrU8, wrU64, Nat.add_assoc, -getElem?_pos, List.getElem?_cons_zero, List.getElem?_cons_succ, t25, t26, t27, t6, hb2]
      refine Try.intro a1 ?_
      simp (disch := first | omega | (simp; done) | assumption) [wr64, wrU8, wrU64, Nat.add_assoc, -getElem?_pos, List.getElem?_cons_zero, List.getElem?_cons_succ, t25, t26, t27, t6]
      obtain ⟨qq, rfl, _, hq1, _⟩ := ho
      exact ⟨2, by omega, fun y o h => k1 y o (by have := hok _ _ h; omega) (hk2 y o h) (fun n e => by have := hok _ _ h; injection e; omega), by omega, by simp [t25], by simp [t26], .inr (.inl ⟨rfl, by simp, by simpa [rowsB] using o1⟩)⟩
    · generalize t6 : tm 6 = v at *
      have hb2 := hk2 _ _ hb
      obtain ⟨s1, s2, s3⟩ := (hx.keeps hk2).src (by omega)
      obtain ⟨v', H', a1, o1, n1, k1, _⟩ := appendZ (bytes := 32) (x := vx) (M := rowsB ex) ho (allB _) hn2 s1 s2 (rowsB_one _) s3 (by simp [rowsB]; omega) (by simp [rowsB]; omega)
      simp (disch := first | omega | (simp; done) | assumption) [wr64, wrU8, wrU64, Nat.add_assoc, -getElem?_pos, List.getElem?_cons_zero, List.getElem?_cons_succ, t25, t26, t27, t6, hb2, hv1.1, hv1.2]
      refine Try.intro a1 ?_
      simp (disch := first | omega | (simp; done) | assumption) [wr64, wrU8, wrU64, Nat.add_assoc, -getElem?_pos, List.getElem?_cons_zero, List.getElem?_cons_succ, t25, t26, t27, t6]
      obtain ⟨qq, rfl, _, hq1, _⟩ := ho
      exact ⟨1, by omega, fun y o h => k1 y o (by have := hok _ _ h; omega) (hk2 y o h) (fun n e => by have := hok _ _ h; injection e; omega), by omega, by simp [t25], by simp [t26], .inr (.inr ⟨rfl, by simp, by simpa [rowsB] using o1⟩)⟩
    · simp (disch := first | omega | (simp; done) | assumption) [wr64, wrU8, wrU64, Nat.add_assoc, -getElem?_pos, List.getElem?_cons_zero, List.getElem?_cons_succ, t25, t26, t27]
      exact ⟨hk2, hn2, ho⟩
/-- conf.Blobs. -/
theorem BlobsC {vx : AV} {e : En} {H : AH} (hx : SF H vx 2 (rowsB e.ex)) (hn : e.ex.length ≤ 100000) :
    ACall Tryz.prog 24 [.agg (entC e vx)] H (fun v H' => H.keepsAll H' ∧ H.next ≤ H'.next ∧ OwnZ H.next H' tB 2 v (rowsB ((e.kn, e.ks) :: e.ex))) := by
  refine acall_ok (bodyP_of fits24) fun hok => acall_of fits24 (by simp) ?_
  have hv1 : vx.cells = [vx] ∧ vx.one = true := by
    rcases hx with ⟨_, rfl | rfl⟩ | ⟨_, _, rfl, _⟩ <;> exact ⟨rfl, rfl⟩
  unfold entC
  simp (disch := first | omega | (simp; done) | assumption) [wr64, wrU8, wrU64, Nat.add_assoc, -getElem?_pos, List.getElem?_cons_zero, List.getElem?_cons_succ, ic24, rs24, hv1.1, hv1.2]
  have hC := ConcatB (b := H.next + 2) (q := H.next + 1) (vx := vx) (kn := e.kn) (ks := e.ks) (ex := e.ex) (H := ((H.new (.cells false tEn [.str e.ver, .str e.kn, .str e.ks, vx, .str e.op])).new (.cells false tB [.str e.kn, .str e.ks])).new (.cells false 24 [.slice (H.next + 1) 0 1 2, vx]))
    (by simp) (by simp) ?_ hn
  · refine CallW.of hC ?_
    rintro v H2 ⟨hk, hn2, ho⟩
    try simp only [newO_none, AH.new_next] at hk hn2 ho
    simp (disch := first | omega | (simp; done) | assumption) [wr64, wrU8, wrU64, Nat.add_assoc, -getElem?_pos, List.getElem?_cons_zero, List.getElem?_cons_succ, ]
    obtain ⟨q, rfl, h2, h3, h4⟩ := ho
    exact ⟨fun y o h => hk y o (by have := hok _ _ h; rw [AH.new_ne _ _ (by simp; omega), AH.new_ne _ _ (by simp; omega), AH.new_ne _ _ (by omega)]; exact h), by omega, q, rfl, h2, by omega, h4⟩
  · exact hx.keeps fun y o h => by have := hok _ _ h; rw [AH.new_ne _ _ (by simp; omega), AH.new_ne _ _ (by simp; omega), AH.new_ne _ _ (by omega)]; exact h
end Go.Proofs.YtkehijlgbfjmkaaGreatDoor.KW

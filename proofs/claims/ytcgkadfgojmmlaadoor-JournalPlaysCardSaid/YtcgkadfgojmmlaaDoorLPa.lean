/- JournalPlays: the rows of a script; what a group is built of. No condition. -/
import Derived.Test.YtcgkadfgojmmlaaDoorLAgain
set_option linter.unusedVariables false
set_option linter.unusedSimpArgs false
set_option maxRecDepth 100000
set_option maxHeartbeats 4000000
namespace Go.Proofs.YtcgkadfgojmmlaaDoor.JN
open Go Go.RowKit Go.Proofs.YtcgkadfgojmmlaaDoor Go.Proofs.YtcgkadfgojmmlaaDoor.Abs Go.Proofs.YtcgkadfgojmmlaaDoor.Ic Go.Proofs.YtcgkadfgojmmlaaDoor.EAs Go.Proofs.YtcgkadfgojmmlaaDoor.EErr Go.Proofs.YtcgkadfgojmmlaaDoor.DFn
abbrev PlC : ICode := ic6
abbrev tOp : Nat := 53
abbrev t18I : Nat := 50
/-- A step of a script: where its blocks are told, what they are, the fuses. -/
structure OpA where
  lv : AV
  rw : List (Int × Int)
  fu : Int
  op : Int
def opRow (o : OpA) : List AV := [o.lv, .int .i64 o.fu, .int .i64 o.op]
def rawRow (x : Int × Int) : List AV := [.int .i64 x.1, .int .i64 x.2]
structure OpsOk (H : AH) (v : AV) (ops : List OpA) : Prop where
  sf : SF H v 3 (ops.map opRow)
  each : ∀ o ∈ ops, SF H o.lv 2 (o.rw.map rawRow)
theorem sfl {H : AH} {v : AV} {sz : Nat} {l : List (List AV)} (h : SF H v sz l) : lenS v = some l.length ∧ v.cells = [v] ∧ v.one = true := by
  rcases h with ⟨rfl, rfl | rfl⟩ | ⟨b, o, rfl, _⟩ <;> exact ⟨rfl, rfl, rfl⟩
theorem raw_at {H : AH} {v : AV} {rw : List (Int × Int)} (h : SF H v 2 (rw.map rawRow)) {k : Nat} (hk : k < rw.length) : ∃ b o, v = .slice b o rw.length 2 ∧ loadC H b (o + k * 2) none = some (.int .i64 rw[k].1) ∧ loadC H b (o + k * 2 + 1) none = some (.int .i64 rw[k].2) := by
  rcases h with ⟨h, _⟩ | ⟨b, o, rfl, _, h3⟩
  · have : rw = [] := by simpa using h
    rw [this] at hk; simp at hk
  · refine ⟨b, o, by simp, ?_, ?_⟩
    · have := (h3 k (by simpa using hk)).2 0 (by omega)
      simpa [rawRow] using this
    · have := (h3 k (by simpa using hk)).2 1 (by omega)
      rw [Nat.add_assoc]
      simpa [rawRow] using this
/-! ### Groups whose numbers may be anything -/
abbrev Zb := Int × Qb
def rowZ (x : Zb) : List AV := [.int .i64 x.1, sl x.2]
def rowsZ (l : List Zb) : List (List AV) := l.map rowZ
theorem allZ (l : List Zb) : All 2 (rowsZ l) := fun r hr => by obtain ⟨x, _, rfl⟩ := List.mem_map.1 hr; rfl
def GZ (B : Nat) (H : AH) (v : AV) (li : List Zb) : Prop := OutF B H tBk 2 v (rowsZ li) ∧ ∀ x ∈ li, QOk H x.2 ∧ x.2.1 < H.next ∧ B ≤ x.2.1
def grZ (x : Zb) : Gr := ⟨x.1, sl x.2, 128⟩
theorem rowsG_Z (l : List Zb) : rowsG (l.map grZ) = rowsZ l := by simp [rowsG, rowsZ, rowG, rowZ, grZ]
theorem GZ.nil (B : Nat) (H : AH) : GZ B H .snil [] := ⟨.inl ⟨rfl, rfl⟩, by simp⟩
theorem GZ.keeps {B : Nat} {H H' : AH} {v : AV} {li : List Zb} (hk : H.keepsAll H') (hn : H.next ≤ H'.next) (h : GZ B H v li) : GZ B H' v li :=
  ⟨h.1.keeps hk hn, fun x hx => ⟨(h.2 x hx).1.keeps hk, by have := (h.2 x hx).2; omega, (h.2 x hx).2.2⟩⟩
theorem GZ.one {B : Nat} {H : AH} {v : AV} {li : List Zb} (h : GZ B H v li) : v.cells = [v] ∧ v.one = true ∧ lenS v = some li.length := by
  rcases h.1 with ⟨hh, rfl⟩ | ⟨q, rfl, _⟩
  · have : li = [] := by simpa [rowsZ] using hh
    exact ⟨rfl, rfl, by rw [this]; rfl⟩
  · exact ⟨rfl, rfl, by simp [lenS, rowsZ]⟩
theorem GZ.bg {B : Nat} {H : AH} {v : AV} {li : List Zb} (h : GZ B H v li) : BG H v (li.map grZ) := by
  refine ⟨?_, fun x hx => ?_⟩
  · rcases h.1 with ⟨hh, e⟩ | ⟨b, e, _, hb, _⟩
    · have : li = [] := by simpa [rowsZ] using hh
      exact .inl ⟨by simp [this], e⟩
    · exact .inr ⟨b, by rw [e]; simp [rowsZ], by rw [rowsG_Z]; exact hb⟩
  · obtain ⟨y, hy, rfl⟩ := List.mem_map.1 hx
    exact ⟨rfl, rfl, rfl, by show 128 ≤ 100000; omega⟩
def zI (x : Zb) : Ib := (x.1.toNat, x.2)
theorem rowsZ_I {li : List Zb} (h : ∀ x ∈ li, 0 ≤ x.1) : rowsZ li = rowsI (li.map zI) := by
  unfold rowsZ rowsI
  rw [List.map_map]
  refine List.map_congr_left fun x hx => ?_
  have := h x hx
  show rowZ x = rowI (zI x)
  unfold rowZ rowI zI
  rw [show ((x.1.toNat : Nat) : Int) = x.1 by omega]
theorem GZ.bi {B : Nat} {H : AH} {v : AV} {li : List Zb} (h : GZ B H v li) (h0 : ∀ x ∈ li, 0 ≤ x.1) (hne : 1 ≤ li.length) : BI H v (li.map zI) := by
  rcases h.1 with ⟨hh, _⟩ | ⟨b, e, _, hb, _⟩
  · have : li = [] := by simpa [rowsZ] using hh
    rw [this] at hne
    simp at hne
  · refine ⟨b, by rw [e]; simp [rowsZ], by rw [← rowsZ_I h0]; exact hb, fun x hx => ?_⟩
    obtain ⟨y, hy, rfl⟩ := List.mem_map.1 hx
    exact (h.2 y hy).1
theorem appZ {B : Nat} {H : AH} {v : AV} {li : List Zb} {x : Zb} (h : GZ B H v li) (hx : QOk H x.2 ∧ x.2.1 < H.next ∧ B ≤ x.2.1) (hok : H.ok) (hB : B ≤ H.next) (hl : li.length ≤ 1000) :
    ∃ v' H', appendK (H.new (.cells false tBk (rowZ x))) false tBk 2 32 v (.slice H.next 0 1 2) = some (v', H') ∧ GZ B H' v' (li ++ [x]) ∧ H'.next = H.next + 2 ∧ KBel B H H' ∧ KT H H' ∧ H'.ok := by
  obtain ⟨v', H', a1, o1, n1, k1, g1, e1⟩ := appendOutG (bytes := 32) (x := rowZ x) h.1 (allZ li) (by omega) hB rfl rfl (by simp [rowsZ]; omega) (by simp [rowsZ]; omega)
  have hX := appX h.1 g1
  have hq : ∀ y : Zb, QOk H y.2 ∧ y.2.1 < H.next ∧ B ≤ y.2.1 → QOk H' y.2 ∧ y.2.1 < H'.next ∧ B ≤ y.2.1 := fun y hy => ⟨⟨hy.1.1, hX _ _ _ hy.2.1 hy.1.2 (by decide)⟩, by omega, hy.2.2⟩
  refine ⟨v', H', a1, ⟨by simpa [rowsZ] using o1, fun y hy => ?_⟩, n1, k1, fun y t cs hy hne => hX _ _ _ (hok _ _ hy) hy hne, appendK_ok (AH.ok_new hok) a1⟩
  rcases List.mem_append.1 hy with hy | hy
  · exact hq y (h.2 y hy)
  · obtain rfl := List.mem_singleton.1 hy; exact hq y hx
theorem gd_snoc {at_ most nb : Nat} (x : Gr) : ∀ (l : List Gr) (seen : List Int), gd at_ most nb seen (l ++ [x]) = (gd at_ most nb seen l && !decide (badG at_ most nb (seen ++ l.map (·.no)) x))
  | [], seen => by
    rw [List.nil_append, gd, gd, gd]
    by_cases h : badG at_ most nb seen x <;> simp [h]
  | y :: l, seen => by
    rw [List.cons_append, gd, gd]
    by_cases h : badG at_ most nb seen y
    · rw [if_pos h, if_pos h]; rfl
    · rw [if_neg h, if_neg h, gd_snoc x l]
      simp [List.append_assoc]
theorem gd_good {at_ most nb : Nat} : ∀ (l : List Zb) (seen : List Int), gd at_ most nb seen (l.map grZ) = true → (∀ x ∈ l, 0 ≤ x.1 ∧ x.1 < (nb : Int) ∧ ¬ ((at_ : Int) ≤ x.1 ∧ x.1 < (at_ : Int) + (need most : Int)) ∧ x.1 ∉ seen) ∧ (l.map (·.1)).Nodup
  | [], _, _ => ⟨by simp, by simp⟩
  | x :: l, seen, h => by
    rw [List.map_cons, gd] at h
    by_cases hb : badG at_ most nb seen (grZ x)
    · rw [if_pos hb] at h; cases h
    · rw [if_neg hb] at h
      obtain ⟨h1, h2⟩ := gd_good l _ h
      have hx : 0 ≤ x.1 ∧ x.1 < (nb : Int) ∧ ¬ ((at_ : Int) ≤ x.1 ∧ x.1 < (at_ : Int) + (need most : Int)) ∧ x.1 ∉ seen := by
        unfold badG at hb
        simp only [grZ, not_or] at hb
        obtain ⟨b1, b2, b3, b4, _⟩ := hb
        exact ⟨by omega, by omega, b3, b4⟩
      refine ⟨fun y hy => ?_, ?_⟩
      · rcases List.mem_cons.1 hy with rfl | hy
        · exact hx
        · obtain ⟨a1, a2, a3, a4⟩ := h1 y hy
          exact ⟨a1, a2, a3, fun hm => a4 (List.mem_append_left _ hm)⟩
      · rw [List.map_cons, List.nodup_cons]
        refine ⟨fun hm => ?_, h2⟩
        obtain ⟨y, hy, e⟩ := List.mem_map.1 hm
        exact (h1 y hy).2.2.2 (List.mem_append_right _ (by rw [e]; simp [grZ]))
theorem good_of {at_ most nb : Nat} {l : List Zb} {H : AH} (hg : gd at_ most nb [] (l.map grZ) = true) (hq : ∀ x ∈ l, QOk H x.2) : Good at_ most nb ((l.map zI).map wr) := by
  obtain ⟨h1, h2⟩ := gd_good l [] hg
  refine ⟨?_, fun x hx => ?_, fun x hx => ?_, fun x hx => ?_⟩
  · rw [List.map_map, List.map_map]
    have hn := h2
    rw [List.nodup_iff_pairwise_ne] at hn ⊢
    rw [List.pairwise_map] at hn ⊢
    refine hn.imp_of_mem fun {a b} ha hb hne => ?_
    have := (h1 a ha).1
    have := (h1 b hb).1
    show a.1.toNat ≠ b.1.toNat
    omega
  · obtain ⟨y, hy, rfl⟩ := List.mem_map.1 hx
    obtain ⟨z, hz, rfl⟩ := List.mem_map.1 hy
    have := h1 z hz
    show z.1.toNat < nb
    omega
  · obtain ⟨y, hy, rfl⟩ := List.mem_map.1 hx
    obtain ⟨z, hz, rfl⟩ := List.mem_map.1 hy
    obtain ⟨a1, a2, a3, _⟩ := h1 z hz
    intro ho
    have o1 := ho.1
    have o2 := ho.2
    simp only [wr, zI] at o1 o2
    exact a3 ⟨by omega, by omega⟩
  · obtain ⟨y, hy, rfl⟩ := List.mem_map.1 hx
    obtain ⟨z, hz, rfl⟩ := List.mem_map.1 hy
    exact (hq z hz).1
end Go.Proofs.YtcgkadfgojmmlaaDoor.JN

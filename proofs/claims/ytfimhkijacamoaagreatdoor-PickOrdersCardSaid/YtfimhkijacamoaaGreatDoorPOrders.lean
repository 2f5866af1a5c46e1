/- The law PickOrders: the document's order is an insertion, and comes to the same row. -/
import Derived.Test.YtfimhkijacamoaaGreatDoorPGroups
import Derived.Test.YtfimhkijacamoaaGreatDoorInsP
import Derived.Test.YtfimhkijacamoaaGreatDoorIns3
import Derived.Test.YtfimhkijacamoaaGreatDoorPLaw2
import Derived.Test.YtfimhkijacamoaaGreatDoorPWalk
set_option linter.unusedVariables false
set_option linter.unusedSimpArgs false
set_option maxRecDepth 10000
set_option maxHeartbeats 4000000
namespace Go.Proofs.YtfimhkijacamoaaGreatDoor.PRef
open Go Go.RowKit Go.Proofs.YtfimhkijacamoaaGreatDoor Go.Proofs.YtfimhkijacamoaaGreatDoor.Abs Go.Proofs.YtfimhkijacamoaaGreatDoor.Ic Go.Proofs.YtfimhkijacamoaaGreatDoor.Vm Go.Proofs.YtfimhkijacamoaaGreatDoor.Dg Go.Proofs.YtfimhkijacamoaaGreatDoor.St Go.Proofs.YtfimhkijacamoaaGreatDoor.PVer Go.Proofs.YtfimhkijacamoaaGreatDoor.PPick Go.Proofs.YtfimhkijacamoaaGreatDoor.CFn Go.Proofs.YtfimhkijacamoaaGreatDoor.CBig Go.Proofs.YtfimhkijacamoaaGreatDoor.Cm Go.Proofs.YtfimhkijacamoaaGreatDoor.SP Go.Proofs.YtfimhkijacamoaaGreatDoor.Srt
abbrev cc (L : List Cd) (p q : Nat) : Int := cmpC (el L p) (el L q)
theorem rows_one (L : List Cd) : (rowsC L).flatten.all AV.one = true := by
  refine flat_mem fun l hl x hx => ?_
  obtain ⟨c, _, rfl⟩ := List.mem_map.1 hl
  exact List.all_eq_true.1 (cdC_one c) x hx
theorem el_map (L : List Cd) (ps : List Nat) {k : Nat} (hk : k < ps.length) : el (ps.map fun p => el L p) k = el L (gt ps k) := by
  unfold el
  rw [List.getD_eq_getElem?_getD, List.getElem?_map, List.getElem?_eq_getElem hk, gt_of hk]
  rfl
def OrK (L : List Cd) (ps : List Nat) (v vo : AV) (i : Nat) (H1 : AH) (kk : Nat) (tm : Tms) (H' : AH) : Prop := H' = H1 ∧ ∃ k : Nat, kk = ps.length - k ∧ k ≤ ps.length ∧ (∀ p ∈ ps.take k, ¬ cc L i p < 0) ∧
  tm 0 = v ∧ tm 3 = vo ∧ tm 4 = .int .i64 (i : Int) ∧ tm 5 = .int .i64 (k : Int)
def OrKR (L : List Cd) (ps : List Nat) (v vo : AV) (i : Nat) (H1 : AH) (tm : Tms) (H' : AH) : Prop := H' = H1 ∧ ∃ k : Nat, k ≤ ps.length ∧ (∀ p ∈ ps.take k, ¬ cc L i p < 0) ∧ (∀ p, (ps.drop k).head? = some p → cc L i p < 0) ∧
  tm 0 = v ∧ tm 3 = vo ∧ tm 4 = .int .i64 (i : Int) ∧ tm 5 = .int .i64 (k : Int)
def OrI (L : List Cd) (v : AV) (H : AH) (kk : Nat) (tm : Tms) (H' : AH) : Prop := H.keepsAll H' ∧ H.next ≤ H'.next ∧ ∃ (i : Nat) (ps : List Nat), kk = L.length - i ∧ i ≤ L.length ∧ ps.Perm (List.range i) ∧ ps.Pairwise (pr (cc L)) ∧
  OutF H.next H' tE 6 (tm 3) (rowsC (ps.map fun p => el L p)) ∧ tm 0 = v ∧ tm 4 = .int .i64 (i : Int)
theorem ROrder {B : Nat} {H : AH} {v : AV} {L : List Cd} (h : OutF B H tE 6 v (rowsC L)) (hl : L.length ≤ 40) (hv : ∀ c ∈ L, VOk c) :
    ACall Tryz.prog 6 [v] H (fun r H' => H.keepsAll H' ∧ H.next ≤ H'.next ∧ ∃ ps : List Nat, ps.Perm (List.range L.length) ∧ ps.Pairwise (pr (cc L)) ∧ OutF H.next H' tE 6 r (rowsC (ps.map fun p => el L p))) := by
  refine acall_ok (bodyP_of fits6) fun hok => acall_of fits6 (by simp) ?_
  have hlv := h.lenS
  have hV := getD_vok hv
  simp (disch := first | omega | (simp; done) | assumption) [wr64, wrU8, wrU64, Nat.add_assoc, -getElem?_pos, List.getElem?_cons_zero, List.getElem?_cons_succ, -loadC, -storeC, ic6, rs6]
  refine iwp_loop (OrI L v H) L.length ⟨AH.keepsAll_refl _, Nat.le_refl _, 0, [], rfl, by omega, by simp, by simp, .inl ⟨by simp, by simp⟩, by simp, by simp⟩ ?_
  rintro kk tm H1 ⟨hk1, hn1, i, ps, rfl, hi, hp, hs, ho, u0, u4⟩
  have hpl : ps.length = i := by simpa using hp.length_eq
  have hlo := ho.lenS
  rw [show (rowsC L).length = L.length by simp [rowsC]] at hlv
  rw [show (rowsC (ps.map fun p => el L p)).length = ps.length by simp [rowsC]] at hlo
  by_cases hlt : i < L.length
  · have hlt' : (i : Int) < (L.length : Int) := by omega
    obtain ⟨qv, hqv, lv⟩ : ∃ q, v = .slice q 0 L.length 6 ∧ loadC H1 q (i * 6) (some 6) = some (.agg (cdC (el L i))) := by
      rcases h with ⟨h1, _⟩ | ⟨q, h1, h2, h3, _, h5⟩
      · have : L = [] := by simpa [rowsC] using h1
        subst this; simp at hlt
      · exact ⟨q, by simpa [rowsC] using h1, (own_load (hk1 _ _ h3) hlt).1⟩
    generalize u3 : tm 3 = vo at *
    simp (disch := first | omega | (simp; done) | assumption) [wr64, wrU8, wrU64, Nat.add_assoc, -getElem?_pos, List.getElem?_cons_zero, List.getElem?_cons_succ, -loadC, -storeC, u0, u4, hlv, hlt, hlt']
    refine LoopW.exit 2 (OrKR L ps v vo i H1) ?_ ?_
    · refine iwp_loop (OrK L ps v vo i H1) ps.length ⟨rfl, 0, rfl, by omega, by simp, by simp [u0], by simp [u3], by simp [u4], by simp⟩ ?_
      clear u0 u3 u4 tm
      rintro kk tm H2 ⟨rfl, k, rfl, hk, hbe, w0, w3, w4, w5⟩
      by_cases hkl : k < ps.length
      · have hkl' : (k : Int) < (ps.length : Int) := by omega
        obtain ⟨qo, hqo, lo⟩ : ∃ q, vo = .slice q 0 ps.length 6 ∧ loadC H2 q (k * 6) (some 6) = some (.agg (cdC (el L (gt ps k)))) := by
          rcases ho with ⟨h1, _⟩ | ⟨q, h1, h2, h3, _, h5⟩
          · have : ps = [] := by simpa [rowsC] using h1
            subst this; simp at hkl
          · refine ⟨q, by simpa [rowsC] using h1, ?_⟩
            rw [← el_map L ps hkl]
            exact (own_load h3 (by simpa using hkl)).1
        have hls := RLess (el L i) (el L (gt ps k)) (hV i) (hV _)
        have hbe2 : ¬ cc L i (gt ps k) < 0 → ∀ p ∈ ps.take (k + 1), ¬ cc L i p < 0 := fun hh p hp => by
          rw [← List.take_append_getElem hkl] at hp
          rcases List.mem_append.1 hp with hp | hp
          · exact hbe p hp
          · have : p = ps[k] := by simpa using hp
            rw [this, ← gt_of hkl]; exact hh
        have hat : (ps.drop k).head? = some (gt ps k) := by rw [List.drop_eq_getElem_cons hkl, gt_of hkl]; rfl
        have hcc : cmpC (el L i) (el L (gt ps k)) = cc L i (gt ps k) := rfl
        rw [hcc] at hls
        subst hqv
        subst hqo
        generalize cdC (el L i) = ca at *
        generalize cdC (el L (gt ps k)) = cb at *
        by_cases hcmp : cc L i (gt ps k) < 0
        · rw [decide_eq_true hcmp] at hls
          simp (disch := first | omega | (simp; done) | assumption) [wr64, wrU8, wrU64, Nat.add_assoc, -getElem?_pos, List.getElem?_cons_zero, List.getElem?_cons_succ, -loadC, -storeC, w0, w3, w4, w5, hlo, hkl, hkl', hlt, hlt', lv, lo]
          refine CallW.val (hls _) ?_
          simp (disch := first | omega | (simp; done) | assumption) [wr64, wrU8, wrU64, Nat.add_assoc, -getElem?_pos, List.getElem?_cons_zero, List.getElem?_cons_succ, -loadC, -storeC, w0, w3, w4, w5]
          exact ⟨rfl, k, hk, hbe, (fun p hp => by rw [hat] at hp; cases hp; exact hcmp), by simp [w0], by simp [w3], by simp [w4], by simp [w5]⟩
        · rw [decide_eq_false hcmp] at hls
          simp (disch := first | omega | (simp; done) | assumption) [wr64, wrU8, wrU64, Nat.add_assoc, -getElem?_pos, List.getElem?_cons_zero, List.getElem?_cons_succ, -loadC, -storeC, w0, w3, w4, w5, hlo, hkl, hkl', hlt, hlt', lv, lo]
          refine CallW.val (hls _) ?_
          simp (disch := first | omega | (simp; done) | assumption) [wr64, wrU8, wrU64, Nat.add_assoc, -getElem?_pos, List.getElem?_cons_zero, List.getElem?_cons_succ, -loadC, -storeC, w0, w3, w4, w5]
          exact ⟨ps.length - (k + 1), by omega, rfl, k + 1, rfl, by omega, hbe2 hcmp, by simp [w0], by simp [w3], by simp [w4], by simp⟩
      · have hkl' : ¬ (k : Int) < (ps.length : Int) := by omega
        simp (disch := first | omega | (simp; done) | assumption) [wr64, wrU8, wrU64, Nat.add_assoc, -getElem?_pos, List.getElem?_cons_zero, List.getElem?_cons_succ, -loadC, -storeC, w0, w3, w4, w5, hlo, hkl, hkl']
        exact ⟨rfl, k, hk, hbe, (fun p hp => by rw [List.drop_of_length_le (by omega)] at hp; cases hp), by simp [w0], by simp [w3], by simp [w4], by simp [w5]⟩
    clear u0 u3 u4 tm
    rintro tm H2 ⟨rfl, k, hk, hbe, haf, w0, w3, w4, w5⟩
    obtain ⟨hp2, hs2⟩ := ins_step (cOrd L) hp hs (k := k) hbe haf
    have hrl : (rowsC (ps.map fun p => el L p)).length = ps.length := by simp [rowsC]
    obtain ⟨x0, x1, v1, H3, v2, H4, v3, H5, s0, s1, a1, f1, a2, a3, o3, n3, k3⟩ := ins3 (bytes := 72) (e := cdC (el L i)) (k := k) ho (all6 _) (rows_one _) (by rw [hrl]; exact hk) hn1 rfl rfl (by rw [hrl]; omega) (by rw [hrl]; omega)
    have hrow : (rowsC (ps.map fun p => el L p)).take k ++ cdC (el L i) :: (rowsC (ps.map fun p => el L p)).drop k = rowsC ((ps.take k ++ i :: ps.drop k).map fun p => el L p) := by
      simp only [rowsC, ← List.map_take, ← List.map_drop, List.map_append, List.map_cons]
    rw [hrow] at o3
    clear hrow
    have hkH : H.keepsAll H5 := fun x o hx => k3 x o (hok _ _ hx) (hk1 x o hx)
    have hqv1 : qv < H2.next := by
      rcases h with ⟨h1, _⟩ | ⟨q, h1, h2, h3, _, h5⟩
      · have : L = [] := by simpa [rowsC] using h1
        subst this; simp at hlt
      · rw [hqv] at h1
        injection h1 with h1
        omega
    have lv3 : loadC H3 qv (i * 6) (some 6) = some (.agg (cdC (el L i))) := by
      cases hb : H2.at_ qv with
      | none => unfold loadC at lv; rw [hb] at lv; cases lv
      | some ob => unfold loadC at lv ⊢; rw [f1 qv ob hqv1 hb]; rw [hb] at lv; exact lv
    have lvn : ∀ o, loadC (H2.new o) qv (i * 6) (some 6) = some (.agg (cdC (el L i))) := fun o => by
      unfold loadC at lv ⊢
      rw [AH.new_ne _ _ (by omega)]
      exact lv
    have hc1 := cdC_len (el L i)
    have hX1 : setRange [.str [], .str [], .bool false, .int .i64 0, .int .i64 0, .str []] 0 (cdC (el L i)) = cdC (el L i) := rfl
    subst hqv
    generalize hce : cdC (el L i) = ca at *
    simp (disch := first | omega | (simp; done) | assumption) [wr64, wrU8, wrU64, Nat.add_assoc, -getElem?_pos, List.getElem?_cons_zero, List.getElem?_cons_succ, -loadC, -storeC, w0, w3, w4, w5]
    refine Try.intro s0 ?_
    simp (disch := first | omega | (simp; done) | assumption) [wr64, wrU8, wrU64, Nat.add_assoc, -getElem?_pos, List.getElem?_cons_zero, List.getElem?_cons_succ, -loadC, -storeC, w0, w3, w4, w5, hlt, hlt', lvn, hc1, hX1]
    refine Try.intro s1 ?_
    simp (disch := first | omega | (simp; done) | assumption) [wr64, wrU8, wrU64, Nat.add_assoc, -getElem?_pos, List.getElem?_cons_zero, List.getElem?_cons_succ, -loadC, -storeC, w0, w3, w4, w5, hlt, hlt', lvn, hc1, hX1]
    refine Try.intro a1 ?_
    simp (disch := first | omega | (simp; done) | assumption) [wr64, wrU8, wrU64, Nat.add_assoc, -getElem?_pos, List.getElem?_cons_zero, List.getElem?_cons_succ, -loadC, -storeC, w0, w3, w4, w5, hlt, hlt', lv3, hc1, hX1]
    refine Try.intro a2 ?_
    simp (disch := first | omega | (simp; done) | assumption) [wr64, wrU8, wrU64, Nat.add_assoc, -getElem?_pos, List.getElem?_cons_zero, List.getElem?_cons_succ, -loadC, -storeC, w0, w3, w4, w5]
    refine Try.intro a3 ?_
    simp (disch := first | omega | (simp; done) | assumption) [wr64, wrU8, wrU64, Nat.add_assoc, -getElem?_pos, List.getElem?_cons_zero, List.getElem?_cons_succ, -loadC, -storeC, w0, w3, w4, w5]
    exact ⟨L.length - (i + 1), by omega, hkH, by omega, i + 1, _, rfl, by omega, hp2, hs2, by simpa using o3, by simp [w0], by simp⟩
  · have hlt' : ¬ (i : Int) < (L.length : Int) := by omega
    obtain rfl : i = L.length := by omega
    simp (disch := first | omega | (simp; done) | assumption) [wr64, wrU8, wrU64, Nat.add_assoc, -getElem?_pos, List.getElem?_cons_zero, List.getElem?_cons_succ, -loadC, -storeC, u0, u4, hlv, hlt, hlt']
    exact ⟨hk1, hn1, ps, hp, hs, by simpa using ho⟩
def PoI (M : List Cd) (x y : AV) (H1 : AH) (kk : Nat) (tm : Tms) (H' : AH) : Prop := H' = H1 ∧ ∃ i : Nat, kk = M.length - i ∧ i ≤ M.length ∧ tm 6 = x ∧ tm 7 = y ∧ tm 8 = .int .i64 (i : Int)
theorem get6 {B : Nat} {H : AH} {v : AV} {L : List Cd} (h : OutF B H tE 6 v (rowsC L)) {i : Nat} (hi : i < L.length) : ∃ q, v = .slice q 0 L.length 6 ∧ loadC H q (i * 6) (some 6) = some (.agg (cdC (el L i))) := by
  rcases h with ⟨h1, _⟩ | ⟨q, h1, h2, h3, _, h5⟩
  · have : L = [] := by simpa [rowsC] using h1
    subst this; simp at hi
  · exact ⟨q, by simpa [rowsC] using h1, (own_load h3 hi).1⟩
theorem Orders {fs vs : List (List UInt8)} {v w : AV} {H : AH} (hv : SL H v (fs.map AV.str)) (hw : SL H w (vs.map AV.str)) (hf : ∀ f ∈ fs, f.length ≤ 9223372036854775807) (hvl : ∀ f ∈ vs, f.length ≤ 9223372036854775807) :
    ACall Tryz.prog 3 [v, w] H (fun r H' => r = .bool true ∧ H' = H) := by
  refine acall_enter fits3 (by simp) (by simp) fun hok => ?_
  have hL40 : (candsOf (prs fs vs)).length ≤ 40 := by have := candsOf_len (prs fs vs); simp [prs] at this ⊢; omega
  have hvk := candsOf_vok (prs fs vs)
  simp (disch := first | omega | (simp; done) | assumption) [wr64, wrU8, wrU64, Nat.add_assoc, -getElem?_pos, List.getElem?_cons_zero, List.getElem?_cons_succ, -loadC, -storeC, ic3, rs3]
  refine CallW.okof (Cands hv hw hf hvl) ?_
  rintro r H1 ⟨hk1, hn1, ho⟩ hok1
  try simp only [newO_none] at hk1 hn1 ho
  generalize candsOf (prs fs vs) = L at *
  simp (disch := first | omega | (simp; done) | assumption) [wr64, wrU8, wrU64, Nat.add_assoc, -getElem?_pos, List.getElem?_cons_zero, List.getElem?_cons_succ, -loadC, -storeC]
  refine CallW.okof (PPick.Order ho hL40 hvk) ?_
  rintro x H2 ⟨hk2, hn2, M, hst, hx⟩ hok2
  try simp only [newO_none] at hk2 hn2 hx
  simp (disch := first | omega | (simp; done) | assumption) [wr64, wrU8, wrU64, Nat.add_assoc, -getElem?_pos, List.getElem?_cons_zero, List.getElem?_cons_succ, -loadC, -storeC]
  refine CallW.okof (ROrder (ho.keeps hk2 hn2) hL40 hvk) ?_
  rintro y H3 ⟨hk3, hn3, qs, hp, hs, hy⟩ hok3
  try simp only [newO_none] at hk3 hn3 hy
  have hml := stab_len hst
  obtain rfl := stab_eq hst hp hs
  have hx3 := hx.keeps hk3 hn3
  have hk : H.keepsAll H3 := ktrans (ktrans hk1 hk2) hk3
  change OutF _ _ _ _ _ (rowsC (qs.map fun p => el L p)) at hx3
  change (qs.map fun p => el L p).length = _ at hml
  clear hx ho hk1 hk2 hk3 hst hvk hp hs
  generalize (qs.map fun p => el L p) = M at *
  have lx := hx3.lenS
  have ly := hy.lenS
  rw [show (rowsC M).length = M.length by simp [rowsC]] at lx ly
  simp (disch := first | omega | (simp; done) | assumption) [wr64, wrU8, wrU64, Nat.add_assoc, -getElem?_pos, List.getElem?_cons_zero, List.getElem?_cons_succ, -loadC, -storeC, lx, ly]
  refine iwp_loop (PoI M x y H3) M.length ⟨rfl, 0, rfl, by omega, by simp, by simp, by simp⟩ ?_
  rintro kk tm H4 ⟨rfl, i, rfl, hi, t6, t7, t8⟩
  by_cases hlt : i < M.length
  · have hlt' : (i : Int) < (M.length : Int) := by omega
    obtain ⟨qx, rfl, gx⟩ := get6 hx3 hlt
    obtain ⟨qy, rfl, gy⟩ := get6 hy hlt
    have hs0 : aeqs [.str, .str, .bool, .int, .int, .str] (cdC (el M i)) (cdC (el M i)) = some true := by simp [cdC]
    generalize cdC (el M i) = c0 at *
    simp (disch := first | omega | (simp; done) | assumption) [wr64, wrU8, wrU64, Nat.add_assoc, -getElem?_pos, List.getElem?_cons_zero, List.getElem?_cons_succ, -loadC, -storeC, -aeqs, t6, t7, t8, hlt, hlt', gx, gy, hs0]
    exact ⟨M.length - (i + 1), by omega, rfl, i + 1, rfl, by omega, by simp [t6], by simp [t7], by simp⟩
  · have hlt' : ¬ (i : Int) < (M.length : Int) := by omega
    simp (disch := first | omega | (simp; done) | assumption) [wr64, wrU8, wrU64, Nat.add_assoc, -getElem?_pos, List.getElem?_cons_zero, List.getElem?_cons_succ, -loadC, -storeC, t6, t7, t8, lx, hlt, hlt']
    refine CallW.val (Awake _) ?_
    simp (disch := first | omega | (simp; done) | assumption) [wr64, wrU8, wrU64, Nat.add_assoc, -getElem?_pos, List.getElem?_cons_zero, List.getElem?_cons_succ, rs3]
    exact hk
theorem PickOrders.walk (a0 : Option Addr) (l0 c0 : Nat) (L0 : List (List AV)) (a1 : Option Addr) (l1 c1 : Nat) (L1 : List (List AV)) (W : World) (hsh : W.ShapedOpen Tryz.prog) (h0 : IsFlat W [.str] a0 l0 c0 L0) (h1 : IsFlat W [.str] a1 l1 c1 L1) :
    Calls Tryz.prog 3 #[.slice a0 l0 c0, .slice a1 l1 c1] W fun e W' => e = .returned (.bool true) ∧ Below W.heap.size W W' := by
  obtain ⟨v, fs, hv, rv, hf⟩ := PWalk.texts h0
  obtain ⟨w, vs, hw, rw', hvl⟩ := PWalk.texts h1
  exact PWalk.walk hsh (Orders hv hw hf hvl) (.cons rv (.cons rw' .nil))
end Go.Proofs.YtfimhkijacamoaaGreatDoor.PRef

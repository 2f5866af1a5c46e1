/- An entry as a parameter; the laws' small. No condition. -/
import Derived.Test.YtkehijlgbfjmkaaGreatDoorKAw
import Derived.Test.YtkehijlgbfjmkaaGreatDoorELaid
set_option linter.unusedVariables false
set_option linter.unusedSimpArgs false
set_option maxRecDepth 10000
set_option maxHeartbeats 4000000
namespace Go.Proofs.YtkehijlgbfjmkaaGreatDoor.KW
open Go Go.RowKit Go.ChangeShapes Go.WideShapes Go.ChangeAt Go.Proofs.YtkehijlgbfjmkaaGreatDoor Go.Proofs.YtkehijlgbfjmkaaGreatDoor.Abs Go.Proofs.YtkehijlgbfjmkaaGreatDoor.Ic Go.Proofs.YtkehijlgbfjmkaaGreatDoor.St Go.Proofs.YtkehijlgbfjmkaaGreatDoor.EAs Go.Proofs.YtkehijlgbfjmkaaGreatDoor.EErr
abbrev tSl : Nat := 24
theorem arr5' {cs : Array Value} (h : cs.size = 5) : ∃ a b c d e, cs = #[a, b, c, d, e] := by
  obtain ⟨l⟩ := cs
  match l, h with
  | [a, b, c, d, e], _ => exact ⟨a, b, c, d, e, rfl⟩
section
variable {H : Type} {enc : TypeId × Value → H} {W : World} {base base' : Nat} {held : Bool}
theorem trod_str1 {fuel : Nat} {v : Value} {y : Option (DataW H × List MemPlace)} {x : DataW H × List MemPlace} (h : DataW.trod enc Tryz.prog W base (fun _ => true) held fuel tS [v] = y) (hy : y = some x) : ∃ s : ByteArray, v = .string s ∧ s.size ≤ maxLen := by
  subst hy
  obtain ⟨s, h1, _, h2⟩ := DataW.trod_string Tryz.underlying9 h
  injection h1 with h1
  exact ⟨s, h1, h2⟩
theorem open_entry {v : Value} {fuel : Nat} {x : DataW H × List MemPlace} (h : Value.okWide Tryz.prog W .any base tEn v) (hf : DataW.trod enc Tryz.prog W base' (fun _ => true) held fuel tEn v.cells.toList = some x) :
    ∃ (s0 s1 s2 : ByteArray) (a : Option Addr) (len cap : Nat) (s4 : ByteArray) (L : List (List AV)), v = .agg #[.string s0, .string s1, .string s2, .slice a len cap, .string s4] ∧ (s0.size ≤ maxLen ∧ s1.size ≤ maxLen ∧ s2.size ≤ maxLen ∧ s4.size ≤ maxLen) ∧ IsFlat W [.str, .str] a len cap L := by
  obtain ⟨cs, rfl, hs, _⟩ := okWide_cells (ts := [tS, tS, tS, tSl, tS]) (by kernel_rfl) (by kernel_rfl) (by kernel_rfl) h
  obtain ⟨x0, x1, x2, x3, x4, rfl⟩ := arr5' hs
  obtain ⟨xs, n, _, _, hlen, hxl, hel⟩ := DataW.trod_struct Tryz.underlying26 hf
  have hx4 : xs.length = 4 := hxl
  have g : ∀ i, i < 4 → ∃ y, xs[i]? = some y := fun i hi => ⟨_, List.getElem?_eq_getElem (by omega)⟩
  have cS : Tryz.prog.cellsOf tS = 1 := by kernel_rfl
  have cB : Tryz.prog.cellsOf tB = 2 := by kernel_rfl
  have cL : Tryz.prog.cellsOf tSl = 1 := by kernel_rfl
  obtain ⟨y0, g0⟩ := g 0 (by omega)
  obtain ⟨y1, g1⟩ := g 1 (by omega)
  obtain ⟨y2, g2⟩ := g 2 (by omega)
  obtain ⟨y3, g3⟩ := g 3 (by omega)
  have e0 : DataW.trod enc Tryz.prog W base' (fun _ => true) held n tS (([x0, x1, x2, x3, x4].drop 0).take (Tryz.prog.cellsOf tS)) = xs[0]? := hel 0 _ rfl
  have e1 : DataW.trod enc Tryz.prog W base' (fun _ => true) held n tB (([x0, x1, x2, x3, x4].drop 1).take (Tryz.prog.cellsOf tB)) = xs[1]? := hel 1 _ rfl
  have e2 : DataW.trod enc Tryz.prog W base' (fun _ => true) held n tSl (([x0, x1, x2, x3, x4].drop 3).take (Tryz.prog.cellsOf tSl)) = xs[2]? := hel 2 _ rfl
  have e3 : DataW.trod enc Tryz.prog W base' (fun _ => true) held n tS (([x0, x1, x2, x3, x4].drop 4).take (Tryz.prog.cellsOf tS)) = xs[3]? := hel 3 _ rfl
  rw [cS] at e0 e3
  rw [cB] at e1
  rw [cL] at e2
  rw [g0] at e0
  rw [g1] at e1
  rw [g2] at e2
  rw [g3] at e3
  obtain ⟨s0, rfl, b0⟩ := trod_str1 (v := x0) e0 rfl
  obtain ⟨s4, rfl, b4⟩ := trod_str1 (v := x4) e3 rfl
  obtain ⟨zs, m, _, _, _, hzl, hez⟩ := DataW.trod_struct Tryz.underlying23 e1
  have hz2 : zs.length = 2 := hzl
  have f0 : DataW.trod enc Tryz.prog W base' (fun _ => true) held m tS (([x1, x2].drop 0).take (Tryz.prog.cellsOf tS)) = zs[0]? := hez 0 _ rfl
  have f1 : DataW.trod enc Tryz.prog W base' (fun _ => true) held m tS (([x1, x2].drop 1).take (Tryz.prog.cellsOf tS)) = zs[1]? := hez 1 _ rfl
  rw [cS] at f0 f1
  obtain ⟨s1, rfl, b1⟩ := trod_str1 (v := x1) f0 (List.getElem?_eq_getElem (by omega))
  obtain ⟨s2, rfl, b2⟩ := trod_str1 (v := x2) f1 (List.getElem?_eq_getElem (by omega))
  have hsl : ∃ a len cap, x3 = .slice a len cap := by
    rcases DataW.trod_slice Tryz.underlying24 e2 with ⟨hcs, _⟩ | ⟨a', len', cap', _, _, _, _, hcs, _⟩
    · injection hcs with h1; exact ⟨_, _, _, h1⟩
    · injection hcs with h1; exact ⟨_, _, _, h1⟩
  obtain ⟨a, len, cap, rfl⟩ := hsl
  obtain ⟨L, hL⟩ := open_flat (cks := [.str, .str]) Tryz.underlying24 (by kernel_rfl) (by kernel_rfl) e2
  exact ⟨s0, s1, s2, a, len, cap, s4, L, rfl, ⟨b0, b1, b2, b4⟩, hL⟩
end
theorem ckv_str {v : AV} (h : CkV .str v) : ∃ p, v = .str p ∧ p.length ≤ maxLen := by
  cases v <;> first | exact h.elim | exact ⟨_, rfl, h⟩
theorem blen {s : ByteArray} (h : s.size ≤ maxLen) : s.data.toList.length ≤ 9223372036854775807 := by
  have e : s.data.toList.length = s.size := by rw [Array.length_toList]; rfl
  unfold maxLen at h
  omega
theorem flat_rows {W : World} {a : Option Addr} {len cap : Nat} {L : List (List AV)} (h : IsFlat W [.str, .str] a len cap L) : ∃ ex : List Blb, L.take len = rowsB ex ∧ ∀ p ∈ ex, LB p := by
  have key : ∀ l ∈ L, ∃ p : Blb, l = blobC p ∧ LB p := by
    rcases h with ⟨_, _, _, rfl⟩ | ⟨x, _, _, _, _, hc⟩
    · intro l hl; simp at hl
    · intro l hl
      obtain ⟨i, hi, rfl⟩ := List.getElem_of_mem hl
      obtain ⟨h1, h2⟩ := hc i hi
      have hl2 : L[i].length = 2 := h1
      have k0 := h2 0 _ (List.getElem?_eq_getElem (by omega))
      have k1 := h2 1 _ (List.getElem?_eq_getElem (by omega))
      have hd : L[i] = [L[i][0]'(by omega), L[i][1]'(by omega)] := by
        apply List.ext_getElem (by simpa using hl2)
        intro j h1 h2
        have : j = 0 ∨ j = 1 := by omega
        rcases this with rfl | rfl <;> rfl
      obtain ⟨_, c0, e0, v0⟩ := k0
      obtain ⟨_, c1, e1, v1⟩ := k1
      cases e0
      cases e1
      generalize L[i][0]'(by omega) = u at *
      generalize L[i][1]'(by omega) = u' at *
      obtain ⟨p, rfl, hp⟩ := ckv_str v0
      obtain ⟨q, rfl, hq⟩ := ckv_str v1
      exact ⟨(p, q), hd, by show p.length ≤ _; unfold maxLen at hp; omega, by show q.length ≤ _; unfold maxLen at hq; omega⟩
  have all : ∀ M : List (List AV), (∀ l ∈ M, ∃ p : Blb, l = blobC p ∧ LB p) → ∃ ex : List Blb, M = rowsB ex ∧ ∀ p ∈ ex, LB p := fun M => by
    induction M with
    | nil => intro _; exact ⟨[], rfl, by simp⟩
    | cons l M ih =>
      intro hM
      obtain ⟨p, rfl, hp⟩ := hM l (by simp)
      obtain ⟨ex, rfl, hx⟩ := ih fun q hq => hM q (by simp [hq])
      exact ⟨p :: ex, rfl, fun q hq => by rcases List.mem_cons.1 hq with rfl | hq; exact hp; exact hx q hq⟩
  exact all _ fun l hl => key l (List.mem_of_mem_take hl)
/-- What a parameter is on the first heap. -/
structure SzR (e : En) : Prop where
  k : LB (e.kn, e.ks)
  ex : ∀ p ∈ e.ex, LB p
  n : e.ex.length ≤ 9223372036854775807
theorem entry_arg {W : World} (hsh : W.ShapedOpen Tryz.prog) (hG : ELaid.G W) {s0 s1 s2 s4 : ByteArray} {a : Option Addr} {len cap : Nat} {L : List (List AV)} (hb : s0.size ≤ maxLen ∧ s1.size ≤ maxLen ∧ s2.size ≤ maxLen ∧ s4.size ≤ maxLen) (h : IsFlat W [.str, .str] a len cap L) :
    ∃ (e : En) (vx : AV), SF (H1 W ELaid.tabs) vx 2 (rowsB e.ex) ∧ SzR e ∧ VR (j1 W) (.agg (entC e vx)) (.agg #[.string s0, .string s1, .string s2, .slice a len cap, .string s4]) := by
  obtain ⟨vx, hx, hv⟩ := SF.of (ELaid.tabs_ok hsh hG) (by decide) h
  obtain ⟨ex, he, hl⟩ := flat_rows h
  have hlen : len ≤ maxLen := by
    rcases h with ⟨_, rfl, _, _⟩ | ⟨x, _, h1, h2, _⟩
    · exact Nat.zero_le _
    · omega
  have hexl : ex.length ≤ len := by
    have := congrArg List.length he
    simp [rowsB] at this
    omega
  rw [he] at hx
  exact ⟨⟨s0.data.toList, s1.data.toList, s2.data.toList, ex, s4.data.toList⟩, vx, hx, ⟨⟨blen hb.2.1, blen hb.2.2.1⟩, hl, by unfold maxLen at hlen; show ex.length ≤ _; omega⟩, .agg_list (.cons (.str _) (.cons (.str _) (.cons (.str _) (.cons hv (.cons (.str _) .nil)))))⟩
end Go.Proofs.YtkehijlgbfjmkaaGreatDoor.KW

/- The law PickPerms. -/
import Derived.Test.YtllkdoefonehoaaDoorPPermsP
import Derived.Test.YtllkdoefonehoaaDoorSt
set_option linter.unusedVariables false
set_option linter.unusedSimpArgs false
set_option maxRecDepth 10000
set_option maxHeartbeats 4000000
namespace Go.Proofs.YtllkdoefonehoaaDoor.PPick
open Go Go.RowKit Go.Proofs.YtllkdoefonehoaaDoor Go.Proofs.YtllkdoefonehoaaDoor.Abs Go.Proofs.YtllkdoefonehoaaDoor.Ic Go.Proofs.YtllkdoefonehoaaDoor.Vm Go.Proofs.YtllkdoefonehoaaDoor.Dg Go.Proofs.YtllkdoefonehoaaDoor.PVer Go.Proofs.YtllkdoefonehoaaDoor.CFn Go.Proofs.YtllkdoefonehoaaDoor.CBig Go.Proofs.YtllkdoefonehoaaDoor.Cm Go.Proofs.YtllkdoefonehoaaDoor.SP Go.Proofs.YtllkdoefonehoaaDoor.Srt Go.Proofs.YtllkdoefonehoaaDoor.St
abbrev PmC : ICode := ic3
abbrev PmQ (H : AH) : IPost := fnPost rs3 fun v H' => v = .bool true ∧ H.keepsAll H'
/-- What is known of a row of candidates at hand. -/
def Row (H : AH) (v : AV) (L : List Cd) : Prop := L = [] ∧ v = .snil ∨ ∃ q, v = .slice q 0 L.length 6 ∧ L ≠ [] ∧ H.at_ q = some (.cells false tE (rowsC L).flatten) ∧ q < H.next
theorem Row.of {B : Nat} {H : AH} {v : AV} {L : List Cd} (h : OutF B H tE 6 v (rowsC L)) : Row H v L := by
  rcases h with ⟨h1, h2⟩ | ⟨q, h1, h2, h3, _, h5⟩
  · exact .inl ⟨by simpa using h1, h2⟩
  · exact .inr ⟨q, by simpa using h1, by simpa using h2, h3, h5⟩
theorem Row.len {H : AH} {v : AV} {L : List Cd} (h : Row H v L) : lenS v = some L.length := by
  rcases h with ⟨rfl, rfl⟩ | ⟨q, rfl, _⟩ <;> rfl
theorem Row.get {H : AH} {v : AV} {L : List Cd} (h : Row H v L) {i : Nat} (hi : i < L.length) : ∃ q, v = .slice q 0 L.length 6 ∧ loadC H q (i * 6) (some 6) = some (.agg (cdC (el L i))) ∧ loadC H q (i * 6) none = some (.str (el L i).file) := by
  rcases h with ⟨rfl, _⟩ | ⟨q, rfl, _, hq, _⟩
  · simp at hi
  · exact ⟨q, rfl, own_load hq hi⟩
theorem Row.below {B : Nat} {H H1 : AH} {v : AV} {L : List Cd} (h : Row H v L) (hb : ∀ q n, v = .slice q 0 n 6 → q < B) (hk : KBel B H H1) (hn : H.next ≤ H1.next) : Row H1 v L := by
  rcases h with h | ⟨q, h1, h2, h3, h4⟩
  · exact .inl h
  · exact .inr ⟨q, h1, h2, hk q _ (hb q _ h1) h3, by omega⟩
/-! ### Those of new names -/
def has (l : List Cd) (f : List UInt8) : Bool := l.any fun x => decide (x.file = f)
theorem has_nil (f : List UInt8) : has [] f = false := rfl
theorem has_take {l : List Cd} {k : Nat} (h : k < l.length) (f : List UInt8) : has (l.take (k + 1)) f = (has (l.take k) f || decide ((el l k).file = f)) := by
  unfold has
  rw [← List.take_append_getElem h, List.any_append]
  congr 1
  unfold el
  simp [List.getElem?_eq_getElem h]
def PmK (cs l : List Cd) (t2 va vl : AV) (i : Nat) (H1 : AH) (kk : Nat) (tm : Tms) (H' : AH) : Prop := H' = H1 ∧ ∃ k : Nat, kk = l.length - k ∧ k ≤ l.length ∧ tm 7 = vl ∧ tm 8 = va ∧ tm 9 = .int .i64 (i : Int) ∧ tm 11 = .int .i64 (k : Int) ∧ tm 2 = t2 ∧ tm 10 = .bool (has (l.take k) (el cs i).file)
def PmKR (cs l : List Cd) (va vl : AV) (i : Nat) (H1 : AH) (t2 : AV) (tm : Tms) (H' : AH) : Prop := H' = H1 ∧ tm 7 = vl ∧ tm 8 = va ∧ tm 9 = .int .i64 (i : Int) ∧ tm 2 = t2 ∧ tm 10 = .bool (has l (el cs i).file)
def PmI (cs : List Cd) (va t2 : AV) (B : Nat) (H : AH) (kk : Nat) (tm : Tms) (H' : AH) : Prop := H.keepsAll H' ∧ B ≤ H'.next ∧ ∃ (i : Nat) (l : List Cd), kk = cs.length - i ∧ i ≤ cs.length ∧ Row H' va cs ∧ Uniq l ∧ (∀ c ∈ l, VOk c) ∧ l.length ≤ i ∧
  OutF B H' tE 6 (tm 7) (rowsC l) ∧ tm 8 = va ∧ tm 9 = .int .i64 (i : Int) ∧ tm 2 = t2
def PmM (t2 : AV) (H : AH) (tm : Tms) (H' : AH) : Prop := H.keepsAll H' ∧ H.next ≤ H'.next ∧ ∃ l : List Cd, l.length ≤ 40 ∧ Uniq l ∧ (∀ c ∈ l, VOk c) ∧ Row H' (tm 7) l ∧ (∃ B, OutF B H' tE 6 (tm 7) (rowsC l)) ∧ tm 2 = t2
theorem Pm1 {C : ICode} (hC : C = PmC) {fs vs : List (List UInt8)} {v w t2 : AV} {H : AH} (hok : H.ok) (hv : SL H v (fs.map AV.str)) (hw : SL H w (vs.map AV.str)) (hf : ∀ f ∈ fs, f.length ≤ 9223372036854775807) (hvl : ∀ f ∈ vs, f.length ≤ 9223372036854775807)
    (hX : ∀ tm H', PmM t2 H tm H' → IWP Tryd.prog (part_ [1, 1, 1, 1] C) (PmQ H) tm H') : IWP Tryd.prog C (PmQ H) (tm0 [v, w, t2]) H := by
  have hcut : C = (.seq (part_ [0] PmC) (.seq (part_ [1, 0] PmC) (.seq (part_ [1, 1, 0] PmC) (.seq (part_ [1, 1, 1, 0] PmC) (part_ [1, 1, 1, 1] PmC))))) := by rw [hC]; kernel_rfl
  rw [show part_ [1, 1, 1, 1] C = part_ [1, 1, 1, 1] PmC by rw [hC]] at hX
  rw [hcut]
  clear hcut hC
  generalize part_ [1, 1, 1, 1] PmC = X at *
  have hL40 : (candsOf (prs fs vs)).length ≤ 40 := by have := candsOf_len (prs fs vs); simp [prs] at this ⊢; omega
  have hvk := candsOf_vok (prs fs vs)
  simp (disch := first | omega | (simp; done) | assumption) [wr64, wrU8, wrU64, Nat.add_assoc, -getElem?_pos, List.getElem?_cons_zero, List.getElem?_cons_succ, -loadC, -storeC, part_, PmC, ic3]
  refine CallW.okof (Cands hv hw hf hvl) ?_
  rintro va H1 ⟨hk1, hn1, ho⟩ hok1
  try simp only [newO_none] at hk1 hn1
  generalize candsOf (prs fs vs) = cs at *
  have hra := Row.of ho
  have hbel : ∀ q n, va = .slice q 0 n 6 → q < H1.next := fun q n e => by
    rcases hra with ⟨_, h⟩ | ⟨q', h, _, _, h4⟩
    · rw [h] at e; cases e
    · rw [h] at e; cases e; exact h4
  simp (disch := first | omega | (simp; done) | assumption) [wr64, wrU8, wrU64, Nat.add_assoc, -getElem?_pos, List.getElem?_cons_zero, List.getElem?_cons_succ, -loadC, -storeC]
  refine iwp_loop (PmI cs va t2 H1.next H) cs.length ⟨hk1, Nat.le_refl _, 0, [], rfl, by omega, hra, by simp [Uniq], by simp, by simp, .inl ⟨rfl, by simp⟩, by simp, by simp, by simp⟩ ?_
  clear hra ho
  rintro kk tm H2 ⟨hk2, hn2, i, l, rfl, hi, hra, hu, hvo, hll, hd, u8, u9, u2⟩
  have hla := hra.len
  by_cases hlt : i < cs.length
  · have hlt' : (i : Int) < (cs.length : Int) := by omega
    obtain ⟨qa, hqa, la6, la1⟩ := hra.get hlt
    have hrl := Row.of hd
    have hll2 := hrl.len
    generalize hvl7 : tm 7 = vl at *
    simp (disch := first | omega | (simp; done) | assumption) [wr64, wrU8, wrU64, Nat.add_assoc, -getElem?_pos, List.getElem?_cons_zero, List.getElem?_cons_succ, -loadC, -storeC, u8, u9, hla, hlt, hlt']
    refine LoopW.exit 2 (PmKR cs l va vl i H2 t2) ?_ ?_
    · refine iwp_loop (PmK cs l t2 va vl i H2) l.length ⟨rfl, 0, rfl, by omega, by simp [hvl7], by simp [u8], by simp [u9], by simp, by simp [u2], by simp [has_nil]⟩ ?_
      clear u2 u8 u9 hvl7 hd tm
      rintro kk tm H3 ⟨rfl, k, rfl, hk, w7, w8, w9, w11, w2, w10⟩
      by_cases hkl : k < l.length
      · have hkl' : (k : Int) < (l.length : Int) := by omega
        obtain ⟨ql, rfl, lk6, lk1⟩ := hrl.get hkl
        have hany := has_take hkl (el cs i).file
        subst hqa
        generalize hfi : (el cs i).file = fi at *
        generalize (el l k).file = fk at *
        generalize has (l.take k) fi = an0 at *
        cases an0 with
        | true =>
          simp (disch := first | omega | (simp; done) | assumption) [wr64, wrU8, wrU64, Nat.add_assoc, -getElem?_pos, List.getElem?_cons_zero, List.getElem?_cons_succ, -loadC, -storeC, w7, w8, w9, w10, w11, hll2, hkl, hkl']
          exact ⟨l.length - (k + 1), by omega, rfl, k + 1, rfl, by omega, by simp [w7], by simp [w8], by simp [w9], by simp, by simp [w2], by simp [hfi, hany]⟩
        | false =>
          simp (disch := first | omega | (simp; done) | assumption) [wr64, wrU8, wrU64, Nat.add_assoc, -getElem?_pos, List.getElem?_cons_zero, List.getElem?_cons_succ, -loadC, -storeC, w7, w8, w9, w10, w11, hll2, hkl, hkl', lk1, la1, hlt, hlt']
          exact ⟨l.length - (k + 1), by omega, rfl, k + 1, rfl, by omega, by simp [w7], by simp [w8], by simp [w9], by simp, by simp [w2], by simp [hfi, hany]⟩
      · have hkl' : ¬ (k : Int) < (l.length : Int) := by omega
        rw [List.take_of_length_le (by omega)] at w10
        simp (disch := first | omega | (simp; done) | assumption) [wr64, wrU8, wrU64, Nat.add_assoc, -getElem?_pos, List.getElem?_cons_zero, List.getElem?_cons_succ, -loadC, -storeC, w7, w8, w9, w10, w11, hll2, hkl, hkl']
        exact ⟨rfl, by simp [w7], by simp [w8], by simp [w9], by simp [w2], by simp [w10]⟩
    clear u2 u8 u9 hvl7 tm
    rintro tm H3 ⟨rfl, w7, w8, w9, w2, w10⟩
    have hmem : el cs i ∈ cs := by
      unfold el
      rw [List.getD_eq_getElem?_getD, List.getElem?_eq_getElem hlt]
      exact List.getElem_mem hlt
    cases hh : has l (el cs i).file with
    | true =>
      rw [hh] at w10
      simp (disch := first | omega | (simp; done) | assumption) [wr64, wrU8, wrU64, Nat.add_assoc, -getElem?_pos, List.getElem?_cons_zero, List.getElem?_cons_succ, -loadC, -storeC, w7, w8, w9, w10]
      exact ⟨cs.length - (i + 1), by omega, hk2, hn2, i + 1, l, rfl, by omega, hra, hu, hvo, by omega, by simpa [w7] using hd, by simp [w8], by simp, by simp [w2]⟩
    | false =>
      rw [hh] at w10
      have hu2 : Uniq (l ++ [el cs i]) := by
        have := dd_uniq (c := el cs i) hu
        unfold dd at this
        unfold has at hh
        rw [hh] at this
        simpa using this
      have hvo2 : ∀ c ∈ l ++ [el cs i], VOk c := fun c hc => by
        rcases List.mem_append.1 hc with hc | hc
        · exact hvo c hc
        · obtain rfl : c = el cs i := by simpa using hc
          exact hvk _ hmem
      obtain ⟨v1, H4, a1, o1, n1, k1⟩ := appendOutF (bytes := 72) (x := cdC (el cs i)) hd (all6 _) (by omega) hn2 rfl rfl (by simp; omega) (by simp; omega)
      have hra2 := hra.below hbel k1 (by omega)
      have hco := cdC_len (el cs i)
      have hc1 := cdC_one (el cs i)
      subst hqa
      have hX6 : setRange [.str [], .str [], .bool false, .int .i64 0, .int .i64 0, .str []] 0 (cdC (el cs i)) = cdC (el cs i) := rfl
      generalize hce : cdC (el cs i) = ce at *
      simp (disch := first | omega | (simp; done) | assumption) [wr64, wrU8, wrU64, Nat.add_assoc, -getElem?_pos, List.getElem?_cons_zero, List.getElem?_cons_succ, -loadC, -storeC, w7, w8, w9, w10, hlt, hlt', la6, hco, hX6]
      refine Try.intro a1 ?_
      simp (disch := first | omega | (simp; done) | assumption) [wr64, wrU8, wrU64, Nat.add_assoc, -getElem?_pos, List.getElem?_cons_zero, List.getElem?_cons_succ, -loadC, -storeC, w7, w8, w9, w10]
      refine ⟨cs.length - (i + 1), by omega, ?_, by omega, i + 1, l ++ [el cs i], rfl, by omega, hra2, hu2, hvo2, by simp; omega, by simpa [rowsC, hce] using o1, by simp [w8], by simp, by simp [w2]⟩
      intro x o hx
      have := hok _ _ hx
      exact k1 x o (by omega) (hk2 x o hx)
  · have hlt' : ¬ (i : Int) < (cs.length : Int) := by omega
    simp (disch := first | omega | (simp; done) | assumption) [wr64, wrU8, wrU64, Nat.add_assoc, -getElem?_pos, List.getElem?_cons_zero, List.getElem?_cons_succ, -loadC, -storeC, u8, u9, hla, hlt, hlt']
    exact hX _ _ ⟨hk2, by omega, l, by omega, hu, hvo, Row.of (by simpa using hd), ⟨_, by simpa using hd⟩, by simp [u2]⟩
theorem Row.out {H : AH} {v : AV} {L : List Cd} (h : Row H v L) : OutF 0 H tE 6 v (rowsC L) := by
  rcases h with ⟨rfl, rfl⟩ | ⟨q, rfl, h2, h3, h4⟩
  · exact .inl ⟨rfl, rfl⟩
  · exact .inr ⟨q, by simp, by simpa using h2, h3, by omega, h4⟩
theorem el_rot {l : List Cd} {T i : Nat} (hi : i < l.length) : (rotL l T).take (i + 1) = (rotL l T).take i ++ [el l ((i + T) % l.length)] := by
  have hlt : i < (rotL l T).length := by rw [rotL_len]; exact hi
  rw [← List.take_append_getElem hlt, rotL_at l T i hi]
  unfold el
  rw [List.getD_eq_getElem?_getD, List.getElem?_eq_getElem (Nat.mod_lt _ (by omega))]
  rfl
theorem el_rev {l : List Cd} {i : Nat} (hi : i < l.length) : l.reverse.take (i + 1) = l.reverse.take i ++ [el l (l.length - 1 - i)] := by
  have hlt : i < l.reverse.length := by simpa using hi
  rw [← List.take_append_getElem hlt, List.getElem_reverse]
  unfold el
  rw [List.getD_eq_getElem?_getD, List.getElem?_eq_getElem (by omega)]
  rfl
def Apart (v w : AV) : Prop := ∀ q n m, v = .slice q 0 n 6 → w ≠ .slice q 0 m 6
def PbI (l : List Cd) (vl : AV) (turn : Int) (T B : Nat) (H : AH) (kk : Nat) (tm : Tms) (H' : AH) : Prop := H.keepsAll H' ∧ B ≤ H'.next ∧ ∃ i : Nat, kk = l.length - i ∧ i ≤ l.length ∧ Row H' vl l ∧ OutF B H' tE 6 (tm 13) (rowsC ((rotL l T).take i)) ∧ OutF B H' tE 6 (tm 14) (rowsC (l.reverse.take i)) ∧ Apart (tm 13) (tm 14) ∧
  tm 2 = .int .i64 turn ∧ tm 7 = vl ∧ tm 12 = .int .i64 (l.length : Int) ∧ tm 15 = .int .i64 (i : Int)
def PcI (M : List Cd) (x y z : AV) (n : Nat) (H1 : AH) (kk : Nat) (tm : Tms) (H' : AH) : Prop := H' = H1 ∧ ∃ i : Nat, kk = n - i ∧ i ≤ n ∧ tm 12 = .int .i64 (n : Int) ∧ tm 16 = x ∧ tm 17 = y ∧ tm 18 = z ∧ tm 19 = .int .i64 (i : Int)
theorem Pm2 {C : ICode} (hC : C = PmC) {turn : Int} {H H1 : AH} {tm : Tms} (hok : H.ok) (hM : PmM (.int .i64 turn) H tm H1) : IWP Tryd.prog (part_ [1, 1, 1, 1] C) (PmQ H) tm H1 := by
  obtain ⟨hk1, hn1, l, hl40, hu, hvo, hrl, ⟨B0, ho⟩, t2⟩ := hM
  obtain ⟨T, hT, hT9⟩ := mask255 turn
  have hll := hrl.len
  have hbel : ∀ q n, tm 7 = .slice q 0 n 6 → q < H1.next := fun q n e => by
    rcases hrl with ⟨_, h⟩ | ⟨q', h, _, _, h4⟩
    · rw [h] at e; cases e
    · rw [h] at e; cases e; exact h4
  clear ho
  generalize t7 : tm 7 = vl at *
  subst hC
  simp (disch := first | omega | (simp; done) | assumption) [wr64, wrU8, wrU64, Nat.add_assoc, -getElem?_pos, List.getElem?_cons_zero, List.getElem?_cons_succ, -loadC, -storeC, part_, PmC, ic3, rs3, t7, hll]
  refine iwp_loop (PbI l vl turn T H1.next H) l.length ⟨hk1, Nat.le_refl _, 0, rfl, by omega, hrl, .inl ⟨by simp, by simp⟩, .inl ⟨by simp, by simp⟩, by intro q n m e; simp at e, by simp [t2], by simp [t7], by simp, by simp⟩ ?_
  clear t2 t7 hrl tm
  rintro kk tm H2 ⟨hk2, hn2, i, rfl, hi, hrl, hda, hdb, hap, t2, t7, t12, t15⟩
  by_cases hlt : i < l.length
  · have hlt' : (i : Int) < (l.length : Int) := by omega
    have hr1 := el_rot (T := T) hlt
    have hr2 := el_rev hlt
    have hml : (i + T) % l.length < l.length := Nat.mod_lt _ (by omega)
    obtain ⟨ql, rfl, la6, _⟩ := hrl.get hml
    obtain ⟨ql', e', lb6, _⟩ := hrl.get (i := l.length - 1 - i) (by omega)
    cases e'
    have htm : ((i : Int) + (T : Int)).tmod (l.length : Int) = (((i + T) % l.length : Nat) : Int) := by
      rw [show (i : Int) + (T : Int) = ((i + T : Nat) : Int) by omega, Int.ofNat_tmod]
    have hsub : (l.length : Int) - 1 - (i : Int) = ((l.length - 1 - i : Nat) : Int) := by omega
    have hmlI : (((i + T) % l.length : Nat) : Int) < (l.length : Int) := by omega
    have hslI : ((l.length - 1 - i : Nat) : Int) < (l.length : Int) := by omega
    have hsl : l.length - 1 - i < l.length := by omega
    have hn0 : ¬ (l.length : Int) = 0 := by omega
    have hn00 : ¬ l.length = 0 := by omega
    have hn0' : ¬ l = [] := fun e => by subst e; simp at hlt
    obtain ⟨va, H3, a1, o1, n1, k1, f1, g1⟩ := appendOutG (bytes := 72) (x := cdC (el l ((i + T) % l.length))) hda (all6 _) (by omega) hn2 rfl rfl (by simp; omega) (by simp; omega)
    have hdb3 : OutF H1.next H3 tE 6 (tm 14) (rowsC (l.reverse.take i)) := by
      rcases hdb with h | ⟨q, h0, h1, h2, h3, h4⟩
      · exact .inl h
      · exact .inr ⟨q, h0, h1, f1 q _ h4 h2 (fun n e => hap q n _ e h0), h3, by omega⟩
    obtain ⟨vb, H4, a2, o2, n2, k2, f2, g2⟩ := appendOutG (bytes := 72) (x := cdC (el l (l.length - 1 - i))) hdb3 (all6 _) (by omega) (by omega) rfl rfl (by simp; omega) (by simp; omega)
    have ho1' : OutF H1.next H4 tE 6 va (rowsC ((rotL l T).take i) ++ [cdC (el l ((i + T) % l.length))]) := by
      rcases o1 with h | ⟨q, h0, h1, h2, h3, h4⟩
      · exact .inl h
      · refine .inr ⟨q, h0, h1, f2 q _ h4 h2 (fun n e => ?_), h3, by omega⟩
        rw [g1] at h0
        injection h0 with h0
        rcases hdb with ⟨_, h⟩ | ⟨qb, hb0, _, _, _, hb4⟩
        · rw [h] at e; cases e
        · rw [hb0] at e; injection e with e; omega
    have hrl4 : Row H4 (.slice ql 0 l.length 6) l := (hrl.below hbel k1 (by omega)).below hbel k2 (by omega)
    have lb6' : loadC H3 ql ((l.length - 1 - i) * 6) (some 6) = some (.agg (cdC (el l (l.length - 1 - i)))) := by
      obtain ⟨q9, e9, h9, _⟩ := (hrl.below hbel k1 (by omega)).get (i := l.length - 1 - i) (by omega)
      cases e9; exact h9
    have hkk : H.keepsAll H4 := fun x o hx => by
      have := hok _ _ hx
      exact k2 x o (by omega) (k1 x o (by omega) (hk2 x o hx))
    have hc1 := cdC_len (el l ((i + T) % l.length))
    have hc2 := cdC_len (el l (l.length - 1 - i))
    have hX1 : setRange [.str [], .str [], .bool false, .int .i64 0, .int .i64 0, .str []] 0 (cdC (el l ((i + T) % l.length))) = cdC (el l ((i + T) % l.length)) := rfl
    have hX2 : setRange [.str [], .str [], .bool false, .int .i64 0, .int .i64 0, .str []] 0 (cdC (el l (l.length - 1 - i))) = cdC (el l (l.length - 1 - i)) := rfl
    have fin : ∀ tm' : Tms, tm' 13 = va → tm' 14 = vb → tm' 2 = .int .i64 turn → tm' 7 = .slice ql 0 l.length 6 → tm' 12 = .int .i64 (l.length : Int) → tm' 15 = .int .i64 ((i : Int) + 1) → ∃ m, m < l.length - i ∧ PbI l (.slice ql 0 l.length 6) turn T H1.next H m tm' H4 := fun tm' q13 q14 q2 q7 q12 q15 =>
      ⟨l.length - (i + 1), by omega, hkk, by omega, i + 1, rfl, by omega, hrl4, by rw [q13, hr1]; simpa [rowsC] using ho1', by rw [q14, hr2]; simpa [rowsC] using o2, by
        rw [q13, q14, g1, g2]
        intro q n m e
        injection e with e
        intro e2
        injection e2 with e2
        omega, q2, q7, q12, by simpa using q15⟩
    generalize cdC (el l ((i + T) % l.length)) = ca at *
    generalize cdC (el l (l.length - 1 - i)) = cb at *
    generalize (i + T) % l.length = ia at *
    generalize l.length - 1 - i = ib at *
    generalize l.length = n at *
    simp (disch := first | omega | (simp; done) | assumption) [wr64, wrU8, wrU64, Nat.add_assoc, -getElem?_pos, List.getElem?_cons_zero, List.getElem?_cons_succ, -loadC, -storeC, t2, t7, t12, t15, hlt, hlt', hT, htm, hn0, hn00, hmlI, hml, la6, hc1, hX1]
    refine Try.intro a1 ?_
    simp (disch := first | omega | (simp; done) | assumption) [wr64, wrU8, wrU64, Nat.add_assoc, -getElem?_pos, List.getElem?_cons_zero, List.getElem?_cons_succ, -loadC, -storeC, t2, t7, t12, t15, hsub, hslI, hsl, lb6', hc2, hX2]
    refine Try.intro a2 ?_
    simp (disch := first | omega | (simp; done) | assumption) [wr64, wrU8, wrU64, Nat.add_assoc, -getElem?_pos, List.getElem?_cons_zero, List.getElem?_cons_succ, -loadC, -storeC, t2, t7, t12, t15]
    exact fin _ (by simp) (by simp) (by simp [t2]) (by simp [t7]) (by simp [t12]) (by simp)
  · have hlt' : ¬ (i : Int) < (l.length : Int) := by omega
    obtain rfl : i = l.length := by omega
    rw [List.take_of_length_le (by rw [rotL_len]; omega)] at hda
    rw [List.take_of_length_le (by simp)] at hdb
    have hrv : (l.reverse).Perm l := List.reverse_perm l
    have hV1 : ∀ c ∈ rotL l T, VOk c := fun c hc => hvo c ((rotL_perm l T).mem_iff.1 hc)
    have hV2 : ∀ c ∈ l.reverse, VOk c := fun c hc => hvo c (hrv.mem_iff.1 hc)
    have hq1 := rotL_len l T
    have hq2 : l.reverse.length = l.length := by simp
    simp (disch := first | omega | (simp; done) | assumption) [wr64, wrU8, wrU64, Nat.add_assoc, -getElem?_pos, List.getElem?_cons_zero, List.getElem?_cons_succ, -loadC, -storeC, t2, t7, t12, t15, hlt, hlt']
    refine CallW.okof (Order hrl.out hl40 hvo) ?_
    rintro x H3 ⟨hk3, hn3, M, hs1, hx⟩ hok3
    try simp only [newO_none] at hk3 hn3
    simp (disch := first | omega | (simp; done) | assumption) [wr64, wrU8, wrU64, Nat.add_assoc, -getElem?_pos, List.getElem?_cons_zero, List.getElem?_cons_succ, -loadC, -storeC]
    refine CallW.okof (Order (hda.keeps hk3 hn3) (by omega) hV1) ?_
    rintro y H4 ⟨hk4, hn4, M2, hs2, hy⟩ hok4
    try simp only [newO_none] at hk4 hn4
    simp (disch := first | omega | (simp; done) | assumption) [wr64, wrU8, wrU64, Nat.add_assoc, -getElem?_pos, List.getElem?_cons_zero, List.getElem?_cons_succ, -loadC, -storeC]
    refine CallW.okof (Order ((hdb.keeps hk3 hn3).keeps hk4 hn4) (by omega) hV2) ?_
    rintro z H5 ⟨hk5, hn5, M3, hs3, hz⟩ hok5
    try simp only [newO_none] at hk5 hn5
    obtain rfl := stab_same hs1 hs2 hu (rotL_perm l T)
    obtain rfl := stab_same hs1 hs3 hu hrv
    have hst := stab_strict hs1 hu
    have hpm := stab_perm hs1
    have hMl : M3.length = l.length := hpm.length_eq
    have hMv : ∀ c ∈ M3, VOk c := fun c hc => hvo c (hpm.mem_iff.1 hc)
    have rx := Row.of ((hx.keeps hk4 hn4).keeps hk5 hn5)
    have ry := Row.of (hy.keeps hk5 hn5)
    have rz := Row.of hz
    have lx := rx.len
    have ly := ry.len
    have lz := rz.len
    have hkH : H.keepsAll H5 := fun x o hx => hk5 x o (hk4 x o (hk3 x o (hk2 x o hx)))
    clear hx hy hz hs1 hs2 hs3 hda hdb hrl hV1 hV2
    rw [hMl] at lx ly lz
    generalize hnl : l.length = n at *
    simp (disch := first | omega | (simp; done) | assumption) [wr64, wrU8, wrU64, Nat.add_assoc, -getElem?_pos, List.getElem?_cons_zero, List.getElem?_cons_succ, -loadC, -storeC, t12, lx, ly, lz]
    refine iwp_loop (PcI M3 x y z n H5) n ⟨rfl, 0, rfl, by omega, by simp [t12], by simp, by simp, by simp, by simp⟩ ?_
    clear hap t2 t7 t12 t15 hlt hlt' tm
    rintro kk tm H6 ⟨rfl, i, rfl, hi, t12, t16, t17, t18, t19⟩
    by_cases hlt : i < n
    · have hlt' : (i : Int) < (n : Int) := by omega
      obtain ⟨qx, hqx, gx, _⟩ := rx.get (i := i) (by omega)
      obtain ⟨qy, hqy, gy, _⟩ := ry.get (i := i) (by omega)
      obtain ⟨qz, hqz, gz, _⟩ := rz.get (i := i) (by omega)
      rw [hMl] at hqx hqy hqz
      subst hqx hqy hqz
      have hself : ∀ c : Cd, aeqs [.str, .str, .bool, .int, .int, .str] (cdC c) (cdC c) = some true := fun c => by simp [cdC]
      by_cases h0 : i = 0
      · subst h0
        have gx0 : loadC H6 qx 0 (some 6) = some (.agg (cdC (el M3 0))) := by simpa using gx
        have gy0 : loadC H6 qy 0 (some 6) = some (.agg (cdC (el M3 0))) := by simpa using gy
        have gz0 : loadC H6 qz 0 (some 6) = some (.agg (cdC (el M3 0))) := by simpa using gz
        have hs0 := hself (el M3 0)
        generalize cdC (el M3 0) = c0 at *
        simp (disch := first | omega | (simp; done) | assumption) [wr64, wrU8, wrU64, Nat.add_assoc, -getElem?_pos, List.getElem?_cons_zero, List.getElem?_cons_succ, -loadC, -storeC, -aeqs, t12, t16, t17, t18, t19, hlt, hlt', gx0, gy0, gz0, hs0]
        exact ⟨n - 1, by omega, rfl, 1, rfl, by omega, by simp [t12], by simp [t16], by simp [t17], by simp [t18], by simp⟩
      · obtain ⟨qx', e', gxp, _⟩ := rx.get (i := i - 1) (by omega)
        rw [hMl] at e'
        cases e'
        have hi1 : (i : Int) - 1 = ((i - 1 : Nat) : Int) := by omega
        have hi2 : ((i - 1 : Nat) : Int) < (n : Int) := by omega
        have hi3 : i - 1 < n := by omega
        have hi4 : 0 < i := by omega
        have hi5 : (0 : Int) < (i : Int) := by omega
        have hve : ∀ k, k < n → VOk (el M3 k) := fun k hk => by
          unfold el
          rw [List.getD_eq_getElem?_getD, List.getElem?_eq_getElem (by omega)]
          exact hMv _ (List.getElem_mem _)
        have hls := Less (el M3 (i - 1)) (el M3 i) (hve _ hi3) (hve _ hlt)
        have hlt2 : cmpC (el M3 (i - 1)) (el M3 i) < 0 := by
          have := (List.pairwise_iff_getElem.1 hst) (i - 1) i (by omega) (by omega) (by omega)
          unfold el
          rw [List.getD_eq_getElem?_getD, List.getD_eq_getElem?_getD, List.getElem?_eq_getElem (by omega), List.getElem?_eq_getElem (by omega)]
          exact this
        rw [decide_eq_true hlt2] at hls
        have hs0 := hself (el M3 i)
        clear hlt2 hself
        generalize cdC (el M3 (i - 1)) = cp at *
        generalize cdC (el M3 i) = c0 at *
        generalize i - 1 = ip at *
        simp (disch := first | omega | (simp; done) | assumption) [wr64, wrU8, wrU64, Nat.add_assoc, -getElem?_pos, List.getElem?_cons_zero, List.getElem?_cons_succ, -loadC, -storeC, -aeqs, t12, t16, t17, t18, t19, hlt, hlt', gx, gy, gz, hs0, hi1, hi2, hi3, hi4, hi5, gxp]
        refine CallW.val (hls _) ?_
        simp (disch := first | omega | (simp; done) | assumption) [wr64, wrU8, wrU64, Nat.add_assoc, -getElem?_pos, List.getElem?_cons_zero, List.getElem?_cons_succ, -loadC, -storeC, t12, t16, t17, t18, t19]
        exact ⟨n - (i + 1), by omega, rfl, i + 1, rfl, by omega, by simp [t12], by simp [t16], by simp [t17], by simp [t18], by simp⟩
    · have hlt' : ¬ (i : Int) < (n : Int) := by omega
      simp (disch := first | omega | (simp; done) | assumption) [wr64, wrU8, wrU64, Nat.add_assoc, -getElem?_pos, List.getElem?_cons_zero, List.getElem?_cons_succ, -loadC, -storeC, t12, t16, t17, t18, t19, hlt, hlt']
      refine CallW.val (Awake _) ?_
      simp (disch := first | omega | (simp; done) | assumption) [wr64, wrU8, wrU64, Nat.add_assoc, -getElem?_pos, List.getElem?_cons_zero, List.getElem?_cons_succ, rs3]
      exact hkH
theorem PermsC {C : ICode} (hC : C = PmC) {fn : Func} (hF : Fits Tryd.prog 3 fn C rs3) (hnt : 3 ≤ fn.ntmps) {fs vs : List (List UInt8)} {v w : AV} {turn : Int} {H : AH}
    (hv : SL H v (fs.map AV.str)) (hw : SL H w (vs.map AV.str)) (hf : ∀ f ∈ fs, f.length ≤ 9223372036854775807) (hvl : ∀ f ∈ vs, f.length ≤ 9223372036854775807) :
    ACall Tryd.prog 3 [v, w, .int .i64 turn] H (fun r H' => r = .bool true ∧ H' = H) :=
  acall_enter hF hnt (by simp) fun hok => Pm1 hC hok hv hw hf hvl fun tm H' hM => Pm2 hC hok hM
theorem PickPerms.walk (a0 : Option Addr) (l0 c0 : Nat) (L0 : List (List AV)) (a1 : Option Addr) (l1 c1 : Nat) (L1 : List (List AV)) (a2 : Int) (W : World) (hsh : W.ShapedOpen Tryd.prog) (h0 : IsFlat W [.str] a0 l0 c0 L0) (h1 : IsFlat W [.str] a1 l1 c1 L1) (_ : (Lit.int .i64 a2).wf = true) :
    Calls Tryd.prog 3 #[.slice a0 l0 c0, .slice a1 l1 c1, .int .i64 a2] W fun e W' => e = .returned (.bool true) ∧ Below W.heap.size W W' := by
  obtain ⟨v, fs, hv, rv, hf⟩ := PWalk.texts h0
  obtain ⟨w, vs, hw, rw', hvl⟩ := PWalk.texts h1
  exact PWalk.walk hsh (PermsC rfl fits3 (by simp) hv hw hf hvl) (.cons rv (.cons rw' (.cons (.int _ _) .nil)))
end Go.Proofs.YtllkdoefonehoaaDoor.PPick

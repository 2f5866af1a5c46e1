/- What the document fixes of commands, and the laws CmdParses, CmdTexts and CmdWords. -/
import Derived.Test.YthobgplifgghjaaGreatDoorCM4
import Derived.Test.YthobgplifgghjaaGreatDoorSt
set_option linter.unusedVariables false
set_option linter.unusedSimpArgs false
set_option maxRecDepth 10000
set_option maxHeartbeats 4000000
namespace Go.Proofs.YthobgplifgghjaaGreatDoor.CNumb
open Go Go.RowKit Go.Proofs.YthobgplifgghjaaGreatDoor Go.Proofs.YthobgplifgghjaaGreatDoor.Abs Go.Proofs.YthobgplifgghjaaGreatDoor.Ic Go.Proofs.YthobgplifgghjaaGreatDoor.EAs Go.Proofs.YthobgplifgghjaaGreatDoor.EErr Go.Proofs.YthobgplifgghjaaGreatDoor.CSpec Go.Proofs.YthobgplifgghjaaGreatDoor.LPcs Go.Proofs.YthobgplifgghjaaGreatDoor.LLib
def putB : List UInt8 := [112, 117, 116, 32, 47, 97, 32, 53, 32, 51]
def putC : Rc := ⟨5, [47, 97], [], 5, 3, 0⟩
theorem put_parse : parseC putB = (0, ⟨5, [47, 97], [], 5, 3, 0⟩) := by decide +kernel
theorem put_line : lineT putC = putB := by
  have h5 : Lib.itoa 5 = [53] := by decide +kernel
  have h3 : Lib.itoa 3 = [51] := by decide +kernel
  have h0 : Lib.itoa 0 = [48] := by decide +kernel
  unfold lineT wordsT numsT putC
  simp only [List.take]
  show joinW [32] (([112, 117, 116] : List UInt8) :: [[47, 97]] ++ [5, 3].map Lib.itoa) = _
  simp only [List.map, h5, h3]
  rfl
theorem put_ok : okT putC := by
  refine ⟨by decide, ?_, ?_⟩
  · rw [put_line, put_parse]
  · rw [put_line, put_parse]; decide
theorem Awake {H : AH} (hG : CLaid.Ok H) : ACall Tryz.prog 9 [] H (fun v H' => v = .bool true ∧ H' = H) := by
  refine acall_enter fits9 (by simp) (by simp) fun hok => ?_
  simp (disch := first | omega | (simp; done) | assumption) [wr64, wrU8, wrU64, Nat.add_assoc, -getElem?_pos, List.getElem?_cons_zero, List.getElem?_cons_succ, ic9, rs9]
  refine CallW.ofk (Parse putB _ hG) ?_
  rintro v1 H1 ⟨hk1, hn1, e, rfl, he⟩ hok1
  try simp only [newO_none, newO_some] at hk1 hn1
  rw [put_parse] at he ⊢
  have he' : e = .nilIface := he
  subst he'
  clear he
  have hk1' : H.keepsAll (H1.new (.cells false tC (cmL 5 [47, 97] [] 5 3 0))) := keeps_new hok hk1 hn1
  simp (disch := first | omega | (simp; done) | assumption) [wr64, wrU8, wrU64, Nat.add_assoc, -getElem?_pos, List.getElem?_cons_zero, List.getElem?_cons_succ, cmA, cmL]
  refine CallW.ofk (Text putC _ (hG.keeps ?_) (by decide) (by decide) (by decide)) ?_
  · ((repeat (first | exact hk1 | refine keeps_set hok ?_ (by first | omega | (simp; done) | (simp; omega)) | refine keeps_new hok ?_ (by first | omega | (simp; done) | (simp; omega)))); done)
  rintro v2 H2 ⟨hk2, hn2, e2, rfl, he2⟩ hok2
  try simp only [newO_none, newO_some] at hk2 hn2
  rw [if_pos put_ok, put_line] at *
  have he2' : e2 = .nilIface := he2
  subst he2'
  clear he2
  have hB2 := hk2 H1.next (.cells false tC (cmL 5 [47, 97] [] 5 3 0)) (by simp [cmL])
  simp only [cmL] at hB2
  have hk02 : H.keepsAll H2 := fun x o hx => by
    have := hok _ _ hx
    refine hk2 x o ?_
    rw [AH.set_ne _ _ (by omega), AH.new_ne _ _ (by omega)]
    exact hk1 x o hx
  simp (disch := first | omega | (simp; done) | assumption) [wr64, wrU8, wrU64, Nat.add_assoc, -getElem?_pos, List.getElem?_cons_zero, List.getElem?_cons_succ, putB, hB2]
  refine CallW.ofk (Data 250 3 3 (by decide) _) ?_
  rintro v3 H3 ⟨hk3, hn3, rfl, hat⟩ hok3
  try simp only [newO_none, newO_some] at hk3 hn3 hat
  have hb : b2sA H3 (.slice H2.next 0 3 1) = some (.str [250, 1, 8]) := b2s_own (l := [250, 1, 8]) (load_own hat rfl) 1
  simp (disch := first | omega | (simp; done) | assumption) [wr64, wrU8, wrU64, Nat.add_assoc, -getElem?_pos, List.getElem?_cons_zero, List.getElem?_cons_succ, putB, hB2, hb]
  exact fun x o hx => hk3 x o (hk02 x o hx)
theorem err_chain {H : AH} {e : AV} {n : Int} (h : ErrP H e n) : ∃ l r, Chain H e l r ∧ isV e l r cmdB [] n = true := by
  unfold ErrP at h
  by_cases h0 : n = 0
  · rw [if_pos h0] at h
    subst h h0
    exact ⟨[], none, .nil, by simp [isV]⟩
  · rw [if_neg h0] at h
    obtain ⟨g, h3, h4, rfl, h5⟩ := h
    exact ⟨[g], some n, h5, by simp [isV, h0, h3, h4]⟩
theorem ErrP.keeps {H H1 : AH} {e : AV} {n : Int} (hk : H.keepsAll H1) (h : ErrP H e n) : ErrP H1 e n := by
  unfold ErrP at h ⊢
  split
  · rename_i h0; rw [if_pos h0] at h; exact h
  · rename_i h0; rw [if_neg h0] at h; obtain ⟨g, h3, h4, h5, h6⟩ := h; exact ⟨g, h3, h4, h5, h6.keeps hk⟩
theorem CmdParses {s : List UInt8} {H : AH} (hG : CLaid.Ok H) : ACall Tryz.prog 3 [.str s] H (fun v H' => v = .bool true ∧ H' = H) := by
  refine acall_enter fits3 (by simp) (by simp) fun hok => ?_
  simp (disch := first | omega | (simp; done) | assumption) [wr64, wrU8, wrU64, Nat.add_assoc, -getElem?_pos, List.getElem?_cons_zero, List.getElem?_cons_succ, ic3, rs3]
  refine CallW.ofk (Parse s _ hG) ?_
  rintro v1 H1 ⟨hk1, hn1, e, rfl, he⟩ hok1
  try simp only [newO_none, newO_some] at hk1 hn1
  simp (disch := first | omega | (simp; done) | assumption) [wr64, wrU8, wrU64, Nat.add_assoc, -getElem?_pos, List.getElem?_cons_zero, List.getElem?_cons_succ, cmA, cmL]
  refine CallW.ofk (RParse s _) ?_
  rintro v2 H2 ⟨hk2, hn2, rfl⟩ hok2
  try simp only [newO_none, newO_some] at hk2 hn2
  have hB2 := hk2 H1.next (.cells false tC (cmL (parseC s).2.kind (parseC s).2.a (parseC s).2.b (parseC s).2.n (parseC s).2.m (parseC s).2.k)) (by simp [cmL])
  simp only [cmL] at hB2
  obtain ⟨l, r, hch, hv⟩ := err_chain he
  have hk12 : H1.keepsAll H2 := fun x o hx => by
    have := hok1 _ _ hx
    refine hk2 x o ?_
    rw [AH.set_ne _ _ (by omega), AH.new_ne _ _ (by omega)]
    exact hx
  have hk02 : H.keepsAll H2 := fun x o hx => hk12 x o (hk1 x o hx)
  have hn12 : H1.next < H2.next := by simp at hn2; omega
  have hne : ¬ (H1.next = H2.next) := by omega
  generalize (parseC s).2 = d at *
  generalize (parseC s).1 = cd at *
  have hk03 : H.keepsAll ((H2.new (.cells false tC [.int .i64 0, .str [], .str [], .int .i64 0, .int .i64 0, .int .i64 0])).set H2.next (some (.cells false tC [.int .i64 (d.kind : Int), .str d.a, .str d.b, .int .i64 (d.n : Int), .int .i64 (d.m : Int), .int .i64 (d.k : Int)]))) := by
    ((repeat (first | exact hk02 | refine keeps_set hok ?_ (by first | omega | (simp; done) | (simp; omega)) | refine keeps_new hok ?_ (by first | omega | (simp; done) | (simp; omega)))); done)
  have hk13 : H1.keepsAll ((H2.new (.cells false tC [.int .i64 0, .str [], .str [], .int .i64 0, .int .i64 0, .int .i64 0])).set H2.next (some (.cells false tC [.int .i64 (d.kind : Int), .str d.a, .str d.b, .int .i64 (d.n : Int), .int .i64 (d.m : Int), .int .i64 (d.k : Int)]))) := fun x o hx => by
    have := hok1 _ _ hx
    rw [AH.set_ne _ _ (by omega), AH.new_ne _ _ (by omega)]
    exact hk12 x o hx
  simp (disch := first | omega | (simp; done) | assumption) [wr64, wrU8, wrU64, Nat.add_assoc, -getElem?_pos, List.getElem?_cons_zero, List.getElem?_cons_succ, cmA, cmL]
  refine CallW.val (ELawIs _ _ _ (hG.keeps hk03).err (hch.keeps hk13)) ?_
  rw [show ([99, 109, 100] : List UInt8) = cmdB from rfl, hv]
  simp (disch := first | omega | (simp; done) | assumption) [wr64, wrU8, wrU64, Nat.add_assoc, -getElem?_pos, List.getElem?_cons_zero, List.getElem?_cons_succ, hB2, hne]
  refine CallW.val (Awake (hG.keeps hk03)) ?_
  simp (disch := first | omega | (simp; done) | assumption) [wr64, wrU8, wrU64, Nat.add_assoc, -getElem?_pos, List.getElem?_cons_zero, List.getElem?_cons_succ, ]
  exact hk03
theorem CmdParses.walk (a0 : ByteArray) (W : World) (hsh : W.ShapedOpen Tryz.prog) (hG : CLaid.G W) (_ : a0.size ≤ 140737488351232) :
    Calls Tryz.prog 3 #[.string a0] W fun e W' => e = .returned (.bool true) ∧ Below W.heap.size W W' :=
  CLaid.walk hsh hG (fun tabs hok => CmdParses hok) (.cons (.str _) .nil)
end Go.Proofs.YthobgplifgghjaaGreatDoor.CNumb
set_option linter.unusedVariables false
set_option linter.unusedSimpArgs false
set_option maxRecDepth 10000
set_option maxHeartbeats 4000000
namespace Go.Proofs.YthobgplifgghjaaGreatDoor.CNumb
open Go Go.RowKit Go.Proofs.YthobgplifgghjaaGreatDoor Go.Proofs.YthobgplifgghjaaGreatDoor.Abs Go.Proofs.YthobgplifgghjaaGreatDoor.Ic Go.Proofs.YthobgplifgghjaaGreatDoor.EAs Go.Proofs.YthobgplifgghjaaGreatDoor.EErr Go.Proofs.YthobgplifgghjaaGreatDoor.CSpec Go.Proofs.YthobgplifgghjaaGreatDoor.LPcs Go.Proofs.YthobgplifgghjaaGreatDoor.LLib
theorem CmdTexts {c : Rc} {H : AH} (hG : CLaid.Ok H) (hr : ∀ x ∈ [c.n, c.m, c.k], -9223372036854775808 ≤ x ∧ x ≤ 9223372036854775807) (hkr : -9223372036854775808 ≤ c.kind ∧ c.kind ≤ 9223372036854775807) :
    ACall Tryz.prog 4 [.agg (rawL c)] H (fun v H' => v = .bool true ∧ H' = H) := by
  refine acall_enter fits4 (by simp) (by simp) fun hok => ?_
  have hcr : rawL c = [.int .i64 c.kind, .str c.a, .str c.b, .int .i64 c.n, .int .i64 c.m, .int .i64 c.k] := rfl
  have hk0 : H.keepsAll (H.new (.cells false tC (rawL c))) := keeps_new hok (AH.keepsAll_refl _) (Nat.le_refl _)
  by_cases hA : 500 < c.a.length
  · have hA' : (500 : Int) < (c.a.length : Int) := by omega
    rw [hcr] at hk0 ⊢
    simp (disch := first | omega | (simp; done) | assumption) [wr64, wrU8, wrU64, Nat.add_assoc, -getElem?_pos, List.getElem?_cons_zero, List.getElem?_cons_succ, ic4, rs4, hA, hA']
    refine CallW.val (Awake (hG.keeps hk0)) ?_
    simp (disch := first | omega | (simp; done) | assumption) [wr64, wrU8, wrU64, Nat.add_assoc, -getElem?_pos, List.getElem?_cons_zero, List.getElem?_cons_succ, ]
    exact hk0
  have hA' : ¬ (500 : Int) < (c.a.length : Int) := by omega
  by_cases hB : 500 < c.b.length
  · have hB' : (500 : Int) < (c.b.length : Int) := by omega
    rw [hcr] at hk0 ⊢
    simp (disch := first | omega | (simp; done) | assumption) [wr64, wrU8, wrU64, Nat.add_assoc, -getElem?_pos, List.getElem?_cons_zero, List.getElem?_cons_succ, ic4, rs4, hA, hA', hB, hB']
    refine CallW.val (Awake (hG.keeps hk0)) ?_
    simp (disch := first | omega | (simp; done) | assumption) [wr64, wrU8, wrU64, Nat.add_assoc, -getElem?_pos, List.getElem?_cons_zero, List.getElem?_cons_succ, ]
    exact hk0
  have hB' : ¬ (500 : Int) < (c.b.length : Int) := by omega
  have hT := fun H hG => Text c H hG (by omega) (by omega) hr
  have hR0 := fun H => RText_ c H (by omega) (by omega) hr hkr
  by_cases hok' : okT c
  · have hR : ∀ H, ACall Tryz.prog 11 [.agg (rawL c)] H (fun v H' => v = .tuple [.str (lineT c), .bool true] ∧ H' = H) := fun H => by
      have := hR0 H
      rw [if_pos hok', decide_eq_true hok'] at this
      exact this
    clear hR0
    have hp : (parseC (lineT c)).1 = 0 := hok'.2.1
    obtain ⟨q1, q2, q3, q4, q5, q6⟩ := hok'.2.2
    have hTP : ∀ H v H', TextP c H v H' → H.keepsAll H' ∧ H.next ≤ H'.next ∧ v = .tuple [.str (lineT c), .nilIface] := fun H v H' h => by
      obtain ⟨h1, h2, e, rfl, he⟩ := h
      rw [if_pos hok'] at he ⊢
      have he' : e = .nilIface := he
      subst he'
      exact ⟨h1, h2, rfl⟩
    clear hok'
    rw [hcr] at hk0 hT hR ⊢
    simp (disch := first | omega | (simp; done) | assumption) [wr64, wrU8, wrU64, Nat.add_assoc, -getElem?_pos, List.getElem?_cons_zero, List.getElem?_cons_succ, ic4, rs4, hA, hA', hB, hB']
    refine CallW.ofk (hT _ (hG.keeps hk0)) ?_
    intro v1 H1 h1 hok1
    obtain ⟨hk1, hn1, rfl⟩ := hTP _ _ _ h1
    clear hTP h1
    try simp only [newO_none, newO_some] at hk1 hn1
    have hB1 := hk1 H.next (.cells false tC [.int .i64 c.kind, .str c.a, .str c.b, .int .i64 c.n, .int .i64 c.m, .int .i64 c.k]) (by simp)
    have hk01 : H.keepsAll H1 := fun x o hx => hk1 x o (hk0 x o hx)
    simp (disch := first | omega | (simp; done) | assumption) [wr64, wrU8, wrU64, Nat.add_assoc, -getElem?_pos, List.getElem?_cons_zero, List.getElem?_cons_succ, hB1]
    refine CallW.val (hR _) ?_
    simp (disch := first | omega | (simp; done) | assumption) [wr64, wrU8, wrU64, Nat.add_assoc, -getElem?_pos, List.getElem?_cons_zero, List.getElem?_cons_succ, hB1]
    refine CallW.ofk (Parse (lineT c) _ (hG.keeps hk01)) ?_
    rintro v2 H2 ⟨hk2, hn2, e2, rfl, he2⟩ hok2
    try simp only [newO_none, newO_some] at hk2 hn2
    rw [hp] at he2
    have he2' : e2 = .nilIface := he2
    subst he2'
    have hB2 := hk2 _ _ hB1
    have hne : ¬ (H.next = H2.next) := by have := hok2 _ _ hB2; omega
    have hk02 : H.keepsAll H2 := fun x o hx => hk2 x o (hk01 x o hx)
    have hnn : H.next ≤ H2.next := by have := hok2 _ _ hB2; omega
    have hk03 : H.keepsAll ((H2.new (.cells false tC [.int .i64 0, .str [], .str [], .int .i64 0, .int .i64 0, .int .i64 0])).set H2.next (some (.cells false tC [.int .i64 c.kind, .str c.a, .str c.b, .int .i64 c.n, .int .i64 c.m, .int .i64 c.k]))) := by
      ((repeat (first | exact hk02 | refine keeps_set hok ?_ (by first | omega | (simp; done) | (simp; omega)) | refine keeps_new hok ?_ (by first | omega | (simp; done) | (simp; omega)))); done)
    simp (disch := first | omega | (simp; done) | assumption) [wr64, wrU8, wrU64, Nat.add_assoc, -getElem?_pos, List.getElem?_cons_zero, List.getElem?_cons_succ, cmA, cmL, hB2, hne, q1, q2, q3, q4, q5, q6]
    refine CallW.val (Awake (hG.keeps hk03)) ?_
    simp (disch := first | omega | (simp; done) | assumption) [wr64, wrU8, wrU64, Nat.add_assoc, -getElem?_pos, List.getElem?_cons_zero, List.getElem?_cons_succ, ]
    exact hk03
  · have hR : ∀ H, ACall Tryz.prog 11 [.agg (rawL c)] H (fun v H' => v = .tuple [.str [], .bool false] ∧ H' = H) := fun H => by
      have := hR0 H
      rw [if_neg hok', decide_eq_false hok'] at this
      exact this
    clear hR0
    have hTP : ∀ H v H', TextP c H v H' → H.keepsAll H' ∧ H.next ≤ H'.next ∧ ∃ e, v = .tuple [.str [], e] ∧ ErrP H' e 1 := fun H v H' h => by
      obtain ⟨h1, h2, e, rfl, he⟩ := h
      rw [if_neg hok'] at he ⊢
      exact ⟨h1, h2, e, rfl, he⟩
    clear hok'
    rw [hcr] at hk0 hT hR ⊢
    simp (disch := first | omega | (simp; done) | assumption) [wr64, wrU8, wrU64, Nat.add_assoc, -getElem?_pos, List.getElem?_cons_zero, List.getElem?_cons_succ, ic4, rs4, hA, hA', hB, hB']
    refine CallW.ofk (hT _ (hG.keeps hk0)) ?_
    intro v1 H1 h1 hok1
    obtain ⟨hk1, hn1, e, rfl, he⟩ := hTP _ _ _ h1
    clear hTP h1
    try simp only [newO_none, newO_some] at hk1 hn1
    have hB1 := hk1 H.next (.cells false tC [.int .i64 c.kind, .str c.a, .str c.b, .int .i64 c.n, .int .i64 c.m, .int .i64 c.k]) (by simp)
    have hk01 : H.keepsAll H1 := fun x o hx => hk1 x o (hk0 x o hx)
    simp (disch := first | omega | (simp; done) | assumption) [wr64, wrU8, wrU64, Nat.add_assoc, -getElem?_pos, List.getElem?_cons_zero, List.getElem?_cons_succ, hB1]
    refine CallW.val (hR _) ?_
    obtain ⟨l, r, hch, hv⟩ := err_chain he
    simp (disch := first | omega | (simp; done) | assumption) [wr64, wrU8, wrU64, Nat.add_assoc, -getElem?_pos, List.getElem?_cons_zero, List.getElem?_cons_succ, hB1]
    refine CallW.val (ELawIs _ _ _ (hG.keeps hk01).err hch) ?_
    rw [show ([99, 109, 100] : List UInt8) = cmdB from rfl, hv]
    simp (disch := first | omega | (simp; done) | assumption) [wr64, wrU8, wrU64, Nat.add_assoc, -getElem?_pos, List.getElem?_cons_zero, List.getElem?_cons_succ, ]
    refine CallW.val (Awake (hG.keeps hk01)) ?_
    simp (disch := first | omega | (simp; done) | assumption) [wr64, wrU8, wrU64, Nat.add_assoc, -getElem?_pos, List.getElem?_cons_zero, List.getElem?_cons_succ, ]
    exact hk01
theorem arr6 {cs : Array Value} {a b c d e f : Value} (hs : cs.size = 6) (h0 : cs[0]? = some a) (h1 : cs[1]? = some b) (h2 : cs[2]? = some c) (h3 : cs[3]? = some d) (h4 : cs[4]? = some e) (h5 : cs[5]? = some f) : cs = #[a, b, c, d, e, f] := by
  apply Array.ext_getElem?
  intro i
  match i with
  | 0 => exact h0
  | 1 => exact h1
  | 2 => exact h2
  | 3 => exact h3
  | 4 => exact h4
  | 5 => exact h5
  | i + 6 => rw [Array.getElem?_eq_none (by omega), Array.getElem?_eq_none (by simp)]
theorem open_cmd {W : World} {base : Nat} {v : Value} (h : Value.okWide Tryz.prog W .any base 23 v) : ∃ (k : Int) (a b : ByteArray) (n m o : Int), v = .agg #[.int .i64 k, .string a, .string b, .int .i64 n, .int .i64 m, .int .i64 o] ∧ (IntKind.has .i64 k ∧ IntKind.has .i64 n ∧ IntKind.has .i64 m ∧ IntKind.has .i64 o) := by
  obtain ⟨cs, rfl, hs, hc⟩ := okWide_cells (ts := [3, 9, 9, 3, 3, 3]) (by kernel_rfl) (by kernel_rfl) (by kernel_rfl) h
  obtain ⟨x0, h0, k0⟩ := hc 0 3 rfl
  obtain ⟨x1, h1, k1⟩ := hc 1 9 rfl
  obtain ⟨x2, h2, k2⟩ := hc 2 9 rfl
  obtain ⟨x3, h3, k3⟩ := hc 3 3 rfl
  obtain ⟨x4, h4, k4⟩ := hc 4 3 rfl
  obtain ⟨x5, h5, k5⟩ := hc 5 3 rfl
  obtain ⟨k, rfl, e0⟩ := cell_int Tryz.underlying3 k0
  obtain ⟨a, rfl, _⟩ := cell_str Tryz.underlying9 k1
  obtain ⟨b, rfl, _⟩ := cell_str Tryz.underlying9 k2
  obtain ⟨n, rfl, e3⟩ := cell_int Tryz.underlying3 k3
  obtain ⟨m, rfl, e4⟩ := cell_int Tryz.underlying3 k4
  obtain ⟨o, rfl, e5⟩ := cell_int Tryz.underlying3 k5
  exact ⟨k, a, b, n, m, o, by rw [arr6 hs h0 h1 h2 h3 h4 h5], e0, e3, e4, e5⟩
theorem CmdTexts.walk (k : Int) (a b : ByteArray) (n m o : Int) (W : World) (hsh : W.ShapedOpen Tryz.prog) (hG : CLaid.G W) (h : IntKind.has .i64 k ∧ IntKind.has .i64 n ∧ IntKind.has .i64 m ∧ IntKind.has .i64 o) :
    Calls Tryz.prog 4 #[.agg #[.int .i64 k, .string a, .string b, .int .i64 n, .int .i64 m, .int .i64 o]] W fun e W' => e = .returned (.bool true) ∧ Below W.heap.size W W' := by
  obtain ⟨⟨k0, k1⟩, ⟨n0, n1⟩, ⟨m0, m1⟩, ⟨o0, o1⟩⟩ := h
  refine CLaid.walk hsh hG (args := [.agg (rawL ⟨k, a.data.toList, b.data.toList, n, m, o⟩)]) (fun tabs hok => CmdTexts hok (fun x hx => ?_) ⟨k0, k1⟩) (.cons (.agg_list (.cons (.int _ _) (.cons (.str _) (.cons (.str _) (.cons (.int _ _) (.cons (.int _ _) (.cons (.int _ _) .nil))))))) .nil)
  simp at hx
  rcases hx with rfl | rfl | rfl
  · exact ⟨n0, n1⟩
  · exact ⟨m0, m1⟩
  · exact ⟨o0, o1⟩
end Go.Proofs.YthobgplifgghjaaGreatDoor.CNumb
set_option linter.unusedVariables false
set_option linter.unusedSimpArgs false
set_option maxRecDepth 10000
namespace Go.Proofs.YthobgplifgghjaaGreatDoor.CNumb
open Go Go.RowKit Go.Proofs.YthobgplifgghjaaGreatDoor Go.Proofs.YthobgplifgghjaaGreatDoor.Abs Go.Proofs.YthobgplifgghjaaGreatDoor.CSpec Go.Proofs.YthobgplifgghjaaGreatDoor.LPcs Go.Proofs.YthobgplifgghjaaGreatDoor.LLib Go.Proofs.YthobgplifgghjaaGreatDoor.EErr
/-- The word at a place: t texts come first. -/
def wordW (t w : Nat) (bad : Int) (j : Nat) : List UInt8 := if (j : Int) = bad then [120, 49] else if j < t then 47 :: 119 :: Lib.itoa (j : Int) else Lib.itoa ((w : Int) + (j : Int))
def argsW (t w : Nat) (bad : Int) (m : Nat) : List (List UInt8) := (List.range m).map (wordW t w bad)
def lineW (k w : Nat) (bad : Int) (m : Nat) : List UInt8 := joinW [32] ((row k).1 :: argsW (row k).2.1 w bad m)
def full (k : Nat) : Nat := (row k).2.1 + (row k).2.2
theorem itoa_nat (n : Nat) : Lib.itoa (n : Int) = Lib.decDigits n := by
  unfold Lib.itoa
  rw [if_neg (by omega), Int.toNat_natCast]
theorem itoa_add (w j : Nat) : Lib.itoa ((w : Int) + (j : Int)) = Lib.decDigits (w + j) := by rw [← itoa_nat]; congr 1
theorem dig_ch {l : List UInt8} (h : l.all digB = true) : l.all chB = true := by
  rw [List.all_eq_true] at h ⊢
  intro c hc
  have := digB_iff.1 (h c hc)
  simp [chB]; omega
theorem dig_no {l : List UInt8} (h : l.all digB = true) : 32 ∉ l := by
  intro hc
  have := digB_iff.1 (List.all_eq_true.1 h 32 hc)
  have : (32 : UInt8).toNat = 32 := rfl
  omega
theorem ch_no {l : List UInt8} (h : l.all chB = true) : 32 ∉ l := by
  intro hc
  have := List.all_eq_true.1 h 32 hc
  revert this
  decide
theorem wordW_txt {t w j : Nat} {bad : Int} (hw : w ≤ 65535) (hj : j < 8) : (wordW t w bad j).all chB = true ∧ (wordW t w bad j).length ≤ 8 ∧ (wordW t w bad j) ≠ [] := by
  unfold wordW
  split
  · exact ⟨by decide, by simp, by simp⟩
  · split
    · rw [itoa_nat]
      have h1 := dig_ch (dec_all j)
      have h2 := dec_len6 (n := j) (by omega)
      refine ⟨?_, by simp; omega, by simp⟩
      simp only [List.all_cons, h1, Bool.and_true]
      decide
    · rw [itoa_add]
      exact ⟨dig_ch (dec_all _), by have := dec_len6 (n := w + j) (by omega); omega, dec_ne _⟩
theorem wordW_txtB {t w j : Nat} {bad : Int} (hw : w ≤ 65535) (hj : j < 8) : txtB (wordW t w bad j) = true := by
  obtain ⟨h1, h2, h3⟩ := wordW_txt (t := t) (bad := bad) hw hj
  unfold txtB
  rw [h1]
  simp [h3]
  omega
theorem wordW_num {t w j : Nat} {bad : Int} (hw : w ≤ 65535) (hj : j < 8) (hb : (j : Int) ≠ bad) (ht : t ≤ j) : numB (wordW t w bad j) = true ∧ numV (wordW t w bad j) = w + j := by
  unfold wordW
  rw [if_neg hb, if_neg (by omega), itoa_add]
  exact ⟨numB_dec (dec_len6 (by omega)), numV_dec _⟩
theorem argsW_len (t w : Nat) (bad : Int) (m : Nat) : (argsW t w bad m).length = m := by simp [argsW]
theorem argsW_at {t w : Nat} {bad : Int} {m j : Nat} (h : j < m) : (argsW t w bad m).getD j [] = wordW t w bad j := by
  rw [List.getD_eq_getElem?_getD]
  simp [argsW, h]
theorem row_no : ∀ k, (row k).1.all chB = true := by
  intro k
  by_cases h : k < 27
  · have : ∀ k < 27, (row k).1.all chB = true := by decide
    exact this k h
  · have : row k = ([], 0, 0) := by unfold row; rw [List.getD_eq_getElem?_getD, List.getElem?_eq_none (by simp [tab_len]; omega)]; rfl
    rw [this]; rfl
theorem lineW_pcs {k w m : Nat} {bad : Int} (hw : w ≤ 65535) (hm : m ≤ 8) : pcs 32 (lineW k w bad m) = (row k).1 :: argsW (row k).2.1 w bad m := by
  unfold lineW
  refine pcs_join (by simp) fun p hp => ?_
  rcases List.mem_cons.1 hp with rfl | hp
  · exact ch_no (row_no k)
  · obtain ⟨j, hj, rfl⟩ := List.mem_map.1 hp
    rw [List.mem_range] at hj
    exact ch_no (wordW_txt hw (by omega)).1
theorem tot_le {l : List (List UInt8)} {q : Nat} (h : ∀ x ∈ l, x.length ≤ q) : tot l ≤ q * l.length := by
  induction l with
  | nil => simp [tot]
  | cons x l ih =>
    have h1 := h x (by simp)
    have h2 := ih fun y hy => h y (by simp [hy])
    unfold tot at h2 ⊢
    simp only [List.map_cons, List.sum_cons, List.length_cons, Nat.mul_add, Nat.mul_one]
    omega
theorem lineW_len {k w m : Nat} {bad : Int} (hw : w ≤ 65535) (hm : m ≤ 8) : (lineW k w bad m).length ≤ 100 := by
  have h1 := join_len [32] ((row k).1 :: argsW (row k).2.1 w bad m) (by simp)
  have h2 := row_len k
  have h3 : tot (argsW (row k).2.1 w bad m) ≤ 8 * m := by
    have := tot_le (l := argsW (row k).2.1 w bad m) (q := 8) fun x hx => by
      obtain ⟨j, hj, rfl⟩ := List.mem_map.1 hx
      rw [List.mem_range] at hj
      exact (wordW_txt hw (by omega)).2.1
    rwa [argsW_len] at this
  have h4 : tot ((row k).1 :: argsW (row k).2.1 w bad m) = (row k).1.length + tot (argsW (row k).2.1 w bad m) := by simp [tot]
  simp only [List.length_cons, List.length_nil, argsW_len] at h1
  unfold lineW
  omega
theorem kindOf_row : ∀ k, 1 ≤ k → k ≤ 26 → kindOf (row k).1 = k := by
  intro k h1 h2
  have : ∀ k < 27, 1 ≤ k → kindOf (row k).1 = k := by decide +kernel
  exact this k (by omega) h1
theorem parse_line {k w m : Nat} {bad : Int} (hw : w ≤ 65535) (hm : m ≤ 8) : parseC (lineW k w bad m) = match readC ((row k).1 :: argsW (row k).2.1 w bad m) with
    | some c => (0, c)
    | none => (3, zeroC) := by
  have h := lineW_len (k := k) (bad := bad) hw hm
  unfold parseC
  rw [if_neg (by omega), lineW_pcs hw hm]
  rfl
theorem full_le (k : Nat) : full k ≤ 5 := by have := row_bounds k; show _ + _ ≤ 5; omega
/-- The command that such a line is. -/
def cmW (k w : Nat) : Cm := ⟨k, aA (row k).2.1 (argsW (row k).2.1 w (-1) (full k)) 2, bA (row k).2.1 (argsW (row k).2.1 w (-1) (full k)) 2, (((argsW (row k).2.1 w (-1) (full k)).drop (row k).2.1).map numV).getD 0 0, (((argsW (row k).2.1 w (-1) (full k)).drop (row k).2.1).map numV).getD 1 0, (((argsW (row k).2.1 w (-1) (full k)).drop (row k).2.1).map numV).getD 2 0⟩
theorem parse_full {k w : Nat} (h1 : 1 ≤ k) (h2 : k ≤ 26) (hw : w ≤ 65535) : parseC (lineW k w (-1) (full k)) = (0, cmW k w) := by
  have hf := full_le k
  have hfd : full k = (row k).2.1 + (row k).2.2 := rfl
  have hr := row_bounds k
  rw [parse_line hw (by omega)]
  have := readC_good (ws := (row k).1 :: argsW (row k).2.1 w (-1) (full k)) (k := k) (by simpa using kindOf_row k h1 h2) (by omega) (by simp only [List.length_cons, argsW_len]; omega) fun x hx => by
    have hx' : x < full k := hx
    simp only [List.drop_succ_cons, List.drop_zero]
    rw [argsW_at hx']
    split
    · exact wordW_txtB hw (by omega)
    · exact (wordW_num hw (by omega) (by omega) (by omega)).1
  rw [this]
  rfl
theorem parse_other {k w m : Nat} (h1 : 1 ≤ k) (h2 : k ≤ 26) (hw : w ≤ 65535) (hm : m ≤ 8) (hn : m ≠ full k) : parseC (lineW k w (-1) m) = (3, zeroC) := by
  rw [parse_line hw hm, readC_len (k := k) (by simpa using kindOf_row k h1 h2) (by simp only [List.length_cons, argsW_len]; intro e; exact hn (by show m = _ + _; omega))]
theorem parse_bad {k w j : Nat} (h1 : 1 ≤ k) (h2 : k ≤ 26) (hw : w ≤ 65535) (hj : j < full k) : (parseC (lineW k w (j : Int) (full k))).1 = if j < (row k).2.1 then 0 else 3 := by
  have hf := full_le k
  have hfd : full k = (row k).2.1 + (row k).2.2 := rfl
  have hr := row_bounds k
  rw [parse_line hw (by omega)]
  by_cases ht : j < (row k).2.1
  · rw [if_pos ht]
    have := readC_good (ws := (row k).1 :: argsW (row k).2.1 w (j : Int) (full k)) (k := k) (by simpa using kindOf_row k h1 h2) (by omega) (by simp only [List.length_cons, argsW_len]; omega) fun x hx => by
      have hx' : x < full k := hx
      simp only [List.drop_succ_cons, List.drop_zero]
      rw [argsW_at hx']
      split
      · exact wordW_txtB hw (by omega)
      · exact (wordW_num hw (by omega) (by omega) (by omega)).1
    rw [this]
  · rw [if_neg ht, readC_bad (k := k) (by simpa using kindOf_row k h1 h2) (by simp only [List.length_cons, argsW_len]; omega) (x := j) hj]
    simp only [List.drop_succ_cons, List.drop_zero]
    rw [argsW_at hj, if_neg ht]
    unfold wordW
    rw [if_pos rfl]
    decide
def rcW (k w : Nat) : Rc := ⟨((cmW k w).kind : Int), (cmW k w).a, (cmW k w).b, ((cmW k w).n : Int), ((cmW k w).m : Int), ((cmW k w).k : Int)⟩
theorem take_getD {α : Type} [Inhabited α] (d : α) (l : List α) : ∀ n, n ≤ l.length → l.take n = (List.range n).map fun i => l.getD i d := by
  intro n hn
  apply List.ext_getElem
  · simp; omega
  · intro i h1 h2
    simp at h1 h2 ⊢
    rw [List.getElem?_eq_getElem (by omega)]; rfl
theorem line_rcW {k w : Nat} (h1 : 1 ≤ k) (h2 : k ≤ 26) (hw : w ≤ 65535) : lineT (rcW k w) = lineW k w (-1) (full k) := by
  have hr := row_bounds k
  have hf := full_le k
  have hfd : full k = (row k).2.1 + (row k).2.2 := rfl
  have hk : (rcW k w).kind.toNat = k := by simp [rcW, cmW]
  unfold lineT lineW wordsT numsT
  rw [hk, List.cons_append]
  congr 2
  have hA : ∀ j, j < full k → (argsW (row k).2.1 w (-1) (full k)).getD j [] = wordW (row k).2.1 w (-1) j := fun j hj => argsW_at hj
  have hN : ∀ q, q < (row k).2.2 → (((argsW (row k).2.1 w (-1) (full k)).drop (row k).2.1).map numV).getD q 0 = w + ((row k).2.1 + q) := fun q hq => by
    have hq' : (row k).2.1 + q < full k := by show _ < _ + _; omega
    have e : (((argsW (row k).2.1 w (-1) (full k)).drop (row k).2.1).map numV).getD q 0 = numV ((argsW (row k).2.1 w (-1) (full k)).getD ((row k).2.1 + q) []) := by
      rw [List.getD_eq_getElem?_getD, List.getD_eq_getElem?_getD, List.getElem?_map, List.getElem?_drop, List.getElem?_eq_getElem (by rw [argsW_len]; exact hq')]
      rfl
    rw [e, hA _ hq']
    exact (wordW_num hw (by omega) (by omega) (by omega)).2
  have eA : ([(rcW k w).a, (rcW k w).b].take (row k).2.1) = (List.range (row k).2.1).map fun j => wordW (row k).2.1 w (-1) j := by
    rw [take_getD [] _ _ (by simp; omega)]
    refine List.map_congr_left fun j hj => ?_
    rw [List.mem_range] at hj
    have hj' : j < full k := by show _ < _ + _; omega
    rw [← hA j hj']
    match j, hj with
    | 0, hj => simp [rcW, cmW, aA, hj]
    | 1, hj => simp [rcW, cmW, bA, hj]
    | j + 2, hj => omega
  have eN : ([(rcW k w).n, (rcW k w).m, (rcW k w).k].take (row k).2.2).map Lib.itoa = (List.range (row k).2.2).map fun q => wordW (row k).2.1 w (-1) ((row k).2.1 + q) := by
    rw [take_getD 0 _ _ (by simp; omega), List.map_map]
    refine List.map_congr_left fun q hq => ?_
    rw [List.mem_range] at hq
    have e := hN q hq
    have e2 : wordW (row k).2.1 w (-1) ((row k).2.1 + q) = Lib.itoa ((w + ((row k).2.1 + q) : Nat) : Int) := by
      unfold wordW
      rw [if_neg (by omega), if_neg (by omega)]
      congr 1
    rw [e2, ← e]
    match q, hq with
    | 0, hq => rfl
    | 1, hq => rfl
    | 2, hq => rfl
    | q + 3, hq => omega
  rw [eA, eN]
  unfold argsW
  rw [hfd]
  apply List.ext_getElem
  · simp
  · intro i i1 i2
    simp at i1 i2 ⊢
    rw [List.getElem_append]
    split
    · simp
    · rename_i h
      simp at h ⊢
      congr 1; omega
theorem ok_rcW {k w : Nat} (h1 : 1 ≤ k) (h2 : k ≤ 26) (hw : w ≤ 65535) : okT (rcW k w) := by
  refine ⟨by simp [rcW, cmW]; omega, ?_, ?_⟩
  · rw [line_rcW h1 h2 hw, parse_full h1 h2 hw]
  · rw [line_rcW h1 h2 hw, parse_full h1 h2 hw]
    exact ⟨rfl, rfl, rfl, rfl, rfl, rfl⟩
end Go.Proofs.YthobgplifgghjaaGreatDoor.CNumb
set_option linter.unusedVariables false
set_option linter.unusedSimpArgs false
set_option maxRecDepth 10000
set_option maxHeartbeats 4000000
namespace Go.Proofs.YthobgplifgghjaaGreatDoor.CNumb
open Go Go.RowKit Go.Proofs.YthobgplifgghjaaGreatDoor Go.Proofs.YthobgplifgghjaaGreatDoor.Abs Go.Proofs.YthobgplifgghjaaGreatDoor.Ic Go.Proofs.YthobgplifgghjaaGreatDoor.EAs Go.Proofs.YthobgplifgghjaaGreatDoor.EErr Go.Proofs.YthobgplifgghjaaGreatDoor.CSpec Go.Proofs.YthobgplifgghjaaGreatDoor.LPcs Go.Proofs.YthobgplifgghjaaGreatDoor.LLib Go.Proofs.YthobgplifgghjaaGreatDoor.St
/-- What the closure sees. -/
structure LwH (H : AH) (k w b7 b9 b8 b5 q1 q2 : Nat) : Prop where
  h7 : H.at_ b7 = some (.cells false 38 [.slice q1 0 26 1])
  h9 : H.at_ b9 = some (.cells false 3 [.int .i64 ((k - 1 : Nat) : Int)])
  h8 : H.at_ b8 = some (.cells false 38 [.slice q2 0 26 1])
  h5 : H.at_ b5 = some (.cells false 3 [.int .i64 (w : Int)])
  o1 : OwnT H q1 names
  o2 : OwnT H q2 forms
theorem LwH.keeps {H H1 : AH} {k w b7 b9 b8 b5 q1 q2 : Nat} (hk : H.keepsAll H1) (h : LwH H k w b7 b9 b8 b5 q1 q2) : LwH H1 k w b7 b9 b8 b5 q1 q2 :=
  ⟨hk _ _ h.h7, hk _ _ h.h9, hk _ _ h.h8, hk _ _ h.h5, hk _ _ h.o1, hk _ _ h.o2⟩
theorem argsW_succ (t w : Nat) (bad : Int) (m : Nat) : argsW t w bad (m + 1) = argsW t w bad m ++ [wordW t w bad m] := by simp [argsW, List.range_succ]
theorem lineW_zero (k w : Nat) (bad : Int) : lineW k w bad 0 = (row k).1 := by simp [lineW, argsW, joinW]
theorem lineW_succ (k w : Nat) (bad : Int) (m : Nat) : lineW k w bad (m + 1) = lineW k w bad m ++ (32 :: wordW (row k).2.1 w bad m) := by
  unfold lineW
  rw [argsW_succ, ← List.cons_append, joinW_snoc _ _ _ (by simp)]
  rfl
def LwI (k w : Nat) (bad : Int) (m b9 b8 b5 : Nat) (H : AH) (kk : Nat) (tm : Tms) (H' : AH) : Prop := H' = H ∧ ∃ j : Nat, kk = m - j ∧ j ≤ m ∧ tm 0 = .int .i64 (m : Int) ∧ tm 1 = .int .i64 bad ∧ tm 3 = .ptr b9 0 ∧ tm 4 = .ptr b8 0 ∧ tm 5 = .ptr b5 0 ∧
  tm 9 = .str (lineW k w bad j) ∧ tm 10 = .int .i64 (j : Int)
theorem itoa_len7 {n : Nat} (h : n < 1000000) : (Lib.itoa (n : Int)).length ≤ 6 := by rw [itoa_nat]; exact dec_len6 h
theorem LineW {k w m b7 b9 b8 b5 q1 q2 : Nat} {bad : Int} {H : AH} (h : LwH H k w b7 b9 b8 b5 q1 q2) (h0 : 0 < k) (hk : k ≤ 26) (hw : w ≤ 65535) (hm : m ≤ 8) :
    ACall Tryz.prog 12 [.int .i64 (m : Int), .int .i64 bad, .ptr b7 0, .ptr b9 0, .ptr b8 0, .ptr b5 0] H (fun v H' => v = .str (lineW k w bad m) ∧ H' = H) := by
  refine acall_enter fits12 (by simp) (by simp) fun hok => ?_
  obtain ⟨h7, h9, h8, h5, o1, o2⟩ := h
  obtain ⟨h1, hr1⟩ := names_sl o1 h0 hk
  have h2 : H.at_ q2 = some (.cells false 9 (forms.map AV.str)) := o2
  have hr2 := forms_at h0 hk
  have hkI : ((k - 1 : Nat) : Int) < 26 := by omega
  have hk1 : k - 1 < 26 := by omega
  simp (disch := first | omega | (simp; done) | assumption) [wr64, wrU8, wrU64, Nat.add_assoc, -getElem?_pos, List.getElem?_cons_zero, List.getElem?_cons_succ, ic12, rs12, h7, h9, h1, hr1, hkI, hk1]
  refine iwp_loop (LwI k w bad m b9 b8 b5 H) m ⟨rfl, 0, rfl, by omega, by simp, by simp, by simp, by simp, by simp, by simp [lineW_zero], by simp⟩ ?_
  rintro kk tm H ⟨rfl, j, rfl, hj, t0, t1, t3, t4, t5, t9, t10⟩
  have hrb := row_bounds k
  have hll := lineW_len (k := k) (w := w) (m := j) (bad := bad) hw (by omega)
  have hls := lineW_succ k w bad j
  by_cases hlt : j < m
  · have hlt' : (j : Int) < (m : Int) := by omega
    have fin : ∀ (s : List UInt8), s = wordW (row k).2.1 w bad j → lineW k w bad j ++ (32 :: s) = lineW k w bad (j + 1) := fun s hs => by rw [hls, hs]
    generalize lineW k w bad j = L at *
    by_cases hb : (j : Int) = bad
    · subst hb
      have hs : ([120, 49] : List UInt8) = wordW (row k).2.1 w (j : Int) j := by unfold wordW; rw [if_pos rfl]
      have hf := fin _ hs
      simp (disch := first | omega | (simp; done) | assumption) [wr64, wrU8, wrU64, Nat.add_assoc, -getElem?_pos, List.getElem?_cons_zero, List.getElem?_cons_succ, t0, t1, t3, t4, t5, t9, t10, hlt, hlt']
      refine Try.guard (by omega) ?_
      simp (disch := first | omega | (simp; done) | assumption) [wr64, wrU8, wrU64, Nat.add_assoc, -getElem?_pos, List.getElem?_cons_zero, List.getElem?_cons_succ, t0, t1, t3, t4, t5, t9, t10]
      exact ⟨m - (j + 1), by omega, rfl, j + 1, rfl, by omega, by simp [t0], by simp [t1], by simp [t3], by simp [t4], by simp [t5], by simp [hf], by simp⟩
    by_cases ht : j < (row k).2.1
    · have hjl : j < (form k).length := by rw [form_len]; omega
      have hjl' : (j : Int) < ((form k).length : Int) := by omega
      have hfa := form_at k j (by omega)
      rw [if_pos ht] at hfa
      have hc : ((UInt8.ofNat (65 + j)).toNat : Int) = 65 + (j : Int) := by rw [UInt8.toNat_ofNat']; omega
      have hn110 : ¬ (((UInt8.ofNat (65 + j)).toNat : Int) = 110) := by omega
      generalize UInt8.ofNat (65 + j) = c at *
      have hs : (47 :: 119 :: Lib.itoa (j : Int) : List UInt8) = wordW (row k).2.1 w bad j := by unfold wordW; rw [if_neg hb, if_pos ht]
      have hf := fin _ hs
      have hil := itoa_len7 (n := j) (by omega)
      simp (disch := first | omega | (simp; done) | assumption) [wr64, wrU8, wrU64, Nat.add_assoc, -getElem?_pos, List.getElem?_cons_zero, List.getElem?_cons_succ, t0, t1, t3, t4, t5, t9, t10, hlt, hlt', hb, h8, h9, h2, hr2, hkI, hk1, hjl, hjl', hfa, hn110]
      refine Try.guard (by omega) ?_
      simp (disch := first | omega | (simp; done) | assumption) [wr64, wrU8, wrU64, Nat.add_assoc, -getElem?_pos, List.getElem?_cons_zero, List.getElem?_cons_succ, t0, t1, t3, t4, t5, t9, t10]
      refine CallW.val (CNum.Num (j : Int) (by omega) (by omega) _) ?_
      simp (disch := first | omega | (simp; done) | assumption) [wr64, wrU8, wrU64, Nat.add_assoc, -getElem?_pos, List.getElem?_cons_zero, List.getElem?_cons_succ, t0, t1, t3, t4, t5, t9, t10]
      refine Try.guard (by first | omega | (simp; omega)) ?_
      simp (disch := first | omega | (simp; done) | assumption) [wr64, wrU8, wrU64, Nat.add_assoc, -getElem?_pos, List.getElem?_cons_zero, List.getElem?_cons_succ, t0, t1, t3, t4, t5, t9, t10]
      exact ⟨m - (j + 1), by omega, rfl, j + 1, rfl, by omega, by simp [t0], by simp [t1], by simp [t3], by simp [t4], by simp [t5], by simpa using hf, by simp⟩
    · have hs : Lib.itoa ((w : Int) + (j : Int)) = wordW (row k).2.1 w bad j := by unfold wordW; rw [if_neg hb, if_neg ht]
      have hf := fin _ hs
      have hil : (Lib.itoa ((w : Int) + (j : Int))).length ≤ 6 := itoa_len7 (n := w + j) (by omega)
      by_cases hjf : j < (form k).length
      · have hjl' : (j : Int) < ((form k).length : Int) := by omega
        have hfa := form_at k j (by rw [form_len] at hjf; exact hjf)
        rw [if_neg ht] at hfa
        simp (disch := first | omega | (simp; done) | assumption) [wr64, wrU8, wrU64, Nat.add_assoc, -getElem?_pos, List.getElem?_cons_zero, List.getElem?_cons_succ, t0, t1, t3, t4, t5, t9, t10, hlt, hlt', hb, h8, h9, h5, h2, hr2, hkI, hk1, hjf, hjl', hfa]
        refine Try.guard (by omega) ?_
        simp (disch := first | omega | (simp; done) | assumption) [wr64, wrU8, wrU64, Nat.add_assoc, -getElem?_pos, List.getElem?_cons_zero, List.getElem?_cons_succ, t0, t1, t3, t4, t5, t9, t10, h5]
        refine CallW.val (CNum.Num ((w : Int) + (j : Int)) (by omega) (by omega) _) ?_
        simp (disch := first | omega | (simp; done) | assumption) [wr64, wrU8, wrU64, Nat.add_assoc, -getElem?_pos, List.getElem?_cons_zero, List.getElem?_cons_succ, t0, t1, t3, t4, t5, t9, t10]
        refine Try.guard (by first | omega | (simp; omega)) ?_
        simp (disch := first | omega | (simp; done) | assumption) [wr64, wrU8, wrU64, Nat.add_assoc, -getElem?_pos, List.getElem?_cons_zero, List.getElem?_cons_succ, t0, t1, t3, t4, t5, t9, t10]
        exact ⟨m - (j + 1), by omega, rfl, j + 1, rfl, by omega, by simp [t0], by simp [t1], by simp [t3], by simp [t4], by simp [t5], by simpa using hf, by simp⟩
      · have hjl' : ¬ (j : Int) < ((form k).length : Int) := by omega
        simp (disch := first | omega | (simp; done) | assumption) [wr64, wrU8, wrU64, Nat.add_assoc, -getElem?_pos, List.getElem?_cons_zero, List.getElem?_cons_succ, t0, t1, t3, t4, t5, t9, t10, hlt, hlt', hb, h8, h9, h5, h2, hr2, hkI, hk1, hjf, hjl']
        refine Try.guard (by omega) ?_
        simp (disch := first | omega | (simp; done) | assumption) [wr64, wrU8, wrU64, Nat.add_assoc, -getElem?_pos, List.getElem?_cons_zero, List.getElem?_cons_succ, t0, t1, t3, t4, t5, t9, t10, h5]
        refine CallW.val (CNum.Num ((w : Int) + (j : Int)) (by omega) (by omega) _) ?_
        simp (disch := first | omega | (simp; done) | assumption) [wr64, wrU8, wrU64, Nat.add_assoc, -getElem?_pos, List.getElem?_cons_zero, List.getElem?_cons_succ, t0, t1, t3, t4, t5, t9, t10]
        refine Try.guard (by first | omega | (simp; omega)) ?_
        simp (disch := first | omega | (simp; done) | assumption) [wr64, wrU8, wrU64, Nat.add_assoc, -getElem?_pos, List.getElem?_cons_zero, List.getElem?_cons_succ, t0, t1, t3, t4, t5, t9, t10]
        exact ⟨m - (j + 1), by omega, rfl, j + 1, rfl, by omega, by simp [t0], by simp [t1], by simp [t3], by simp [t4], by simp [t5], by simpa using hf, by simp⟩
  · have hlt' : ¬ (j : Int) < (m : Int) := by omega
    obtain rfl : j = m := by omega
    simp (disch := first | omega | (simp; done) | assumption) [wr64, wrU8, wrU64, Nat.add_assoc, -getElem?_pos, List.getElem?_cons_zero, List.getElem?_cons_succ, t0, t1, t3, t4, t5, t9, t10, hlt, hlt']
    exact AH.keepsAll_refl _
end Go.Proofs.YthobgplifgghjaaGreatDoor.CNumb
set_option linter.unusedVariables false
set_option linter.unusedSimpArgs false
set_option maxRecDepth 10000
set_option maxHeartbeats 4000000
namespace Go.Proofs.YthobgplifgghjaaGreatDoor.CNumb
open Go Go.RowKit Go.Proofs.YthobgplifgghjaaGreatDoor Go.Proofs.YthobgplifgghjaaGreatDoor.Abs Go.Proofs.YthobgplifgghjaaGreatDoor.Ic Go.Proofs.YthobgplifgghjaaGreatDoor.EAs Go.Proofs.YthobgplifgghjaaGreatDoor.EErr Go.Proofs.YthobgplifgghjaaGreatDoor.CSpec Go.Proofs.YthobgplifgghjaaGreatDoor.LPcs Go.Proofs.YthobgplifgghjaaGreatDoor.LLib Go.Proofs.YthobgplifgghjaaGreatDoor.St
abbrev WC : ICode := ic5
abbrev WQ (H : AH) : IPost := fnPost rs5 fun v H' => v = .bool true ∧ H.keepsAll H'
def WS (k w : Nat) (n : Int) (H : AH) (tm : Tms) (H' : AH) : Prop := H.keepsAll H' ∧ H.next ≤ H'.next ∧ ∃ b7 b9 b8 b5 q1 q2, LwH H' k w b7 b9 b8 b5 q1 q2 ∧ tm 1 = .int .i64 n ∧ tm 8 = .ptr b8 0 ∧ tm 9 = .ptr b9 0 ∧
  tm 10 = .func (.func 12) [] [.ptr b7 0, .ptr b9 0, .ptr b8 0, .ptr b5 0] ∧ tm 11 = .int .i64 (full k : Int)
theorem W1 {C : ICode} (hC : C = WC) {a n w0 : Int} {H : AH} (hok : H.ok)
    (h : ∀ k w tm H', 0 < k → k ≤ 26 → w ≤ 65535 → WS k w n H tm H' → IWP Tryz.prog (part_ [1, 1, 1, 1, 1, 1, 1] C) (WQ H) tm H') : IWP Tryz.prog C (WQ H) (tm0 [.int .i64 a, .int .i64 n, .int .i64 w0]) H := by
  obtain ⟨i, hi, hi26⟩ := mask_mod a 26 (by omega)
  obtain ⟨w, hw, hw16⟩ := mask_small 16 (by omega) w0
  have hw' : bits .and .i64 w0 65535 = (w : Int) := by rw [show ((2 ^ 16 - 1 : Nat) : Int) = 65535 from by decide] at hw; exact hw
  have hi' : (bits .and .i64 a 255).tmod 26 = (i : Int) := hi
  have hX := h (i + 1) w
  clear hw hi
  have hcut : C = (.seq (part_ [0] WC) (.seq (part_ [1, 0] WC) (.seq (part_ [1, 1, 0] WC) (.seq (part_ [1, 1, 1, 0] WC) (.seq (part_ [1, 1, 1, 1, 0] WC) (.seq (part_ [1, 1, 1, 1, 1, 0] WC) (.seq (part_ [1, 1, 1, 1, 1, 1, 0] WC) (part_ [1, 1, 1, 1, 1, 1, 1] WC)))))))) := by rw [hC]; kernel_rfl
  rw [show part_ [1, 1, 1, 1, 1, 1, 1] C = part_ [1, 1, 1, 1, 1, 1, 1] WC by rw [hC]] at hX
  rw [hcut]
  clear hcut hC h
  generalize part_ [1, 1, 1, 1, 1, 1, 1] WC = X at *
  have hlI : (i : Int) < 26 := by omega
  have hfl : (form (i + 1)).length = full (i + 1) := form_len (i + 1)
  have hfa : (forms.map AV.str)[i]? = some (.str (form (i + 1))) := forms_at (k := i + 1) (by omega) (by omega)
  have hF : forms.map AV.str = [.str [65], .str [65], .str [65], .str [65, 66], .str [65, 110, 110], .str [65], .str [65], .str [65], .str [65, 110], .str [110, 110], .str [110, 110, 110], .str [110, 110], .str [110, 110], .str [110], .str [65, 66, 110, 110], .str [], .str [], .str [65], .str [65], .str [110], .str [], .str [], .str [], .str [110], .str [], .str []] := by rfl
  have hN : names.map AV.str = [.str [109, 97, 107, 101], .str [109, 107, 100, 105, 114], .str [114, 101, 109, 111, 118, 101], .str [114, 101, 110, 97, 109, 101], .str [112, 117, 116], .str [103, 101, 116], .str [108, 105, 115, 116], .str [115, 116, 97, 116], .str [111, 112, 101, 110], .str [114, 101, 97, 100], .str [119, 114, 105, 116, 101], .str [115, 101, 101, 107], .str [99, 117, 116], .str [99, 108, 111, 115, 101], .str [97, 100, 100], .str [98, 111, 111, 116], .str [98, 108, 101, 115, 115], .str [98, 97, 100], .str [100, 114, 111, 112], .str [99, 111, 108, 108, 101, 99, 116], .str [116, 114, 101, 101], .str [114, 111, 111, 109], .str [97, 117, 100, 105, 116], .str [102, 117, 115, 101], .str [112, 111, 119, 101, 114], .str [99, 104, 101, 99, 107]] := by rfl
  rw [hF] at hfa
  simp (disch := first | omega | (simp; done) | assumption) [wr64, wrU8, wrU64, Nat.add_assoc, -getElem?_pos, List.getElem?_cons_zero, List.getElem?_cons_succ, part_, WC, ic5, hi', hw', hlI, hi26, Fn.notYield]
  refine Try.intro hfa ?_
  simp (disch := first | omega | (simp; done) | assumption) [wr64, wrU8, wrU64, Nat.add_assoc, -getElem?_pos, List.getElem?_cons_zero, List.getElem?_cons_succ, hfl]
  refine hX _ _ (by omega) (by omega) (by omega) ⟨?_, by simp; omega, H.next + 2, H.next + 5, H.next + 4, H.next, H.next + 1, H.next + 3, ⟨by simp, by simp, by simp, by simp, ?_, ?_⟩, by simp, by simp, by simp, by simp, by simp [full]⟩
  · ((repeat (first | exact AH.keepsAll_refl _ | refine keeps_set hok ?_ (by first | omega | (simp; done) | (simp; omega)) | refine keeps_new hok ?_ (by first | omega | (simp; done) | (simp; omega)))); done)
  · simp [OwnT, hN]
  · simp [OwnT, hF]
theorem chain_of {H : AH} {e : AV} {n : Int} (h : ErrP H e n) (hn : n ≠ 0) : ∃ q l r, e = .iface 53 (.ptr q 0) ∧ Chain H e l r ∧ isV e l r cmdB [] n = true := by
  obtain ⟨l, r, h1, h2⟩ := err_chain h
  unfold ErrP at h
  rw [if_neg hn] at h
  obtain ⟨g, _, _, he, _⟩ := h
  exact ⟨g.b, l, r, he, h1, h2⟩
def WM (k w : Nat) (n : Int) (m : Nat) (H : AH) (tm : Tms) (H' : AH) : Prop := WS k w n H tm H'
theorem WS.next {k w : Nat} {n : Int} {H H1 H2 : AH} {tm tm' : Tms} (h : WS k w n H tm H1) (hk : H1.keepsAll H2) (hn : H1.next ≤ H2.next) (e1 : tm' 1 = tm 1) (e8 : tm' 8 = tm 8) (e9 : tm' 9 = tm 9) (e10 : tm' 10 = tm 10) (e11 : tm' 11 = tm 11) : WS k w n H tm' H2 := by
  obtain ⟨h1, h2, b7, b9, b8, b5, q1, q2, hL, t1, t8, t9, t10, t11⟩ := h
  exact ⟨fun x o hx => hk x o (h1 x o hx), by omega, b7, b9, b8, b5, q1, q2, hL.keeps hk, by rw [e1, t1], by rw [e8, t8], by rw [e9, t9], by rw [e10, t10], by rw [e11, t11]⟩
theorem W2 {C : ICode} (hC : C = WC) {k w : Nat} {n : Int} {H H1 : AH} {tm : Tms} (hok : H.ok) (hG : CLaid.Ok H) (h0 : 0 < k) (hk : k ≤ 26) (hw : w ≤ 65535) (hS : WS k w n H tm H1)
    (h : ∀ tm H', WS k w n H tm H' → IWP Tryz.prog (part_ [1, 1, 1, 1, 1, 1, 1, 1, 1, 1] C) (WQ H) tm H') : IWP Tryz.prog (part_ [1, 1, 1, 1, 1, 1, 1] C) (WQ H) tm H1 := by
  have hf := full_le k
  have hcut : part_ [1, 1, 1, 1, 1, 1, 1] C = (.seq (part_ [1, 1, 1, 1, 1, 1, 1, 0] WC) (.seq (part_ [1, 1, 1, 1, 1, 1, 1, 1, 0] WC) (.seq (part_ [1, 1, 1, 1, 1, 1, 1, 1, 1, 0] WC) (part_ [1, 1, 1, 1, 1, 1, 1, 1, 1, 1] WC)))) := by rw [hC]; kernel_rfl
  have hX := h
  rw [show part_ [1, 1, 1, 1, 1, 1, 1, 1, 1, 1] C = part_ [1, 1, 1, 1, 1, 1, 1, 1, 1, 1] WC by rw [hC]] at hX
  rw [hcut]
  clear hcut hC h
  generalize part_ [1, 1, 1, 1, 1, 1, 1, 1, 1, 1] WC = X at *
  obtain ⟨hk1, hn1, b7, b9, b8, b5, q1, q2, hL, t1, t8, t9, t10, t11⟩ := id hS
  have hT : ∀ H, CLaid.Ok H → ACall Tryz.prog 10 [.agg (rawL (rcW k w))] H (fun v H' => H.keepsAll H' ∧ H.next ≤ H'.next ∧ v = .tuple [.str (lineW k w (-1) (full k)), .nilIface]) := fun H hG => by
    refine (Text (rcW k w) H hG ?_ ?_ ?_).mono ?_
    · have := (parse_len (s := lineW k w (-1) (full k)) (by rw [parse_full h0 hk hw])).1
      rw [parse_full h0 hk hw] at this
      exact Nat.le_trans this (by omega)
    · have := (parse_len (s := lineW k w (-1) (full k)) (by rw [parse_full h0 hk hw])).2
      rw [parse_full h0 hk hw] at this
      exact Nat.le_trans this (by omega)
    · have hnum : ∀ q, numV ((argsW (row k).2.1 w (-1) (full k)).getD q []) < 1000000 := fun q => by
        by_cases hq : q < full k
        · rw [argsW_at hq]
          by_cases ht : q < (row k).2.1
          · unfold wordW
            rw [if_neg (by omega), if_pos ht, itoa_nat, dec_small (by have := row_bounds k; omega)]
            have := row_bounds k
            have hq3 : q = 0 ∨ q = 1 := by omega
            rcases hq3 with rfl | rfl <;> decide
          · have := (wordW_num (t := (row k).2.1) (bad := -1) hw (by omega : q < 8) (by omega) (by omega)).2
            omega
        · rw [List.getD_eq_getElem?_getD, List.getElem?_eq_none (by rw [argsW_len]; omega)]
          decide
      have hn2 : ∀ q, (((argsW (row k).2.1 w (-1) (full k)).drop (row k).2.1).map numV).getD q 0 < 1000000 := fun q => by
        have h := hnum ((row k).2.1 + q)
        rw [List.getD_eq_getElem?_getD] at h ⊢
        rw [List.getElem?_map, List.getElem?_drop]
        cases hx : (argsW (row k).2.1 w (-1) (full k))[(row k).2.1 + q]? with
        | none => simp
        | some y => rw [hx] at h; exact h
      intro x hx
      have a0 := hn2 0
      have a1 := hn2 1
      have a2 := hn2 2
      simp only [List.mem_cons, List.not_mem_nil, or_false] at hx
      rcases hx with rfl | rfl | rfl
      · show _ ≤ ((_ : Nat) : Int) ∧ ((_ : Nat) : Int) ≤ _; exact ⟨by omega, by show (((((argsW (row k).2.1 w (-1) (full k)).drop (row k).2.1).map numV).getD 0 0 : Nat) : Int) ≤ _; omega⟩
      · show _ ≤ ((_ : Nat) : Int) ∧ ((_ : Nat) : Int) ≤ _; exact ⟨by omega, by show (((((argsW (row k).2.1 w (-1) (full k)).drop (row k).2.1).map numV).getD 1 0 : Nat) : Int) ≤ _; omega⟩
      · show _ ≤ ((_ : Nat) : Int) ∧ ((_ : Nat) : Int) ≤ _; exact ⟨by omega, by show (((((argsW (row k).2.1 w (-1) (full k)).drop (row k).2.1).map numV).getD 2 0 : Nat) : Int) ≤ _; omega⟩
    · rintro v H' ⟨k1, n1, e, rfl, he⟩
      rw [if_pos (ok_rcW h0 hk hw)] at he ⊢
      have he' : e = .nilIface := he
      subst he'
      rw [line_rcW h0 hk hw]
      exact ⟨k1, n1, rfl⟩
  have hp := parse_full (w := w) h0 hk hw
  have hcm : (cmW k w).kind = k := rfl
  have hraw : rawL (rcW k w) = cmL (cmW k w).kind (cmW k w).a (cmW k w).b (cmW k w).n (cmW k w).m (cmW k w).k := rfl
  rw [hraw] at hT
  clear hraw
  have hLW := fun H (hL : LwH H k w b7 b9 b8 b5 q1 q2) => LineW (bad := -1) hL h0 hk hw (m := full k) (by omega)
  have hPR := fun H (hG : CLaid.Ok H) => Parse (lineW k w (-1) (full k)) H hG
  generalize lineW k w (-1) (full k) = Ln at *
  simp (disch := first | omega | (simp; done) | assumption) [wr64, wrU8, wrU64, Nat.add_assoc, -getElem?_pos, List.getElem?_cons_zero, List.getElem?_cons_succ, part_, WC, ic5, t8, t9, t10, t11]
  refine CallW.val (hLW _ hL) ?_
  simp (disch := first | omega | (simp; done) | assumption) [wr64, wrU8, wrU64, Nat.add_assoc, -getElem?_pos, List.getElem?_cons_zero, List.getElem?_cons_succ, t8, t9, t10, t11]
  refine CallW.ofk (hPR _ (hG.keeps hk1)) ?_
  rintro v2 H2 ⟨hk2, hn2, e2, rfl, he2⟩ hok2
  try simp only [newO_none, newO_some] at hk2 hn2
  rw [hp] at he2 ⊢
  have he2' : e2 = .nilIface := he2
  subst he2'
  clear he2 hPR hp
  generalize cmW k w = cm at *
  subst hcm
  have hk02 : H.keepsAll H2 := fun x o hx => hk2 x o (hk1 x o hx)
  have hL2 := hL.keeps hk2
  have hkz : H2.keepsAll ((H2.new (.cells false tC [.int .i64 0, .str [], .str [], .int .i64 0, .int .i64 0, .int .i64 0])).set H2.next (some (.cells false tC (cmL cm.kind cm.a cm.b cm.n cm.m cm.k)))) := by
    intro x o hx
    have := hok2 _ _ hx
    rw [AH.set_ne _ _ (by omega), AH.new_ne _ _ (by omega)]
    exact hx
  simp only [cmL] at hT hkz
  simp (disch := first | omega | (simp; done) | assumption) [wr64, wrU8, wrU64, Nat.add_assoc, -getElem?_pos, List.getElem?_cons_zero, List.getElem?_cons_succ, cmA, cmL, t8, t9, t10, t11]
  refine CallW.ofk (hT _ (hG.keeps fun x o hx => hkz x o (hk02 x o hx))) ?_
  rintro v3 H3 ⟨hk3, hn3, rfl⟩ hok3
  try simp only [newO_none, newO_some] at hk3 hn3
  have hk23 : H2.keepsAll H3 := fun x o hx => hk3 x o (hkz x o hx)
  have hL3 := hL2.keeps hk23
  have hB3 := hk3 H2.next (.cells false tC [.int .i64 (cm.kind : Int), .str cm.a, .str cm.b, .int .i64 (cm.n : Int), .int .i64 (cm.m : Int), .int .i64 (cm.k : Int)]) (by simp)
  have e9 := hL3.h9
  have hkk : ((cm.kind - 1 : Nat) : Int) + 1 = (cm.kind : Int) := by omega
  simp (disch := first | omega | (simp; done) | assumption) [wr64, wrU8, wrU64, Nat.add_assoc, -getElem?_pos, List.getElem?_cons_zero, List.getElem?_cons_succ, t8, t9, t10, t11, hB3, e9, hkk]
  refine CallW.val (hLW _ hL3) ?_
  simp (disch := first | omega | (simp; done) | assumption) [wr64, wrU8, wrU64, Nat.add_assoc, -getElem?_pos, List.getElem?_cons_zero, List.getElem?_cons_succ, t8, t9, t10, t11, hB3, e9]
  refine hX _ _ (hS.next (H2 := H3) (fun x o hx => hk23 x o (hk2 x o hx)) (by simp at hn3; omega) (by simp) (by simp) (by simp) (by simp) (by simp))
theorem W3 {C : ICode} (hC : C = WC) {k w : Nat} {n : Int} {H H1 : AH} {tm : Tms} (hok : H.ok) (hG : CLaid.Ok H) (h0 : 0 < k) (hk : k ≤ 26) (hw : w ≤ 65535) (hS : WS k w n H tm H1)
    (h : ∀ tm H', WS k w n H tm H' → IWP Tryz.prog (part_ [1, 1, 1, 1, 1, 1, 1, 1, 1, 1, 1, 1, 1] C) (WQ H) tm H') : IWP Tryz.prog (part_ [1, 1, 1, 1, 1, 1, 1, 1, 1, 1] C) (WQ H) tm H1 := by
  have hf := full_le k
  have hcut : part_ [1, 1, 1, 1, 1, 1, 1, 1, 1, 1] C = (.seq (part_ [1, 1, 1, 1, 1, 1, 1, 1, 1, 1, 0] WC) (.seq (part_ [1, 1, 1, 1, 1, 1, 1, 1, 1, 1, 1, 0] WC) (.seq (part_ [1, 1, 1, 1, 1, 1, 1, 1, 1, 1, 1, 1, 0] WC) (part_ [1, 1, 1, 1, 1, 1, 1, 1, 1, 1, 1, 1, 1] WC)))) := by rw [hC]; kernel_rfl
  have hX := h
  rw [show part_ [1, 1, 1, 1, 1, 1, 1, 1, 1, 1, 1, 1, 1] C = part_ [1, 1, 1, 1, 1, 1, 1, 1, 1, 1, 1, 1, 1] WC by rw [hC]] at hX
  rw [hcut]
  clear hcut hC h
  generalize part_ [1, 1, 1, 1, 1, 1, 1, 1, 1, 1, 1, 1, 1] WC = X at *
  obtain ⟨hk1, hn1, b7, b9, b8, b5, q1, q2, hL, t1, t8, t9, t10, t11⟩ := id hS
  obtain ⟨m, hm, hm8⟩ := mask_small 3 (by omega) n
  have hm' : bits .and .i64 n 7 = (m : Int) := hm
  clear hm
  have hLW := fun H (hL : LwH H k w b7 b9 b8 b5 q1 q2) => LineW (bad := -1) hL h0 hk hw (m := m) (by omega)
  have hPR := fun H (hG : CLaid.Ok H) => Parse (lineW k w (-1) m) H hG
  have hp : (parseC (lineW k w (-1) m)).1 = if m = full k then 0 else 3 := by
    split
    · rename_i e; rw [e, parse_full h0 hk hw]
    · rename_i e; rw [parse_other h0 hk hw (by omega) e]
  generalize lineW k w (-1) m = Ln at *
  simp (disch := first | omega | (simp; done) | assumption) [wr64, wrU8, wrU64, Nat.add_assoc, -getElem?_pos, List.getElem?_cons_zero, List.getElem?_cons_succ, part_, WC, ic5, t1, t8, t9, t10, t11, hm']
  refine CallW.val (hLW _ hL) ?_
  simp (disch := first | omega | (simp; done) | assumption) [wr64, wrU8, wrU64, Nat.add_assoc, -getElem?_pos, List.getElem?_cons_zero, List.getElem?_cons_succ, t8, t9, t10, t11]
  refine CallW.ofk (hPR _ (hG.keeps hk1)) ?_
  rintro v2 H2 ⟨hk2, hn2, e2, rfl, he2⟩ hok2
  try simp only [newO_none, newO_some] at hk2 hn2
  rw [hp] at he2
  generalize (parseC Ln).2 = cm at *
  clear hPR hp hLW
  have hk02 : H.keepsAll H2 := fun x o hx => hk2 x o (hk1 x o hx)
  have hkz : H2.keepsAll ((H2.new (.cells false tC [.int .i64 0, .str [], .str [], .int .i64 0, .int .i64 0, .int .i64 0])).set H2.next (some (.cells false tC [.int .i64 (cm.kind : Int), .str cm.a, .str cm.b, .int .i64 (cm.n : Int), .int .i64 (cm.m : Int), .int .i64 (cm.k : Int)]))) := by
    intro x o hx
    have := hok2 _ _ hx
    rw [AH.set_ne _ _ (by omega), AH.new_ne _ _ (by omega)]
    exact hx
  by_cases hmf : m = full k
  · rw [if_pos hmf] at he2
    have he2' : e2 = .nilIface := he2
    subst he2'
    have hmf' : ((m : Nat) : Int) = ((full k : Nat) : Int) := by rw [hmf]
    simp (disch := first | omega | (simp; done) | assumption) [wr64, wrU8, wrU64, Nat.add_assoc, -getElem?_pos, List.getElem?_cons_zero, List.getElem?_cons_succ, cmA, cmL, t8, t9, t10, t11, hmf', hmf]
    refine hX _ _ (hS.next (H2 := _) (fun x o hx => hkz x o (hk2 x o hx)) (by simp; omega) (by simp) (by simp) (by simp) (by simp) (by simp))
  · rw [if_neg hmf] at he2
    obtain ⟨q, l, r, rfl, hch, hv⟩ := chain_of he2 (by omega)
    have hmf' : ¬ ((m : Nat) : Int) = ((full k : Nat) : Int) := by omega
    simp (disch := first | omega | (simp; done) | assumption) [wr64, wrU8, wrU64, Nat.add_assoc, -getElem?_pos, List.getElem?_cons_zero, List.getElem?_cons_succ, cmA, cmL, t8, t9, t10, t11, hmf', hmf]
    refine CallW.val (ELawIs _ _ _ (hG.keeps fun x o hx => hkz x o (hk02 x o hx)).err (hch.keeps hkz)) ?_
    rw [show ([99, 109, 100] : List UInt8) = cmdB from rfl, hv]
    simp (disch := first | omega | (simp; done) | assumption) [wr64, wrU8, wrU64, Nat.add_assoc, -getElem?_pos, List.getElem?_cons_zero, List.getElem?_cons_succ, cmA, cmL, t8, t9, t10, t11, hmf', hmf]
    refine hX _ _ (hS.next (H2 := _) (fun x o hx => hkz x o (hk2 x o hx)) (by simp; omega) (by simp) (by simp) (by simp) (by simp) (by simp))
def WlI (k w : Nat) (n : Int) (H : AH) (kk : Nat) (tm : Tms) (H' : AH) : Prop := ∃ j : Nat, kk = full k - j ∧ j ≤ full k ∧ WS k w n H tm H' ∧ tm 19 = .int .i64 (j : Int)
theorem W4 {C : ICode} (hC : C = WC) {k w : Nat} {n : Int} {H H1 : AH} {tm : Tms} (hok : H.ok) (hG : CLaid.Ok H) (h0 : 0 < k) (hk : k ≤ 26) (hw : w ≤ 65535) (hS : WS k w n H tm H1) :
    IWP Tryz.prog (part_ [1, 1, 1, 1, 1, 1, 1, 1, 1, 1, 1, 1, 1] C) (WQ H) tm H1 := by
  have hf := full_le k
  subst hC
  simp (disch := first | omega | (simp; done) | assumption) [wr64, wrU8, wrU64, Nat.add_assoc, -getElem?_pos, List.getElem?_cons_zero, List.getElem?_cons_succ, part_, WC, ic5, rs5]
  refine iwp_loop (WlI k w n H) (full k) ⟨0, rfl, by omega, hS.next (AH.keepsAll_refl _) (Nat.le_refl _) (by simp) (by simp) (by simp) (by simp) (by simp), by simp⟩ ?_
  clear hS
  rintro kk tm H1 ⟨j, rfl, hj, hS, t19⟩
  obtain ⟨hk1, hn1, b7, b9, b8, b5, q1, q2, hL, t1, t8, t9, t10, t11⟩ := id hS
  by_cases hlt : j < full k
  · have hlt' : (j : Int) < ((full k : Nat) : Int) := by omega
    have hLW := fun H (hL : LwH H k w b7 b9 b8 b5 q1 q2) => LineW (bad := (j : Int)) hL h0 hk hw (m := full k) (by omega)
    have hPR := fun H (hG : CLaid.Ok H) => Parse (lineW k w (j : Int) (full k)) H hG
    have hp := parse_bad (w := w) h0 hk hw hlt
    have hfa := form_at k j hlt
    have hfl : j < (form k).length := by rw [form_len]; exact hlt
    have hrb := row_bounds k
    have hr2 := forms_at h0 hk
    have hkI : ((k - 1 : Nat) : Int) < 26 := by omega
    have hk1' : k - 1 < 26 := by omega
    generalize lineW k w (j : Int) (full k) = Ln at *
    simp (disch := first | omega | (simp; done) | assumption) [wr64, wrU8, wrU64, Nat.add_assoc, -getElem?_pos, List.getElem?_cons_zero, List.getElem?_cons_succ, t1, t8, t9, t10, t11, t19, hlt, hlt']
    refine CallW.val (hLW _ hL) ?_
    simp (disch := first | omega | (simp; done) | assumption) [wr64, wrU8, wrU64, Nat.add_assoc, -getElem?_pos, List.getElem?_cons_zero, List.getElem?_cons_succ, t8, t9, t10, t11, t19]
    refine CallW.ofk (hPR _ (hG.keeps hk1)) ?_
    rintro v2 H2 ⟨hk2, hn2, e2, rfl, he2⟩ hok2
    try simp only [newO_none, newO_some] at hk2 hn2
    rw [hp] at he2
    generalize (parseC Ln).2 = cm at *
    clear hPR hp hLW
    obtain ⟨h7, h9, h8, h5, o1, o2⟩ := hL.keeps hk2
    have h2 : H2.at_ q2 = some (.cells false 9 (forms.map AV.str)) := o2
    have n8 : ¬ (b8 = H2.next) := by have := hok2 _ _ h8; omega
    have n9 : ¬ (b9 = H2.next) := by have := hok2 _ _ h9; omega
    have nq : ¬ (q2 = H2.next) := by have := hok2 _ _ h2; omega
    have hkz : H2.keepsAll ((H2.new (.cells false tC [.int .i64 0, .str [], .str [], .int .i64 0, .int .i64 0, .int .i64 0])).set H2.next (some (.cells false tC [.int .i64 (cm.kind : Int), .str cm.a, .str cm.b, .int .i64 (cm.n : Int), .int .i64 (cm.m : Int), .int .i64 (cm.k : Int)]))) := by
      intro x o hx
      have := hok2 _ _ hx
      rw [AH.set_ne _ _ (by omega), AH.new_ne _ _ (by omega)]
      exact hx
    by_cases ht : j < (row k).2.1
    · rw [if_pos ht] at he2 hfa
      have he2' : e2 = .nilIface := he2
      subst he2'
      have hc110 : ¬ (((UInt8.ofNat (65 + j)).toNat : Int) = 110) := by rw [UInt8.toNat_ofNat']; omega
      generalize UInt8.ofNat (65 + j) = c at *
      simp (disch := first | omega | (simp; done) | assumption) [wr64, wrU8, wrU64, Nat.add_assoc, -getElem?_pos, List.getElem?_cons_zero, List.getElem?_cons_succ, cmA, cmL, t8, t9, t10, t11, t19, h8, h9, h2, n8, n9, nq, hr2, hkI, hk1', hfa, hfl, hc110]
      exact ⟨full k - (j + 1), by omega, j + 1, rfl, by omega, hS.next (fun x o hx => hkz x o (hk2 x o hx)) (by simp; omega) (by simp) (by simp) (by simp) (by simp) (by simp), by simp⟩
    · rw [if_neg ht] at he2 hfa
      obtain ⟨q, l, r, rfl, hch, hv⟩ := chain_of he2 (by omega)
      simp (disch := first | omega | (simp; done) | assumption) [wr64, wrU8, wrU64, Nat.add_assoc, -getElem?_pos, List.getElem?_cons_zero, List.getElem?_cons_succ, cmA, cmL, t8, t9, t10, t11, t19, h8, h9, h2, n8, n9, nq, hr2, hkI, hk1', hfa, hfl]
      exact ⟨full k - (j + 1), by omega, j + 1, rfl, by omega, hS.next (fun x o hx => hkz x o (hk2 x o hx)) (by simp; omega) (by simp) (by simp) (by simp) (by simp) (by simp), by simp⟩
  · have hlt' : ¬ (j : Int) < ((full k : Nat) : Int) := by omega
    simp (disch := first | omega | (simp; done) | assumption) [wr64, wrU8, wrU64, Nat.add_assoc, -getElem?_pos, List.getElem?_cons_zero, List.getElem?_cons_succ, t1, t8, t9, t10, t11, t19, hlt, hlt']
    refine CallW.val (Awake (hG.keeps hk1)) ?_
    simp (disch := first | omega | (simp; done) | assumption) [wr64, wrU8, wrU64, Nat.add_assoc, -getElem?_pos, List.getElem?_cons_zero, List.getElem?_cons_succ, rs5]
    exact hk1
theorem WAll {C : ICode} (hC : C = WC) {a n w0 : Int} {H : AH} (hok : H.ok) (hG : CLaid.Ok H) : IWP Tryz.prog C (WQ H) (tm0 [.int .i64 a, .int .i64 n, .int .i64 w0]) H :=
  W1 hC hok fun k w tm H' h0 hk hw hS => W2 hC hok hG h0 hk hw hS fun tm H' hS => W3 hC hok hG h0 hk hw hS fun tm H' hS => W4 hC hok hG h0 hk hw hS
theorem CmdWordsC {C : ICode} (hC : C = WC) {fn : Func} (hF : Fits Tryz.prog 5 fn C rs5) (hn : 3 ≤ fn.ntmps) {a n w0 : Int} {H : AH} (hG : CLaid.Ok H) : ACall Tryz.prog 5 [.int .i64 a, .int .i64 n, .int .i64 w0] H (fun v H' => v = .bool true ∧ H' = H) :=
  acall_enter hF hn (by simp) fun hok => WAll hC hok hG
theorem CmdWords {a n w0 : Int} {H : AH} (hG : CLaid.Ok H) : ACall Tryz.prog 5 [.int .i64 a, .int .i64 n, .int .i64 w0] H (fun v H' => v = .bool true ∧ H' = H) :=
  CmdWordsC rfl fits5 (by simp) hG
theorem CmdWords.walk (a n w0 : Int) (W : World) (hsh : W.ShapedOpen Tryz.prog) (hG : CLaid.G W) (_ : (Lit.int .i64 a).wf = true) (_ : (Lit.int .i64 n).wf = true) (_ : (Lit.int .i64 w0).wf = true) :
    Calls Tryz.prog 5 #[.int .i64 a, .int .i64 n, .int .i64 w0] W fun e W' => e = .returned (.bool true) ∧ Below W.heap.size W W' :=
  CLaid.walk hsh hG (fun tabs hok => CmdWords hok) (.cons (.int _ _) (.cons (.int _ _) (.cons (.int _ _) .nil)))
end Go.Proofs.YthobgplifgghjaaGreatDoor.CNumb

/- What the document fixes of commands, and the law CmdData. -/
import Derived.Test.YtfimhkijacamoaaDoorCM4
import Derived.Test.YtfimhkijacamoaaDoorSt
set_option linter.unusedVariables false
set_option linter.unusedSimpArgs false
set_option maxRecDepth 10000
set_option maxHeartbeats 4000000
namespace Go.Proofs.YtfimhkijacamoaaDoor.CNumb
open Go Go.RowKit Go.Proofs.YtfimhkijacamoaaDoor Go.Proofs.YtfimhkijacamoaaDoor.Abs Go.Proofs.YtfimhkijacamoaaDoor.Ic Go.Proofs.YtfimhkijacamoaaDoor.EAs Go.Proofs.YtfimhkijacamoaaDoor.EErr Go.Proofs.YtfimhkijacamoaaDoor.CSpec Go.Proofs.YtfimhkijacamoaaDoor.LPcs Go.Proofs.YtfimhkijacamoaaDoor.LLib
def putB : List UInt8 := [112, 117, 116, 32, 47, 97, 32, 53, 32, 51]
def putC : Rc := ⟨5, [47, 97], [], 5, 3, 0⟩
theorem put_parse : parseC putB = (0, ⟨5, [47, 97], [], 5, 3, 0⟩) := by decide +kernel
theorem put_line : lineT putC = putB := by
  have h5 : Lib.itoa 5 = [53] := by decide +kernel
  have h3 : Lib.itoa 3 = [51] := by decide +kernel
  have h0 : Lib.itoa 0 = [48] := by decide +kernel
  unfold lineT wordsT numsT putC
  simp only [List.take]
  show joinW [32] (([112, 117, 116] : List UInt8) :: [[47, 97]] ++ [5, 3].map Lib.itoa) = _
  simp only [List.map, h5, h3]
  rfl
theorem put_ok : okT putC := by
  refine ⟨by decide, ?_, ?_⟩
  · rw [put_line, put_parse]
  · rw [put_line, put_parse]; decide
theorem Awake {H : AH} (hG : CLaid.Ok H) : ACall Tryd.prog 14 [] H (fun v H' => v = .bool true ∧ H' = H) := by
  refine acall_enter fits14 (by simp) (by simp) fun hok => ?_
  simp (disch := first | omega | (simp; done) | assumption) [wr64, wrU8, wrU64, Nat.add_assoc, -getElem?_pos, List.getElem?_cons_zero, List.getElem?_cons_succ, ic14, rs14]
  refine CallW.ofk (Parse putB _ hG) ?_
  rintro v1 H1 ⟨hk1, hn1, e, rfl, he⟩ hok1
  try simp only [newO_none, newO_some] at hk1 hn1
  rw [put_parse] at he ⊢
  have he' : e = .nilIface := he
  subst he'
  clear he
  have hk1' : H.keepsAll (H1.new (.cells false tC (cmL 5 [47, 97] [] 5 3 0))) := keeps_new hok hk1 hn1
  simp (disch := first | omega | (simp; done) | assumption) [wr64, wrU8, wrU64, Nat.add_assoc, -getElem?_pos, List.getElem?_cons_zero, List.getElem?_cons_succ, cmA, cmL]
  refine CallW.ofk (Text putC _ (hG.keeps ?_) (by decide) (by decide) (by decide)) ?_
  · ((repeat (first | exact hk1 | refine keeps_set hok ?_ (by first | omega | (simp; done) | (simp; omega)) | refine keeps_new hok ?_ (by first | omega | (simp; done) | (simp; omega)))); done)
  rintro v2 H2 ⟨hk2, hn2, e2, rfl, he2⟩ hok2
  try simp only [newO_none, newO_some] at hk2 hn2
  rw [if_pos put_ok, put_line] at *
  have he2' : e2 = .nilIface := he2
  subst he2'
  clear he2
  have hB2 := hk2 H1.next (.cells false tC (cmL 5 [47, 97] [] 5 3 0)) (by simp [cmL])
  simp only [cmL] at hB2
  have hk02 : H.keepsAll H2 := fun x o hx => by
    have := hok _ _ hx
    refine hk2 x o ?_
    rw [AH.set_ne _ _ (by omega), AH.new_ne _ _ (by omega)]
    exact hk1 x o hx
  simp (disch := first | omega | (simp; done) | assumption) [wr64, wrU8, wrU64, Nat.add_assoc, -getElem?_pos, List.getElem?_cons_zero, List.getElem?_cons_succ, putB, hB2]
  refine CallW.ofk (Data 250 3 3 (by decide) _) ?_
  rintro v3 H3 ⟨hk3, hn3, rfl, hat⟩ hok3
  try simp only [newO_none, newO_some] at hk3 hn3 hat
  have hb : b2sA H3 (.slice H2.next 0 3 1) = some (.str [250, 1, 8]) := b2s_own (l := [250, 1, 8]) (load_own hat rfl) 1
  simp (disch := first | omega | (simp; done) | assumption) [wr64, wrU8, wrU64, Nat.add_assoc, -getElem?_pos, List.getElem?_cons_zero, List.getElem?_cons_succ, putB, hB2, hb]
  exact fun x o hx => hk3 x o (hk02 x o hx)
def RdI (seed : Int) (N : Nat) (v : AV) (H : AH) (k : Nat) (tm : Tms) (H' : AH) : Prop := H.keepsAll H' ∧ H'.next = H.next + 1 ∧ ∃ i : Nat, k = N - i ∧ i ≤ N ∧ tm 0 = .int .i64 seed ∧ tm 5 = v ∧ tm 6 = .int .i64 (i : Int) ∧
  H'.at_ H.next = some (.cells false 5 ((dataL seed i).map byteV ++ List.replicate (N - i) (.int .u8 0)))
theorem RData (seed n : Int) (N : Nat) (hN : (N : Int) = min (max n 0) 5000) (H : AH) : ACall Tryd.prog 13 [.int .i64 seed, .int .i64 n] H (fun v H' => v = .str (dataL seed N) ∧ H' = H) := by
  refine acall_enter fits13 (by simp) (by simp) fun hok => ?_
  have hN' : min (max n 0) 5000 = (N : Int) := hN.symm
  have hN5 : N ≤ 5000 := by omega
  clear hN
  simp (disch := first | omega | (simp; done) | assumption) [wr64, wrU8, wrU64, Nat.add_assoc, -getElem?_pos, List.getElem?_cons_zero, List.getElem?_cons_succ, ic13, rs13, hN']
  refine Try.guard (by omega) ?_
  simp (disch := first | omega | (simp; done) | assumption) [wr64, wrU8, wrU64, Nat.add_assoc, -getElem?_pos, List.getElem?_cons_zero, List.getElem?_cons_succ, ]
  refine iwp_loop (RdI seed N (.slice H.next 0 N 1) H) N ⟨?_, by simp, 0, rfl, by omega, by simp, by simp, by simp, by simp [dataL]⟩ ?_
  · ((repeat (first | exact AH.keepsAll_refl _ | refine keeps_set hok ?_ (by first | omega | (simp; done) | (simp; omega)) | refine keeps_new hok ?_ (by first | omega | (simp; done) | (simp; omega)))); done)
  rintro k tm H1 ⟨hk, hn, i, rfl, hi, t0, t5, t6, hat⟩
  by_cases hlt : i < N
  · have hlt' : (i : Int) < (N : Int) := by omega
    have h7 : IntKind.i64.wrap (7 * (i : Int)) = 7 * (i : Int) := wr64 (by omega) (by omega)
    have h8 := wr8 (seed + 7 * (i : Int))
    have hb := dByte_toNat seed i
    have hset : ((dataL seed i).map byteV ++ List.replicate (N - i) (AV.int .u8 0)).set i (.int .u8 ((seed + 7 * (i : Int)) % 256)) = (dataL seed (i + 1)).map byteV ++ List.replicate (N - (i + 1)) (.int .u8 0) := by
      have hl : ((dataL seed i).map byteV).length = i := by simp [dataL]
      rw [List.set_append_right _ _ (by omega), hl, Nat.sub_self]
      obtain ⟨m, hm⟩ : ∃ m, N - i = m + 1 := ⟨N - i - 1, by omega⟩
      rw [hm, show N - (i + 1) = m by omega, List.replicate_succ, List.set_cons_zero]
      unfold dataL
      rw [List.range_succ]
      simp [byteV, hb]
    have hll : i + (N - i) = N := by omega
    have hdl : (dataL seed i).length = i := by simp [dataL]
    simp (disch := first | omega | (simp; done) | assumption) [wr64, wrU8, wrU64, Nat.add_assoc, -getElem?_pos, List.getElem?_cons_zero, List.getElem?_cons_succ, t0, t5, t6, hlt, hlt', h7, h8, hat, hll, hset, hdl]
    refine Try.guard (by omega) ?_
    simp (disch := first | omega | (simp; done) | assumption) [wr64, wrU8, wrU64, Nat.add_assoc, -getElem?_pos, List.getElem?_cons_zero, List.getElem?_cons_succ, t0, t5, t6]
    refine ⟨N - (i + 1), by omega, ?_, by simpa using hn, i + 1, rfl, by omega, by simp [t0], by simp [t5], by simp, by simp⟩
    ((repeat (first | exact hk | refine keeps_set hok ?_ (by first | omega | (simp; done) | (simp; omega)) | refine keeps_new hok ?_ (by first | omega | (simp; done) | (simp; omega)))); done)
  · have hlt' : ¬ (i : Int) < (N : Int) := by omega
    obtain rfl : i = N := by omega
    have hat' : H1.at_ H.next = some (.cells false 5 ((dataL seed i).map byteV)) := by simpa using hat
    have hb : b2sA H1 (.slice H.next 0 i 1) = some (.str (dataL seed i)) := b2s_own (l := dataL seed i) (load_own hat' (by simp [dataL])) 1
    simp (disch := first | omega | (simp; done) | assumption) [wr64, wrU8, wrU64, Nat.add_assoc, -getElem?_pos, List.getElem?_cons_zero, List.getElem?_cons_succ, t0, t5, t6, hb]
    exact hk
theorem data_take (seed : Int) {N k : Nat} (h : k ≤ N) : (dataL seed N).take k = dataL seed k := by
  unfold dataL
  rw [← List.map_take, List.take_range, Nat.min_eq_left h]
theorem part_b2s {H : AH} {q N k : Nat} {seed : Int} (h : H.at_ q = some (.cells false 5 ((dataL seed N).map byteV))) (hk : k ≤ N) :
    ∃ x, slcA 1 none (some (k : Int)) none (.slice q 0 N 1) = some x ∧ b2sA H x = some (.str (dataL seed k)) := by
  have hkI : (k : Int) ≤ (N : Int) := by omega
  by_cases h0 : k = 0
  · subst h0
    exact ⟨.sempty, by simp [slcA, Abs.bounds], by simp [b2sA, dataL]⟩
  · refine ⟨.slice q 0 k 1, by simp [slcA, Abs.bounds, hkI, hk, h0], ?_⟩
    refine b2s_own (l := dataL seed k) ?_ 1
    have hl : ((dataL seed N).map byteV).length = N := by simp [dataL]
    unfold loadC
    rw [h]
    simp only
    rw [if_pos (by rw [hl]; simp [dataL]; omega), List.drop_zero, ← data_take seed hk, List.map_take]
theorem CmdData_ (seed n m : Int) (H : AH) (hG : CLaid.Ok H) : ACall Tryd.prog 4 [.int .i64 seed, .int .i64 n, .int .i64 m] H (fun v H' => v = .bool true ∧ H' = H) := by
  refine acall_enter fits4 (by simp) (by simp) fun hok => ?_
  obtain ⟨N, hN⟩ : ∃ N : Nat, (N : Int) = min (max n 0) 5000 := ⟨(min (max n 0) 5000).toNat, by omega⟩
  obtain ⟨M, hM⟩ : ∃ M : Nat, (M : Int) = min (max m 0) 5000 := ⟨(min (max m 0) 5000).toNat, by omega⟩
  have hD1 := Data seed n N hN
  have hD2 := Data seed m M hM
  have hR := RData seed n N hN
  have hN' : min (max n 0) 5000 = (N : Int) := hN.symm
  clear hN hM
  simp (disch := first | omega | (simp; done) | assumption) [wr64, wrU8, wrU64, Nat.add_assoc, -getElem?_pos, List.getElem?_cons_zero, List.getElem?_cons_succ, ic4, rs4]
  refine CallW.ofk (hD1 _) ?_
  rintro v1 H1 ⟨hk1, hn1, rfl, hat1⟩ hok1
  try simp only [newO_none, newO_some] at hk1 hn1 hat1
  simp (disch := first | omega | (simp; done) | assumption) [wr64, wrU8, wrU64, Nat.add_assoc, -getElem?_pos, List.getElem?_cons_zero, List.getElem?_cons_succ, ]
  refine CallW.ofk (hD2 _) ?_
  rintro v2 H2 ⟨hk2, hn2, rfl, hat2⟩ hok2
  try simp only [newO_none, newO_some] at hk2 hn2 hat2
  have hat1' := hk2 _ _ hat1
  have hb1 : b2sA H2 (.slice H.next 0 N 1) = some (.str (dataL seed N)) := b2s_own (l := dataL seed N) (load_own hat1' (by simp [dataL])) 1
  simp (disch := first | omega | (simp; done) | assumption) [wr64, wrU8, wrU64, Nat.add_assoc, -getElem?_pos, List.getElem?_cons_zero, List.getElem?_cons_succ, hb1]
  refine CallW.val (hR _) ?_
  obtain ⟨k, hk⟩ : ∃ k : Nat, (k : Int) = min (N : Int) (M : Int) := ⟨min N M, by omega⟩
  obtain ⟨x, hx, hbx⟩ := part_b2s (k := k) hat1' (by omega)
  obtain ⟨y, hy, hby⟩ := part_b2s (k := k) hat2 (by omega)
  have hk' : min (N : Int) (M : Int) = (k : Int) := hk.symm
  simp (disch := first | omega | (simp; done) | assumption) [wr64, wrU8, wrU64, Nat.add_assoc, -getElem?_pos, List.getElem?_cons_zero, List.getElem?_cons_succ, hb1, hN', hk']
  refine Try.intro hx ?_
  simp (disch := first | omega | (simp; done) | assumption) [wr64, wrU8, wrU64, Nat.add_assoc, -getElem?_pos, List.getElem?_cons_zero, List.getElem?_cons_succ, hbx]
  refine Try.intro hy ?_
  simp (disch := first | omega | (simp; done) | assumption) [wr64, wrU8, wrU64, Nat.add_assoc, -getElem?_pos, List.getElem?_cons_zero, List.getElem?_cons_succ, hby]
  refine CallW.val (Awake (hG.keeps (fun z o hz => hk2 z o (hk1 z o hz)))) ?_
  simp (disch := first | omega | (simp; done) | assumption) [wr64, wrU8, wrU64, Nat.add_assoc, -getElem?_pos, List.getElem?_cons_zero, List.getElem?_cons_succ, ]
  exact fun z o hz => hk2 z o (hk1 z o hz)
theorem CmdData.walk (a0 a1 a2 : Int) (W : World) (hsh : W.ShapedOpen Tryd.prog) (hG : CLaid.G W) (_ : (Lit.int .i64 a0).wf = true) (_ : (Lit.int .i64 a1).wf = true) (_ : (Lit.int .i64 a2).wf = true) :
    Calls Tryd.prog 4 #[.int .i64 a0, .int .i64 a1, .int .i64 a2] W fun e W' => e = .returned (.bool true) ∧ Below W.heap.size W W' :=
  CLaid.walk hsh hG (fun _ hok => CmdData_ a0 a1 a2 _ hok) (.cons (.int _ _) (.cons (.int _ _) (.cons (.int _ _) .nil)))
end Go.Proofs.YtfimhkijacamoaaDoor.CNumb

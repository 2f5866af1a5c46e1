/- What the document's Parse answers. -/
import Derived.Test.YthobgplifgghjaaGreatDoorCM2
set_option linter.unusedVariables false
set_option linter.unusedSimpArgs false
set_option maxRecDepth 10000
set_option maxHeartbeats 4000000
namespace Go.Proofs.YthobgplifgghjaaGreatDoor.CNumb
open Go Go.RowKit Go.Proofs.YthobgplifgghjaaGreatDoor Go.Proofs.YthobgplifgghjaaGreatDoor.Abs Go.Proofs.YthobgplifgghjaaGreatDoor.Ic Go.Proofs.YthobgplifgghjaaGreatDoor.EAs Go.Proofs.YthobgplifgghjaaGreatDoor.EErr Go.Proofs.YthobgplifgghjaaGreatDoor.CSpec Go.Proofs.YthobgplifgghjaaGreatDoor.LPcs Go.Proofs.YthobgplifgghjaaGreatDoor.LLib
abbrev PC : ICode := ic7
def RParseP (s : List UInt8) (H : AH) (v : AV) (H' : AH) : Prop := H.keepsAll H' ∧ H.next ≤ H'.next ∧ v = .tuple [cmA (parseC s).2, .int .i64 (parseC s).1]
abbrev PQ (s : List UInt8) (H : AH) : IPost := fnPost rs7 (RParseP s H)
theorem appendOut3 {B : Nat} {H : AH} {t : TypeId} {bytes : Nat} {v x y z : AV} {xs : List AV} (h : OutS B H t v xs) (hB : B ≤ H.next) (hx : x.one = true) (hy : y.one = true) (hz : z.one = true) (hb : (xs.length + 3) * bytes ≤ 70368744177664) (hl : xs.length + 3 ≤ 70368744177664) :
    ∃ v' H', appendK (H.new (.cells false t [x, y, z])) false t 1 bytes v (.slice H.next 0 3 1) = some (v', H') ∧ OutS B H' t v' (xs ++ [x, y, z]) ∧ H'.next = H.next + 2 ∧ KBel B H H' := by
  rcases h with ⟨rfl, rfl⟩ | ⟨q, rfl, h1, h2, h3, h4⟩
  · refine ⟨.slice (H.next + 1) 0 3 1, (H.new (.cells false t [x, y, z])).new (.cells false t [x, y, z]), ?_, .inr ⟨H.next + 1, by simp, by simp, by simp, by omega, by simp⟩, by simp, ((KBel.refl B H).new hB).new (by simp; omega)⟩
    simp at hb
    simp [appendK, appendA, isStrV, srcCells, hx, hy, hz, hb]
  · have e1 : ¬ (q = H.next) := by omega
    refine ⟨.slice (H.next + 1) 0 (xs.length + 3) 1, ((H.new (.cells false t [x, y, z])).set q none).new (.cells false t (xs ++ [x, y, z])), ?_, .inr ⟨H.next + 1, by simp, by simp, by simp, by omega, by simp⟩, by simp, (((KBel.refl B H).new hB).set h3).new (by simp; omega)⟩
    simp [appendK, appendA, isStrV, srcCells, hx, hy, hz, hb, hl, h2, e1]
/-- What stands while the names are looked through. -/
structure PS (s : List UInt8) (ws : List (List UInt8)) (q1 q2 B : Nat) (H H' : AH) (tm : Tms) : Prop where
  keep : H.keepsAll H'
  next : H.next + 1 ≤ B
  top : B ≤ H'.next
  res : H'.at_ H.next = some (.cells false tC (cmL 0 [] [] 0 0 0))
  t2 : tm 2 = .ptr H.next 0
  t0 : tm 0 = .str s
  words : SL H' (tm 4) (ws.map AV.str)
  below : ∀ b o n e, tm 4 = .slice b o n e → b < B
  t5 : tm 5 = .slice q1 0 26 1
  t6 : tm 6 = .slice q2 0 26 1
  nm : OwnT H' q1 names
  fm : OwnT H' q2 forms
  b1 : q1 < B
  b2 : q2 < B
theorem PS.step {s : List UInt8} {ws : List (List UInt8)} {q1 q2 B : Nat} {H H1 H2 : AH} {tm tm' : Tms} (h : PS s ws q1 q2 B H H1 tm) (hok : H.ok) (hk : KBel B H1 H2) (hn : H1.next ≤ H2.next) (e0 : tm' 0 = tm 0) (e2 : tm' 2 = tm 2) (e4 : tm' 4 = tm 4) (e5 : tm' 5 = tm 5) (e6 : tm' 6 = tm 6) : PS s ws q1 q2 B H H2 tm' := by
  obtain ⟨s1, s2, s2', s3, st2, st0, sw, sb, st5, st6, sn, sf, sb1, sb2⟩ := h
  refine ⟨KBel.keepsAll s1 (fun x o hx ho => hk x o (by omega) ho) hok, s2, by omega, hk _ _ (by omega) s3, by rw [e2]; exact st2, by rw [e0]; exact st0, ?_, by rw [e4]; exact sb, by rw [e5]; exact st5, by rw [e6]; exact st6, hk _ _ sb1 sn, hk _ _ sb2 sf, sb1, sb2⟩
  rw [e4]
  exact SL.kbel sw sb hk
theorem form_at (k j : Nat) (h : j < (row k).2.1 + (row k).2.2) : (form k)[j]? = some (if j < (row k).2.1 then UInt8.ofNat (65 + j) else 110) := by
  unfold form
  split
  · rename_i h1
    rw [List.getElem?_append_left (by simpa using h1)]
    simp [h1]
  · rename_i h1
    rw [List.getElem?_append_right (by simp; omega)]
    rw [List.getElem?_replicate]
    simp
    omega
theorem form_len (k : Nat) : (form k).length = (row k).2.1 + (row k).2.2 := by simp [form]
/-- The first words: the text is too long, or its words and the rows are laid. -/
theorem RP1 {s : List UInt8} {H : AH} (hok : H.ok) (h : ∀ q1 q2 tm H', H'.ok → s.length ≤ 300 → PS s (pcs 32 s) q1 q2 H'.next H H' tm → IWP Tryz.prog (part_ [1, 1, 1, 1] PC) (PQ s H) tm H') : IWP Tryz.prog PC (PQ s H) (tm0 [.str s]) H := by
  change IWP Tryz.prog (.seq (part_ [0] PC) (.seq (part_ [1, 0] PC) (.seq (part_ [1, 1, 0] PC) (.seq (part_ [1, 1, 1, 0] PC) (part_ [1, 1, 1, 1] PC))))) _ _ _
  generalize part_ [1, 1, 1, 1] PC = X at *
  by_cases hl : 300 < s.length
  · have hl' : (300 : Int) < (s.length : Int) := by omega
    have hp : parseC s = (2, zeroC) := by unfold parseC; rw [if_pos hl]
    simp (disch := first | omega | (simp; done) | assumption) [wr64, wrU8, wrU64, Nat.add_assoc, -getElem?_pos, List.getElem?_cons_zero, List.getElem?_cons_succ, part_, PC, ic7, rs7, hl, hl']
    refine ⟨?_, by simp, by rw [hp]; rfl⟩
    ((repeat (first | exact AH.keepsAll_refl _ | refine keeps_set hok ?_ (by first | omega | (simp; done) | (simp; omega)) | refine keeps_new hok ?_ (by first | omega | (simp; done) | (simp; omega)))); done)
  · have hl' : ¬ (300 : Int) < (s.length : Int) := by omega
    simp (disch := first | omega | (simp; done) | assumption) [wr64, wrU8, wrU64, Nat.add_assoc, -getElem?_pos, List.getElem?_cons_zero, List.getElem?_cons_succ, part_, PC, ic7, hl, hl']
    refine CallW.ofk (RWords s (by omega) _) ?_
    rintro v1 H1 ⟨hk1, hn1, ho1⟩ hok1
    try simp only [newO_none, newO_some] at hk1 hn1 ho1
    simp (disch := first | omega | (simp; done) | assumption) [wr64, wrU8, wrU64, Nat.add_assoc, -getElem?_pos, List.getElem?_cons_zero, List.getElem?_cons_succ, ]
    refine CallW.ofk (Rows_ _) ?_
    rintro v2 H2 ⟨hk2, hn2, q1, q2, rfl, o1, o2, b1, b2, b3, b4⟩ hok2
    try simp only [newO_none, newO_some] at hk2 hn2 b1 b3
    simp (disch := first | omega | (simp; done) | assumption) [wr64, wrU8, wrU64, Nat.add_assoc, -getElem?_pos, List.getElem?_cons_zero, List.getElem?_cons_succ, ]
    refine h q1 q2 _ _ hok2 (by omega) ⟨fun x o hx => hk2 x o (hk1 x o (keeps_new hok (AH.keepsAll_refl _) (Nat.le_refl _) x o hx)), by simp at hn1; omega, Nat.le_refl _, hk2 _ _ (hk1 _ _ (by simp [cmL])), by simp, by simp, by simpa using ho1.sl.keeps hk2, fun b o n e h => ?_, by simp, by simp, o1, o2, b2, b4⟩
    rcases ho1 with ⟨_, e⟩ | ⟨q, e, _, _, h3, h4⟩
    · simp [e] at h
    · simp [e] at h
      omega
end Go.Proofs.YthobgplifgghjaaGreatDoor.CNumb
set_option linter.unusedVariables false
set_option linter.unusedSimpArgs false
set_option maxRecDepth 10000
set_option maxHeartbeats 4000000
namespace Go.Proofs.YthobgplifgghjaaGreatDoor.CNumb
open Go Go.RowKit Go.Proofs.YthobgplifgghjaaGreatDoor Go.Proofs.YthobgplifgghjaaGreatDoor.Abs Go.Proofs.YthobgplifgghjaaGreatDoor.Ic Go.Proofs.YthobgplifgghjaaGreatDoor.EAs Go.Proofs.YthobgplifgghjaaGreatDoor.EErr Go.Proofs.YthobgplifgghjaaGreatDoor.CSpec Go.Proofs.YthobgplifgghjaaGreatDoor.LPcs Go.Proofs.YthobgplifgghjaaGreatDoor.LLib
abbrev RetQ (s : List UInt8) (H : AH) : IPost := fun e tm H' => e = .ret ∧ PQ s H e tm H'
def RlI (s : List UInt8) (ws args : List (List UInt8)) (q1 q2 c k : Nat) (H : AH) (kk : Nat) (tm : Tms) (H' : AH) : Prop := ∃ j : Nat, kk = (row k).2.1 + (row k).2.2 - j ∧ j ≤ (row k).2.1 + (row k).2.2 ∧ PS s ws q1 q2 c H H' tm ∧ c < H'.next ∧
  H'.at_ c = some (.cells false tC (cmL k (aA (row k).2.1 args j) (bA (row k).2.1 args j) 0 0 0)) ∧ tm 8 = .str (form k) ∧ tm 9 = .ptr c 0 ∧ tm 11 = .int .i64 (j : Int) ∧
  (∀ x, x < j → if x < (row k).2.1 then txtB (args.getD x []) = true else numB (args.getD x []) = true) ∧ OutS (c + 1) H' 3 (tm 10) (((args.drop (row k).2.1).map numV |>.take (j - (row k).2.1)).map natA)
theorem OutS.set_ne {c : Nat} {H : AH} {t : TypeId} {v : AV} {xs : List AV} {x : Option AObj} (h : OutS (c + 1) H t v xs) : OutS (c + 1) (H.set c x) t v xs := by
  rcases h with h | ⟨q, h1, h2, h3, h4, h5⟩
  · exact .inl h
  · exact .inr ⟨q, h1, h2, by rw [AH.set_ne _ _ (by omega)]; exact h3, h4, by simpa using h5⟩
theorem pad_at (l : List Nat) (i : Nat) (hi : i < 3) : (l.map natA ++ [natA 0, natA 0, natA 0])[i]? = some (natA (l.getD i 0)) := by
  by_cases h : i < l.length
  · rw [List.getElem?_append_left (by simpa using h)]
    simp [h]
  · rw [List.getElem?_append_right (by simp; omega)]
    have : l.getD i 0 = 0 := by rw [List.getD_eq_getElem?_getD, List.getElem?_eq_none (by omega)]; rfl
    rw [this, List.length_map]
    have h3 : i - l.length = 0 ∨ i - l.length = 1 ∨ i - l.length = 2 := by omega
    rcases h3 with h3 | h3 | h3 <;> rw [h3] <;> rfl
theorem RP3 {s : List UInt8} {ws args : List (List UInt8)} {q1 q2 k : Nat} {H H1 : AH} {tm : Tms} (hA : ws.drop 1 = args) (hok : H.ok) (hok1 : H1.ok) (hS : PS s ws q1 q2 H1.next H H1 tm) (hk0 : 0 < k) (hk : k ≤ 26) (t7 : tm 7 = .int .i64 ((k - 1 : Nat) : Int)) (hwl : ws.length ≤ 1000000) (hw : ∀ w ∈ ws, w.length ≤ 281474976710656)
    (hnone : (ws.length ≠ 1 + ((row k).2.1 + (row k).2.2) ∨ ∃ x, x < (row k).2.1 + (row k).2.2 ∧ (if x < (row k).2.1 then txtB (args.getD x []) else numB (args.getD x [])) = false) → parseC s = (3, zeroC))
    (hsome : ws.length = 1 + ((row k).2.1 + (row k).2.2) → (∀ x, x < (row k).2.1 + (row k).2.2 → if x < (row k).2.1 then txtB (args.getD x []) = true else numB (args.getD x []) = true) →
      parseC s = (0, ⟨k, aA (row k).2.1 args 2, bA (row k).2.1 args 2, ((args.drop (row k).2.1).map numV).getD 0 0, ((args.drop (row k).2.1).map numV).getD 1 0, ((args.drop (row k).2.1).map numV).getD 2 0⟩)) :
    IWP Tryz.prog (part_ [1, 1, 1, 1, 0, 1, 0, 0, 1, 0, 0, 1] PC) (RetQ s H) tm H1 := by
  obtain ⟨s1, s2, s2', s3, st2, st0, sw, sb, st5, st6, sn, sf, sb1, sb2⟩ := id hS
  have hfk : (forms.map AV.str)[k - 1]? = some (.str (form k)) := by
    unfold forms
    rw [List.getElem?_map, List.getElem?_map, List.getElem?_range (by omega)]
    simp only [Option.map_some]
    rw [show k - 1 + 1 = k by omega]
  have hfm : H1.at_ q2 = some (.cells false 9 (forms.map AV.str)) := sf
  have hkI : ((k - 1 : Nat) : Int) < 26 := by omega
  have hkN : k - 1 < 26 := by omega
  have hk1 : ((k - 1 : Nat) : Int) + 1 = (k : Int) := by omega
  have hls := SL.lenS sw
  rw [List.length_map] at hls
  have hfl := form_len k
  have hb1 : (row k).2.1 ≤ 2 ∧ (row k).2.2 ≤ 3 := row_bounds k
  by_cases hlen : ws.length = 1 + ((row k).2.1 + (row k).2.2)
  · have h48 : (ws.length : Int) - 1 = ((form k).length : Int) := by omega
    simp (disch := first | omega | (simp; done) | assumption) [wr64, wrU8, wrU64, Nat.add_assoc, -getElem?_pos, List.getElem?_cons_zero, List.getElem?_cons_succ, part_, PC, ic7, st0, st2, st5, st6, t7, hkI, hkN, hfm, hfk, hls, h48, hk1]
    refine iwp_loop (RlI s ws args q1 q2 H1.next k H) ((row k).2.1 + (row k).2.2) ⟨0, rfl, by omega, hS.step hok ((KBel.new (KBel.refl _ _) (Nat.le_refl _)).set (Nat.le_refl _)) (by simp) (by simp) (by simp) (by simp) (by simp) (by simp), by simp, by simp [cmL, aA, bA], by simp, by simp, by simp, fun x h => by omega, .inl ⟨by simp, by simp⟩⟩ ?_
    clear s1 s2 s2' s3 st2 st0 sw sb st5 st6 sn sf sb1 sb2 hS t7 hfm hfk hkI hkN hls h48
    generalize H1.next = c at *
    rintro kk tm H1 ⟨j, rfl, hj, hS, hcn, hc, t8, t9, t11, hall, hout⟩
    obtain ⟨s1, s2, s2', s3, st2, st0, sw, sb, st5, st6, sn, sf, sb1, sb2⟩ := id hS
    have hal : args.length = (row k).2.1 + (row k).2.2 := by rw [← hA]; simp; omega
    by_cases hlt : j < (row k).2.1 + (row k).2.2
    · have hlt' : (j : Int) < ((form k).length : Int) := by omega
      have hltN : j < (form k).length := by omega
      have hfb := form_at k j hlt
      obtain ⟨b0, o0, e0, hld⟩ := SL.get sw (j + 1) (by simp; omega)
      have hja : j < args.length := by omega
      have hgi : args.getD j [] = args[j] := by rw [List.getD_eq_getElem?_getD, List.getElem?_eq_getElem hja]; rfl
      have hwe : (ws.map AV.str)[j + 1]'(by simp; omega) = .str args[j] := by subst hA; simp [Nat.add_comm 1 j]
      rw [hwe] at hld
      unfold loadC at hld
      have hw1 := hw args[j] (List.mem_of_mem_drop (by rw [hA]; exact List.getElem_mem hja))
      have hjw : j + 1 < ws.length := by omega
      have hjwI : (j : Int) + 1 < (ws.length : Int) := by omega
      rw [List.length_map] at e0
      have hgd := hgi
      rw [List.getD_eq_getElem?_getD] at hgd
      generalize args[j] = w at *
      have hj0 : (0 : Int) ≤ (j : Int) + 1 := by omega
      simp (disch := first | omega | (simp; done) | assumption) [wr64, wrU8, wrU64, Nat.add_assoc, -getElem?_pos, List.getElem?_cons_zero, List.getElem?_cons_succ, t8, t9, t11, hlt', hltN, e0, hjw, hjwI, hj0]
      refine Try.intro hld ?_
      simp (disch := first | omega | (simp; done) | assumption) [wr64, wrU8, wrU64, Nat.add_assoc, -getElem?_pos, List.getElem?_cons_zero, List.getElem?_cons_succ, t8, t9, t11]
      refine CallW.val (RNumber w _ hw1) ?_
      by_cases hjt : j < (row k).2.1
      · rw [if_pos hjt] at hfb
        have hj01 : j = 0 ∨ j = 1 := by omega
        rcases hj01 with rfl | rfl
        · have hfb' : (form k)[0]? = some 65 := hfb
          simp (disch := first | omega | (simp; done) | assumption) [wr64, wrU8, wrU64, Nat.add_assoc, -getElem?_pos, List.getElem?_cons_zero, List.getElem?_cons_succ, t8, t9, t11, hlt', hltN, hfb']
          refine CallW.val (RText w _ hw1) ?_
          cases htx : txtB w with
          | false =>
            have hp := hnone (.inr ⟨0, hlt, by rw [if_pos hjt, hgi]; exact htx⟩)
            simp (disch := first | omega | (simp; done) | assumption) [wr64, wrU8, wrU64, Nat.add_assoc, -getElem?_pos, List.getElem?_cons_zero, List.getElem?_cons_succ, t8, t9, t11, hlt', hltN, hfb', htx, st2, s3, cmL]
            simp (disch := first | omega | (simp; done) | assumption) [wr64, wrU8, wrU64, Nat.add_assoc, -getElem?_pos, List.getElem?_cons_zero, List.getElem?_cons_succ, RetQ, PQ, rs7, st2]
            refine ⟨fun x o hx => ?_, by simp; omega, by rw [hp]; rfl⟩
            have := hok _ _ hx
            rw [AH.set_ne _ _ (by omega)]
            exact s1 x o hx
          | true =>
            simp (disch := first | omega | (simp; done) | assumption) [wr64, wrU8, wrU64, Nat.add_assoc, -getElem?_pos, List.getElem?_cons_zero, List.getElem?_cons_succ, t8, t9, t11, hlt', hltN, hfb', htx, hc, cmL]
            refine ⟨(row k).2.1 + (row k).2.2 - 1, by omega, 1, rfl, by omega, hS.step hok ((KBel.refl _ _).set (Nat.le_refl _)) (by simp) (by simp) (by simp) (by simp) (by simp) (by simp), by simpa using hcn, ?_, by simp [t8], by simp [t9], by simp, fun x hx => ?_, ?_⟩
            · simp [cmL, aA, bA, hjt, hgd]
            · obtain rfl : x = 0 := by omega
              rw [if_pos hjt, hgi]; exact htx
            · have e1 : 1 - (row k).2.1 = 0 := by omega
              have e2 : 0 - (row k).2.1 = 0 := by omega
              rw [e2] at hout
              rw [e1]
              simpa using OutS.set_ne hout
        · have hfb' : (form k)[1]? = some 66 := hfb
          simp (disch := first | omega | (simp; done) | assumption) [wr64, wrU8, wrU64, Nat.add_assoc, -getElem?_pos, List.getElem?_cons_zero, List.getElem?_cons_succ, t8, t9, t11, hlt', hltN, hfb']
          refine CallW.val (RText w _ hw1) ?_
          cases htx : txtB w with
          | false =>
            have hp := hnone (.inr ⟨1, hlt, by rw [if_pos hjt, hgi]; exact htx⟩)
            simp (disch := first | omega | (simp; done) | assumption) [wr64, wrU8, wrU64, Nat.add_assoc, -getElem?_pos, List.getElem?_cons_zero, List.getElem?_cons_succ, t8, t9, t11, hlt', hltN, hfb', htx, st2, s3, cmL]
            simp (disch := first | omega | (simp; done) | assumption) [wr64, wrU8, wrU64, Nat.add_assoc, -getElem?_pos, List.getElem?_cons_zero, List.getElem?_cons_succ, RetQ, PQ, rs7, st2]
            refine ⟨fun x o hx => ?_, by simp; omega, by rw [hp]; rfl⟩
            have := hok _ _ hx
            rw [AH.set_ne _ _ (by omega)]
            exact s1 x o hx
          | true =>
            have ht0 : 0 < (row k).2.1 := by omega
            simp (disch := first | omega | (simp; done) | assumption) [wr64, wrU8, wrU64, Nat.add_assoc, -getElem?_pos, List.getElem?_cons_zero, List.getElem?_cons_succ, t8, t9, t11, hlt', hltN, hfb', htx, hc, cmL]
            refine ⟨(row k).2.1 + (row k).2.2 - 2, by omega, 2, rfl, by omega, hS.step hok ((KBel.refl _ _).set (Nat.le_refl _)) (by simp) (by simp) (by simp) (by simp) (by simp) (by simp), by simpa using hcn, ?_, by simp [t8], by simp [t9], by simp, fun x hx => ?_, ?_⟩
            · simp [cmL, aA, bA, hjt, hgd, ht0]
            · by_cases e : x = 0
              · subst e; exact hall 0 (by omega)
              · obtain rfl : x = 1 := by omega
                rw [if_pos hjt, hgi]; exact htx
            · have e1 : 2 - (row k).2.1 = 0 := by omega
              have e2 : 1 - (row k).2.1 = 0 := by omega
              rw [e2] at hout
              rw [e1]
              simpa using OutS.set_ne hout
      · rw [if_neg hjt] at hfb
        cases hnb : numB w with
        | false =>
          have hp := hnone (.inr ⟨j, hlt, by rw [if_neg hjt, hgi]; exact hnb⟩)
          simp (disch := first | omega | (simp; done) | assumption) [wr64, wrU8, wrU64, Nat.add_assoc, -getElem?_pos, List.getElem?_cons_zero, List.getElem?_cons_succ, t8, t9, t11, hlt', hltN, hfb, hnb, st2, s3, cmL]
          simp (disch := first | omega | (simp; done) | assumption) [wr64, wrU8, wrU64, Nat.add_assoc, -getElem?_pos, List.getElem?_cons_zero, List.getElem?_cons_succ, RetQ, PQ, rs7, st2]
          refine ⟨fun x o hx => ?_, by simp; omega, by rw [hp]; rfl⟩
          have := hok _ _ hx
          rw [AH.set_ne _ _ (by omega)]
          exact s1 x o hx
        | true =>
          have hdl : ((args.drop (row k).2.1).map numV).length = (row k).2.2 := by simp; omega
          have htk : ((args.drop (row k).2.1).map numV).take (j + 1 - (row k).2.1) = ((args.drop (row k).2.1).map numV).take (j - (row k).2.1) ++ [numV w] := by
            rw [show j + 1 - (row k).2.1 = (j - (row k).2.1) + 1 by omega]
            have := (List.take_append_getElem (l := (args.drop (row k).2.1).map numV) (i := j - (row k).2.1) (by omega)).symm
            rw [this]
            congr 2
            simp only [List.getElem_map, List.getElem_drop]
            congr 1
            rw [← Option.some.injEq, ← List.getElem?_eq_getElem, show (row k).2.1 + (j - (row k).2.1) = j by omega, List.getElem?_eq_getElem hja]
            rw [List.getD_eq_getElem?_getD, List.getElem?_eq_getElem hja] at hgi
            exact congrArg some hgi
          obtain ⟨v2, H2, a1, o1, n1, k1⟩ := appendOut (bytes := 8) (x := natA (numV w)) hout (by omega) rfl (by simp; omega) (by simp; omega)
          simp only [natA] at a1
          simp (disch := first | omega | (simp; done) | assumption) [wr64, wrU8, wrU64, Nat.add_assoc, -getElem?_pos, List.getElem?_cons_zero, List.getElem?_cons_succ, t8, t9, t11, hlt', hltN, hfb, hnb]
          refine Try.intro a1 ?_
          simp (disch := first | omega | (simp; done) | assumption) [wr64, wrU8, wrU64, Nat.add_assoc, -getElem?_pos, List.getElem?_cons_zero, List.getElem?_cons_succ, t8, t9, t11]
          have k1c : KBel c H1 H2 := fun x o hx ho => k1 x o (by omega) ho
          refine ⟨(row k).2.1 + (row k).2.2 - (j + 1), by omega, j + 1, rfl, by omega, hS.step hok k1c (by omega) (by simp) (by simp) (by simp) (by simp) (by simp), by omega, ?_, by simp [t8], by simp [t9], by simp, fun x hx => ?_, ?_⟩
          · have e1 : aA (row k).2.1 args (j + 1) = aA (row k).2.1 args j := by
              unfold aA
              by_cases e : 0 < (row k).2.1
              · simp [e, show 0 < j by omega]
              · simp [e]
            have e2 : bA (row k).2.1 args (j + 1) = bA (row k).2.1 args j := by
              unfold bA
              by_cases e : 1 < (row k).2.1
              · simp [e, show 1 < j by omega, show 0 < j by omega]
              · simp [e]
            rw [e1, e2]
            exact k1 _ _ (by omega) hc
          · by_cases e : x = j
            · subst e; rw [if_neg hjt, hgi]; exact hnb
            · exact hall x (by omega)
          · rw [htk]
            simpa [natA] using o1
    · have hlt' : ¬ (j : Int) < ((form k).length : Int) := by omega
      obtain rfl : j = (row k).2.1 + (row k).2.2 := by omega
      have hp := hsome hlen hall
      have hdl : ((args.drop (row k).2.1).map numV).length = (row k).2.2 := by simp; omega
      rw [List.take_of_length_le (by omega)] at hout
      have eA : aA (row k).2.1 args ((row k).2.1 + (row k).2.2) = aA (row k).2.1 args 2 := by
        unfold aA
        by_cases e : 0 < (row k).2.1
        · simp [e]; omega
        · simp [e]
      have eB : bA (row k).2.1 args ((row k).2.1 + (row k).2.2) = bA (row k).2.1 args 2 := by
        unfold bA
        by_cases e : 1 < (row k).2.1
        · simp [e]; omega
        · simp [e]
      rw [eA, eB] at hc
      generalize (args.drop (row k).2.1).map numV = l at *
      obtain ⟨v2, H2, a1, o1, n1, k1⟩ := appendOut3 (bytes := 8) (x := natA 0) (y := natA 0) (z := natA 0) hout (by omega) rfl rfl rfl (by simp; omega) (by simp; omega)
      simp only [natA] at a1
      have hlt'' : ¬ ((row k).2.1 : Int) + ((row k).2.2 : Int) < ((form k).length : Int) := by omega
      have hc2 := k1 _ _ (by omega) hc
      have hr2 : H2.at_ H.next = some (.cells false tC (cmL 0 [] [] 0 0 0)) := k1 _ _ (by omega) s3
      rcases o1 with ⟨e, _⟩ | ⟨q3, rfl, _, hq3, hB3, hN3⟩
      · simp at e
      have hld := pad_at l
      have hl3 : ∀ i : Nat, i < 3 → i < (l.map natA ++ [natA 0, natA 0, natA 0]).length := fun i hi => by simp; omega
      have g0 := hl3 0 (by omega)
      have g1 := hl3 1 (by omega)
      have g2 := hl3 2 (by omega)
      have ld0 := hld 0 (by omega)
      have ld1 := hld 1 (by omega)
      have ld2 := hld 2 (by omega)
      generalize l.map natA ++ [natA 0, natA 0, natA 0] = L at *
      have hqc : ¬ (q3 = c) := by omega
      have g0I : (0 : Int) < (L.length : Int) := by omega
      have g1I : (1 : Int) < (L.length : Int) := by omega
      have g2I : (2 : Int) < (L.length : Int) := by omega
      have hrc : ¬ (H.next = c) := by omega
      simp (disch := first | omega | (simp; done) | assumption) [wr64, wrU8, wrU64, Nat.add_assoc, -getElem?_pos, List.getElem?_cons_zero, List.getElem?_cons_succ, t8, t9, t11, hlt', hlt'']
      refine Try.intro a1 ?_
      simp (disch := first | omega | (simp; done) | assumption) [wr64, wrU8, wrU64, Nat.add_assoc, -getElem?_pos, List.getElem?_cons_zero, List.getElem?_cons_succ, t8, t9, t11, g0, g1, g2, g0I, g1I, g2I, hq3, ld0, ld1, ld2, hqc, hc2, cmL, natA, st2, hr2, hrc]
      simp (disch := first | omega | (simp; done) | assumption) [wr64, wrU8, wrU64, Nat.add_assoc, -getElem?_pos, List.getElem?_cons_zero, List.getElem?_cons_succ, RetQ, PQ, rs7, st2]
      refine ⟨fun x o hx => ?_, by simp; omega, by rw [hp]; simp [cmA, cmL]⟩
      have := hok _ _ hx
      rw [AH.set_ne _ _ (by omega), AH.set_ne _ _ (by omega), AH.set_ne _ _ (by omega), AH.set_ne _ _ (by omega)]
      exact k1 x o (by omega) (s1 x o hx)
  · have h48 : ¬ (ws.length : Int) - 1 = ((form k).length : Int) := by omega
    have hp := hnone (.inl hlen)
    simp (disch := first | omega | (simp; done) | assumption) [wr64, wrU8, wrU64, Nat.add_assoc, -getElem?_pos, List.getElem?_cons_zero, List.getElem?_cons_succ, part_, PC, ic7, rs7, st0, st2, st5, st6, t7, hkI, hkN, hfm, hfk, hls, h48, s3, cmL]
    simp (disch := first | omega | (simp; done) | assumption) [wr64, wrU8, wrU64, Nat.add_assoc, -getElem?_pos, List.getElem?_cons_zero, List.getElem?_cons_succ, RetQ, PQ, rs7, st2]
    refine ⟨fun x o hx => ?_, by simp; omega, by rw [hp]; rfl⟩
    have := hok _ _ hx
    rw [AH.set_ne _ _ (by omega)]
    exact s1 x o hx
end Go.Proofs.YthobgplifgghjaaGreatDoor.CNumb
set_option linter.unusedVariables false
set_option linter.unusedSimpArgs false
set_option maxRecDepth 10000
set_option maxHeartbeats 4000000
namespace Go.Proofs.YthobgplifgghjaaGreatDoor.CNumb
open Go Go.RowKit Go.Proofs.YthobgplifgghjaaGreatDoor Go.Proofs.YthobgplifgghjaaGreatDoor.Abs Go.Proofs.YthobgplifgghjaaGreatDoor.Ic Go.Proofs.YthobgplifgghjaaGreatDoor.EAs Go.Proofs.YthobgplifgghjaaGreatDoor.EErr Go.Proofs.YthobgplifgghjaaGreatDoor.CSpec Go.Proofs.YthobgplifgghjaaGreatDoor.LPcs Go.Proofs.YthobgplifgghjaaGreatDoor.LLib
theorem names_at {j : Nat} (h : j < 26) : (names.map AV.str)[j]? = some (.str (row (j + 1)).1) := by
  unfold names
  rw [List.getElem?_map, List.getElem?_map]
  have h1 : j < tab.length := by rw [tab_len]; exact h
  rw [List.getElem?_eq_getElem h1]
  unfold row
  rw [List.getD_cons_succ, List.getD_eq_getElem?_getD, List.getElem?_eq_getElem h1]
  rfl
def OI (s : List UInt8) (ws : List (List UInt8)) (q1 q2 : Nat) (H H1 : AH) (kk : Nat) (tm : Tms) (H' : AH) : Prop := H' = H1 ∧ ∃ i : Nat, kk = 26 - i ∧ i ≤ 26 ∧ PS s ws q1 q2 H1.next H H1 tm ∧ tm 7 = .int .i64 (i : Int) ∧ ∀ j, 0 < j → j < i + 1 → (row j).1 ≠ ws.getD 0 []
theorem readC_none {ws : List (List UInt8)} (h : kindOf (ws.getD 0 []) = 0) : readC ws = none := by
  unfold readC
  rw [if_pos (.inl h)]
theorem readC_len {ws : List (List UInt8)} {k : Nat} (hk : kindOf (ws.getD 0 []) = k) (h : ws.length ≠ 1 + ((row k).2.1 + (row k).2.2)) : readC ws = none := by
  unfold readC
  simp only [hk]
  rw [if_pos (.inr (.inl h))]
theorem getD_at {args : List (List UInt8)} {j : Nat} (h : j < args.length) : args.getD j [] = args[j] := by
  rw [List.getD_eq_getElem?_getD, List.getElem?_eq_getElem h]; rfl
theorem readC_bad {ws : List (List UInt8)} {k : Nat} (hk : kindOf (ws.getD 0 []) = k) (hlen : ws.length = 1 + ((row k).2.1 + (row k).2.2)) {x : Nat} (hx : x < (row k).2.1 + (row k).2.2)
    (h : (if x < (row k).2.1 then txtB ((ws.drop 1).getD x []) else numB ((ws.drop 1).getD x [])) = false) : readC ws = none := by
  have hal : (ws.drop 1).length = (row k).2.1 + (row k).2.2 := by simp; omega
  unfold readC
  simp only [hk]
  generalize ws.drop 1 = args at *
  rw [if_pos]
  refine .inr (.inr ?_)
  rw [Bool.and_eq_false_iff]
  rw [getD_at (by omega)] at h
  by_cases e : x < (row k).2.1
  · rw [if_pos e] at h
    exact .inl (List.all_eq_false.2 ⟨args[x]'(by omega), List.mem_take_iff_getElem.2 ⟨x, by omega, rfl⟩, by simp [h]⟩)
  · rw [if_neg e] at h
    refine .inr (List.all_eq_false.2 ⟨args[x]'(by omega), List.mem_drop_iff_getElem.2 ⟨x - (row k).2.1, by omega, ?_⟩, by simp [h]⟩)
    congr 1
    omega
theorem readC_good {ws : List (List UInt8)} {k : Nat} (hk : kindOf (ws.getD 0 []) = k) (hk0 : k ≠ 0) (hlen : ws.length = 1 + ((row k).2.1 + (row k).2.2))
    (h : ∀ x, x < (row k).2.1 + (row k).2.2 → if x < (row k).2.1 then txtB ((ws.drop 1).getD x []) = true else numB ((ws.drop 1).getD x []) = true) :
    readC ws = some ⟨k, aA (row k).2.1 (ws.drop 1) 2, bA (row k).2.1 (ws.drop 1) 2, (((ws.drop 1).drop (row k).2.1).map numV).getD 0 0, (((ws.drop 1).drop (row k).2.1).map numV).getD 1 0, (((ws.drop 1).drop (row k).2.1).map numV).getD 2 0⟩ := by
  have hal : (ws.drop 1).length = (row k).2.1 + (row k).2.2 := by simp; omega
  have htk : ∀ j, (((ws.drop 1).take (row k).2.1).getD j []) = if j < (row k).2.1 then (ws.drop 1).getD j [] else [] := fun j => by
    rw [List.getD_eq_getElem?_getD, List.getElem?_take]
    split
    · rw [List.getD_eq_getElem?_getD]
    · rfl
  unfold readC
  simp only [hk, htk]
  generalize ws.drop 1 = args at *
  rw [if_neg]
  · simp [aA, bA]
  · rintro (e | e | e)
    · exact hk0 e
    · exact e hlen
    · rw [Bool.and_eq_false_iff] at e
      rcases e with e | e
      · obtain ⟨y, hy, h2⟩ := List.all_eq_false.1 e
        obtain ⟨j, hj, rfl⟩ := List.mem_take_iff_getElem.1 hy
        have := h j (by omega)
        rw [if_pos (by omega), getD_at (by omega)] at this
        exact h2 this
      · obtain ⟨y, hy, h2⟩ := List.all_eq_false.1 e
        obtain ⟨j, hj, rfl⟩ := List.mem_drop_iff_getElem.1 hy
        have := h ((row k).2.1 + j) (by omega)
        rw [if_neg (by omega), getD_at (by omega)] at this
        exact h2 this
theorem RParse (s : List UInt8) (H : AH) : ACall Tryz.prog 7 [.str s] H (RParseP s H) := by
  refine acall_ok (bodyP_of fits7) fun hok => acall_of fits7 (by simp) ?_
  refine RP1 hok fun q1 q2 tm H1 hok1 hl hS => ?_
  have hwl : (pcs 32 s).length ≤ 1000000 := by
    have := count_pcs (q := 32) s
    have : s.count 32 ≤ s.length := List.count_le_length
    omega
  have hw : ∀ w ∈ pcs 32 s, w.length ≤ 281474976710656 := fun w h => by have := pcs_lens w h; omega
  have hne : 0 < (pcs 32 s).length := List.length_pos_iff.2 (pcs_ne s)
  have hpr : parseC s = match readC (pcs 32 s) with
    | some c => (0, c)
    | none => (3, zeroC) := by unfold parseC; rw [if_neg (by omega)]; cases readC (pcs 32 s) <;> rfl
  generalize hws : pcs 32 s = ws at *
  have hls := SL.lenS hS.words
  have hF : ∀ (k : Nat) (tm' : Tms), PS s ws q1 q2 H1.next H H1 tm' → 0 < k → k ≤ 26 → kindOf ws[0] = k → tm' 7 = .int .i64 ((k - 1 : Nat) : Int) → IWP Tryz.prog (part_ [1, 1, 1, 1, 0, 1, 0, 0, 1, 0, 0, 1] PC) (RetQ s H) tm' H1 := by
    intro k tm' hS' h1 h2 h3 h4
    rw [← getD_at hne] at h3
    refine RP3 rfl hok hok1 hS' h1 h2 h4 hwl hw (fun h => ?_) fun hlen h => ?_
    · rw [hpr]
      by_cases hlen : ws.length = 1 + ((row k).2.1 + (row k).2.2)
      · rcases h with h | ⟨x, hx, h⟩
        · exact absurd hlen h
        · rw [readC_bad h3 hlen hx h]
      · rw [readC_len h3 hlen]
    · rw [hpr, readC_good h3 (by omega) hlen h]
  change IWP Tryz.prog (.seq (.seq (part_ [1, 1, 1, 1, 0, 0] PC) (.block 0 (.loop (.seq (part_ [1, 1, 1, 1, 0, 1, 0, 0, 0] PC) (.seq (.block 1 (.seq (part_ [1, 1, 1, 1, 0, 1, 0, 0, 1, 0, 0, 0] PC) (part_ [1, 1, 1, 1, 0, 1, 0, 0, 1, 0, 0, 1] PC))) (part_ [1, 1, 1, 1, 0, 1, 0, 0, 1, 1] PC)))))) (part_ [1, 1, 1, 1, 1] PC)) _ _ _
  generalize part_ [1, 1, 1, 1, 0, 1, 0, 0, 1, 0, 0, 1] PC = X at *
  simp (disch := first | omega | (simp; done) | assumption) [wr64, wrU8, wrU64, Nat.add_assoc, -getElem?_pos, List.getElem?_cons_zero, List.getElem?_cons_succ, part_, PC, ic7]
  refine iwp_loop (OI s ws q1 q2 H H1) 26 ⟨rfl, 0, rfl, by omega, hS.step hok (KBel.refl _ _) (Nat.le_refl _) (by simp) (by simp) (by simp) (by simp) (by simp), by simp, fun j h1 h2 => by omega⟩ ?_
  clear hS hls tm
  rintro kk tm H1 ⟨rfl, i, rfl, hi, hS, t7, hno⟩
  obtain ⟨s1, s2, s2', s3, st2, st0, sw, sb, st5, st6, sn, sf, sb1, sb2⟩ := id hS
  have hw0 : ws.getD 0 [] = ws[0] := by rw [List.getD_eq_getElem?_getD, List.getElem?_eq_getElem hne]; rfl
  by_cases hlt : i < 26
  · have hlt' : (i : Int) < 26 := by omega
    obtain ⟨b0, o0, e0, hld⟩ := SL.get sw 0 (by simpa using hne)
    have hld' : loadC H1 b0 o0 none = some (.str ws[0]) := by simpa using hld
    unfold loadC at hld'
    rw [List.length_map] at e0
    have hnm : H1.at_ q1 = some (.cells false 9 (names.map AV.str)) := sn
    have hna := names_at hlt
    by_cases hf : (row (i + 1)).1 = ws[0]
    · have hk : kindOf ws[0] = i + 1 := kind_found (by omega) (by omega) hf fun j h1 h2 => by rw [← hw0]; exact hno j h1 h2
      simp (disch := first | omega | (simp; done) | assumption) [wr64, wrU8, wrU64, Nat.add_assoc, -getElem?_pos, List.getElem?_cons_zero, List.getElem?_cons_succ, t7, hlt, hlt', st5, hnm, hna, e0, hne]
      refine Try.intro hld' ?_
      simp (disch := first | omega | (simp; done) | assumption) [wr64, wrU8, wrU64, Nat.add_assoc, -getElem?_pos, List.getElem?_cons_zero, List.getElem?_cons_succ, hf]
      refine iwp_post (RetQ s H) (hF (i + 1) _ (hS.step hok (KBel.refl _ _) (Nat.le_refl _) (by simp) (by simp) (by simp [e0]) (by simp) (by simp)) (by omega) (by omega) hk (by simp [t7])) ?_
      rintro e tm' H' ⟨rfl, h⟩
      exact h
    · simp (disch := first | omega | (simp; done) | assumption) [wr64, wrU8, wrU64, Nat.add_assoc, -getElem?_pos, List.getElem?_cons_zero, List.getElem?_cons_succ, t7, hlt, hlt', st5, hnm, hna, e0, hne]
      refine Try.intro hld' ?_
      simp (disch := first | omega | (simp; done) | assumption) [wr64, wrU8, wrU64, Nat.add_assoc, -getElem?_pos, List.getElem?_cons_zero, List.getElem?_cons_succ, hf, t7]
      refine ⟨26 - (i + 1), by omega, rfl, i + 1, rfl, by omega, hS.step hok (KBel.refl _ _) (Nat.le_refl _) (by simp) (by simp) (by simp [e0]) (by simp) (by simp), by simp, fun j h1 h2 => ?_⟩
      by_cases e : j = i + 1
      · subst e; rw [hw0]; exact hf
      · exact hno j h1 (by omega)
  · have hlt' : ¬ (i : Int) < 26 := by omega
    obtain rfl : i = 26 := by omega
    have hk : kindOf (ws.getD 0 []) = 0 := kind_none fun j h1 h2 => hno j h1 (by omega)
    rw [readC_none hk] at hpr
    simp (disch := first | omega | (simp; done) | assumption) [wr64, wrU8, wrU64, Nat.add_assoc, -getElem?_pos, List.getElem?_cons_zero, List.getElem?_cons_succ, t7, st5, st2, s3, cmL, rs7]
    refine ⟨fun x o hx => ?_, by simp; omega, by rw [hpr]; rfl⟩
    have := hok _ _ hx
    rw [AH.set_ne _ _ (by omega)]
    exact s1 x o hx
end Go.Proofs.YthobgplifgghjaaGreatDoor.CNumb

/- FaultTexts, worked out, for texts that are not too long. -/
import Derived.Test.YtpmlaaoideeafaaDoorFChain
import Derived.Test.YtpmlaaoideeafaaDoorEStrs
set_option linter.unusedVariables false
set_option linter.unusedSimpArgs false
set_option maxRecDepth 10000
set_option maxHeartbeats 8000000
namespace Go.Proofs.YtpmlaaoideeafaaDoor.FTexts
open Go Go.RowKit Go.Proofs.YtpmlaaoideeafaaDoor Go.Proofs.YtpmlaaoideeafaaDoor.Abs Go.Proofs.YtpmlaaoideeafaaDoor.Ic Go.Proofs.YtpmlaaoideeafaaDoor.EAs Go.Proofs.YtpmlaaoideeafaaDoor.EErr Go.Proofs.YtpmlaaoideeafaaDoor.FChain
theorem Law {op name : List UInt8} {os ns : List (List UInt8)} {n : Int} {vo vn : AV} {H : AH} (hE : loadC H 0 0 none = some (rt tErr)) (hP : H.at_ 1 = some powTab)
    (ho : SL H vo (os.map .str)) (hn : SL H vn (ns.map .str)) (hsz : op.length + name.length + total os + total ns ≤ 100000000) (h0 : -9223372036854775808 ≤ n) (h1 : n ≤ 9223372036854775807) :
    ACall Tryd.prog 4 [.str op, .str name, vo, vn, .int .i64 n] H (fun v H' => v = .bool true ∧ H' = H) := by
  refine acall_enter fits4 (by simp) (by simp) fun hok => ?_
  obtain ⟨m, hm⟩ : ∃ m : Int, (if n = 0 then 11 else n) = m := ⟨_, rfl⟩
  have hm0 : m ≠ 0 := by rw [← hm]; split; decide; assumption
  have hmr : -9223372036854775808 ≤ m ∧ m ≤ 9223372036854775807 := by rw [← hm]; split <;> omega
  by_cases hn0 : n = 0
  · have hm1 : m = 11 := by rw [← hm, if_pos hn0]
    subst hn0
    simp (disch := first | omega | (simp; done) | assumption) [wr64, wrU8, wrU64, Nat.add_assoc, -getElem?_pos, List.getElem?_cons_zero, List.getElem?_cons_succ, ic4, rs4]
    rw [← hm1]
    refine CallW.ofk (EChain (n := m) ho hn) ?_
    rintro e H1 ⟨hk1, hn1, hmade⟩ hok1
    simp only [newO_none] at hk1 hn1 hmade
    rcases hmade with ⟨hz, rfl⟩ | ⟨hk0, _, f0, fs, hfo, hfm, rfl, hc⟩
    · simp (disch := first | omega | (simp; done) | assumption) [wr64, wrU8, wrU64, Nat.add_assoc, -getElem?_pos, List.getElem?_cons_zero, List.getElem?_cons_succ, ]
      refine CallW.val (EWrap_nil _ _ _) ?_
      simp (disch := first | omega | (simp; done) | assumption) [wr64, wrU8, wrU64, Nat.add_assoc, -getElem?_pos, List.getElem?_cons_zero, List.getElem?_cons_succ, ]
      refine CallW.val (Awake (loadC_keeps hk1 hE)) ?_
      simp (disch := first | omega | (simp; done) | assumption) [wr64, wrU8, wrU64, Nat.add_assoc, -getElem?_pos, List.getElem?_cons_zero, List.getElem?_cons_succ, ]
      exact hk1
    · simp (disch := first | omega | (simp; done) | assumption) [wr64, wrU8, wrU64, Nat.add_assoc, -getElem?_pos, List.getElem?_cons_zero, List.getElem?_cons_succ, ]
      refine CallW.ofk (EWrapC _ _ hc (by simp)) ?_
      rintro e2 H2 ⟨hk2, hn2, f, hfo2, hfm2, rfl, hc2⟩ hok2
      simp only [newO_none] at hk2 hn2
      have hk12 : H.keepsAll H2 := fun x o hx => hk2 x o (hk1 x o hx)
      have hlen : (f0 :: fs).length ≤ 30 := by
        have h3 := congrArg List.length hfo
        simp only [List.length_map, List.length_take] at h3
        have h4 : kOf os ns ≤ 30 := by unfold kOf; omega
        omega
      obtain ⟨l, hl⟩ : ∃ l, f0 :: fs = l := ⟨_, rfl⟩
      rw [hl] at hfo hfm hc hc2 hlen
      have hl0 : l ≠ [] := by rw [← hl]; simp
      have hlp : 0 < l.length := List.length_pos_iff.2 hl0
      have hc' := hc.keeps hk2
      have ht1 : total (l.map Fl.op) ≤ total os := by rw [hfo]; exact total_take _ _
      have ht2 : total (l.map Fl.name) ≤ total ns := by rw [hfm]; exact total_take _ _
      have htl := txt_len l
      have htf : (txt (f :: l)).length = (txt l).length + op.length + (if name = [] then 0 else name.length + 1) + 2 := by
        simp only [txt, headOf, List.length_append, hfo2, hfm2, List.length_cons, List.length_nil]
        split <;> simp <;> omega
      have htf2 : (txt (f :: l)).length ≤ 200000000 := by rw [htf]; split <;> omega
      have hnum : numOf (.iface 43 (.ptr f0.b 0)) (some m) = m := rfl
      have hnum2 : numOf (.iface 43 (.ptr f.b 0)) (some m) = m := rfl
      have hio : ∀ Hx : AH, H.keepsAll Hx → ItoaOk Hx m := fun Hx hx => .inr ⟨hx _ _ hP, hmr⟩
      have hel : (errS m).length ≤ 27 := by
        have h3 := itoa_len (hio H (AH.keepsAll_refl _))
        unfold errS
        simp only [List.length_append, List.length_cons, List.length_nil]
        omega
      have htake : (f :: l).take 100 = f :: l := List.take_of_length_le (by simp; omega)
      have htake2 : l.take 100 = l := List.take_of_length_le (by omega)
      by_cases hname : name = []
      · have htx : txt (f :: l) = op ++ 58 :: 32 :: txt l := by simp [txt, headOf, hfo2, hfm2, hname]
        simp (disch := first | omega | (simp; done) | assumption) [wr64, wrU8, wrU64, Nat.add_assoc, -getElem?_pos, List.getElem?_cons_zero, List.getElem?_cons_succ, hname]
        refine CallW.ofk (EOps hc2 (by simp; omega) htake) ?_
        rintro v1 H3 ⟨hk3, hn3, hs3⟩ hok3
        simp only [newO_none] at hk3 hn3
        rcases sl_cases hs3 (n := l.length + 1) (by simp) with ⟨hx, _⟩ | ⟨hx, _⟩ | ⟨b1, o1, rfl, hld⟩
        · omega
        · omega
        simp (disch := first | omega | (simp; done) | assumption) [wr64, wrU8, wrU64, Nat.add_assoc, -getElem?_pos, List.getElem?_cons_zero, List.getElem?_cons_succ, ]
        refine CallW.ofk (EOps (hc'.keeps hk3) (by omega) htake2) ?_
        rintro v2 H4 ⟨hk4, hn4, hs4⟩ hok4
        simp only [newO_none] at hk4 hn4
        rcases sl_cases hs4 (n := l.length) (by simp) with ⟨hx, _⟩ | ⟨hx, _⟩ | ⟨b2, o2, rfl, _⟩
        · omega
        · omega
        have hk24 : H2.keepsAll H4 := fun x o hx => hk4 x o (hk3 x o hx)
        have hkk : H.keepsAll H4 := fun x o hx => hk24 x o (hk12 x o hx)
        have hE4 := loadC_keeps hkk hE
        have hc4 := hc'.keeps hk24
        have hc24 := hc2.keeps hk24
        have ha0 : loadC H4 b1 (o1 + 0) none = some (.str op) := loadC_keeps hk4 (by rw [hld 0 (by omega)]; simp [hfo2])
        simp only [loadC, Nat.add_zero] at ha0
        simp (disch := first | omega | (simp; done) | assumption) [wr64, wrU8, wrU64, Nat.add_assoc, -getElem?_pos, List.getElem?_cons_zero, List.getElem?_cons_succ, ]
        refine CallW.val (EText hE4 hc24 (by simp) (by simp; omega) (by omega) (by rw [hnum2]; exact hio _ hkk)) ?_
        rw [hnum2]
        simp (disch := first | omega | (simp; done) | assumption) [wr64, wrU8, wrU64, Nat.add_assoc, -getElem?_pos, List.getElem?_cons_zero, List.getElem?_cons_succ, ]
        repeat (refine Try.guard (by first | omega | (simp; omega)) ?_; simp (disch := first | omega | (simp; done) | assumption) [wr64, wrU8, wrU64, Nat.add_assoc, -getElem?_pos, List.getElem?_cons_zero, List.getElem?_cons_succ, ])
        refine CallW.val (EText hE4 hc4 hl0 (by omega) (by omega) (by rw [hnum]; exact hio _ hkk)) ?_
        rw [hnum]
        simp (disch := first | omega | (simp; done) | assumption) [wr64, wrU8, wrU64, Nat.add_assoc, -getElem?_pos, List.getElem?_cons_zero, List.getElem?_cons_succ, htx]
        repeat (refine Try.guard (by first | omega | (simp; omega)) ?_; simp (disch := first | omega | (simp; done) | assumption) [wr64, wrU8, wrU64, Nat.add_assoc, -getElem?_pos, List.getElem?_cons_zero, List.getElem?_cons_succ, htx])
        refine CallW.val (ENum hE4 hc24) ?_
        rw [hnum2]
        simp (disch := first | omega | (simp; done) | assumption) [wr64, wrU8, wrU64, Nat.add_assoc, -getElem?_pos, List.getElem?_cons_zero, List.getElem?_cons_succ, ]
        refine CallW.val (ENum hE4 hc4) ?_
        rw [hnum]
        simp (disch := first | omega | (simp; done) | assumption) [wr64, wrU8, wrU64, Nat.add_assoc, -getElem?_pos, List.getElem?_cons_zero, List.getElem?_cons_succ, ]
        refine CallW.val (EDepth hc24 (by simp; omega)) ?_
        simp (disch := first | omega | (simp; done) | assumption) [wr64, wrU8, wrU64, Nat.add_assoc, -getElem?_pos, List.getElem?_cons_zero, List.getElem?_cons_succ, ]
        refine CallW.val (EDepth hc4 (by omega)) ?_
        simp (disch := first | omega | (simp; done) | assumption) [wr64, wrU8, wrU64, Nat.add_assoc, -getElem?_pos, List.getElem?_cons_zero, List.getElem?_cons_succ, ]
        refine Try.intro ha0 ?_
        simp (disch := first | omega | (simp; done) | assumption) [wr64, wrU8, wrU64, Nat.add_assoc, -getElem?_pos, List.getElem?_cons_zero, List.getElem?_cons_succ, ]
        refine CallW.val (Awake hE4) ?_
        simp (disch := first | omega | (simp; done) | assumption) [wr64, wrU8, wrU64, Nat.add_assoc, -getElem?_pos, List.getElem?_cons_zero, List.getElem?_cons_succ, ]
        exact hkk
      · have htx : txt (f :: l) = op ++ 32 :: (name ++ 58 :: 32 :: txt l) := by simp [txt, headOf, hfo2, hfm2, hname]
        have hg1 : op.length + 1 ≤ 9223372036854775807 := by omega
        have hg2 : op.length + 1 + name.length ≤ 9223372036854775807 := by omega
        simp (disch := first | omega | (simp; done) | assumption) [wr64, wrU8, wrU64, Nat.add_assoc, -getElem?_pos, List.getElem?_cons_zero, List.getElem?_cons_succ, hname]
        repeat' (first | (refine Fork3.ndec (fun hh => ?_) (fun hh => ?_) <;> (first | (exfalso; omega) | simp (disch := first | omega | (simp; done) | assumption) [*, wr64, wrU8, wrU64, Nat.add_assoc, -getElem?_pos, List.getElem?_cons_zero, List.getElem?_cons_succ])) | (refine Fork3.dec (fun hh => ?_) (fun hh => ?_) <;> (first | (exfalso; omega) | simp (disch := first | omega | (simp; done) | assumption) [*, wr64, wrU8, wrU64, Nat.add_assoc, -getElem?_pos, List.getElem?_cons_zero, List.getElem?_cons_succ])) | (refine Fork3.intro (fun hh => ?_) (fun hh => ?_) <;> (try simp at hh) <;> (first | (exfalso; omega) | simp (disch := first | omega | (simp; done) | assumption) [*, wr64, wrU8, wrU64, Nat.add_assoc, -getElem?_pos, List.getElem?_cons_zero, List.getElem?_cons_succ])) | (refine Fork3.ite (fun hh => ?_) (fun hh => ?_) <;> (first | (exfalso; omega) | simp (disch := first | omega | (simp; done) | assumption) [*, wr64, wrU8, wrU64, Nat.add_assoc, -getElem?_pos, List.getElem?_cons_zero, List.getElem?_cons_succ])) | (refine Try.guard (by first | assumption | omega | (simp; omega) | (simp [*]; omega)) ?_; simp (disch := first | omega | (simp; done) | assumption) [*, wr64, wrU8, wrU64, Nat.add_assoc, -getElem?_pos, List.getElem?_cons_zero, List.getElem?_cons_succ]) | (refine Try.guardn (by first | assumption | omega | (simp; omega) | (simp [*]; omega)) ?_; simp (disch := first | omega | (simp; done) | assumption) [*, wr64, wrU8, wrU64, Nat.add_assoc, -getElem?_pos, List.getElem?_cons_zero, List.getElem?_cons_succ]))
        refine CallW.ofk (EOps hc2 (by simp; omega) htake) ?_
        rintro v1 H3 ⟨hk3, hn3, hs3⟩ hok3
        simp only [newO_none] at hk3 hn3
        rcases sl_cases hs3 (n := l.length + 1) (by simp) with ⟨hx, _⟩ | ⟨hx, _⟩ | ⟨b1, o1, rfl, hld⟩
        · omega
        · omega
        simp (disch := first | omega | (simp; done) | assumption) [wr64, wrU8, wrU64, Nat.add_assoc, -getElem?_pos, List.getElem?_cons_zero, List.getElem?_cons_succ, ]
        refine CallW.ofk (EOps (hc'.keeps hk3) (by omega) htake2) ?_
        rintro v2 H4 ⟨hk4, hn4, hs4⟩ hok4
        simp only [newO_none] at hk4 hn4
        rcases sl_cases hs4 (n := l.length) (by simp) with ⟨hx, _⟩ | ⟨hx, _⟩ | ⟨b2, o2, rfl, _⟩
        · omega
        · omega
        have hk24 : H2.keepsAll H4 := fun x o hx => hk4 x o (hk3 x o hx)
        have hkk : H.keepsAll H4 := fun x o hx => hk24 x o (hk12 x o hx)
        have hE4 := loadC_keeps hkk hE
        have hc4 := hc'.keeps hk24
        have hc24 := hc2.keeps hk24
        have ha0 : loadC H4 b1 (o1 + 0) none = some (.str op) := loadC_keeps hk4 (by rw [hld 0 (by omega)]; simp [hfo2])
        simp only [loadC, Nat.add_zero] at ha0
        simp (disch := first | omega | (simp; done) | assumption) [wr64, wrU8, wrU64, Nat.add_assoc, -getElem?_pos, List.getElem?_cons_zero, List.getElem?_cons_succ, ]
        refine CallW.val (EText hE4 hc24 (by simp) (by simp; omega) (by omega) (by rw [hnum2]; exact hio _ hkk)) ?_
        rw [hnum2]
        simp (disch := first | omega | (simp; done) | assumption) [wr64, wrU8, wrU64, Nat.add_assoc, -getElem?_pos, List.getElem?_cons_zero, List.getElem?_cons_succ, ]
        repeat (refine Try.guard (by first | omega | (simp; omega)) ?_; simp (disch := first | omega | (simp; done) | assumption) [wr64, wrU8, wrU64, Nat.add_assoc, -getElem?_pos, List.getElem?_cons_zero, List.getElem?_cons_succ, ])
        refine CallW.val (EText hE4 hc4 hl0 (by omega) (by omega) (by rw [hnum]; exact hio _ hkk)) ?_
        rw [hnum]
        simp (disch := first | omega | (simp; done) | assumption) [wr64, wrU8, wrU64, Nat.add_assoc, -getElem?_pos, List.getElem?_cons_zero, List.getElem?_cons_succ, htx]
        repeat (refine Try.guard (by first | omega | (simp; omega)) ?_; simp (disch := first | omega | (simp; done) | assumption) [wr64, wrU8, wrU64, Nat.add_assoc, -getElem?_pos, List.getElem?_cons_zero, List.getElem?_cons_succ, htx])
        refine CallW.val (ENum hE4 hc24) ?_
        rw [hnum2]
        simp (disch := first | omega | (simp; done) | assumption) [wr64, wrU8, wrU64, Nat.add_assoc, -getElem?_pos, List.getElem?_cons_zero, List.getElem?_cons_succ, ]
        refine CallW.val (ENum hE4 hc4) ?_
        rw [hnum]
        simp (disch := first | omega | (simp; done) | assumption) [wr64, wrU8, wrU64, Nat.add_assoc, -getElem?_pos, List.getElem?_cons_zero, List.getElem?_cons_succ, ]
        refine CallW.val (EDepth hc24 (by simp; omega)) ?_
        simp (disch := first | omega | (simp; done) | assumption) [wr64, wrU8, wrU64, Nat.add_assoc, -getElem?_pos, List.getElem?_cons_zero, List.getElem?_cons_succ, ]
        refine CallW.val (EDepth hc4 (by omega)) ?_
        simp (disch := first | omega | (simp; done) | assumption) [wr64, wrU8, wrU64, Nat.add_assoc, -getElem?_pos, List.getElem?_cons_zero, List.getElem?_cons_succ, ]
        refine Try.intro ha0 ?_
        simp (disch := first | omega | (simp; done) | assumption) [wr64, wrU8, wrU64, Nat.add_assoc, -getElem?_pos, List.getElem?_cons_zero, List.getElem?_cons_succ, ]
        refine CallW.val (Awake hE4) ?_
        simp (disch := first | omega | (simp; done) | assumption) [wr64, wrU8, wrU64, Nat.add_assoc, -getElem?_pos, List.getElem?_cons_zero, List.getElem?_cons_succ, ]
        exact hkk
  · have hm1 : m = n := by rw [← hm, if_neg hn0]
    simp (disch := first | omega | (simp; done) | assumption) [wr64, wrU8, wrU64, Nat.add_assoc, -getElem?_pos, List.getElem?_cons_zero, List.getElem?_cons_succ, ic4, rs4, hn0]
    rw [← hm1]
    refine CallW.ofk (EChain (n := m) ho hn) ?_
    rintro e H1 ⟨hk1, hn1, hmade⟩ hok1
    simp only [newO_none] at hk1 hn1 hmade
    rcases hmade with ⟨hz, rfl⟩ | ⟨hk0, _, f0, fs, hfo, hfm, rfl, hc⟩
    · simp (disch := first | omega | (simp; done) | assumption) [wr64, wrU8, wrU64, Nat.add_assoc, -getElem?_pos, List.getElem?_cons_zero, List.getElem?_cons_succ, ]
      refine CallW.val (EWrap_nil _ _ _) ?_
      simp (disch := first | omega | (simp; done) | assumption) [wr64, wrU8, wrU64, Nat.add_assoc, -getElem?_pos, List.getElem?_cons_zero, List.getElem?_cons_succ, ]
      refine CallW.val (Awake (loadC_keeps hk1 hE)) ?_
      simp (disch := first | omega | (simp; done) | assumption) [wr64, wrU8, wrU64, Nat.add_assoc, -getElem?_pos, List.getElem?_cons_zero, List.getElem?_cons_succ, ]
      exact hk1
    · simp (disch := first | omega | (simp; done) | assumption) [wr64, wrU8, wrU64, Nat.add_assoc, -getElem?_pos, List.getElem?_cons_zero, List.getElem?_cons_succ, ]
      refine CallW.ofk (EWrapC _ _ hc (by simp)) ?_
      rintro e2 H2 ⟨hk2, hn2, f, hfo2, hfm2, rfl, hc2⟩ hok2
      simp only [newO_none] at hk2 hn2
      have hk12 : H.keepsAll H2 := fun x o hx => hk2 x o (hk1 x o hx)
      have hlen : (f0 :: fs).length ≤ 30 := by
        have h3 := congrArg List.length hfo
        simp only [List.length_map, List.length_take] at h3
        have h4 : kOf os ns ≤ 30 := by unfold kOf; omega
        omega
      obtain ⟨l, hl⟩ : ∃ l, f0 :: fs = l := ⟨_, rfl⟩
      rw [hl] at hfo hfm hc hc2 hlen
      have hl0 : l ≠ [] := by rw [← hl]; simp
      have hlp : 0 < l.length := List.length_pos_iff.2 hl0
      have hc' := hc.keeps hk2
      have ht1 : total (l.map Fl.op) ≤ total os := by rw [hfo]; exact total_take _ _
      have ht2 : total (l.map Fl.name) ≤ total ns := by rw [hfm]; exact total_take _ _
      have htl := txt_len l
      have htf : (txt (f :: l)).length = (txt l).length + op.length + (if name = [] then 0 else name.length + 1) + 2 := by
        simp only [txt, headOf, List.length_append, hfo2, hfm2, List.length_cons, List.length_nil]
        split <;> simp <;> omega
      have htf2 : (txt (f :: l)).length ≤ 200000000 := by rw [htf]; split <;> omega
      have hnum : numOf (.iface 43 (.ptr f0.b 0)) (some m) = m := rfl
      have hnum2 : numOf (.iface 43 (.ptr f.b 0)) (some m) = m := rfl
      have hio : ∀ Hx : AH, H.keepsAll Hx → ItoaOk Hx m := fun Hx hx => .inr ⟨hx _ _ hP, hmr⟩
      have hel : (errS m).length ≤ 27 := by
        have h3 := itoa_len (hio H (AH.keepsAll_refl _))
        unfold errS
        simp only [List.length_append, List.length_cons, List.length_nil]
        omega
      have htake : (f :: l).take 100 = f :: l := List.take_of_length_le (by simp; omega)
      have htake2 : l.take 100 = l := List.take_of_length_le (by omega)
      by_cases hname : name = []
      · have htx : txt (f :: l) = op ++ 58 :: 32 :: txt l := by simp [txt, headOf, hfo2, hfm2, hname]
        simp (disch := first | omega | (simp; done) | assumption) [wr64, wrU8, wrU64, Nat.add_assoc, -getElem?_pos, List.getElem?_cons_zero, List.getElem?_cons_succ, hname]
        refine CallW.ofk (EOps hc2 (by simp; omega) htake) ?_
        rintro v1 H3 ⟨hk3, hn3, hs3⟩ hok3
        simp only [newO_none] at hk3 hn3
        rcases sl_cases hs3 (n := l.length + 1) (by simp) with ⟨hx, _⟩ | ⟨hx, _⟩ | ⟨b1, o1, rfl, hld⟩
        · omega
        · omega
        simp (disch := first | omega | (simp; done) | assumption) [wr64, wrU8, wrU64, Nat.add_assoc, -getElem?_pos, List.getElem?_cons_zero, List.getElem?_cons_succ, ]
        refine CallW.ofk (EOps (hc'.keeps hk3) (by omega) htake2) ?_
        rintro v2 H4 ⟨hk4, hn4, hs4⟩ hok4
        simp only [newO_none] at hk4 hn4
        rcases sl_cases hs4 (n := l.length) (by simp) with ⟨hx, _⟩ | ⟨hx, _⟩ | ⟨b2, o2, rfl, _⟩
        · omega
        · omega
        have hk24 : H2.keepsAll H4 := fun x o hx => hk4 x o (hk3 x o hx)
        have hkk : H.keepsAll H4 := fun x o hx => hk24 x o (hk12 x o hx)
        have hE4 := loadC_keeps hkk hE
        have hc4 := hc'.keeps hk24
        have hc24 := hc2.keeps hk24
        have ha0 : loadC H4 b1 (o1 + 0) none = some (.str op) := loadC_keeps hk4 (by rw [hld 0 (by omega)]; simp [hfo2])
        simp only [loadC, Nat.add_zero] at ha0
        simp (disch := first | omega | (simp; done) | assumption) [wr64, wrU8, wrU64, Nat.add_assoc, -getElem?_pos, List.getElem?_cons_zero, List.getElem?_cons_succ, ]
        refine CallW.val (EText hE4 hc24 (by simp) (by simp; omega) (by omega) (by rw [hnum2]; exact hio _ hkk)) ?_
        rw [hnum2]
        simp (disch := first | omega | (simp; done) | assumption) [wr64, wrU8, wrU64, Nat.add_assoc, -getElem?_pos, List.getElem?_cons_zero, List.getElem?_cons_succ, ]
        repeat (refine Try.guard (by first | omega | (simp; omega)) ?_; simp (disch := first | omega | (simp; done) | assumption) [wr64, wrU8, wrU64, Nat.add_assoc, -getElem?_pos, List.getElem?_cons_zero, List.getElem?_cons_succ, ])
        refine CallW.val (EText hE4 hc4 hl0 (by omega) (by omega) (by rw [hnum]; exact hio _ hkk)) ?_
        rw [hnum]
        simp (disch := first | omega | (simp; done) | assumption) [wr64, wrU8, wrU64, Nat.add_assoc, -getElem?_pos, List.getElem?_cons_zero, List.getElem?_cons_succ, htx]
        repeat (refine Try.guard (by first | omega | (simp; omega)) ?_; simp (disch := first | omega | (simp; done) | assumption) [wr64, wrU8, wrU64, Nat.add_assoc, -getElem?_pos, List.getElem?_cons_zero, List.getElem?_cons_succ, htx])
        refine CallW.val (ENum hE4 hc24) ?_
        rw [hnum2]
        simp (disch := first | omega | (simp; done) | assumption) [wr64, wrU8, wrU64, Nat.add_assoc, -getElem?_pos, List.getElem?_cons_zero, List.getElem?_cons_succ, ]
        refine CallW.val (ENum hE4 hc4) ?_
        rw [hnum]
        simp (disch := first | omega | (simp; done) | assumption) [wr64, wrU8, wrU64, Nat.add_assoc, -getElem?_pos, List.getElem?_cons_zero, List.getElem?_cons_succ, ]
        refine CallW.val (EDepth hc24 (by simp; omega)) ?_
        simp (disch := first | omega | (simp; done) | assumption) [wr64, wrU8, wrU64, Nat.add_assoc, -getElem?_pos, List.getElem?_cons_zero, List.getElem?_cons_succ, ]
        refine CallW.val (EDepth hc4 (by omega)) ?_
        simp (disch := first | omega | (simp; done) | assumption) [wr64, wrU8, wrU64, Nat.add_assoc, -getElem?_pos, List.getElem?_cons_zero, List.getElem?_cons_succ, ]
        refine Try.intro ha0 ?_
        simp (disch := first | omega | (simp; done) | assumption) [wr64, wrU8, wrU64, Nat.add_assoc, -getElem?_pos, List.getElem?_cons_zero, List.getElem?_cons_succ, ]
        refine CallW.val (Awake hE4) ?_
        simp (disch := first | omega | (simp; done) | assumption) [wr64, wrU8, wrU64, Nat.add_assoc, -getElem?_pos, List.getElem?_cons_zero, List.getElem?_cons_succ, ]
        exact hkk
      · have htx : txt (f :: l) = op ++ 32 :: (name ++ 58 :: 32 :: txt l) := by simp [txt, headOf, hfo2, hfm2, hname]
        have hg1 : op.length + 1 ≤ 9223372036854775807 := by omega
        have hg2 : op.length + 1 + name.length ≤ 9223372036854775807 := by omega
        simp (disch := first | omega | (simp; done) | assumption) [wr64, wrU8, wrU64, Nat.add_assoc, -getElem?_pos, List.getElem?_cons_zero, List.getElem?_cons_succ, hname]
        repeat' (first | (refine Fork3.ndec (fun hh => ?_) (fun hh => ?_) <;> (first | (exfalso; omega) | simp (disch := first | omega | (simp; done) | assumption) [*, wr64, wrU8, wrU64, Nat.add_assoc, -getElem?_pos, List.getElem?_cons_zero, List.getElem?_cons_succ])) | (refine Fork3.dec (fun hh => ?_) (fun hh => ?_) <;> (first | (exfalso; omega) | simp (disch := first | omega | (simp; done) | assumption) [*, wr64, wrU8, wrU64, Nat.add_assoc, -getElem?_pos, List.getElem?_cons_zero, List.getElem?_cons_succ])) | (refine Fork3.intro (fun hh => ?_) (fun hh => ?_) <;> (try simp at hh) <;> (first | (exfalso; omega) | simp (disch := first | omega | (simp; done) | assumption) [*, wr64, wrU8, wrU64, Nat.add_assoc, -getElem?_pos, List.getElem?_cons_zero, List.getElem?_cons_succ])) | (refine Fork3.ite (fun hh => ?_) (fun hh => ?_) <;> (first | (exfalso; omega) | simp (disch := first | omega | (simp; done) | assumption) [*, wr64, wrU8, wrU64, Nat.add_assoc, -getElem?_pos, List.getElem?_cons_zero, List.getElem?_cons_succ])) | (refine Try.guard (by first | assumption | omega | (simp; omega) | (simp [*]; omega)) ?_; simp (disch := first | omega | (simp; done) | assumption) [*, wr64, wrU8, wrU64, Nat.add_assoc, -getElem?_pos, List.getElem?_cons_zero, List.getElem?_cons_succ]) | (refine Try.guardn (by first | assumption | omega | (simp; omega) | (simp [*]; omega)) ?_; simp (disch := first | omega | (simp; done) | assumption) [*, wr64, wrU8, wrU64, Nat.add_assoc, -getElem?_pos, List.getElem?_cons_zero, List.getElem?_cons_succ]))
        refine CallW.ofk (EOps hc2 (by simp; omega) htake) ?_
        rintro v1 H3 ⟨hk3, hn3, hs3⟩ hok3
        simp only [newO_none] at hk3 hn3
        rcases sl_cases hs3 (n := l.length + 1) (by simp) with ⟨hx, _⟩ | ⟨hx, _⟩ | ⟨b1, o1, rfl, hld⟩
        · omega
        · omega
        simp (disch := first | omega | (simp; done) | assumption) [wr64, wrU8, wrU64, Nat.add_assoc, -getElem?_pos, List.getElem?_cons_zero, List.getElem?_cons_succ, ]
        refine CallW.ofk (EOps (hc'.keeps hk3) (by omega) htake2) ?_
        rintro v2 H4 ⟨hk4, hn4, hs4⟩ hok4
        simp only [newO_none] at hk4 hn4
        rcases sl_cases hs4 (n := l.length) (by simp) with ⟨hx, _⟩ | ⟨hx, _⟩ | ⟨b2, o2, rfl, _⟩
        · omega
        · omega
        have hk24 : H2.keepsAll H4 := fun x o hx => hk4 x o (hk3 x o hx)
        have hkk : H.keepsAll H4 := fun x o hx => hk24 x o (hk12 x o hx)
        have hE4 := loadC_keeps hkk hE
        have hc4 := hc'.keeps hk24
        have hc24 := hc2.keeps hk24
        have ha0 : loadC H4 b1 (o1 + 0) none = some (.str op) := loadC_keeps hk4 (by rw [hld 0 (by omega)]; simp [hfo2])
        simp only [loadC, Nat.add_zero] at ha0
        simp (disch := first | omega | (simp; done) | assumption) [wr64, wrU8, wrU64, Nat.add_assoc, -getElem?_pos, List.getElem?_cons_zero, List.getElem?_cons_succ, ]
        refine CallW.val (EText hE4 hc24 (by simp) (by simp; omega) (by omega) (by rw [hnum2]; exact hio _ hkk)) ?_
        rw [hnum2]
        simp (disch := first | omega | (simp; done) | assumption) [wr64, wrU8, wrU64, Nat.add_assoc, -getElem?_pos, List.getElem?_cons_zero, List.getElem?_cons_succ, ]
        repeat (refine Try.guard (by first | omega | (simp; omega)) ?_; simp (disch := first | omega | (simp; done) | assumption) [wr64, wrU8, wrU64, Nat.add_assoc, -getElem?_pos, List.getElem?_cons_zero, List.getElem?_cons_succ, ])
        refine CallW.val (EText hE4 hc4 hl0 (by omega) (by omega) (by rw [hnum]; exact hio _ hkk)) ?_
        rw [hnum]
        simp (disch := first | omega | (simp; done) | assumption) [wr64, wrU8, wrU64, Nat.add_assoc, -getElem?_pos, List.getElem?_cons_zero, List.getElem?_cons_succ, htx]
        repeat (refine Try.guard (by first | omega | (simp; omega)) ?_; simp (disch := first | omega | (simp; done) | assumption) [wr64, wrU8, wrU64, Nat.add_assoc, -getElem?_pos, List.getElem?_cons_zero, List.getElem?_cons_succ, htx])
        refine CallW.val (ENum hE4 hc24) ?_
        rw [hnum2]
        simp (disch := first | omega | (simp; done) | assumption) [wr64, wrU8, wrU64, Nat.add_assoc, -getElem?_pos, List.getElem?_cons_zero, List.getElem?_cons_succ, ]
        refine CallW.val (ENum hE4 hc4) ?_
        rw [hnum]
        simp (disch := first | omega | (simp; done) | assumption) [wr64, wrU8, wrU64, Nat.add_assoc, -getElem?_pos, List.getElem?_cons_zero, List.getElem?_cons_succ, ]
        refine CallW.val (EDepth hc24 (by simp; omega)) ?_
        simp (disch := first | omega | (simp; done) | assumption) [wr64, wrU8, wrU64, Nat.add_assoc, -getElem?_pos, List.getElem?_cons_zero, List.getElem?_cons_succ, ]
        refine CallW.val (EDepth hc4 (by omega)) ?_
        simp (disch := first | omega | (simp; done) | assumption) [wr64, wrU8, wrU64, Nat.add_assoc, -getElem?_pos, List.getElem?_cons_zero, List.getElem?_cons_succ, ]
        refine Try.intro ha0 ?_
        simp (disch := first | omega | (simp; done) | assumption) [wr64, wrU8, wrU64, Nat.add_assoc, -getElem?_pos, List.getElem?_cons_zero, List.getElem?_cons_succ, ]
        refine CallW.val (Awake hE4) ?_
        simp (disch := first | omega | (simp; done) | assumption) [wr64, wrU8, wrU64, Nat.add_assoc, -getElem?_pos, List.getElem?_cons_zero, List.getElem?_cons_succ, ]
        exact hkk
theorem FaultTexts.walk (a0 a1 : ByteArray) (a2 : Option Addr) (l2 c2 : Nat) (s2 : List ByteArray) (a3 : Option Addr) (l3 c3 : Nat) (s3 : List ByteArray) (a4 : Int) (W : World) (hsh : W.ShapedOpen Tryd.prog) (hG : ELaid.G W)
    (w0 : a0.data.toList.length ≤ 1048576) (w1 : a1.data.toList.length ≤ 1048576) (w2 : EStrs.IsStrs W a2 l2 c2 s2) (y2 : total (EStrs.texts (s2.take l2)) ≤ 1048576) (w3 : EStrs.IsStrs W a3 l3 c3 s3) (y3 : total (EStrs.texts (s3.take l3)) ≤ 1048576) (w4 : (Lit.int .i64 a4).wf = true) :
    Calls Tryd.prog 4 #[.string a0, .string a1, .slice a2 l2 c2, .slice a3 l3 c3, .int .i64 a4] W fun e W' => e = .returned (.bool true) ∧ Below W.heap.size W W' := by
  obtain ⟨v2, h2, r2⟩ := EStrs.sl_strs (ELaid.tabs_ok hsh hG) w2
  obtain ⟨v3, h3, r3⟩ := EStrs.sl_strs (ELaid.tabs_ok hsh hG) w3
  exact ELaid.walk hsh hG (Law (ELaid.H1_err W) (ELaid.H1_pow W) h2 h3 (by omega) (EStrs.i64_range w4).1 (EStrs.i64_range w4).2) (.cons (.str a0) (.cons (.str a1) (.cons r2 (.cons r3 (.cons (.int _ _) .nil)))))
end Go.Proofs.YtpmlaaoideeafaaDoor.FTexts

/- FaultChains, worked out, for texts that are not too long. -/
import Derived.Test.YtpmlaaoideeafaaDoorFChain
import Derived.Test.YtpmlaaoideeafaaDoorEStrs
set_option linter.unusedVariables false
set_option linter.unusedSimpArgs false
set_option maxRecDepth 10000
set_option maxHeartbeats 8000000
namespace Go.Proofs.YtpmlaaoideeafaaDoor.FChains
open Go Go.RowKit Go.Proofs.YtpmlaaoideeafaaDoor Go.Proofs.YtpmlaaoideeafaaDoor.Abs Go.Proofs.YtpmlaaoideeafaaDoor.Ic Go.Proofs.YtpmlaaoideeafaaDoor.EAs Go.Proofs.YtpmlaaoideeafaaDoor.EErr Go.Proofs.YtpmlaaoideeafaaDoor.FChain
/-- The loop that tells what is wanted. -/
def WI (vo vn v1 v2 e : AV) (n : Int) (l : List Fl) (H : AH) (k : Nat) (tm : Tms) (H' : AH) : Prop :=
  H' = H ∧ ∃ i : Nat, k = l.length - i ∧ i ≤ l.length ∧ tm 0 = vo ∧ tm 1 = vn ∧ tm 2 = .int .i64 n ∧ tm 7 = .int .i64 (l.length : Int) ∧ tm 8 = e ∧ tm 9 = v1 ∧ tm 10 = v2 ∧ tm 12 = .int .i64 (i : Int) ∧ tm 11 = .str (txt (l.take i))
theorem Law {os ns : List (List UInt8)} {n : Int} {vo vn : AV} {H : AH} (hE : loadC H 0 0 none = some (rt tErr)) (hP : H.at_ 1 = some powTab)
    (ho : SL H vo (os.map .str)) (hn : SL H vn (ns.map .str)) (hsz : total os + total ns ≤ 100000000) (h0 : -9223372036854775808 ≤ n) (h1 : n ≤ 9223372036854775807) :
    ACall Tryd.prog 7 [vo, vn, .int .i64 n] H (fun v H' => v = .bool true ∧ H' = H) := by
  refine acall_enter fits7 (by simp) (by simp) fun hok => ?_
  have hmin : min (os.length : Int) (min (ns.length : Int) 30) = ((kOf os ns : Nat) : Int) := by unfold kOf; omega
  have m1 : min (0 : Int) (min (ns.length : Int) 30) = 0 := by omega
  have m2 : min (os.length : Int) (min (0 : Int) 30) = 0 := by omega
  have m4 : min (os.length : Int) 0 = 0 := by omega
  have m5 : min (0 : Int) 30 = 0 := by omega
  have hol : (os.map AV.str).length = os.length := by simp
  have hnl : (ns.map AV.str).length = ns.length := by simp
  have hr0 : kOf os ns = 0 → (os.length = 0 ∨ ns.length = 0) := fun h => by unfold kOf at h; omega
  rcases sl_cases ho hol with ⟨hq, rfl⟩ | ⟨hq, rfl⟩ | ⟨b, o, rfl, hlo⟩
  · have hk0 : kOf os ns = 0 := by unfold kOf; omega
    rcases sl_cases hn hnl with ⟨hq2, rfl⟩ | ⟨hq2, rfl⟩ | ⟨b2, o2, rfl, hln⟩
    all_goals
      simp (disch := first | omega | (simp; done) | assumption) [wr64, wrU8, wrU64, Nat.add_assoc, -getElem?_pos, List.getElem?_cons_zero, List.getElem?_cons_succ, ic7, rs7, m1, m2, m4, m5, hnl]
      refine CallW.ofk (EChain ho hn) ?_
      rintro e H1 ⟨hk1, hn1, hmade⟩ hok1
      simp only [newO_none] at hk1 hn1 hmade
      rcases hmade with ⟨hz, rfl⟩ | ⟨hkn, _⟩
      · simp (disch := first | omega | (simp; done) | assumption) [wr64, wrU8, wrU64, Nat.add_assoc, -getElem?_pos, List.getElem?_cons_zero, List.getElem?_cons_succ, hk0]
        refine CallW.val (ENum (l := []) (loadC_keeps hk1 hE) .nil) ?_
        simp (disch := first | omega | (simp; done) | assumption) [wr64, wrU8, wrU64, Nat.add_assoc, -getElem?_pos, List.getElem?_cons_zero, List.getElem?_cons_succ, numOf]
        refine CallW.val (EDepth (l := []) .nil (by simp)) ?_
        simp (disch := first | omega | (simp; done) | assumption) [wr64, wrU8, wrU64, Nat.add_assoc, -getElem?_pos, List.getElem?_cons_zero, List.getElem?_cons_succ, ]
        refine CallW.val EText_nil ?_
        simp (disch := first | omega | (simp; done) | assumption) [wr64, wrU8, wrU64, Nat.add_assoc, -getElem?_pos, List.getElem?_cons_zero, List.getElem?_cons_succ, ]
        refine CallW.of (EOps (l := []) .nil (by simp) rfl) ?_
        rintro v2 H2 ⟨hk2, hn2, hs2⟩
        simp only [newO_none] at hk2 hn2
        have hkk : H.keepsAll H2 := fun x o hx => hk2 x o (hk1 x o hx)
        rcases sl_cases hs2 (n := 0) rfl with ⟨_, rfl⟩ | ⟨_, rfl⟩ | ⟨b9, o9, rfl, _⟩
        all_goals
          simp (disch := first | omega | (simp; done) | assumption) [wr64, wrU8, wrU64, Nat.add_assoc, -getElem?_pos, List.getElem?_cons_zero, List.getElem?_cons_succ, ]
          refine CallW.val (Awake (loadC_keeps hkk hE)) ?_
          simp (disch := first | omega | (simp; done) | assumption) [wr64, wrU8, wrU64, Nat.add_assoc, -getElem?_pos, List.getElem?_cons_zero, List.getElem?_cons_succ, ]
          exact hkk
      · exact absurd hk0 hkn
  · have hk0 : kOf os ns = 0 := by unfold kOf; omega
    rcases sl_cases hn hnl with ⟨hq2, rfl⟩ | ⟨hq2, rfl⟩ | ⟨b2, o2, rfl, hln⟩
    all_goals
      simp (disch := first | omega | (simp; done) | assumption) [wr64, wrU8, wrU64, Nat.add_assoc, -getElem?_pos, List.getElem?_cons_zero, List.getElem?_cons_succ, ic7, rs7, m1, m2, m4, m5, hnl]
      refine CallW.ofk (EChain ho hn) ?_
      rintro e H1 ⟨hk1, hn1, hmade⟩ hok1
      simp only [newO_none] at hk1 hn1 hmade
      rcases hmade with ⟨hz, rfl⟩ | ⟨hkn, _⟩
      · simp (disch := first | omega | (simp; done) | assumption) [wr64, wrU8, wrU64, Nat.add_assoc, -getElem?_pos, List.getElem?_cons_zero, List.getElem?_cons_succ, hk0]
        refine CallW.val (ENum (l := []) (loadC_keeps hk1 hE) .nil) ?_
        simp (disch := first | omega | (simp; done) | assumption) [wr64, wrU8, wrU64, Nat.add_assoc, -getElem?_pos, List.getElem?_cons_zero, List.getElem?_cons_succ, numOf]
        refine CallW.val (EDepth (l := []) .nil (by simp)) ?_
        simp (disch := first | omega | (simp; done) | assumption) [wr64, wrU8, wrU64, Nat.add_assoc, -getElem?_pos, List.getElem?_cons_zero, List.getElem?_cons_succ, ]
        refine CallW.val EText_nil ?_
        simp (disch := first | omega | (simp; done) | assumption) [wr64, wrU8, wrU64, Nat.add_assoc, -getElem?_pos, List.getElem?_cons_zero, List.getElem?_cons_succ, ]
        refine CallW.of (EOps (l := []) .nil (by simp) rfl) ?_
        rintro v2 H2 ⟨hk2, hn2, hs2⟩
        simp only [newO_none] at hk2 hn2
        have hkk : H.keepsAll H2 := fun x o hx => hk2 x o (hk1 x o hx)
        rcases sl_cases hs2 (n := 0) rfl with ⟨_, rfl⟩ | ⟨_, rfl⟩ | ⟨b9, o9, rfl, _⟩
        all_goals
          simp (disch := first | omega | (simp; done) | assumption) [wr64, wrU8, wrU64, Nat.add_assoc, -getElem?_pos, List.getElem?_cons_zero, List.getElem?_cons_succ, ]
          refine CallW.val (Awake (loadC_keeps hkk hE)) ?_
          simp (disch := first | omega | (simp; done) | assumption) [wr64, wrU8, wrU64, Nat.add_assoc, -getElem?_pos, List.getElem?_cons_zero, List.getElem?_cons_succ, ]
          exact hkk
      · exact absurd hk0 hkn
  · rcases sl_cases hn hnl with ⟨hq, rfl⟩ | ⟨hq, rfl⟩ | ⟨b2, o2, rfl, hln⟩
    · have hk0 : kOf os ns = 0 := by unfold kOf; omega
      simp (disch := first | omega | (simp; done) | assumption) [wr64, wrU8, wrU64, Nat.add_assoc, -getElem?_pos, List.getElem?_cons_zero, List.getElem?_cons_succ, ic7, rs7, m1, m2, m4, m5, hol]
      refine CallW.ofk (EChain ho hn) ?_
      rintro e H1 ⟨hk1, hn1, hmade⟩ hok1
      simp only [newO_none] at hk1 hn1 hmade
      rcases hmade with ⟨hz, rfl⟩ | ⟨hkn, _⟩
      · simp (disch := first | omega | (simp; done) | assumption) [wr64, wrU8, wrU64, Nat.add_assoc, -getElem?_pos, List.getElem?_cons_zero, List.getElem?_cons_succ, hk0]
        refine CallW.val (ENum (l := []) (loadC_keeps hk1 hE) .nil) ?_
        simp (disch := first | omega | (simp; done) | assumption) [wr64, wrU8, wrU64, Nat.add_assoc, -getElem?_pos, List.getElem?_cons_zero, List.getElem?_cons_succ, numOf]
        refine CallW.val (EDepth (l := []) .nil (by simp)) ?_
        simp (disch := first | omega | (simp; done) | assumption) [wr64, wrU8, wrU64, Nat.add_assoc, -getElem?_pos, List.getElem?_cons_zero, List.getElem?_cons_succ, ]
        refine CallW.val EText_nil ?_
        simp (disch := first | omega | (simp; done) | assumption) [wr64, wrU8, wrU64, Nat.add_assoc, -getElem?_pos, List.getElem?_cons_zero, List.getElem?_cons_succ, ]
        refine CallW.of (EOps (l := []) .nil (by simp) rfl) ?_
        rintro v2 H2 ⟨hk2, hn2, hs2⟩
        simp only [newO_none] at hk2 hn2
        have hkk : H.keepsAll H2 := fun x o hx => hk2 x o (hk1 x o hx)
        rcases sl_cases hs2 (n := 0) rfl with ⟨_, rfl⟩ | ⟨_, rfl⟩ | ⟨b9, o9, rfl, _⟩
        all_goals
          simp (disch := first | omega | (simp; done) | assumption) [wr64, wrU8, wrU64, Nat.add_assoc, -getElem?_pos, List.getElem?_cons_zero, List.getElem?_cons_succ, ]
          refine CallW.val (Awake (loadC_keeps hkk hE)) ?_
          simp (disch := first | omega | (simp; done) | assumption) [wr64, wrU8, wrU64, Nat.add_assoc, -getElem?_pos, List.getElem?_cons_zero, List.getElem?_cons_succ, ]
          exact hkk
      · exact absurd hk0 hkn
    · have hk0 : kOf os ns = 0 := by unfold kOf; omega
      simp (disch := first | omega | (simp; done) | assumption) [wr64, wrU8, wrU64, Nat.add_assoc, -getElem?_pos, List.getElem?_cons_zero, List.getElem?_cons_succ, ic7, rs7, m1, m2, m4, m5, hol]
      refine CallW.ofk (EChain ho hn) ?_
      rintro e H1 ⟨hk1, hn1, hmade⟩ hok1
      simp only [newO_none] at hk1 hn1 hmade
      rcases hmade with ⟨hz, rfl⟩ | ⟨hkn, _⟩
      · simp (disch := first | omega | (simp; done) | assumption) [wr64, wrU8, wrU64, Nat.add_assoc, -getElem?_pos, List.getElem?_cons_zero, List.getElem?_cons_succ, hk0]
        refine CallW.val (ENum (l := []) (loadC_keeps hk1 hE) .nil) ?_
        simp (disch := first | omega | (simp; done) | assumption) [wr64, wrU8, wrU64, Nat.add_assoc, -getElem?_pos, List.getElem?_cons_zero, List.getElem?_cons_succ, numOf]
        refine CallW.val (EDepth (l := []) .nil (by simp)) ?_
        simp (disch := first | omega | (simp; done) | assumption) [wr64, wrU8, wrU64, Nat.add_assoc, -getElem?_pos, List.getElem?_cons_zero, List.getElem?_cons_succ, ]
        refine CallW.val EText_nil ?_
        simp (disch := first | omega | (simp; done) | assumption) [wr64, wrU8, wrU64, Nat.add_assoc, -getElem?_pos, List.getElem?_cons_zero, List.getElem?_cons_succ, ]
        refine CallW.of (EOps (l := []) .nil (by simp) rfl) ?_
        rintro v2 H2 ⟨hk2, hn2, hs2⟩
        simp only [newO_none] at hk2 hn2
        have hkk : H.keepsAll H2 := fun x o hx => hk2 x o (hk1 x o hx)
        rcases sl_cases hs2 (n := 0) rfl with ⟨_, rfl⟩ | ⟨_, rfl⟩ | ⟨b9, o9, rfl, _⟩
        all_goals
          simp (disch := first | omega | (simp; done) | assumption) [wr64, wrU8, wrU64, Nat.add_assoc, -getElem?_pos, List.getElem?_cons_zero, List.getElem?_cons_succ, ]
          refine CallW.val (Awake (loadC_keeps hkk hE)) ?_
          simp (disch := first | omega | (simp; done) | assumption) [wr64, wrU8, wrU64, Nat.add_assoc, -getElem?_pos, List.getElem?_cons_zero, List.getElem?_cons_succ, ]
          exact hkk
      · exact absurd hk0 hkn
    · simp (disch := first | omega | (simp; done) | assumption) [wr64, wrU8, wrU64, Nat.add_assoc, -getElem?_pos, List.getElem?_cons_zero, List.getElem?_cons_succ, ic7, rs7, hmin, hol, hnl]
      refine CallW.ofk (EChain ho hn) ?_
      rintro e H1 ⟨hk1, hn1, hmade⟩ hok1
      simp only [newO_none] at hk1 hn1 hmade
      rcases hmade with ⟨hz, rfl⟩ | ⟨hk0, hn0, f0, fs, hfo, hfm, rfl, hc⟩
      · have hz' : kOf os ns = 0 ∨ kOf os ns ≠ 0 ∧ n = 0 := by
          by_cases h : kOf os ns = 0
          · exact .inl h
          · exact .inr ⟨h, hz.resolve_left h⟩
        rcases hz' with hz1 | ⟨hz1, hz2⟩
        all_goals
          simp (disch := first | omega | (simp; done) | assumption) [wr64, wrU8, wrU64, Nat.add_assoc, -getElem?_pos, List.getElem?_cons_zero, List.getElem?_cons_succ, hz1]
          try simp (disch := first | omega | (simp; done) | assumption) [wr64, wrU8, wrU64, Nat.add_assoc, -getElem?_pos, List.getElem?_cons_zero, List.getElem?_cons_succ, hz2]
          refine CallW.val (ENum (l := []) (loadC_keeps hk1 hE) .nil) ?_
          simp (disch := first | omega | (simp; done) | assumption) [wr64, wrU8, wrU64, Nat.add_assoc, -getElem?_pos, List.getElem?_cons_zero, List.getElem?_cons_succ, numOf]
          refine CallW.val (EDepth (l := []) .nil (by simp)) ?_
          simp (disch := first | omega | (simp; done) | assumption) [wr64, wrU8, wrU64, Nat.add_assoc, -getElem?_pos, List.getElem?_cons_zero, List.getElem?_cons_succ, ]
          refine CallW.val EText_nil ?_
          simp (disch := first | omega | (simp; done) | assumption) [wr64, wrU8, wrU64, Nat.add_assoc, -getElem?_pos, List.getElem?_cons_zero, List.getElem?_cons_succ, ]
          refine CallW.of (EOps (l := []) .nil (by simp) rfl) ?_
          rintro v2 H2 ⟨hk2, hn2, hs2⟩
          simp only [newO_none] at hk2 hn2
          have hkk : H.keepsAll H2 := fun x o hx => hk2 x o (hk1 x o hx)
          rcases sl_cases hs2 (n := 0) rfl with ⟨_, rfl⟩ | ⟨_, rfl⟩ | ⟨b9, o9, rfl, _⟩
          all_goals
            simp (disch := first | omega | (simp; done) | assumption) [wr64, wrU8, wrU64, Nat.add_assoc, -getElem?_pos, List.getElem?_cons_zero, List.getElem?_cons_succ, ]
            refine CallW.val (Awake (loadC_keeps hkk hE)) ?_
            simp (disch := first | omega | (simp; done) | assumption) [wr64, wrU8, wrU64, Nat.add_assoc, -getElem?_pos, List.getElem?_cons_zero, List.getElem?_cons_succ, ]
            exact hkk
      · have hko : kOf os ns ≤ os.length := by unfold kOf; omega
        have hkn : kOf os ns ≤ ns.length := by unfold kOf; omega
        have hk30 : kOf os ns ≤ 30 := by unfold kOf; omega
        have hlk : (f0 :: fs).length = kOf os ns := by
          have h3 := congrArg List.length hfo
          simp only [List.length_map, List.length_take] at h3
          omega
        have hop0 : f0.op = os[0]'(by omega) := by
          have h3 := congrArg (fun l : List (List UInt8) => l[0]?) hfo
          simp [List.getElem?_take, show 0 < kOf os ns by omega, List.getElem?_eq_getElem (show 0 < os.length by omega)] at h3
          exact h3
        have hnm0 : f0.name = ns[0]'(by omega) := by
          have h3 := congrArg (fun l : List (List UInt8) => l[0]?) hfm
          simp [List.getElem?_take, show 0 < kOf os ns by omega, List.getElem?_eq_getElem (show 0 < ns.length by omega)] at h3
          exact h3
        have his : isV (.iface 43 (.ptr f0.b 0)) (f0 :: fs) (some n) (os[0]'(by omega)) (ns[0]'(by omega)) n = true := by simp [isV, hop0, hnm0, hn0]
        have hnum : numOf (.iface 43 (.ptr f0.b 0)) (some n) = n := rfl
        obtain ⟨l, hl⟩ : ∃ l, f0 :: fs = l := ⟨_, rfl⟩
        rw [hl] at hfo hfm hc hlk his
        have hl0 : l ≠ [] := by rw [← hl]; simp
        have hlp : 0 < l.length := List.length_pos_iff.2 hl0
        have htake : l.take 100 = l := List.take_of_length_le (by omega)
        have hkl : ((kOf os ns : Nat) : Int) = (l.length : Int) := by omega
        have hgo : ∀ i (hi : i < l.length), l[i].op = os[i]'(by omega) := fun i hi => by
          have h3 := congrArg (fun l : List (List UInt8) => l[i]?) hfo
          simp [List.getElem?_take, show i < kOf os ns by omega, List.getElem?_eq_getElem (show i < os.length by omega), List.getElem?_eq_getElem hi] at h3
          exact h3
        have hgn : ∀ i (hi : i < l.length), l[i].name = ns[i]'(by omega) := fun i hi => by
          have h3 := congrArg (fun l : List (List UInt8) => l[i]?) hfm
          simp [List.getElem?_take, show i < kOf os ns by omega, List.getElem?_eq_getElem (show i < ns.length by omega), List.getElem?_eq_getElem hi] at h3
          exact h3
        have ht1 : total (l.map Fl.op) ≤ total os := by rw [hfo]; exact total_take _ _
        have ht2 : total (l.map Fl.name) ≤ total ns := by rw [hfm]; exact total_take _ _
        have htl := txt_len l
        have hio : ∀ Hx : AH, H.keepsAll Hx → ItoaOk Hx n := fun Hx hx => .inr ⟨hx _ _ hP, h0, h1⟩
        have hel : (errS n).length ≤ 27 := by
          have h3 := itoa_len (hio H (AH.keepsAll_refl _))
          unfold errS
          simp only [List.length_append, List.length_cons, List.length_nil]
          omega
        simp (disch := first | omega | (simp; done) | assumption) [wr64, wrU8, wrU64, Nat.add_assoc, -getElem?_pos, List.getElem?_cons_zero, List.getElem?_cons_succ, hk0, hn0]
        refine CallW.ofk (EOps hc (by omega) htake) ?_
        rintro v1 H3 ⟨hk3, hn3, hs3⟩ hok3
        simp only [newO_none] at hk3 hn3
        rcases sl_cases hs3 (n := l.length) (by simp) with ⟨hx, _⟩ | ⟨hx, _⟩ | ⟨b1, o1, rfl, hld1⟩
        · omega
        · omega
        simp (disch := first | omega | (simp; done) | assumption) [wr64, wrU8, wrU64, Nat.add_assoc, -getElem?_pos, List.getElem?_cons_zero, List.getElem?_cons_succ, ]
        refine CallW.ofk (ENames (hc.keeps hk3) (by omega) htake) ?_
        rintro v2 H4 ⟨hk4, hn4, hs4⟩ hok4
        simp only [newO_none] at hk4 hn4
        rcases sl_cases hs4 (n := l.length) (by simp) with ⟨hx, _⟩ | ⟨hx, _⟩ | ⟨b3, o3, rfl, hld2⟩
        · omega
        · omega
        have hk14 : H1.keepsAll H4 := fun x o hx => hk4 x o (hk3 x o hx)
        have hkk : H.keepsAll H4 := fun x o hx => hk14 x o (hk1 x o hx)
        have hE4 := loadC_keeps hkk hE
        have hc4 := hc.keeps hk14
        have hO : ∀ i (hi : i < l.length), loadC H4 b (o + i) none = some (.str l[i].op) := fun i hi => loadC_keeps hkk (by rw [hlo i (by omega), hgo i hi]; simp [List.getElem?_eq_getElem (show i < os.length by omega)])
        have hN : ∀ i (hi : i < l.length), loadC H4 b2 (o2 + i) none = some (.str l[i].name) := fun i hi => loadC_keeps hkk (by rw [hln i (by omega), hgn i hi]; simp [List.getElem?_eq_getElem (show i < ns.length by omega)])
        have hA : ∀ i (hi : i < l.length), loadC H4 b1 (o1 + i) none = some (.str l[i].op) := fun i hi => loadC_keeps hk4 (by rw [hld1 i hi]; simp [List.getElem?_eq_getElem hi])
        have hB : ∀ i (hi : i < l.length), loadC H4 b3 (o3 + i) none = some (.str l[i].name) := fun i hi => by rw [hld2 i hi]; simp [List.getElem?_eq_getElem hi]
        have hO0 : loadC H4 b o none = some (.str (os[0]'(by omega))) := by have := hO 0 hlp; rw [hgo 0 hlp] at this; exact this
        have hN0 : loadC H4 b2 o2 none = some (.str (ns[0]'(by omega))) := by have := hN 0 hlp; rw [hgn 0 hlp] at this; exact this
        simp only [loadC] at hO0 hN0
        have hos0 : (0 : Int) < (os.length : Int) := by omega
        have hns0 : (0 : Int) < (ns.length : Int) := by omega
        simp (disch := first | omega | (simp; done) | assumption) [wr64, wrU8, wrU64, Nat.add_assoc, -getElem?_pos, List.getElem?_cons_zero, List.getElem?_cons_succ, hkl]
        refine CallW.val (EDepth hc4 (by omega)) ?_
        simp (disch := first | omega | (simp; done) | assumption) [wr64, wrU8, wrU64, Nat.add_assoc, -getElem?_pos, List.getElem?_cons_zero, List.getElem?_cons_succ, hkl]
        refine CallW.val (ENum hE4 hc4) ?_
        rw [hnum]
        simp (disch := first | omega | (simp; done) | assumption) [wr64, wrU8, wrU64, Nat.add_assoc, -getElem?_pos, List.getElem?_cons_zero, List.getElem?_cons_succ, hos0, hns0, hol, hnl]
        repeat (first | (refine Try.guard (by omega) ?_; simp (disch := first | omega | (simp; done) | assumption) [wr64, wrU8, wrU64, Nat.add_assoc, -getElem?_pos, List.getElem?_cons_zero, List.getElem?_cons_succ, hos0, hns0]) | (refine Try.intro hO0 ?_; simp (disch := first | omega | (simp; done) | assumption) [wr64, wrU8, wrU64, Nat.add_assoc, -getElem?_pos, List.getElem?_cons_zero, List.getElem?_cons_succ, hos0, hns0]) | (refine Try.intro hN0 ?_; simp (disch := first | omega | (simp; done) | assumption) [wr64, wrU8, wrU64, Nat.add_assoc, -getElem?_pos, List.getElem?_cons_zero, List.getElem?_cons_succ, hos0, hns0]))
        refine CallW.val (ELawIs _ _ n hE4 hc4) ?_
        simp (disch := first | omega | (simp; done) | assumption) [wr64, wrU8, wrU64, Nat.add_assoc, -getElem?_pos, List.getElem?_cons_zero, List.getElem?_cons_succ, his]
        refine iwp_loop (WI (.slice b o os.length 1) (.slice b2 o2 ns.length 1) (.slice b1 o1 l.length 1) (.slice b3 o3 l.length 1) (.iface 43 (.ptr f0.b 0)) n l H4) l.length ⟨rfl, 0, rfl, by omega, by simp, by simp, by simp, by simp [hkl], by simp, by simp, by simp, by simp, by simp [txt]⟩ ?_
        rintro k tm Hx ⟨rfl, i, rfl, hi, t0, t1, t2, t7, t8, t9, t10, t12, t11⟩
        by_cases hlt : i < l.length
        · have q1 : (i : Int) < (os.length : Int) := by omega
          have q2 : (i : Int) < (ns.length : Int) := by omega
          have gO := hO i hlt
          have gN := hN i hlt
          have gA := hA i hlt
          have gB := hB i hlt
          simp only [loadC] at gO gN gA gB
          have hsz1 := txt_take_le l (i + 1)
          have htk : txt (l.take (i + 1)) = txt (l.take i) ++ headOf l[i] := by rw [List.take_succ_eq_append_getElem hlt, txt_append]; simp [txt]
          rw [htk] at hsz1
          simp only [headOf, List.length_append] at hsz1
          have b1 : (txt (l.take i)).length + l[i].op.length ≤ 9223372036854775807 := by omega
          by_cases hne : l[i].name = []
          · simp only [hne, if_true, List.length_nil, List.length_cons] at hsz1
            simp (disch := first | omega | (simp; done) | assumption) [wr64, wrU8, wrU64, Nat.add_assoc, -getElem?_pos, List.getElem?_cons_zero, List.getElem?_cons_succ, t0, t1, t2, t7, t8, t9, t10, t11, t12, hlt, q1, q2, hne]
            repeat (first | (refine Try.intro gA ?_; simp (disch := first | omega | (simp; done) | assumption) [wr64, wrU8, wrU64, Nat.add_assoc, -getElem?_pos, List.getElem?_cons_zero, List.getElem?_cons_succ, t0, t1, t2, t7, t8, t9, t10, t11, t12, q1, q2, hne]) | (refine Try.intro gO ?_; simp (disch := first | omega | (simp; done) | assumption) [wr64, wrU8, wrU64, Nat.add_assoc, -getElem?_pos, List.getElem?_cons_zero, List.getElem?_cons_succ, t0, t1, t2, t7, t8, t9, t10, t11, t12, q1, q2, hne]) | (refine Try.intro gB ?_; simp (disch := first | omega | (simp; done) | assumption) [wr64, wrU8, wrU64, Nat.add_assoc, -getElem?_pos, List.getElem?_cons_zero, List.getElem?_cons_succ, t0, t1, t2, t7, t8, t9, t10, t11, t12, q1, q2, hne]) | (refine Try.intro gN ?_; simp (disch := first | omega | (simp; done) | assumption) [wr64, wrU8, wrU64, Nat.add_assoc, -getElem?_pos, List.getElem?_cons_zero, List.getElem?_cons_succ, t0, t1, t2, t7, t8, t9, t10, t11, t12, q1, q2, hne]) | (refine Try.guard (by omega) ?_; simp (disch := first | omega | (simp; done) | assumption) [wr64, wrU8, wrU64, Nat.add_assoc, -getElem?_pos, List.getElem?_cons_zero, List.getElem?_cons_succ, t0, t1, t2, t7, t8, t9, t10, t11, t12, q1, q2, hne]))
            exact ⟨l.length - (i + 1), by omega, rfl, i + 1, rfl, by omega, by simp [t0], by simp [t1], by simp [t2], by simp [t7], by simp [t8], by simp [t9], by simp [t10], by simp, by rw [htk]; simp [headOf, hne]⟩
          · simp only [hne, if_false, List.length_nil, List.length_cons] at hsz1
            simp (disch := first | omega | (simp; done) | assumption) [wr64, wrU8, wrU64, Nat.add_assoc, -getElem?_pos, List.getElem?_cons_zero, List.getElem?_cons_succ, t0, t1, t2, t7, t8, t9, t10, t11, t12, hlt, q1, q2, hne]
            repeat (first | (refine Try.intro gA ?_; simp (disch := first | omega | (simp; done) | assumption) [wr64, wrU8, wrU64, Nat.add_assoc, -getElem?_pos, List.getElem?_cons_zero, List.getElem?_cons_succ, t0, t1, t2, t7, t8, t9, t10, t11, t12, q1, q2, hne]) | (refine Try.intro gO ?_; simp (disch := first | omega | (simp; done) | assumption) [wr64, wrU8, wrU64, Nat.add_assoc, -getElem?_pos, List.getElem?_cons_zero, List.getElem?_cons_succ, t0, t1, t2, t7, t8, t9, t10, t11, t12, q1, q2, hne]) | (refine Try.intro gB ?_; simp (disch := first | omega | (simp; done) | assumption) [wr64, wrU8, wrU64, Nat.add_assoc, -getElem?_pos, List.getElem?_cons_zero, List.getElem?_cons_succ, t0, t1, t2, t7, t8, t9, t10, t11, t12, q1, q2, hne]) | (refine Try.intro gN ?_; simp (disch := first | omega | (simp; done) | assumption) [wr64, wrU8, wrU64, Nat.add_assoc, -getElem?_pos, List.getElem?_cons_zero, List.getElem?_cons_succ, t0, t1, t2, t7, t8, t9, t10, t11, t12, q1, q2, hne]) | (refine Try.guard (by omega) ?_; simp (disch := first | omega | (simp; done) | assumption) [wr64, wrU8, wrU64, Nat.add_assoc, -getElem?_pos, List.getElem?_cons_zero, List.getElem?_cons_succ, t0, t1, t2, t7, t8, t9, t10, t11, t12, q1, q2, hne]))
            exact ⟨l.length - (i + 1), by omega, rfl, i + 1, rfl, by omega, by simp [t0], by simp [t1], by simp [t2], by simp [t7], by simp [t8], by simp [t9], by simp [t10], by simp, by rw [htk]; simp [headOf, hne]⟩
        · obtain rfl : i = l.length := by omega
          rw [List.take_length] at t11
          simp (disch := first | omega | (simp; done) | assumption) [wr64, wrU8, wrU64, Nat.add_assoc, -getElem?_pos, List.getElem?_cons_zero, List.getElem?_cons_succ, t0, t1, t2, t7, t8, t9, t10, t11, t12]
          refine CallW.val (EText hE4 hc4 hl0 (by omega) (by omega) (by rw [hnum]; exact hio _ hkk)) ?_
          rw [hnum]
          simp (disch := first | omega | (simp; done) | assumption) [wr64, wrU8, wrU64, Nat.add_assoc, -getElem?_pos, List.getElem?_cons_zero, List.getElem?_cons_succ, t0, t1, t2, t7, t8, t9, t10, t11, t12]
          refine CallW.val (EError n _ (hio _ hkk)) ?_
          simp (disch := first | omega | (simp; done) | assumption) [wr64, wrU8, wrU64, Nat.add_assoc, -getElem?_pos, List.getElem?_cons_zero, List.getElem?_cons_succ, t0, t1, t2, t7, t8, t9, t10, t11, t12]
          refine Try.guard (by omega) ?_
          simp (disch := first | omega | (simp; done) | assumption) [wr64, wrU8, wrU64, Nat.add_assoc, -getElem?_pos, List.getElem?_cons_zero, List.getElem?_cons_succ, t0, t1, t2, t7, t8, t9, t10, t11, t12]
          refine CallW.val (Awake hE4) ?_
          simp (disch := first | omega | (simp; done) | assumption) [wr64, wrU8, wrU64, Nat.add_assoc, -getElem?_pos, List.getElem?_cons_zero, List.getElem?_cons_succ, ]
          exact hkk
theorem FaultChains.walk (a2 : Option Addr) (l2 c2 : Nat) (s2 : List ByteArray) (a3 : Option Addr) (l3 c3 : Nat) (s3 : List ByteArray) (a4 : Int) (W : World) (hsh : W.ShapedOpen Tryd.prog) (hG : ELaid.G W)
    (w2 : EStrs.IsStrs W a2 l2 c2 s2) (y2 : total (EStrs.texts (s2.take l2)) ≤ 1048576) (w3 : EStrs.IsStrs W a3 l3 c3 s3) (y3 : total (EStrs.texts (s3.take l3)) ≤ 1048576) (w4 : (Lit.int .i64 a4).wf = true) :
    Calls Tryd.prog 7 #[.slice a2 l2 c2, .slice a3 l3 c3, .int .i64 a4] W fun e W' => e = .returned (.bool true) ∧ Below W.heap.size W W' := by
  obtain ⟨v2, h2, r2⟩ := EStrs.sl_strs (ELaid.tabs_ok hsh hG) w2
  obtain ⟨v3, h3, r3⟩ := EStrs.sl_strs (ELaid.tabs_ok hsh hG) w3
  exact ELaid.walk hsh hG (Law (ELaid.H1_err W) (ELaid.H1_pow W) h2 h3 (by omega) (EStrs.i64_range w4).1 (EStrs.i64_range w4).2) (.cons r2 (.cons r3 (.cons (.int _ _) .nil)))
end Go.Proofs.YtpmlaaoideeafaaDoor.FChains

/- What package disk's functions answer. -/
import Derived.Test.YtcgkadfgojmmlaaDoorDNew
set_option linter.unusedVariables false
set_option linter.unusedSimpArgs false
set_option maxRecDepth 10000
set_option maxHeartbeats 4000000
namespace Go.Proofs.YtcgkadfgojmmlaaDoor.DFn
open Go Go.RowKit Go.Proofs.YtcgkadfgojmmlaaDoor Go.Proofs.YtcgkadfgojmmlaaDoor.Abs Go.Proofs.YtcgkadfgojmmlaaDoor.Ic Go.Proofs.YtcgkadfgojmmlaaDoor.EAs Go.Proofs.YtcgkadfgojmmlaaDoor.EErr
abbrev tD : Nat := 64
abbrev tBS : Nat := 32
abbrev tU8 : Nat := 5
/-- A disk: its blocks (none: noughts), how many writes there were, the fuse, dead or not. -/
structure DK where
  ct : List (Option (List UInt8))
  w : Int
  f : Int
  dead : Bool
def Slot (H : AH) (p L : Nat) (av : AV) (c : Option (List UInt8)) : Prop := match c with
  | none => av = .snil
  | some bs => bs.length = 128 ∧ ∃ q, av = .slice q 0 128 1 ∧ H.at_ q = some (.cells false tU8 (bs.map byteV)) ∧ q ≠ p ∧ q ≠ L
def DS (H : AH) (p L : Nat) (s : DK) : Prop :=
  p ≠ L ∧ H.at_ p = some (.cells false tD [.slice L 0 s.ct.length 1, .int .i64 s.w, .int .i64 s.f, .bool s.dead]) ∧
    ∃ cs, H.at_ L = some (.cells false tBS cs) ∧ cs.length = s.ct.length ∧ ∀ i (h : i < s.ct.length), ∃ av, cs[i]? = some av ∧ Slot H p L av s.ct[i]
/-- All but these two blocks stay. -/
def KX (p L : Nat) (H H' : AH) : Prop := ∀ x o, x ≠ p → x ≠ L → H.at_ x = some o → H'.at_ x = some o
theorem Slot.keeps {H H' : AH} {p L : Nat} {av : AV} {c : Option (List UInt8)} (hk : ∀ x o, x ≠ p → x ≠ L → H.at_ x = some o → H'.at_ x = some o) (h : Slot H p L av c) : Slot H' p L av c := by
  cases c with
  | none => exact h
  | some bs =>
    obtain ⟨h1, q, h2, h3, h4, h5⟩ := h
    exact ⟨h1, q, h2, hk _ _ h4 h5 h3, h4, h5⟩
theorem DS.keeps {H H' : AH} {p L : Nat} {s : DK} (hk : H.keepsAll H') (h : DS H p L s) : DS H' p L s := by
  obtain ⟨h0, h1, cs, h2, h3, h4⟩ := h
  exact ⟨h0, hk _ _ h1, cs, hk _ _ h2, h3, fun i hi => by obtain ⟨av, a1, a2⟩ := h4 i hi; exact ⟨av, a1, a2.keeps fun x o _ _ ho => hk x o ho⟩⟩
/-- A row of 128 bytes of its own. -/
def Row (H : AH) (v : AV) (q : Nat) (bs : List UInt8) : Prop := v = .slice q 0 128 1 ∧ bs.length = 128 ∧ H.at_ q = some (.cells false tU8 (bs.map byteV))
theorem Row.keeps {H H' : AH} {v : AV} {q : Nat} {bs : List UInt8} (hk : H.keepsAll H') (h : Row H v q bs) : Row H' v q bs := ⟨h.1, h.2.1, hk _ _ h.2.2⟩
def NewP (n : Nat) (H : AH) (v : AV) (H' : AH) : Prop := H.keepsAll H' ∧ H.next ≤ H'.next ∧ ∃ p L, v = .tuple [.ptr p 0, .nilIface] ∧ H.next ≤ p ∧ H.next ≤ L ∧ p < H'.next ∧ L < H'.next ∧ DS H' p L ⟨List.replicate n none, 0, -1, false⟩
theorem New {n : Nat} (h1 : 16 ≤ n) (h2 : n ≤ 2048) (H : AH) : ACall Tryd.prog 8 [.int .i64 (n : Int)] H (NewP n H) := by
  refine acall_ok (bodyP_of fits8) fun hok => acall_of fits8 (by simp) ?_
  have g1 : ¬ ((n : Int) < 16) := by omega
  have g2 : ¬ (2048 < (n : Int)) := by omega
  simp (disch := first | omega | (simp; done) | assumption) [wr64, wrU8, wrU64, Nat.add_assoc, -getElem?_pos, List.getElem?_cons_zero, List.getElem?_cons_succ, ic8, rs8, g1, g2]
  refine Try.guard (by omega) ?_
  simp (disch := first | omega | (simp; done) | assumption) [wr64, wrU8, wrU64, Nat.add_assoc, -getElem?_pos, List.getElem?_cons_zero, List.getElem?_cons_succ, ]
  refine ⟨keeps_new hok (keeps_new hok (AH.keepsAll_refl _) (Nat.le_refl _)) (by simp), by simp; omega, H.next + 1, H.next, by simp, by omega, Nat.le_refl _, by simp, by simp; omega, by simp, by simp, List.replicate n .snil, by simp, by simp, fun i hi => ⟨.snil, ?_, ?_⟩⟩
  · have : i < n := by simpa using hi
    simp [this]
  · simp [Slot]
/-! ### Fill -/
def fv (n : Int) (i : Nat) : Int := IntKind.u8.wrap (IntKind.i64.wrap (n + IntKind.i64.wrap ((i : Int) * bits .and .i64 (n.fdiv (2 ^ min 8 IntKind.i64.bits)) 7)))
theorem fv_range (n : Int) (i : Nat) : 0 ≤ fv n i ∧ fv n i ≤ 255 := by
  have h : ∀ x : Int, IntKind.u8.wrap x = x % 256 := fun x => rfl
  unfold fv
  rw [h]
  omega
def fillAt (n : Int) (i : Nat) : UInt8 := UInt8.ofNat (fv n i).toNat
theorem byteV_fill (n : Int) (i : Nat) : byteV (fillAt n i) = .int .u8 (fv n i) := by
  have := fv_range n i
  show AV.int .u8 (((fillAt n i).toNat : Nat) : Int) = _
  unfold fillAt
  rw [UInt8.toNat_ofNat', Nat.mod_eq_of_lt (by omega)]
  congr 1
  omega
def fill (n : Int) : List UInt8 := (List.range 128).map (fillAt n)
theorem fill_len (n : Int) : (fill n).length = 128 := by simp [fill]
def part (n : Int) (i : Nat) : List AV := (List.range 128).map fun j => if j < i then byteV (fillAt n j) else .int .u8 0
theorem part_len (n : Int) (i : Nat) : (part n i).length = 128 := by simp [part]
theorem part_zero (n : Int) : List.replicate 128 (AV.int .u8 0) = part n 0 := by
  unfold part
  simp [List.map_const']
theorem part_full (n : Int) : part n 128 = (fill n).map byteV := by
  unfold part fill
  rw [List.map_map]
  refine List.map_congr_left fun j hj => ?_
  rw [if_pos (by simpa using hj)]
  rfl
theorem part_set (n : Int) (i : Nat) (hi : i < 128) : (part n i).set i (.int .u8 (fv n i)) = part n (i + 1) := by
  rw [← byteV_fill]
  unfold part
  apply List.ext_getElem (by simp)
  intro j h1 h2
  rw [List.getElem_set]
  simp only [List.getElem_map, List.getElem_range]
  by_cases e : i = j
  · subst e; rw [if_pos rfl, if_pos (by omega)]
  · rw [if_neg e]
    by_cases h : j < i
    · rw [if_pos h, if_pos (by omega)]
    · rw [if_neg h, if_neg (by omega)]
def FillP (n : Int) (H : AH) (v : AV) (H' : AH) : Prop := H.keepsAll H' ∧ H.next ≤ H'.next ∧ ∃ q, H.next ≤ q ∧ q < H'.next ∧ Row H' v q (fill n)
def FI (n : Int) (H : AH) (k : Nat) (tm : Tms) (H' : AH) : Prop :=
  H.keepsAll H' ∧ H.next < H'.next ∧ ∃ i : Nat, k = 128 - i ∧ i ≤ 128 ∧ tm 0 = .int .i64 n ∧ tm 3 = .slice H.next 0 128 1 ∧ tm 7 = .int .i64 128 ∧ tm 8 = .int .i64 (i : Int) ∧ H'.at_ H.next = some (.cells false tU8 (part n i))
theorem Fill (n : Int) (H : AH) : ACall Tryd.prog 10 [.int .i64 n] H (FillP n H) := by
  refine acall_ok (bodyP_of fits10) fun hok => acall_of fits10 (by simp) ?_
  simp (disch := first | omega | (simp; done) | assumption) [wr64, wrU8, wrU64, Nat.add_assoc, -getElem?_pos, List.getElem?_cons_zero, List.getElem?_cons_succ, ic10, rs10, -List.reduceReplicate]
  refine iwp_loop (FI n H) 128 ⟨keeps_new hok (AH.keepsAll_refl _) (Nat.le_refl _), by simp, 0, rfl, by omega, by simp, by simp, by simp, by simp, by rw [← part_zero]; simp [-List.reduceReplicate]⟩ ?_
  rintro k tm H1 ⟨hk, hn, i, rfl, hi, t0, t3, t7, t8, hat⟩
  by_cases hlt : i < 128
  · have q1 : (i : Int) < 128 := by omega
    have hpl := part_len n i
    simp (disch := first | omega | (simp; done) | assumption) [wr64, wrU8, wrU64, Nat.add_assoc, -getElem?_pos, List.getElem?_cons_zero, List.getElem?_cons_succ, t0, t3, t7, t8, q1, hat, hpl]
    have hps := part_set n i hlt
    unfold fv at hps
    refine Try.guard (by omega) ?_
    simp (disch := first | omega | (simp; done) | assumption) [wr64, wrU8, wrU64, Nat.add_assoc, -getElem?_pos, List.getElem?_cons_zero, List.getElem?_cons_succ, t0, t3, t7, t8, q1, hps]
    refine ⟨128 - (i + 1), by omega, keeps_set hok hk (Nat.le_refl _), by simpa using hn, i + 1, rfl, by omega, by simp [t0], by simp [t3], by simp [t7], by simp, by simp⟩
  · obtain rfl : i = 128 := by omega
    rw [part_full] at hat
    simp (disch := first | omega | (simp; done) | assumption) [wr64, wrU8, wrU64, Nat.add_assoc, -getElem?_pos, List.getElem?_cons_zero, List.getElem?_cons_succ, t0, t3, t7, t8]
    exact ⟨hk, by omega, H.next, Nat.le_refl _, hn, rfl, fill_len n, hat⟩
/-! ### Errors -/
def ErrP (i : Nat) (n : Int) (H : AH) (v : AV) (H' : AH) : Prop := H.keepsAll H' ∧ H.next ≤ H'.next ∧ ∃ f : Fl, f.op = [100, 105, 115, 107] ∧ f.name = Lib.itoa (i : Int) ∧ v = .iface 74 (.ptr f.b 0) ∧ Chain H' v [f] (some n)
theorem Wrong {i : Nat} (hi : i < 100) {n : Int} (hn : n ≠ 0) (H : AH) : ACall Tryd.prog 24 [.int .i64 (i : Int), .int .i64 n] H (ErrP i n H) := by
  refine acall_ok (bodyP_of fits24) fun hok => acall_of fits24 (by simp) ?_
  simp (disch := first | omega | (simp; done) | assumption) [wr64, wrU8, wrU64, Nat.add_assoc, -getElem?_pos, List.getElem?_cons_zero, List.getElem?_cons_succ, ic24, rs24]
  refine CallW.val (itoa i hi _) ?_
  simp (disch := first | omega | (simp; done) | assumption) [wr64, wrU8, wrU64, Nat.add_assoc, -getElem?_pos, List.getElem?_cons_zero, List.getElem?_cons_succ, ]
  refine CallW.of (ENewC _ _ hn _) ?_
  rintro v H1 ⟨hk, hn1, f, h1, h2, rfl, hc⟩
  simp only [newO_none] at hk hn1
  simp (disch := first | omega | (simp; done) | assumption) [wr64, wrU8, wrU64, Nat.add_assoc, -getElem?_pos, List.getElem?_cons_zero, List.getElem?_cons_succ, ]
  exact ⟨hk, hn1, f, h1, h2, rfl, hc⟩
theorem May_ok {H : AH} {p L : Nat} {s : DK} {i : Nat} (h : DS H p L s) (hi : i < s.ct.length) (hd : s.dead = false) : ACall Tryd.prog 43 [.ptr p 0, .int .i64 (i : Int), .bool true] H (fun v H' => v = .nilIface ∧ H' = H) := by
  obtain ⟨_, hp, _⟩ := h
  refine acall_of fits43 (by simp) ?_
  have q1 : ¬ ((i : Int) < 0) := by omega
  have q2 : ¬ ((s.ct.length : Int) ≤ (i : Int)) := by omega
  have q3 : ¬ (s.ct.length ≤ i) := by omega
  simp (disch := first | omega | (simp; done) | assumption) [wr64, wrU8, wrU64, Nat.add_assoc, -getElem?_pos, List.getElem?_cons_zero, List.getElem?_cons_succ, ic43, rs43, hp, hd, q1, q2, q3]
theorem May_dead {H : AH} {p L : Nat} {s : DK} {i : Nat} (h : DS H p L s) (hi : i < s.ct.length) (hi2 : i < 100) (hd : s.dead = true) : ACall Tryd.prog 43 [.ptr p 0, .int .i64 (i : Int), .bool true] H (ErrP i 50 H) := by
  obtain ⟨_, hp, _⟩ := h
  refine acall_of fits43 (by simp) ?_
  have q1 : ¬ ((i : Int) < 0) := by omega
  have q2 : ¬ ((s.ct.length : Int) ≤ (i : Int)) := by omega
  have q3 : ¬ (s.ct.length ≤ i) := by omega
  simp (disch := first | omega | (simp; done) | assumption) [wr64, wrU8, wrU64, Nat.add_assoc, -getElem?_pos, List.getElem?_cons_zero, List.getElem?_cons_succ, ic43, rs43, hp, hd, q1, q2, q3]
  refine CallW.of (Wrong hi2 (by decide) _) ?_
  rintro v H1 hh
  simp only [newO_none] at hh
  simp (disch := first | omega | (simp; done) | assumption) [wr64, wrU8, wrU64, Nat.add_assoc, -getElem?_pos, List.getElem?_cons_zero, List.getElem?_cons_succ, ]
  exact hh
/-! ### A copy of a row -/
def CloneP (bs : List UInt8) (H : AH) (v : AV) (H' : AH) : Prop := H.keepsAll H' ∧ H.next ≤ H'.next ∧ ∃ q, H.next ≤ q ∧ q < H'.next ∧ Row H' v q bs
theorem Clone {H : AH} {v : AV} {q : Nat} {bs : List UInt8} (h : Row H v q bs) : ACall Tryd.prog 45 [v] H (CloneP bs H) := by
  obtain ⟨rfl, hl, hq⟩ := h
  refine acall_ok (bodyP_of fits45) fun hok => acall_of fits45 (by simp) ?_
  have hqn := hok _ _ hq
  have hq1 : ¬ (q = H.next) := by omega
  simp (disch := first | omega | (simp; done) | assumption) [wr64, wrU8, wrU64, Nat.add_assoc, -getElem?_pos, List.getElem?_cons_zero, List.getElem?_cons_succ, ic45, rs45]
  have happ : appendK (H.new (.cells false tU8 [])) false tU8 1 1 (.slice H.next 0 0 1) (.slice q 0 128 1) = some (.slice (H.next + 1) 0 128 1, ((H.new (.cells false tU8 [])).set H.next none).new (.cells false tU8 (bs.map byteV))) := by
    have htk : (bs.map byteV).take 128 = bs.map byteV := List.take_of_length_le (by simp [hl])
    simp [appendK, appendA, isStrV, srcCells, hq, hq1, hl]
    rw [List.take_of_length_le (by simp [hl])]
    exact ⟨fun x hx => by obtain ⟨c, _, rfl⟩ := List.mem_map.1 hx; rfl, rfl⟩
  refine Try.intro happ ?_
  simp (disch := first | omega | (simp; done) | assumption) [wr64, wrU8, wrU64, Nat.add_assoc, -getElem?_pos, List.getElem?_cons_zero, List.getElem?_cons_succ, ]
  exact ⟨keeps_new hok (keeps_set hok (keeps_new hok (AH.keepsAll_refl _) (Nat.le_refl _)) (Nat.le_refl _)) (by simp), by simp; omega, H.next + 1, by omega, by simp, rfl, hl, by simp⟩
theorem Clip {H : AH} {q : Nat} : ACall Tryd.prog 44 [.slice q 0 128 1] H (fun v H' => v = .slice q 0 128 1 ∧ H' = H) := by
  refine acall_of fits44 (by simp) ?_
  simp (disch := first | omega | (simp; done) | assumption) [wr64, wrU8, wrU64, Nat.add_assoc, -getElem?_pos, List.getElem?_cons_zero, List.getElem?_cons_succ, ic44, rs44, slcA, Abs.bounds]
/-! ### Writing -/
def DK.write (s : DK) (i : Nat) (bs : List UInt8) : DK := ⟨s.ct.set i (some bs), s.w + 1, if 0 < s.f then s.f - 1 else s.f, if 0 < s.f then decide (s.f - 1 = 0) else s.dead⟩
def WriteP (p L : Nat) (s : DK) (H : AH) (v : AV) (H' : AH) : Prop := v = .nilIface ∧ H.next ≤ H'.next ∧ KX p L H H' ∧ DS H' p L s
theorem DS.put {H1 H' : AH} {p L q1 i : Nat} {ct : List (Option (List UInt8))} {bs : List UInt8} {cs : List AV} {w f : Int} {dead : Bool} (hpL : p ≠ L) (hcl : cs.length = ct.length) (hsl : ∀ j (h : j < ct.length), ∃ av, cs[j]? = some av ∧ Slot H1 p L av ct[j]) (hl : bs.length = 128)
    (hq : H1.at_ q1 = some (.cells false tU8 (bs.map byteV))) (hqp : q1 ≠ p) (hqL : q1 ≠ L) (hp' : H'.at_ p = some (.cells false tD [.slice L 0 ct.length 1, .int .i64 w, .int .i64 f, .bool dead])) (hL' : H'.at_ L = some (.cells false tBS (cs.set i (.slice q1 0 128 1))))
    (hk : ∀ x o, x ≠ p → x ≠ L → H1.at_ x = some o → H'.at_ x = some o) : DS H' p L ⟨ct.set i (some bs), w, f, dead⟩ := by
  refine ⟨hpL, by simpa using hp', _, hL', by simpa using hcl, fun j hj => ?_⟩
  have hj' : j < ct.length := by simpa using hj
  by_cases e : i = j
  · subst e
    refine ⟨.slice q1 0 128 1, by simp [hcl, hj'], ?_⟩
    simp only [List.getElem_set_self]
    exact ⟨hl, q1, rfl, hk _ _ hqp hqL hq, hqp, hqL⟩
  · obtain ⟨av, a1, a2⟩ := hsl j hj'
    refine ⟨av, by rw [List.getElem?_set_ne e]; exact a1, ?_⟩
    simp only [List.getElem_set_ne e]
    exact a2.keeps hk
theorem Write_ok {H : AH} {p L q : Nat} {s : DK} {i : Nat} {v : AV} {bs : List UInt8} (h : DS H p L s) (hv : Row H v q bs) (hqp : q ≠ p) (hqL : q ≠ L) (hi : i < s.ct.length) (hd : s.dead = false) (hw : 0 ≤ s.w ∧ s.w ≤ 1000000) (hf : -1 ≤ s.f ∧ s.f ≤ 9223372036854775807) :
    ACall Tryd.prog 31 [.ptr p 0, .int .i64 (i : Int), v] H (WriteP p L (s.write i bs) H) := by
  have hv' := hv
  obtain ⟨rfl, hl, hq⟩ := hv'
  have h' := h
  obtain ⟨hpL, hp, cs, hL, hcl, hsl⟩ := h'
  refine acall_ok (bodyP_of fits31) fun hok => acall_of fits31 (by simp) ?_
  have hpn := hok _ _ hp
  have hLn := hok _ _ hL
  simp (disch := first | omega | (simp; done) | assumption) [wr64, wrU8, wrU64, Nat.add_assoc, -getElem?_pos, List.getElem?_cons_zero, List.getElem?_cons_succ, ic31, rs31]
  refine CallW.val (May_ok h hi hd) ?_
  simp (disch := first | omega | (simp; done) | assumption) [wr64, wrU8, wrU64, Nat.add_assoc, -getElem?_pos, List.getElem?_cons_zero, List.getElem?_cons_succ, hp]
  refine CallW.ofk (Clone (by simpa using hv)) ?_
  rintro v1 H1 ⟨hk1, hn1, q1, hq1, hq1n, rfl, _, hq1at⟩ hok1
  simp only [newO_none] at hk1 hn1 hq1
  have hp1 := hk1 _ _ hp
  have hL1 := hk1 _ _ hL
  simp (disch := first | omega | (simp; done) | assumption) [wr64, wrU8, wrU64, Nat.add_assoc, -getElem?_pos, List.getElem?_cons_zero, List.getElem?_cons_succ, hp, hp1]
  refine CallW.val Clip ?_
  have r1 : (i : Int) < (s.ct.length : Int) := by omega
  have r2 : i + 1 ≤ cs.length := by omega
  have hLp : L ≠ p := fun e => hpL e.symm
  simp (disch := first | omega | (simp; done) | assumption) [wr64, wrU8, wrU64, Nat.add_assoc, -getElem?_pos, List.getElem?_cons_zero, List.getElem?_cons_succ, hp, hp1, r1, hL1, r2, hpL, hLp]
  have hsl1 : ∀ j (h : j < s.ct.length), ∃ av, cs[j]? = some av ∧ Slot H1 p L av s.ct[j] := fun j hj => by obtain ⟨av, a1, a2⟩ := hsl j hj; exact ⟨av, a1, a2.keeps fun x o _ _ ho => hk1 x o ho⟩
  have n1 : q1 ≠ p := by omega
  have n2 : q1 ≠ L := by omega
  by_cases hf0 : 0 < s.f
  · simp (disch := first | omega | (simp; done) | assumption) [wr64, wrU8, wrU64, Nat.add_assoc, -getElem?_pos, List.getElem?_cons_zero, List.getElem?_cons_succ, hf0, hp1, hpL, hLp]
    refine ⟨rfl, by simpa using hn1, fun x o hxp hxL ho => by simp [hxp, hxL]; exact hk1 x o ho, ?_⟩
    have hsw : s.write i bs = ⟨s.ct.set i (some bs), s.w + 1, s.f - 1, decide (s.f - 1 = 0)⟩ := by simp [DK.write, hf0]
    rw [hsw]
    exact DS.put (cs := cs) hpL hcl hsl1 hl hq1at n1 n2 (by simp) (by simp [hLp]) (fun x o hxp hxL ho => by simp [hxp, hxL]; exact ho)
  · simp (disch := first | omega | (simp; done) | assumption) [wr64, wrU8, wrU64, Nat.add_assoc, -getElem?_pos, List.getElem?_cons_zero, List.getElem?_cons_succ, hf0, hp1, hpL, hLp]
    refine ⟨rfl, by simpa using hn1, fun x o hxp hxL ho => by simp [hxp, hxL]; exact hk1 x o ho, ?_⟩
    have hsw : s.write i bs = ⟨s.ct.set i (some bs), s.w + 1, s.f, s.dead⟩ := by simp [DK.write, hf0]
    rw [hsw]
    exact DS.put (cs := cs) hpL hcl hsl1 hl hq1at n1 n2 (by simp) (by simp [hLp]) (fun x o hxp hxL ho => by simp [hxp, hxL]; exact ho)
theorem Write_dead {H : AH} {p L q : Nat} {s : DK} {i : Nat} {v : AV} {bs : List UInt8} (h : DS H p L s) (hv : Row H v q bs) (hi : i < s.ct.length) (hi2 : i < 100) (hd : s.dead = true) :
    ACall Tryd.prog 31 [.ptr p 0, .int .i64 (i : Int), v] H (ErrP i 50 H) := by
  obtain ⟨rfl, hl, hq⟩ := hv
  refine acall_of fits31 (by simp) ?_
  simp (disch := first | omega | (simp; done) | assumption) [wr64, wrU8, wrU64, Nat.add_assoc, -getElem?_pos, List.getElem?_cons_zero, List.getElem?_cons_succ, ic31, rs31]
  refine CallW.of (May_dead h hi hi2 hd) ?_
  rintro v1 H1 hh
  simp only [newO_none] at hh
  obtain ⟨h1, h2, f, h3, h4, rfl, h5⟩ := hh
  simp (disch := first | omega | (simp; done) | assumption) [wr64, wrU8, wrU64, Nat.add_assoc, -getElem?_pos, List.getElem?_cons_zero, List.getElem?_cons_succ, ]
  exact ⟨h1, h2, f, h3, h4, rfl, h5⟩
/-! ### Reading -/
theorem setRange_app : ∀ (ws l : List AV) (o : Nat), o + ws.length ≤ l.length → (setRange l o ws).take (o + ws.length) = l.take o ++ ws
  | [], l, o, h => by simp [setRange]
  | v :: ws, l, o, h => by
    simp only [List.length_cons] at h ⊢
    rw [setRange]
    have := setRange_app ws (l.set o v) (o + 1) (by simp; omega)
    rw [show o + (ws.length + 1) = o + 1 + ws.length by omega, this]
    rw [List.take_add_one, List.take_set_of_le (Nat.le_refl o)]
    rw [List.getElem?_set_self (by omega)]
    simp
theorem setRange_full (ws l : List AV) (h : ws.length = l.length) : setRange l 0 ws = ws := by
  have h1 := setRange_app ws l 0 (by omega)
  rw [List.take_of_length_le (by rw [setRange_length]; omega)] at h1
  simpa using h1
theorem zeros_bytes : List.replicate 128 (AV.int .u8 0) = (List.replicate 128 (0 : UInt8)).map byteV := by
  rw [List.map_replicate]
  rfl
def bytesOf (c : Option (List UInt8)) : List UInt8 := c.getD (List.replicate 128 0)
theorem Read_ok {H : AH} {p L : Nat} {s : DK} {i : Nat} (h : DS H p L s) (hi : i < s.ct.length) (hd : s.dead = false) :
    ACall Tryd.prog 34 [.ptr p 0, .int .i64 (i : Int)] H (fun v H' => ∃ r, v = .tuple [r, .nilIface] ∧ CloneP (bytesOf s.ct[i]) H r H') := by
  have h' := h
  obtain ⟨hpL, hp, cs, hL, hcl, hsl⟩ := h'
  refine acall_ok (bodyP_of fits34) fun hok => acall_of fits34 (by simp) ?_
  have hpn := hok _ _ hp
  have hLn := hok _ _ hL
  have e1 : ¬ (p = H.next) := by omega
  have e2 : ¬ (L = H.next) := by omega
  have r1 : (i : Int) < (s.ct.length : Int) := by omega
  obtain ⟨av, ha, hs⟩ := hsl i hi
  simp (disch := first | omega | (simp; done) | assumption) [wr64, wrU8, wrU64, Nat.add_assoc, -getElem?_pos, List.getElem?_cons_zero, List.getElem?_cons_succ, ic34, rs34, -List.reduceReplicate]
  refine CallW.val (May_ok h hi hd) ?_
  simp (disch := first | omega | (simp; done) | assumption) [wr64, wrU8, wrU64, Nat.add_assoc, -getElem?_pos, List.getElem?_cons_zero, List.getElem?_cons_succ, hp, hL, e1, e2, r1, ha, -List.reduceReplicate]
  cases hc : s.ct[i] with
  | none =>
    rw [hc] at hs
    obtain rfl : av = .snil := hs
    simp (disch := first | omega | (simp; done) | assumption) [wr64, wrU8, wrU64, Nat.add_assoc, -getElem?_pos, List.getElem?_cons_zero, List.getElem?_cons_succ, copyA, srcCells, -List.reduceReplicate]
    refine ⟨keeps_set hok (keeps_new hok (AH.keepsAll_refl _) (Nat.le_refl _)) (Nat.le_refl _), by simp, H.next, Nat.le_refl _, by simp, rfl, by simp [bytesOf, -List.reduceReplicate], ?_⟩
    rw [zeros_bytes]
    simp [bytesOf, -List.reduceReplicate, -List.map_replicate]
  | some bs =>
    rw [hc] at hs
    obtain ⟨hl, q, rfl, hq, hqp, hqL⟩ := hs
    have hqn := hok _ _ hq
    have e3 : ¬ (q = H.next) := by omega
    have htk : List.take 128 (bs.map byteV) = bs.map byteV := List.take_of_length_le (by simp [hl])
    have hall : ∀ x ∈ bs.map byteV, x.one = true := fun x hx => by obtain ⟨c, _, rfl⟩ := List.mem_map.1 hx; rfl
    have hsr : setRange (List.replicate 128 (AV.int .u8 0)) 0 (bs.map byteV) = bs.map byteV := setRange_full _ _ (by simp [hl, -List.reduceReplicate])
    simp (disch := first | omega | (simp; done) | assumption) [wr64, wrU8, wrU64, Nat.add_assoc, -getElem?_pos, List.getElem?_cons_zero, List.getElem?_cons_succ, copyA, srcCells, hq, e3, hl, htk, -List.reduceReplicate]
    rw [hsr]
    refine ⟨keeps_set hok (keeps_new hok (AH.keepsAll_refl _) (Nat.le_refl _)) (Nat.le_refl _), by simp, H.next, Nat.le_refl _, by simp, rfl, hl, ?_⟩
    simp [bytesOf]
theorem b2s_row {H : AH} {v : AV} {q : Nat} {bs : List UInt8} (h : Row H v q bs) : b2sA H v = some (.str bs) := by
  obtain ⟨rfl, hl, hq⟩ := h
  have hall : (bs.map byteV).all isByte = true := by simp [isByte]
  have hback : (bs.map byteV).map Abs.byteOf = bs := by
    rw [List.map_map]
    conv => rhs; rw [← List.map_id bs]
    refine List.map_congr_left fun c _ => ?_
    show UInt8.ofNat ((c.toNat : Int)).toNat = c
    simp
  have hld : loadC H q 0 (some 128) = some (.agg (bs.map byteV)) := by
    unfold loadC
    simp only [hq]
    rw [if_pos (by simp [hl])]
    simp [hl, List.take_of_length_le]
  unfold b2sA
  simp only [hld]
  rw [if_pos hall, hback]
/-! ### The small ones -/
def FuseP (p L : Nat) (s : DK) (H : AH) (v : AV) (H' : AH) : Prop := v = .tuple [] ∧ H'.next = H.next ∧ KX p L H H' ∧ DS H' p L s
theorem DS.head {H : AH} {p L : Nat} {s : DK} (h : DS H p L s) (w f : Int) (dead : Bool) : DS (H.set p (some (.cells false tD [.slice L 0 s.ct.length 1, .int .i64 w, .int .i64 f, .bool dead]))) p L ⟨s.ct, w, f, dead⟩ := by
  obtain ⟨hpL, hp, cs, hL, hcl, hsl⟩ := h
  refine ⟨hpL, AH.set_same _ _ _, cs, by rw [AH.set_ne _ _ (fun e => hpL e.symm)]; exact hL, hcl, fun i hi => ?_⟩
  obtain ⟨av, a1, a2⟩ := hsl i hi
  exact ⟨av, a1, a2.keeps fun x o hx _ ho => by rw [AH.set_ne _ _ hx]; exact ho⟩
theorem set_twice (H : AH) (b : Nat) (o1 o2 : Option AObj) : (H.set b o1).set b o2 = H.set b o2 := by
  unfold AH.set
  congr 1
  funext k
  by_cases e : k = b
  · simp [e]
  · simp [e]
theorem Fuse {H : AH} {p L : Nat} {s : DK} (n : Int) (h : DS H p L s) : ACall Tryd.prog 13 [.ptr p 0, .int .i64 n] H (FuseP p L ⟨s.ct, s.w, max n (-1), s.dead || decide (n = 0)⟩ H) := by
  have h' := h
  obtain ⟨hpL, hp, _⟩ := h'
  refine acall_ok (bodyP_of fits13) fun hok => acall_of fits13 (by simp) ?_
  have e1 : max n (-1) = max n (-1) := rfl
  cases hd : s.dead with
  | true =>
    simp (disch := first | omega | (simp; done) | assumption) [wr64, wrU8, wrU64, Nat.add_assoc, -getElem?_pos, List.getElem?_cons_zero, List.getElem?_cons_succ, ic13, rs13, hp, hd, set_twice]
    refine ⟨rfl, by simp, fun x o hx _ ho => by simp [hx]; exact ho, ?_⟩
    have := h.head s.w (max n (-1)) true
    first | exact this | simpa using this
  | false =>
    simp (disch := first | omega | (simp; done) | assumption) [wr64, wrU8, wrU64, Nat.add_assoc, -getElem?_pos, List.getElem?_cons_zero, List.getElem?_cons_succ, ic13, rs13, hp, hd, set_twice]
    refine ⟨rfl, by simp, fun x o hx _ ho => by simp [hx]; exact ho, ?_⟩
    have := h.head s.w (max n (-1)) (decide (n = 0))
    first | exact this | simpa using this
theorem Power {H : AH} {p L : Nat} {s : DK} (h : DS H p L s) : ACall Tryd.prog 14 [.ptr p 0] H (FuseP p L ⟨s.ct, s.w, -1, false⟩ H) := by
  have h' := h
  obtain ⟨hpL, hp, _⟩ := h'
  refine acall_ok (bodyP_of fits14) fun hok => acall_of fits14 (by simp) ?_
  simp (disch := first | omega | (simp; done) | assumption) [wr64, wrU8, wrU64, Nat.add_assoc, -getElem?_pos, List.getElem?_cons_zero, List.getElem?_cons_succ, ic14, rs14, hp, set_twice]
  refine ⟨rfl, by simp, fun x o hx _ ho => by simp [hx]; exact ho, ?_⟩
  have := h.head s.w (-1) false
  first | exact this | simpa using this
theorem Dead {H : AH} {p L : Nat} {s : DK} (h : DS H p L s) : ACall Tryd.prog 22 [.ptr p 0] H (fun v H' => v = .bool s.dead ∧ H' = H) := by
  obtain ⟨hpL, hp, _⟩ := h
  refine acall_of fits22 (by simp) ?_
  simp (disch := first | omega | (simp; done) | assumption) [wr64, wrU8, wrU64, Nat.add_assoc, -getElem?_pos, List.getElem?_cons_zero, List.getElem?_cons_succ, ic22, rs22, hp]
theorem Writes {H : AH} {p L : Nat} {s : DK} (h : DS H p L s) : ACall Tryd.prog 19 [.ptr p 0] H (fun v H' => v = .int .i64 s.w ∧ H' = H) := by
  obtain ⟨hpL, hp, _⟩ := h
  refine acall_of fits19 (by simp) ?_
  simp (disch := first | omega | (simp; done) | assumption) [wr64, wrU8, wrU64, Nat.add_assoc, -getElem?_pos, List.getElem?_cons_zero, List.getElem?_cons_succ, ic19, rs19, hp]
theorem Blocks {H : AH} {p L : Nat} {s : DK} (h : DS H p L s) : ACall Tryd.prog 25 [.ptr p 0] H (fun v H' => v = .int .i64 (s.ct.length : Int) ∧ H' = H) := by
  obtain ⟨hpL, hp, _⟩ := h
  refine acall_of fits25 (by simp) ?_
  simp (disch := first | omega | (simp; done) | assumption) [wr64, wrU8, wrU64, Nat.add_assoc, -getElem?_pos, List.getElem?_cons_zero, List.getElem?_cons_succ, ic25, rs25, hp]
/-! ### awake -/
theorem KX.trans {p L : Nat} {H H1 H2 : AH} (h : KX p L H H1) (h' : KX p L H1 H2) : KX p L H H2 := fun x o hp hL ho => h' x o hp hL (h x o hp hL ho)
theorem KX.of {p L : Nat} {H H1 : AH} (h : H.keepsAll H1) : KX p L H H1 := fun x o _ _ ho => h x o ho
theorem KX.keepsAll {p L : Nat} {H0 H H1 : AH} (h : KX p L H H1) (hk : H0.keepsAll H) (hok : H0.ok) (hp : H0.next ≤ p) (hL : H0.next ≤ L) : H0.keepsAll H1 := fun x o hx => h x o (by have := hok _ _ hx; omega) (by have := hok _ _ hx; omega) (hk x o hx)
theorem Row.kx {p L : Nat} {H H1 : AH} {v : AV} {q : Nat} {bs : List UInt8} (h : Row H v q bs) (hk : KX p L H H1) (hp : q ≠ p) (hL : q ≠ L) : Row H1 v q bs := ⟨h.1, h.2.1, hk _ _ hp hL h.2.2⟩
theorem loadC_kx {p L : Nat} {H H1 : AH} (hk : KX p L H H1) {b o : Nat} {n : Option Nat} {v : AV} (hp : b ≠ p) (hL : b ≠ L) (h : loadC H b o n = some v) : loadC H1 b o n = some v := loadC_at h fun q hq => hk _ _ hp hL hq
theorem Chain.kx {p L : Nat} {s : DK} {H H1 : AH} (hk : KX p L H H1) {e : AV} {f : Fl} {n : Int} (hd : DS H p L s) (h : Chain H e [f] (some n)) : Chain H1 e [f] (some n) := by
  obtain ⟨hpL, hp, cs, hL, hcl, hsl⟩ := hd
  cases h with
  | fault h0 h1 h2 h =>
    have n1 : f.b ≠ p := fun e => by
      rw [e] at h0
      unfold loadC at h0
      simp only [hp] at h0
      cases h0
    have n2 : f.b ≠ L := fun e => by
      rw [e] at h0
      unfold loadC at h0
      simp only [hL] at h0
      have h0' : cs[0]? = some (AV.str f.op) := h0
      have hlt := (List.getElem?_eq_some_iff.1 h0').1
      obtain ⟨av, a1, a2⟩ := hsl 0 (by omega)
      rw [h0'] at a1
      cases a1
      cases hc : s.ct[0]'(by omega) with
      | none => rw [hc] at a2; cases a2
      | some bs => rw [hc] at a2; obtain ⟨_, q, h5, _⟩ := a2; cases h5
    cases h with
    | num n => exact .fault (loadC_kx hk n1 n2 h0) (loadC_kx hk n1 n2 h1) (loadC_kx hk n1 n2 h2) (.num n)
end Go.Proofs.YtcgkadfgojmmlaaDoor.DFn

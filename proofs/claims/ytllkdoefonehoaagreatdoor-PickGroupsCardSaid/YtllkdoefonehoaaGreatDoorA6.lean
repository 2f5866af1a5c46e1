/- Two values held against each other. No condition. -/
import Derived.Test.YtllkdoefonehoaaGreatDoorA5
import Derived.Laws.StructEq
import Derived.Laws.Cover3
import Derived.Laws.Pointers
import Derived.Laws.Small
set_option linter.unusedVariables false
set_option linter.unusedSimpArgs false
namespace Go.Proofs.YtllkdoefonehoaaGreatDoor.Abs
open Go Go.RowKit

theorem aeq1_sound {P : Program} {j : Inj} {w : World} {lit : Bool} {t : TypeId} {k : EqK} {x y : AV} {u v : Value} {b : Bool} (hk : leafK P lit t = some k) (h : aeq1 k x y = some b) (hx : VR j x u) (hy : VR j y v) (d : Nat) :
    (Op.equalIn (d + 1) t u v).run P w = .ok b w := by
  unfold leafK at hk
  split at hk <;> first | (cases hk; done) | skip
  · rename_i hu
    cases hk
    cases hx <;> cases hy <;> simp only [aeq1] at h <;> first | (cases h; done) | skip
    cases h
    rename_i a c
    rw [run_equalIn_bool w d t a c hu]
    have e : (a == c) = decide (a = c) := by (rw [Bool.eq_iff_iff]; simp)
    rw [e]
  · rename_i k hu
    cases hk
    cases hx <;> cases hy <;> simp only [aeq1] at h <;> first | (cases h; done) | skip
    split at h
    · rename_i hkk
      subst hkk
      cases h
      rename_i a c
      rw [run_equalIn_int w d t _ k a c hu]
      have e : (a == c) = decide (a = c) := by (rw [Bool.eq_iff_iff]; simp)
      rw [e]
    · cases h
  · rename_i hu
    cases hk
    cases hx <;> cases hy <;> simp only [aeq1] at h <;> first | (cases h; done) | skip
    cases h
    rename_i s q
    rw [run_equalIn_string w d t s q hu, toList_data, toList_data]
    have e : (s.data.toList == q.data.toList) = decide (s.data.toList = q.data.toList) := by (rw [Bool.eq_iff_iff]; simp)
    rw [e]
  · rename_i e hu
    simp only [Option.bind_eq_some_iff] at hk
    obtain ⟨n, hn, hk⟩ := hk
    split at hk
    · cases hk
    · rename_i h0
      cases hk
      cases hx <;> cases hy <;> simp only [aeq1] at h <;> first | (cases h; done) | skip
      · cases h
        (unfold Op.equalIn; rw [Sem.run_bind, run_underlying hu]; rfl)
      · cases h
        (unfold Op.equalIn; rw [Sem.run_bind, run_underlying hu]; rfl)
      · cases h
        (unfold Op.equalIn; rw [Sem.run_bind, run_underlying hu]; rfl)
      · split at h
        · rename_i hbc
          subst hbc
          cases h
          rename_i c1 z1 o1 hc1 c2 z2 o2 hc2
          rw [hc1] at hc2
          cases hc2
          simp only [Op.equalIn, Sem.run_bind, run_underlying hu, Result.andThen_ok, run_sizeOf hn]
          rw [if_pos h0]
          have e : ((⟨c1, o1, none⟩ : Addr) == ⟨c1, o2, none⟩) = decide (o1 = o2) := by (rw [Bool.eq_iff_iff]; simp)
          simp [sameAddr, e]
        · cases h
  · rename_i ms hu
    cases hk
    cases hx <;> cases hy <;> simp only [aeq1] at h <;> first | (cases h; done) | skip
    · rename_i t1 v1 u1 hv1 t2 v2 u2 hv2
      split at h
      · simp at h
      · rename_i hne
        cases h
        simp only [Op.equalIn, Sem.run_bind, run_underlying hu, Result.andThen_ok]
        rw [if_pos hne]
        rfl
    · cases h
      (unfold Op.equalIn; rw [Sem.run_bind, run_underlying hu]; rfl)
    · cases h
      (unfold Op.equalIn; rw [Sem.run_bind, run_underlying hu]; rfl)
    · split at h
      · cases h
        (unfold Op.equalIn; rw [Sem.run_bind, run_underlying hu]; rfl)
      · cases h
  · rename_i e hu
    cases hk
    cases hx <;> cases hy <;> simp only [aeq1] at h <;> first | (cases h; done) | skip
    all_goals (cases h; (unfold Op.equalIn; rw [Sem.run_bind, run_underlying hu]; rfl))
  · rename_i a e hu
    cases hk
    cases hx <;> cases hy <;> simp only [aeq1] at h <;> first | (cases h; done) | skip
    all_goals (cases h; (unfold Op.equalIn; rw [Sem.run_bind, run_underlying hu]; rfl))
  · rename_i a e c hu
    cases hk
    cases hx <;> cases hy <;> simp only [aeq1] at h <;> first | (cases h; done) | skip
    all_goals (cases h; (unfold Op.equalIn; rw [Sem.run_bind, run_underlying hu]; rfl))

theorem aeq1_one {k : EqK} {x y : AV} {b : Bool} (h : aeq1 k x y = some b) : x.one = true ∧ y.one = true := by
  unfold aeq1 at h
  split at h <;> first
    | exact ⟨rfl, rfl⟩
    | cases h
theorem aeqs_length : ∀ {ks : List EqK} {xs ys : List AV} {b : Bool}, aeqs ks xs ys = some b → xs.length = ks.length ∧ ys.length = ks.length
  | [], [], [], _, _ => ⟨rfl, rfl⟩
  | k :: ks, x :: xs, y :: ys, b, h => by
    simp only [aeqs, Option.bind_eq_some_iff, Option.map_eq_some_iff] at h
    obtain ⟨_, _, c, hc, _⟩ := h
    have := aeqs_length hc
    exact ⟨by simp [this.1], by simp [this.2]⟩
  | [], _ :: _, _, _, h => by simp [aeqs] at h
  | [], [], _ :: _, _, h => by simp [aeqs] at h
  | _ :: _, [], _, _, h => by simp [aeqs] at h
  | _ :: _, _ :: _, [], _, h => by simp [aeqs] at h
theorem aeqs_append : ∀ {ks ks' : List EqK} {xs ys : List AV} {b : Bool}, aeqs (ks ++ ks') xs ys = some b →
    ∃ c d, aeqs ks (xs.take ks.length) (ys.take ks.length) = some c ∧ aeqs ks' (xs.drop ks.length) (ys.drop ks.length) = some d ∧ b = (c && d)
  | [], ks', xs, ys, b, h => ⟨true, b, by simp [aeqs], by simpa using h, by simp⟩
  | k :: ks, ks', [], ys, b, h => by simp [aeqs] at h
  | k :: ks, ks', x :: xs, [], b, h => by simp [aeqs] at h
  | k :: ks, ks', x :: xs, y :: ys, b, h => by
    simp only [List.cons_append, aeqs, Option.bind_eq_some_iff, Option.map_eq_some_iff] at h
    obtain ⟨p, hp, q, hq, rfl⟩ := h
    obtain ⟨c, d, hc, hd, rfl⟩ := aeqs_append hq
    exact ⟨p && c, d, by simp [aeqs, hp, hc], by simpa using hd, by rw [Bool.and_assoc]⟩

theorem run_part {P : Program} {j : Inj} {w : World} {t : TypeId} {n : Option Nat} (ha : aggP P t = some n) {l : List AV} {r : Array Value} (hl : VRs j l r.toList) {off : Nat} {v : AV} (h : Abs.part l off n = some v) :
    ∃ u, (Go.part t r off).run P w = .ok u w ∧ VR j v u := by
  have hi := run_isAgg ha w
  cases n with
  | none =>
    simp only [Abs.part] at h
    obtain ⟨u, hu, hv⟩ := hl.get h
    have hu' : r[off]? = some u := by simpa using hu
    exact ⟨u, by simp [Go.part, hi.1, hu'], hv⟩
  | some n =>
    simp only [Abs.part] at h
    split at h
    · cases h
      refine ⟨.agg (r.extract off (off + n)), by simp [Go.part, hi.1, hi.2 n rfl], .agg_list ?_⟩
      have e : (r.extract off (off + n)).toList = (r.toList.drop off).take n := by
        rw [Array.toList_extract, List.extract_eq_take_drop]
        congr 1
        omega
      rw [e]
      exact (hl.drop off).take n
    · cases h

theorem aggP_struct {P : Program} {t : TypeId} {n : Nat} (h : isStructT P t = true) (hs : sizeP P t = some n) : aggP P t = some (some n) := by
  unfold isStructT at h
  split at h
  · rename_i fs hu; simp [aggP, hu, hs]
  · cases h
theorem aggP_leaf {P : Program} {t : TypeId} {lit : Bool} {k : EqK} (h : leafK P lit t = some k) : aggP P t = some none ∧ isStructT P t = false := by
  unfold leafK at h
  split at h <;> first | (cases h; done) | (rename_i hu; simp [aggP, isStructT, hu])

theorem eqFields_sound {P : Program} {j : Inj} {w : World} {K : TypeId → Option (List EqK)} {d : Nat}
    (hK : ∀ t ks, K t = some ks → ∀ (X Y : AV) (U V : Value) b, VR j X U → VR j Y V → (isStructT P t = true → ∃ l l', X = .agg l ∧ Y = .agg l') → (isStructT P t = false → X.one = true ∧ Y.one = true) → aeqs ks X.cells Y.cells = some b →
      (Op.equalIn d t U V).run P w = .ok b w)
    (hL : ∀ t ks, K t = some ks → (isStructT P t = true → True) ∧ (isStructT P t = false → ks.length = 1 ∧ aggP P t = some none)) {xs ys : List AV} {r s : Array Value} (hx : VRs j xs r.toList) (hy : VRs j ys s.toList) :
    ∀ (fs : List Field) (off : Nat) (ks : List EqK) (b : Bool), fieldsKs P K fs off = some ks → aeqs ks (xs.drop off) (ys.drop off) = some b → (Op.eqFields d r s fs).run P w = .ok b w
  | [], off, ks, b, hk, h => by
    cases hk
    have := aeqs_length h
    simp only [List.length_nil, List.length_eq_zero_iff] at this
    rw [this.1, this.2] at h
    cases h
    simp [Op.eqFields]
  | f :: fs, off, ks, b, hk, h => by
    simp only [fieldsKs] at hk
    split at hk
    · rename_i hn
      obtain ⟨hn, rfl⟩ := hn
      simp only [Option.bind_eq_some_iff] at hk
      obtain ⟨k1, hk1, hk⟩ := hk
      split at hk
      · rename_i hs
        obtain ⟨hs, h0⟩ := hs
        simp only [Option.map_eq_some_iff] at hk
        obtain ⟨k2, hk2, rfl⟩ := hk
        obtain ⟨c, e, hc, he, rfl⟩ := aeqs_append h
        rw [List.drop_drop, List.drop_drop] at he
        have ih := eqFields_sound hK hL hx hy fs (f.offset + k1.length) k2 e hk2 he
        have l1 := aeqs_length hc
        simp only [List.length_take, List.length_drop] at l1
        have hpart : ∃ n X Y, aggP P f.type = some n ∧ Abs.part xs f.offset n = some X ∧ Abs.part ys f.offset n = some Y ∧ X.cells = (xs.drop f.offset).take k1.length ∧ Y.cells = (ys.drop f.offset).take k1.length ∧
            (isStructT P f.type = true → ∃ l l', X = .agg l ∧ Y = .agg l') ∧ (isStructT P f.type = false → X.one = true ∧ Y.one = true) := by
          cases hst : isStructT P f.type with
          | true =>
            refine ⟨some k1.length, .agg ((xs.drop f.offset).take k1.length), .agg ((ys.drop f.offset).take k1.length), aggP_struct hst hs, ?_, ?_, ?_, ?_, fun _ => ⟨_, _, rfl, rfl⟩, fun hh => by cases hh⟩
            · simp only [Abs.part]; rw [if_pos (by omega)]
            · simp only [Abs.part]; rw [if_pos (by omega)]
            · rfl
            · rfl
          | false =>
            obtain ⟨h1, h2⟩ := (hL f.type k1 hk1).2 hst
            rw [h1] at l1
            have hX : f.offset < xs.length := by omega
            have hY : f.offset < ys.length := by omega
            have hone : xs[f.offset].one = true ∧ ys[f.offset].one = true := by
              have hcc : aeqs k1 ((xs.drop f.offset).take 1) ((ys.drop f.offset).take 1) = some c := by rw [← h1]; exact hc
              rw [List.drop_eq_getElem_cons hX, List.drop_eq_getElem_cons hY] at hcc
              match k1, h1 with
              | [k], _ =>
                simp only [List.take_succ_cons, List.take_zero, aeqs, Option.bind_eq_some_iff, Option.map_eq_some_iff] at hcc
                obtain ⟨q, hq, _⟩ := hcc
                exact aeq1_one hq
            have hcells : ∀ {x : AV}, x.one = true → x.cells = [x] := fun {x} hh => by cases x <;> simp [AV.one, AV.cells] at hh ⊢
            refine ⟨none, xs[f.offset], ys[f.offset], h2, by simp [Abs.part, hX], by simp [Abs.part, hY], ?_, ?_, (fun hh => by cases hh), fun _ => hone⟩
            · rw [hcells hone.1, h1, List.drop_eq_getElem_cons hX]; rfl
            · rw [hcells hone.2, h1, List.drop_eq_getElem_cons hY]; rfl
        obtain ⟨n, X, Y, hn', hX, hY, hXc, hYc, hst1, hst2⟩ := hpart
        obtain ⟨U, hU, hXU⟩ := run_part (P := P) (w := w) hn' hx hX
        obtain ⟨V, hV, hYV⟩ := run_part (P := P) (w := w) hn' hy hY
        have heq := hK f.type k1 hk1 X Y U V c hXU hYV hst1 hst2 (by rw [hXc, hYc]; exact hc)
        rw [Op.eqFields]
        simp only [if_pos hn, Sem.run_bind, hU, hV, heq, Result.andThen_ok]
        cases c
        · simp
        · simpa using ih
      · cases hk
    · cases hk

theorem kindsK_leaf {P : Program} {n : Nat} {t : TypeId} {ks : List EqK} (h : kindsK P n t = some ks) (hs : isStructT P t = false) : ∃ k, ks = [k] ∧ leafK P false t = some k := by
  cases n with
  | zero => cases h
  | succ n =>
    unfold isStructT at hs
    simp only [kindsK] at h
    split at h
    · rename_i fs hu; rw [hu] at hs; cases hs
    · simp only [Option.map_eq_some_iff] at h
      obtain ⟨k, hk, rfl⟩ := h
      exact ⟨k, rfl, hk⟩
theorem kindsK_sound {P : Program} {j : Inj} {w : World} : ∀ (n : Nat) (t : TypeId) (ks : List EqK), kindsK P n t = some ks → ∀ (d : Nat) (X Y : AV) (U V : Value) b, VR j X U → VR j Y V →
    (isStructT P t = true → ∃ l l', X = .agg l ∧ Y = .agg l') → (isStructT P t = false → X.one = true ∧ Y.one = true) → aeqs ks X.cells Y.cells = some b → (Op.equalIn (d + n) t U V).run P w = .ok b w := by
  intro n
  induction n with
  | zero => intro t ks h; cases h
  | succ n ih =>
    intro t ks hk d X Y U V b hX hY h1 h2 h
    cases hst : isStructT P t with
    | false =>
      obtain ⟨k, rfl, hl⟩ := kindsK_leaf hk hst
      obtain ⟨o1, o2⟩ := h2 hst
      have hcells : ∀ {x : AV}, x.one = true → x.cells = [x] := fun {x} hh => by cases x <;> simp [AV.one, AV.cells] at hh ⊢
      rw [hcells o1, hcells o2] at h
      simp only [aeqs, Option.bind_eq_some_iff, Option.map_eq_some_iff] at h
      obtain ⟨q, hq, _, hz, rfl⟩ := h
      cases hz
      rw [Bool.and_true]
      exact aeq1_sound hl hq hX hY (d + n)
    | true =>
      obtain ⟨l, l', rfl, rfl⟩ := h1 hst
      obtain ⟨r, rfl, hr⟩ := hX.agg_inv
      obtain ⟨s, rfl, hs⟩ := hY.agg_inv
      simp only [kindsK] at hk
      split at hk
      · rename_i fs hu
        split at hk
        · cases hk
        · rename_i hp
          have hf : P.fieldsOf t = fs := by simp [Program.fieldsOf, hu]
          have hp' : P.stoodInHeld t = false := by simpa using hp
          have e := run_equalIn_struct (P := P) w (d + n) t r s (by rw [hf]; exact hu) hp'
          rw [hf] at e
          have goal : (Op.equalIn (d + n + 1) t (.agg r) (.agg s)).run P w = .ok b w := by
            rw [e]
            exact eqFields_sound (K := kindsK P n) (d := d + n) (fun t ks hk X Y U V b => ih t ks hk d X Y U V b)
              (fun t ks hk => ⟨fun _ => trivial, fun hs => by obtain ⟨k, rfl, hl⟩ := kindsK_leaf hk hs; exact ⟨rfl, (aggP_leaf hl).1⟩⟩) hr hs fs.toList 0 ks b hk (by simpa [AV.cells] using h)
          exact goal
      · rename_i hu
        unfold isStructT at hst
        split at hst
        · rename_i fs hu'; exact absurd hu' (hu fs)
        · cases hst

end Go.Proofs.YtllkdoefonehoaaGreatDoor.Abs

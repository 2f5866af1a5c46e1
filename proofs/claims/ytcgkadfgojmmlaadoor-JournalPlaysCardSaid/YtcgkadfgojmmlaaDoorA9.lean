/- Quiet steps. No condition. -/
import Derived.Test.YtcgkadfgojmmlaaDoorA5
import Derived.Laws.StructEq
import Derived.Laws.Cover3
import Derived.Laws.Pointers
import Derived.Laws.Small
import Derived.Laws.Tables
import Derived.Laws.MakeOwn
import Derived.Laws.BytesString
import Derived.Great.BuildSlice
set_option linter.unusedVariables false
set_option linter.unusedSimpArgs false
namespace Go.Proofs.YtcgkadfgojmmlaaDoor.Abs
open Go Go.RowKit

theorem aeq1_sound {P : Program} {j : Inj} {w : World} {lit : Bool} {t : TypeId} {k : EqK} {x y : AV} {u v : Value} {b : Bool} (hk : leafK P lit t = some k) (h : aeq1 k x y = some b) (hx : VR j x u) (hy : VR j y v) (d : Nat) :
    (Op.equalIn (d + 1) t u v).run P w = .ok b w := by
  unfold leafK at hk
  split at hk <;> first | (cases hk; done) | skip
  · rename_i hu
    cases hk
    cases hx <;> cases hy <;> simp only [aeq1] at h <;> first | (cases h; done) | skip
    cases h
    rename_i a c
    rw [run_equalIn_bool w d t a c hu]
    have e : (a == c) = decide (a = c) := by (rw [Bool.eq_iff_iff]; simp)
    rw [e]
  · rename_i k hu
    cases hk
    cases hx <;> cases hy <;> simp only [aeq1] at h <;> first | (cases h; done) | skip
    split at h
    · rename_i hkk
      subst hkk
      cases h
      rename_i a c
      rw [run_equalIn_int w d t _ k a c hu]
      have e : (a == c) = decide (a = c) := by (rw [Bool.eq_iff_iff]; simp)
      rw [e]
    · cases h
  · rename_i hu
    cases hk
    cases hx <;> cases hy <;> simp only [aeq1] at h <;> first | (cases h; done) | skip
    cases h
    rename_i s q
    rw [run_equalIn_string w d t s q hu, toList_data, toList_data]
    have e : (s.data.toList == q.data.toList) = decide (s.data.toList = q.data.toList) := by (rw [Bool.eq_iff_iff]; simp)
    rw [e]
  · rename_i e hu
    simp only [Option.bind_eq_some_iff] at hk
    obtain ⟨n, hn, hk⟩ := hk
    split at hk
    · cases hk
    · rename_i h0
      cases hk
      cases hx <;> cases hy <;> simp only [aeq1] at h <;> first | (cases h; done) | skip
      · cases h
        (unfold Op.equalIn; rw [Sem.run_bind, run_underlying hu]; rfl)
      · cases h
        (unfold Op.equalIn; rw [Sem.run_bind, run_underlying hu]; rfl)
      · cases h
        (unfold Op.equalIn; rw [Sem.run_bind, run_underlying hu]; rfl)
      · split at h
        · rename_i hbc
          subst hbc
          cases h
          rename_i c1 z1 o1 hc1 c2 z2 o2 hc2
          rw [hc1] at hc2
          cases hc2
          simp only [Op.equalIn, Sem.run_bind, run_underlying hu, Result.andThen_ok, run_sizeOf hn]
          rw [if_pos h0]
          have e : ((⟨c1, o1, none⟩ : Addr) == ⟨c1, o2, none⟩) = decide (o1 = o2) := by (rw [Bool.eq_iff_iff]; simp)
          simp [sameAddr, e]
        · cases h
  · rename_i ms hu
    cases hk
    cases hx <;> cases hy <;> simp only [aeq1] at h <;> first | (cases h; done) | skip
    · rename_i t1 v1 u1 hv1 t2 v2 u2 hv2
      split at h
      · simp at h
      · rename_i hne
        cases h
        simp only [Op.equalIn, Sem.run_bind, run_underlying hu, Result.andThen_ok]
        rw [if_pos hne]
        rfl
    · cases h
      (unfold Op.equalIn; rw [Sem.run_bind, run_underlying hu]; rfl)
    · cases h
      (unfold Op.equalIn; rw [Sem.run_bind, run_underlying hu]; rfl)
    · split at h
      · cases h
        (unfold Op.equalIn; rw [Sem.run_bind, run_underlying hu]; rfl)
      · cases h
  · rename_i e hu
    cases hk
    cases hx <;> cases hy <;> simp only [aeq1] at h <;> first | (cases h; done) | skip
    all_goals (cases h; (unfold Op.equalIn; rw [Sem.run_bind, run_underlying hu]; rfl))
  · rename_i a e hu
    cases hk
    cases hx <;> cases hy <;> simp only [aeq1] at h <;> first | (cases h; done) | skip
    all_goals (cases h; (unfold Op.equalIn; rw [Sem.run_bind, run_underlying hu]; rfl))
  · rename_i a e c hu
    cases hk
    cases hx <;> cases hy <;> simp only [aeq1] at h <;> first | (cases h; done) | skip
    all_goals (cases h; (unfold Op.equalIn; rw [Sem.run_bind, run_underlying hu]; rfl))

theorem aeq1_one {k : EqK} {x y : AV} {b : Bool} (h : aeq1 k x y = some b) : x.one = true ∧ y.one = true := by
  unfold aeq1 at h
  split at h <;> first
    | exact ⟨rfl, rfl⟩
    | cases h
theorem aeqs_length : ∀ {ks : List EqK} {xs ys : List AV} {b : Bool}, aeqs ks xs ys = some b → xs.length = ks.length ∧ ys.length = ks.length
  | [], [], [], _, _ => ⟨rfl, rfl⟩
  | k :: ks, x :: xs, y :: ys, b, h => by
    simp only [aeqs, Option.bind_eq_some_iff, Option.map_eq_some_iff] at h
    obtain ⟨_, _, c, hc, _⟩ := h
    have := aeqs_length hc
    exact ⟨by simp [this.1], by simp [this.2]⟩
  | [], _ :: _, _, _, h => by simp [aeqs] at h
  | [], [], _ :: _, _, h => by simp [aeqs] at h
  | _ :: _, [], _, _, h => by simp [aeqs] at h
  | _ :: _, _ :: _, [], _, h => by simp [aeqs] at h
theorem aeqs_append : ∀ {ks ks' : List EqK} {xs ys : List AV} {b : Bool}, aeqs (ks ++ ks') xs ys = some b →
    ∃ c d, aeqs ks (xs.take ks.length) (ys.take ks.length) = some c ∧ aeqs ks' (xs.drop ks.length) (ys.drop ks.length) = some d ∧ b = (c && d)
  | [], ks', xs, ys, b, h => ⟨true, b, by simp [aeqs], by simpa using h, by simp⟩
  | k :: ks, ks', [], ys, b, h => by simp [aeqs] at h
  | k :: ks, ks', x :: xs, [], b, h => by simp [aeqs] at h
  | k :: ks, ks', x :: xs, y :: ys, b, h => by
    simp only [List.cons_append, aeqs, Option.bind_eq_some_iff, Option.map_eq_some_iff] at h
    obtain ⟨p, hp, q, hq, rfl⟩ := h
    obtain ⟨c, d, hc, hd, rfl⟩ := aeqs_append hq
    exact ⟨p && c, d, by simp [aeqs, hp, hc], by simpa using hd, by rw [Bool.and_assoc]⟩

theorem run_part {P : Program} {j : Inj} {w : World} {t : TypeId} {n : Option Nat} (ha : aggP P t = some n) {l : List AV} {r : Array Value} (hl : VRs j l r.toList) {off : Nat} {v : AV} (h : Abs.part l off n = some v) :
    ∃ u, (Go.part t r off).run P w = .ok u w ∧ VR j v u := by
  have hi := run_isAgg ha w
  cases n with
  | none =>
    simp only [Abs.part] at h
    obtain ⟨u, hu, hv⟩ := hl.get h
    have hu' : r[off]? = some u := by simpa using hu
    exact ⟨u, by simp [Go.part, hi.1, hu'], hv⟩
  | some n =>
    simp only [Abs.part] at h
    split at h
    · cases h
      refine ⟨.agg (r.extract off (off + n)), by simp [Go.part, hi.1, hi.2 n rfl], .agg_list ?_⟩
      have e : (r.extract off (off + n)).toList = (r.toList.drop off).take n := by
        rw [Array.toList_extract, List.extract_eq_take_drop]
        congr 1
        omega
      rw [e]
      exact (hl.drop off).take n
    · cases h

theorem aggP_struct {P : Program} {t : TypeId} {n : Nat} (h : isStructT P t = true) (hs : sizeP P t = some n) : aggP P t = some (some n) := by
  unfold isStructT at h
  split at h
  · rename_i fs hu; simp [aggP, hu, hs]
  · cases h
theorem aggP_leaf {P : Program} {t : TypeId} {lit : Bool} {k : EqK} (h : leafK P lit t = some k) : aggP P t = some none ∧ isStructT P t = false := by
  unfold leafK at h
  split at h <;> first | (cases h; done) | (rename_i hu; simp [aggP, isStructT, hu])

theorem eqFields_sound {P : Program} {j : Inj} {w : World} {K : TypeId → Option (List EqK)} {d : Nat}
    (hK : ∀ t ks, K t = some ks → ∀ (X Y : AV) (U V : Value) b, VR j X U → VR j Y V → (isStructT P t = true → ∃ l l', X = .agg l ∧ Y = .agg l') → (isStructT P t = false → X.one = true ∧ Y.one = true) → aeqs ks X.cells Y.cells = some b →
      (Op.equalIn d t U V).run P w = .ok b w)
    (hL : ∀ t ks, K t = some ks → (isStructT P t = true → True) ∧ (isStructT P t = false → ks.length = 1 ∧ aggP P t = some none)) {xs ys : List AV} {r s : Array Value} (hx : VRs j xs r.toList) (hy : VRs j ys s.toList) :
    ∀ (fs : List Field) (off : Nat) (ks : List EqK) (b : Bool), fieldsKs P K fs off = some ks → aeqs ks (xs.drop off) (ys.drop off) = some b → (Op.eqFields d r s fs).run P w = .ok b w
  | [], off, ks, b, hk, h => by
    cases hk
    have := aeqs_length h
    simp only [List.length_nil, List.length_eq_zero_iff] at this
    rw [this.1, this.2] at h
    cases h
    simp [Op.eqFields]
  | f :: fs, off, ks, b, hk, h => by
    simp only [fieldsKs] at hk
    split at hk
    · rename_i hn
      obtain ⟨hn, rfl⟩ := hn
      simp only [Option.bind_eq_some_iff] at hk
      obtain ⟨k1, hk1, hk⟩ := hk
      split at hk
      · rename_i hs
        obtain ⟨hs, h0⟩ := hs
        simp only [Option.map_eq_some_iff] at hk
        obtain ⟨k2, hk2, rfl⟩ := hk
        obtain ⟨c, e, hc, he, rfl⟩ := aeqs_append h
        rw [List.drop_drop, List.drop_drop] at he
        have ih := eqFields_sound hK hL hx hy fs (f.offset + k1.length) k2 e hk2 he
        have l1 := aeqs_length hc
        simp only [List.length_take, List.length_drop] at l1
        have hpart : ∃ n X Y, aggP P f.type = some n ∧ Abs.part xs f.offset n = some X ∧ Abs.part ys f.offset n = some Y ∧ X.cells = (xs.drop f.offset).take k1.length ∧ Y.cells = (ys.drop f.offset).take k1.length ∧
            (isStructT P f.type = true → ∃ l l', X = .agg l ∧ Y = .agg l') ∧ (isStructT P f.type = false → X.one = true ∧ Y.one = true) := by
          cases hst : isStructT P f.type with
          | true =>
            refine ⟨some k1.length, .agg ((xs.drop f.offset).take k1.length), .agg ((ys.drop f.offset).take k1.length), aggP_struct hst hs, ?_, ?_, ?_, ?_, fun _ => ⟨_, _, rfl, rfl⟩, fun hh => by cases hh⟩
            · simp only [Abs.part]; rw [if_pos (by omega)]
            · simp only [Abs.part]; rw [if_pos (by omega)]
            · rfl
            · rfl
          | false =>
            obtain ⟨h1, h2⟩ := (hL f.type k1 hk1).2 hst
            rw [h1] at l1
            have hX : f.offset < xs.length := by omega
            have hY : f.offset < ys.length := by omega
            have hone : xs[f.offset].one = true ∧ ys[f.offset].one = true := by
              have hcc : aeqs k1 ((xs.drop f.offset).take 1) ((ys.drop f.offset).take 1) = some c := by rw [← h1]; exact hc
              rw [List.drop_eq_getElem_cons hX, List.drop_eq_getElem_cons hY] at hcc
              match k1, h1 with
              | [k], _ =>
                simp only [List.take_succ_cons, List.take_zero, aeqs, Option.bind_eq_some_iff, Option.map_eq_some_iff] at hcc
                obtain ⟨q, hq, _⟩ := hcc
                exact aeq1_one hq
            have hcells : ∀ {x : AV}, x.one = true → x.cells = [x] := fun {x} hh => by cases x <;> simp [AV.one, AV.cells] at hh ⊢
            refine ⟨none, xs[f.offset], ys[f.offset], h2, by simp [Abs.part, hX], by simp [Abs.part, hY], ?_, ?_, (fun hh => by cases hh), fun _ => hone⟩
            · rw [hcells hone.1, h1, List.drop_eq_getElem_cons hX]; rfl
            · rw [hcells hone.2, h1, List.drop_eq_getElem_cons hY]; rfl
        obtain ⟨n, X, Y, hn', hX, hY, hXc, hYc, hst1, hst2⟩ := hpart
        obtain ⟨U, hU, hXU⟩ := run_part (P := P) (w := w) hn' hx hX
        obtain ⟨V, hV, hYV⟩ := run_part (P := P) (w := w) hn' hy hY
        have heq := hK f.type k1 hk1 X Y U V c hXU hYV hst1 hst2 (by rw [hXc, hYc]; exact hc)
        rw [Op.eqFields]
        simp only [if_pos hn, Sem.run_bind, hU, hV, heq, Result.andThen_ok]
        cases c
        · simp
        · simpa using ih
      · cases hk
    · cases hk

theorem kindsK_leaf {P : Program} {n : Nat} {t : TypeId} {ks : List EqK} (h : kindsK P n t = some ks) (hs : isStructT P t = false) : ∃ k, ks = [k] ∧ leafK P false t = some k := by
  cases n with
  | zero => cases h
  | succ n =>
    unfold isStructT at hs
    simp only [kindsK] at h
    split at h
    · rename_i fs hu; rw [hu] at hs; cases hs
    · simp only [Option.map_eq_some_iff] at h
      obtain ⟨k, hk, rfl⟩ := h
      exact ⟨k, rfl, hk⟩
theorem kindsK_sound {P : Program} {j : Inj} {w : World} : ∀ (n : Nat) (t : TypeId) (ks : List EqK), kindsK P n t = some ks → ∀ (d : Nat) (X Y : AV) (U V : Value) b, VR j X U → VR j Y V →
    (isStructT P t = true → ∃ l l', X = .agg l ∧ Y = .agg l') → (isStructT P t = false → X.one = true ∧ Y.one = true) → aeqs ks X.cells Y.cells = some b → (Op.equalIn (d + n) t U V).run P w = .ok b w := by
  intro n
  induction n with
  | zero => intro t ks h; cases h
  | succ n ih =>
    intro t ks hk d X Y U V b hX hY h1 h2 h
    cases hst : isStructT P t with
    | false =>
      obtain ⟨k, rfl, hl⟩ := kindsK_leaf hk hst
      obtain ⟨o1, o2⟩ := h2 hst
      have hcells : ∀ {x : AV}, x.one = true → x.cells = [x] := fun {x} hh => by cases x <;> simp [AV.one, AV.cells] at hh ⊢
      rw [hcells o1, hcells o2] at h
      simp only [aeqs, Option.bind_eq_some_iff, Option.map_eq_some_iff] at h
      obtain ⟨q, hq, _, hz, rfl⟩ := h
      cases hz
      rw [Bool.and_true]
      exact aeq1_sound hl hq hX hY (d + n)
    | true =>
      obtain ⟨l, l', rfl, rfl⟩ := h1 hst
      obtain ⟨r, rfl, hr⟩ := hX.agg_inv
      obtain ⟨s, rfl, hs⟩ := hY.agg_inv
      simp only [kindsK] at hk
      split at hk
      · rename_i fs hu
        split at hk
        · cases hk
        · rename_i hp
          have hf : P.fieldsOf t = fs := by simp [Program.fieldsOf, hu]
          have hp' : P.stoodInHeld t = false := by simpa using hp
          have e := run_equalIn_struct (P := P) w (d + n) t r s (by rw [hf]; exact hu) hp'
          rw [hf] at e
          have goal : (Op.equalIn (d + n + 1) t (.agg r) (.agg s)).run P w = .ok b w := by
            rw [e]
            exact eqFields_sound (K := kindsK P n) (d := d + n) (fun t ks hk X Y U V b => ih t ks hk d X Y U V b)
              (fun t ks hk => ⟨fun _ => trivial, fun hs => by obtain ⟨k, rfl, hl⟩ := kindsK_leaf hk hs; exact ⟨rfl, (aggP_leaf hl).1⟩⟩) hr hs fs.toList 0 ks b hk (by simpa [AV.cells] using h)
          exact goal
      · rename_i hu
        unfold isStructT at hst
        split at hst
        · rename_i fs hu'; exact absurd hu' (hu fs)
        · cases hst

end Go.Proofs.YtcgkadfgojmmlaaDoor.Abs
set_option linter.unusedVariables false
set_option linter.unusedSimpArgs false
namespace Go.Proofs.YtcgkadfgojmmlaaDoor.Abs
open Go Go.RowKit

/-- What a computation of a value comes to. -/
def NV (P : Program) (s : Sem Value) (j : Inj) (w : World) (id : Nat) (v : AV) : Option AObj → Prop
  | none => ∃ vc, s.run P w = .ok vc w ∧ VR j v vc
  | some b => ∃ vc x w', s.run P w = .ok vc w' ∧ w'.heap = w.heap.push x ∧ w'.os = w.os ∧ w'.tape = w.tape ∧ w'.output = w.output ∧ ORel j b x ∧ b.ro = false ∧
      ∀ j' : Inj, j.le j' → j' id = some (w.heap.size, csize x) → VR j' v vc
theorem NV.lift {P : Program} {s : Sem Value} {j : Inj} {w : World} {id : Nat} {v : AV} {b : Option AObj} {o : Oper} {ρ : Operand → Value} (h : NV P s j w id v b)
    (he : execOp ρ o = (do pure (Next.value (← s)))) : NOk P o ρ j w id v b := by
  cases b with
  | none =>
    obtain ⟨vc, h1, h2⟩ := h
    exact ⟨vc, by rw [he]; exact run_v h1, h2⟩
  | some b =>
    obtain ⟨vc, x, w', h1, h2⟩ := h
    exact ⟨vc, x, w', by rw [he]; exact run_v h1, h2⟩

section
variable {P : Program} {j : Inj} {w : World} {id : Nat} {ev : IOpd → AV} {ρ : Operand → Value} {H : AH}

theorem leafK_int {lit : Bool} {t : TypeId} (h : leafK P lit t = some .int) : ∃ q, P.underlying t = some (.int q) := by
  unfold leafK at h
  split at h <;> first | (cases h; done) | skip
  · exact ⟨_, ‹_›⟩
  · simp only [Option.bind_eq_some_iff] at h
    obtain ⟨n, _, h⟩ := h
    split at h <;> cases h
theorem leafK_str {lit : Bool} {t : TypeId} (h : leafK P lit t = some .str) : P.underlying t = some .string := by
  unfold leafK at h
  split at h <;> first | (cases h; done) | skip
  · assumption
  · simp only [Option.bind_eq_some_iff] at h
    obtain ⟨n, _, h⟩ := h
    split at h <;> cases h
theorem leafK_iface {lit c : Bool} {t : TypeId} {l : List Nat} (h : leafK P lit t = some (.iface c l)) : ∃ ms, P.underlying t = some (.interface ms) ∧ c = (lit || ms.isEmpty) := by
  unfold leafK at h
  split at h <;> first | (cases h; done) | skip
  · simp only [Option.bind_eq_some_iff] at h
    obtain ⟨n, _, h⟩ := h
    split at h <;> cases h
  · cases h; exact ⟨_, ‹_›, rfl⟩

/-- '==' and '!=' by the type's own equality. -/
def eqDo (op : BinOp) (t : TypeId) (u v : Value) : Sem Value := if op = .eql then (do pure (.bool (← Op.equal t u v))) else (do pure (.bool (!(← Op.equal t u v))))
theorem run_eqOp {op : BinOp} {t : TypeId} {u v : Value} {c : Bool} (hop : op = .eql ∨ op = .neq) (hs : (Op.equal t u v).run P w = .ok c w)
    (hd : binOp op t u v = eqDo op t u v) :
    (binOp op t u v).run P w = .ok (.bool (if op = .neq then !c else c)) w := by
  rw [hd]
  rcases hop with rfl | rfl
  · simp [eqDo, hs]
  · simp [eqDo, hs]

theorem nv_eq {op : BinOp} {t : TypeId} {x y : Operand} {u v : Value} {a b : AV} {k : EqK} {c : Bool} (hop : op = .eql ∨ op = .neq) (hk : leafK P (isConstO x || isConstO y) t = some k) (ha : VR j a u) (hb : VR j b v) (h : aeq1 k a b = some c)
    (h1 : ∀ q, P.underlying t ≠ some (.int q)) (h2 : P.underlying t ≠ some .string) :
    NV P (do eqGuard op t x y u v; binOp op t u v) j w id (.bool (if op = .neq then !c else c)) none := by
  have hs : (Op.equal t u v).run P w = .ok c w := aeq1_sound (P := P) (w := w) hk h ha hb 9999
  have hgd : (eqGuard op t x y u v).run P w = .ok () w ∧ binOp op t u v = eqDo op t u v := by
    clear hs
    unfold aeq1 at h
    split at h <;> first | (cases h; done) | skip
    case h_2 => obtain ⟨q, hq⟩ := leafK_int hk; exact absurd hq (h1 q)
    case h_3 => exact absurd (leafK_str hk) h2
    case h_21 =>
      cases ha; cases hb
      split at h
      · rename_i hl
        obtain ⟨ms, hu, hc⟩ := leafK_iface hk
        subst hl
        refine ⟨?_, by rcases hop with rfl | rfl <;> rfl⟩
        cases hx : (isConstO x || isConstO y) with
        | true =>
          rcases hop with rfl | rfl <;> (cases x <;> cases y <;> first | rfl | (simp [isConstO] at hx))
        | false =>
          rw [hx, Bool.false_or] at hc
          have hi : (Op.eqGuardIn Op.maxDepth t .nilIface .nilIface).run P w = .ok false w := by
            show (Op.eqGuardIn (9999 + 1) t .nilIface .nilIface).run P w = _
            unfold Op.eqGuardIn
            rw [Sem.run_bind, run_underlying hu]
            show Sem.run P (pure (!ms.isEmpty)) w = _
            rw [← hc]; rfl
          have hx' : isConstO x = false ∧ isConstO y = false := by simpa using hx
          rcases hop with rfl | rfl <;> (cases x <;> cases y <;> first | (simp [isConstO] at hx'; done) | (simp [eqGuard, hi]))
      · cases h
    all_goals (cases ha; cases hb; exact ⟨by rcases hop with rfl | rfl <;> rfl, by rcases hop with rfl | rfl <;> rfl⟩)
  exact ⟨_, by rw [Sem.run_bind, hgd.1]; exact run_eqOp hop hs hgd.2, .bool _⟩
theorem nv_eqT {op : BinOp} {t : TypeId} {x y : Operand} {u v : Value} {a b : AV} {k : EqK} {c : Bool} (hop : op = .eql ∨ op = .neq) (hk : leafT P (isConstO x || isConstO y) t = some k) (ha : VR j a u) (hb : VR j b v) (h : aeq1 k a b = some c)
    (h1 : ∀ q, P.underlying t ≠ some (.int q)) (h2 : P.underlying t ≠ some .string) :
    NV P (do eqGuard op t x y u v; binOp op t u v) j w id (.bool (if op = .neq then !c else c)) none := by
  unfold leafT at hk
  obtain ⟨k0, hk0, rfl⟩ := Option.map_eq_some_iff.1 hk
  cases k0 with
  | iface l is =>
    by_cases hh : ∃ t1 t2 v1 v2, a = .iface t1 v1 ∧ b = .iface t2 v2 ∧ t1 = t2
    · obtain ⟨t1, t2, v1, v2, rfl, rfl, rfl⟩ := hh
      simp only [withInts, aeq1, if_pos] at h
      split at h
      · rename_i hin
        unfold intEq at h
        split at h
        · rename_i k x1 k' y1
          split at h
          · rename_i hkk
            subst hkk
            cases h
            obtain ⟨u1, rfl, hu1⟩ := ha.iface_inv
            obtain ⟨u2, rfl, hu2⟩ := hb.iface_inv
            cases hu1.int_inv
            cases hu2.int_inv
            have hm : t1 ∈ intTypes P := by simpa using hin
            unfold intTypes at hm
            have hi := (List.mem_filter.1 hm).2
            unfold intT at hi
            simp only [Bool.and_eq_true] at hi
            obtain ⟨hi1, hi2⟩ := hi
            obtain ⟨q, hq⟩ : ∃ q, P.underlying t1 = some (.int q) := by
              split at hi1
              · exact ⟨_, ‹_›⟩
              · cases hi1
            obtain ⟨i, hi3, hi4⟩ : ∃ i, P.info? t1 = some i ∧ i.comparable = true := by
              split at hi2
              · exact ⟨_, ‹_›, hi2⟩
              · cases hi2
            obtain ⟨ms, hu, _⟩ := leafK_iface hk0
            have hti : (typeInfo t1).run P w = .ok i w := by unfold typeInfo; simp [hi3]
            have hs : (Op.equal t (.iface t1 (.int k x1)) (.iface t1 (.int k y1))).run P w = .ok (decide (x1 = y1)) w := by
              show (Op.equalIn (9998 + 1 + 1) t _ _).run P w = _
              have e1 := run_equalIn_int (P := P) w 9998 t1 k q x1 y1 hq
              have e : (x1 == y1) = decide (x1 = y1) := by (rw [Bool.eq_iff_iff]; simp)
              rw [e] at e1
              unfold Op.equalIn
              rw [Sem.run_bind, run_underlying hu]
              simp only [Result.andThen_ok]
              simp [hti, hi4, e1]
            exact ⟨_, by rw [Sem.run_bind, show (eqGuard op t x y (.iface t1 (.int k x1)) (.iface t1 (.int k y1))).run P w = .ok () w by rcases hop with rfl | rfl <;> rfl]; exact run_eqOp hop hs (by rcases hop with rfl | rfl <;> rfl), .bool _⟩
          · cases h
        · cases h
      · cases h
    · refine nv_eq hop hk0 ha hb ?_ h1 h2
      cases a <;> cases b <;> simp only [withInts, aeq1] at h ⊢ <;> first | exact h | skip
      rename_i t1 v1 t2 v2
      split at h
      · rename_i he
        exact absurd ⟨_, _, _, _, rfl, rfl, he⟩ hh
      · rename_i he
        rw [if_neg he]
        exact h
  | _ => exact nv_eq hop hk0 ha hb h h1 h2
end
end Go.Proofs.YtcgkadfgojmmlaaDoor.Abs
set_option linter.unusedVariables false
set_option linter.unusedSimpArgs false
namespace Go.Proofs.YtcgkadfgojmmlaaDoor.Abs
open Go Go.RowKit

section
variable {P : Program} {j : Inj} {w : World} {id : Nat} {ev : IOpd → AV} {ρ : Operand → Value} {H : AH}

theorem nv_faddr {s : TypeId} {f n : Nat} {fs : Array Field} {fd : Field} {b o : Nat} {u : Value} (hu : P.underlying s = some (.struct fs)) (hf : fs[f]? = some fd) (hn : sizeP P fd.type = some n) (h0 : n ≠ 0)
    (hx : VR j (.ptr b o) u) : NV P (Instr.fieldAt s u f) j w id (.ptr b (o + fd.offset)) none := by
  obtain ⟨c, z, rfl, hc⟩ := hx.ptr_inv
  refine ⟨.pointer (some ⟨c, o + fd.offset, none⟩), ?_, .ptr hc⟩
  simp [Instr.fieldAt, run_underlying hu, hf, Instr.sureAddr, fieldPlace, run_sizeOf hn, h0, add_none]
theorem nv_fld {t : TypeId} {f : Nat} {n : Option Nat} {fs : Array Field} {fd : Field} {l : List AV} {v : AV} {u : Value} (hu : P.underlying t = some (.struct fs)) (hf : fs[f]? = some fd) (hn : aggP P fd.type = some n)
    (hx : VR j (.agg l) u) (h : Abs.part l fd.offset n = some v) : NV P (Instr.field t u f) j w id v none := by
  obtain ⟨r, rfl, hr⟩ := hx.agg_inv
  obtain ⟨vc, hv, hvr⟩ := run_part (P := P) (w := w) hn hr h
  exact ⟨vc, by simp [Instr.field, run_underlying hu, hf, asAgg, hv], hvr⟩
theorem nv_ext {l : List AV} {i : Nat} {v : AV} {u : Value} (hx : VR j (.tuple l) u) (h : l[i]? = some v) : NV P (Instr.extract u i) j w id v none := by
  obtain ⟨r, rfl, hr⟩ := hx.tuple_inv
  obtain ⟨vc, hv, hvr⟩ := hr.get h
  have hv' : r[i]? = some vc := by simpa using hv
  exact ⟨vc, by simp [Instr.extract, hv'], hvr⟩
theorem nv_load {t : TypeId} {n : Option Nat} {b o : Nat} {u : Value} {v : AV} (hr : Rel P j H w) (ha : aggP P t = some n) (hx : VR j (.ptr b o) u) (h : Abs.loadC H b o n = some v) : NV P (Instr.loadAt t u) j w id v none := by
  obtain ⟨c, z, rfl, hc⟩ := hx.ptr_inv
  obtain ⟨vc, hv, hvr⟩ := run_loadVar hr ha h hc
  exact ⟨vc, by simp [Instr.loadAt, Instr.sureAddr, hv], hvr⟩

theorem nv_iaddr {t e : TypeId} {size b o n es : Nat} {k : IntKind} {m : Int} {u i : Value} (hu : P.underlying t = some (.slice e)) (hs : sizeP P e = some size) (hx : VR j (.slice b o n es) u) (hi : VR j (.int k m) i) (h0 : 0 ≤ m) (h1 : m < n) :
    NV P (Instr.indexAt t u i) j w id (.ptr b (o + m.toNat * size)) none := by
  obtain ⟨c, z, q, rfl, hc, hq, _⟩ := hx.slice_inv
  cases hi.int_inv
  refine ⟨.pointer (some ⟨c, o + m.toNat * size, none⟩), ?_, .ptr hc⟩
  simp [Instr.indexAt, run_underlying hu, asIntOf, h0, h1, run_sizeOf hs, add_none]
theorem nv_iaddra {t e : TypeId} {len size b o : Nat} {k : IntKind} {m : Int} {u i : Value} (hu : P.underlying t = some (.array len e)) (hs : sizeP P e = some size) (hx : VR j (.ptr b o) u) (hi : VR j (.int k m) i) (h0 : 0 ≤ m) (h1 : m < len) :
    NV P (Instr.indexAt t u i) j w id (.ptr b (o + m.toNat * size)) none := by
  obtain ⟨c, z, rfl, hc⟩ := hx.ptr_inv
  cases hi.int_inv
  refine ⟨.pointer (some ⟨c, o + m.toNat * size, none⟩), ?_, .ptr hc⟩
  simp [Instr.indexAt, run_underlying hu, asIntOf, Instr.sureAddr, h0, h1, run_sizeOf hs, add_none]
theorem nv_idxs {t : TypeId} {l : List UInt8} {k : IntKind} {m : Int} {c : UInt8} {u i : Value} (hu : P.underlying t = some .string) (hx : VR j (.str l) u) (hi : VR j (.int k m) i) (h0 : 0 ≤ m) (h1 : l[m.toNat]? = some c) :
    NV P (Instr.index t u i) j w id (.int .u8 (c.toNat : Int)) none := by
  obtain ⟨s, rfl, rfl⟩ := hx.str_inv
  cases hi.int_inv
  refine ⟨.int .u8 (c.toNat : Int), ?_, .int _ _⟩
  have hlt : m.toNat < s.size := by
    have := (List.getElem?_eq_some_iff.1 h1).1
    rwa [Array.length_toList] at this
  have hc : s[m.toNat]? = some c := by
    rw [getElem?_pos s m.toNat hlt]
    obtain ⟨h2, h3⟩ := List.getElem?_eq_some_iff.1 h1
    rw [← h3]
    simp [ByteArray.getElem_eq_getElem_data]
  simp [Instr.index, run_underlying hu, asIntOf, h0, hc]
theorem nv_idxa {t e : TypeId} {len size : Nat} {n : Option Nat} {l : List AV} {k : IntKind} {m : Int} {v : AV} {u i : Value} (hu : P.underlying t = some (.array len e)) (hs : sizeP P e = some size) (hn : aggP P e = some n) (hx : VR j (.agg l) u)
    (hi : VR j (.int k m) i) (h0 : 0 ≤ m) (h1 : m < len) (h : Abs.part l (m.toNat * size) n = some v) : NV P (Instr.index t u i) j w id v none := by
  obtain ⟨r, rfl, hr⟩ := hx.agg_inv
  cases hi.int_inv
  obtain ⟨vc, hv, hvr⟩ := run_part (P := P) (w := w) hn hr h
  exact ⟨vc, by simp [Instr.index, run_underlying hu, asIntOf, h0, h1, run_sizeOf hs, hv], hvr⟩

/-! ### Slices -/
def OptR (ρ : Operand → Value) : Option Operand → Option Int → Prop
  | none, none => True
  | some x, some n => ∃ k, ρ x = .int k n
  | _, _ => False
theorem optI_sound {x : Option Operand} {i : Option IOpd} {r : Option Int} (he : EvR P j ev ρ) (hc : compOp P x = some i) (h : optI ev i = some r) : OptR ρ x r := by
  cases x with
  | none => cases hc; cases h; trivial
  | some x =>
    simp only [compOp, Option.map_eq_some_iff] at hc
    obtain ⟨a, ha, rfl⟩ := hc
    simp only [optI] at h
    split at h
    · rename_i k n hk
      cases h
      have := he x a ha
      rw [hk] at this
      exact ⟨k, this.int_inv⟩
    · cases h
theorem run_bound {v : Value} {k : IntKind} {n : Int} {y : Nat} {c : BoundsCode} (hv : v = .int k n) (h0 : 0 ≤ n) (h1 : n ≤ y) : (Instr.sliceBound v y c).run P w = .ok n.toNat w := by
  subst hv
  simp [Instr.sliceBound, asIntOf, h0, h1]
theorem run_bounds' {isS : Bool} {len cap : Nat} {lo hi mx : Option Operand} {l h m : Option Int} {a b : Nat} (hl : OptR ρ lo l) (hh : OptR ρ hi h) (hm : OptR ρ mx m) (hb : bounds len l h m = some (a, b)) (hc : len ≤ cap) :
    a ≤ b ∧ b ≤ len ∧ ∃ m', b ≤ m' ∧ m' ≤ cap ∧ (∀ q : Int, m = some q → m' = q.toNat) ∧ (Instr.sliceBounds isS len cap (lo.map ρ) (hi.map ρ) (mx.map ρ)).run P w = .ok (a, b, m') w := by
  unfold bounds at hb
  split at hb
  · cases hb
  · rename_i hmh
    simp only at hb
    split at hb
    · rename_i hle
      obtain ⟨h0, h1, h2, h3⟩ := hle
      cases hb
      cases mx with
      | none =>
        cases m with
        | some m => exact hm.elim
        | none =>
          simp only [Option.getD_none] at h2 h3
          cases hi with
          | none =>
            cases h with
            | some h => exact hh.elim
            | none =>
              simp only [Option.getD_none] at h1 h2
              cases lo with
              | none =>
                cases l with
                | some l => exact hl.elim
                | none => exact ⟨by simp, by simp, cap, by simpa using hc, Nat.le_refl _, (fun q hq => by cases hq), by simp [Instr.sliceBounds]⟩
              | some x =>
                cases l with
                | none => exact hl.elim
                | some l =>
                  obtain ⟨k, hk⟩ := hl
                  simp only [Option.getD_some] at h0 h1
                  exact ⟨by simp; omega, by simp, cap, by simpa using hc, Nat.le_refl _, (fun q hq => by cases hq), by simp [Instr.sliceBounds, run_bound hk h0 h1]⟩
          | some y =>
            cases h with
            | none => exact hh.elim
            | some h =>
              obtain ⟨kh, hkh⟩ := hh
              simp only [Option.getD_some] at h1 h2
              have hh0 : 0 ≤ h := by omega
              have hhc : h ≤ (cap : Int) := by omega
              cases lo with
              | none =>
                cases l with
                | some l => exact hl.elim
                | none => exact ⟨by simp, by simp; omega, cap, by simp; omega, Nat.le_refl _, (fun q hq => by cases hq), by simp [Instr.sliceBounds, run_bound hkh hh0 hhc]⟩
              | some x =>
                cases l with
                | none => exact hl.elim
                | some l =>
                  obtain ⟨k, hk⟩ := hl
                  simp only [Option.getD_some] at h0 h1
                  exact ⟨by simp; omega, by simp; omega, cap, by simp; omega, Nat.le_refl _, (fun q hq => by cases hq), by simp [Instr.sliceBounds, run_bound hkh hh0 hhc, run_bound hk h0 (show l ≤ ((h.toNat : Nat) : Int) by omega)]⟩
      | some z =>
        cases m with
        | none => exact hm.elim
        | some m =>
          obtain ⟨km, hkm⟩ := hm
          cases hi with
          | none =>
            cases h with
            | some h => exact hh.elim
            | none => simp at hmh
          | some y =>
            cases h with
            | none => exact hh.elim
            | some h =>
              obtain ⟨kh, hkh⟩ := hh
              simp only [Option.getD_some] at h1 h2 h3
              have hm0 : 0 ≤ m := by omega
              have hmc : m ≤ (cap : Int) := by omega
              have hh0 : 0 ≤ h := by omega
              have hhm : h ≤ ((m.toNat : Nat) : Int) := by omega
              cases lo with
              | none =>
                cases l with
                | some l => exact hl.elim
                | none => exact ⟨by simp, by simp; omega, m.toNat, by simp; omega, by omega, (fun q hq => by cases hq; rfl), by simp [Instr.sliceBounds, run_bound hkm hm0 hmc, run_bound hkh hh0 hhm]⟩
              | some x =>
                cases l with
                | none => exact hl.elim
                | some l =>
                  obtain ⟨k, hk⟩ := hl
                  simp only [Option.getD_some] at h0 h1
                  exact ⟨by simp; omega, by simp; omega, m.toNat, by simp; omega, by omega, (fun q hq => by cases hq; rfl), by simp [Instr.sliceBounds, run_bound hkm hm0 hmc, run_bound hkh hh0 hhm, run_bound hk h0 (show l ≤ ((h.toNat : Nat) : Int) by omega)]⟩
    · cases hb
theorem run_bounds {isS : Bool} {len cap : Nat} {lo hi mx : Option Operand} {l h m : Option Int} {a b : Nat} (hl : OptR ρ lo l) (hh : OptR ρ hi h) (hm : OptR ρ mx m) (hb : bounds len l h m = some (a, b)) (hc : len ≤ cap) :
    a ≤ b ∧ b ≤ len ∧ ∃ m', b ≤ m' ∧ m' ≤ cap ∧ (Instr.sliceBounds isS len cap (lo.map ρ) (hi.map ρ) (mx.map ρ)).run P w = .ok (a, b, m') w := by
  obtain ⟨h1, h2, m', h3, h4, _, h5⟩ := run_bounds' (P := P) (w := w) (isS := isS) hl hh hm hb hc
  exact ⟨h1, h2, m', h3, h4, h5⟩
theorem nv_slc {t e : TypeId} {size : Nat} {x : Operand} {lo hi mx : Option Operand} {l h m : Option Int} {a : AV} {v : AV} (hu : P.underlying t = some (.slice e)) (hs : sizeP P e = some size) (hl : OptR ρ lo l) (hh : OptR ρ hi h) (hm : OptR ρ mx m)
    (hx : VR j a (ρ x)) (hv : slcA size l h m a = some v) : NV P (Instr.sliceAt t (ρ x) (lo.map ρ) (hi.map ρ) (mx.map ρ)) j w id v none := by
  have hst : ∀ u : Value, (Instr.sliceAt t u (lo.map ρ) (hi.map ρ) (mx.map ρ)).run P w = (Instr.slice t u (lo.map ρ) (hi.map ρ) (mx.map ρ)).run P w := fun u => by
    simp [Instr.sliceAt, run_underlying hu]
  cases a with
  | slice b o n es =>
    simp only [slcA] at hv
    split at hv
    · rename_i hes
      subst hes
      obtain ⟨c, z, q, hq, hc, hn, hz⟩ := hx.slice_inv
      simp only [Option.map_eq_some_iff] at hv
      obtain ⟨⟨p, r⟩, hb, rfl⟩ := hv
      obtain ⟨h1, h2, m', h3, h4, h5, hrun⟩ := run_bounds' (P := P) (w := w) (isS := true) hl hh hm hb hn
      rw [hq]
      have e : (Instr.slice t (.slice (some ⟨c, o, none⟩) n q) (lo.map ρ) (hi.map ρ) (mx.map ρ)).run P w = .ok (.slice (if m' = p then some ⟨c, o, none⟩ else some ⟨c, o + p * es, none⟩) (r - p) (m' - p)) w := by
        simp [Instr.slice, run_underlying hu, hrun, run_sizeOf hs, add_none]
      by_cases hrp : r = p
      · refine ⟨_, by rw [hst]; exact e, ?_⟩
        rw [if_pos hrp, hrp, Nat.sub_self]
        by_cases hz : m = some (p : Int)
        · have hmp : m' = p := by have := h5 _ hz; simpa using this
          rw [if_pos hz, if_pos hmp, hmp, Nat.sub_self]
          exact .szero
        · rw [if_neg hz]
          split <;> exact .sempty
      · refine ⟨_, by rw [hst]; exact e, ?_⟩
        rw [if_neg hrp, if_neg (by omega)]
        refine .slice hc (show r - p ≤ m' - p by omega) ?_
        show o + p * es + (m' - p) * es ≤ z
        have e1 : p * es + (m' - p) * es = m' * es := by rw [← Nat.add_mul]; congr 1; omega
        have e2 : m' * es ≤ q * es := Nat.mul_le_mul_right _ h4
        omega
    · cases hv
  | snil =>
    simp only [slcA] at hv
    cases hq : ρ x <;> rw [hq] at hx <;> first | (cases hx; done) | skip
    cases hx
    simp only [Option.map_eq_some_iff] at hv
    obtain ⟨⟨p, r⟩, hb, rfl⟩ := hv
    obtain ⟨h1, h2, m', h3, h4, hrun⟩ := run_bounds (P := P) (w := w) (isS := true) hl hh hm hb (Nat.le_refl 0)
    have : p = 0 ∧ r = 0 ∧ m' = 0 := by omega
    obtain ⟨rfl, rfl, rfl⟩ := this
    refine ⟨.slice none 0 0, ?_, .snil⟩
    rw [hst]
    simp [Instr.slice, run_underlying hu, hrun, run_sizeOf hs]
  | sempty =>
    simp only [slcA] at hv
    cases hq : ρ x <;> rw [hq] at hx <;> first | (cases hx; done) | skip
    cases hx
    rename_i k ad
    simp only [Option.map_eq_some_iff] at hv
    obtain ⟨⟨p, r⟩, hb, rfl⟩ := hv
    obtain ⟨h1, h2, m', h3, h4, h5, hrun⟩ := run_bounds' (P := P) (w := w) (isS := true) hl hh hm hb (Nat.zero_le k)
    have : p = 0 ∧ r = 0 := by omega
    obtain ⟨rfl, rfl⟩ := this
    have e : (Instr.slice t (.slice (some ad) 0 k) (lo.map ρ) (hi.map ρ) (mx.map ρ)).run P w = .ok (.slice (if m' = 0 then some ad else some (ad.add (0 * size))) (0 - 0) (m' - 0)) w := by
      simp [Instr.slice, run_underlying hu, hrun, run_sizeOf hs]
    refine ⟨_, by rw [hst]; exact e, ?_⟩
    by_cases hz : m = some 0
    · have hm0 : m' = 0 := by have := h5 _ hz; simpa using this
      subst hm0
      rw [if_pos hz]
      exact .szero
    · rw [if_neg hz]
      split <;> exact .sempty
  | szero =>
    simp only [slcA] at hv
    cases hq : ρ x <;> rw [hq] at hx <;> first | (cases hx; done) | skip
    cases hx
    rename_i ad
    simp only [Option.map_eq_some_iff] at hv
    obtain ⟨⟨p, r⟩, hb, rfl⟩ := hv
    obtain ⟨h1, h2, m', h3, h4, hrun⟩ := run_bounds (P := P) (w := w) (isS := true) hl hh hm hb (Nat.zero_le 0)
    have : p = 0 ∧ r = 0 ∧ m' = 0 := by omega
    obtain ⟨rfl, rfl, rfl⟩ := this
    have e : (Instr.slice t (.slice (some ad) 0 0) (lo.map ρ) (hi.map ρ) (mx.map ρ)).run P w = .ok (.slice (some ad) 0 0) w := by
      simp [Instr.slice, run_underlying hu, hrun, run_sizeOf hs]
    refine ⟨_, by rw [hst]; exact e, ?_⟩
    exact .szero
  | _ => cases hv
theorem nv_sstr {t : TypeId} {x : Operand} {lo hi : Option Operand} {l h : Option Int} {s : List UInt8} {a b : Nat} (hu : P.underlying t = some .string) (hl : OptR ρ lo l) (hh : OptR ρ hi h)
    (hx : VR j (.str s) (ρ x)) (hb : bounds s.length l h none = some (a, b)) : NV P (Instr.sliceAt t (ρ x) (lo.map ρ) (hi.map ρ) none) j w id (.str ((s.take b).drop a)) none := by
  obtain ⟨q, hq, rfl⟩ := hx.str_inv
  have hlen : q.data.toList.length = q.size := by rw [Array.length_toList]; rfl
  rw [hlen] at hb
  obtain ⟨h1, h2, m', h3, h4, hrun⟩ := run_bounds (P := P) (w := w) (ρ := ρ) (mx := none) (isS := false) hl hh (by trivial) hb (Nat.le_refl _)
  rw [hq]
  refine ⟨.string (q.extract a b), by simp [Instr.sliceAt, Instr.slice, run_underlying hu]; rw [show (Option.map ρ none : Option Value) = none from rfl] at hrun; simp [hrun], str_of ?_⟩
  rw [Go.Lib.extract_data, List.drop_take]
theorem nv_sarr {t e : TypeId} {len size : Nat} {x : Operand} {lo hi mx : Option Operand} {l h m : Option Int} {b o p r : Nat} {v : AV} (hr : Rel P j H w) (hu : P.underlying t = some (.array len e)) (hs : sizeP P e = some size) (hl : OptR ρ lo l) (hh : OptR ρ hi h)
    (hm : OptR ρ mx m) (hx : VR j (.ptr b o) (ρ x)) (hld : Abs.loadC H b o (some (len * size)) = some v) (hb : bounds len l h m = some (p, r)) :
    NV P (Instr.sliceAt t (ρ x) (lo.map ρ) (hi.map ρ) (mx.map ρ)) j w id (if r = p then AV.sempty else .slice b (o + p * size) (r - p) size) none := by
  obtain ⟨c, z, hq, hc⟩ := hx.ptr_inv
  obtain ⟨h1, h2, m', h3, h4, hrun⟩ := run_bounds (P := P) (w := w) (isS := false) hl hh hm hb (Nat.le_refl _)
  rw [hq]
  have e : (Instr.sliceAt t (.pointer (some ⟨c, o, none⟩)) (lo.map ρ) (hi.map ρ) (mx.map ρ)).run P w = .ok (.slice (some (if m' = p then ⟨c, o, none⟩ else ⟨c, o + p * size, none⟩)) (r - p) (m' - p)) w := by
    simp [Instr.sliceAt, run_underlying hu, Instr.sureAddr, hrun, run_sizeOf hs, add_none]
  refine ⟨_, e, ?_⟩
  by_cases hrp : r = p
  · rw [if_pos hrp, hrp, Nat.sub_self]
    exact .sempty
  · rw [if_neg hrp, if_neg (by omega)]
    refine .slice hc (by omega) ?_
    simp only [Abs.loadC] at hld
    split at hld
    · rename_i ro t' cs hbb
      split at hld
      · rename_i hle
        obtain ⟨x', fz, hx', hzz, hle2, _⟩ := hr.cells hbb hc
        have e1 : p * size + (m' - p) * size = m' * size := by rw [← Nat.add_mul]; congr 1; omega
        have e2 : m' * size ≤ len * size := Nat.mul_le_mul_right _ h4
        omega
      · cases hld
    · rename_i g hbb
      split at hld
      · cases hld
      rename_i hne
      simp only [Option.map_eq_some_iff] at hld
      obtain ⟨l, hg, _⟩ := hld
      have hlen := rowGet_len hg
      have hlast := rowGet_at hg (len * size - 1) (by omega)
      have h5 := hr.row_lt hbb hc (hlast.trans (List.getElem?_eq_getElem (by omega)))
      have e1 : p * size + (m' - p) * size = m' * size := by rw [← Nat.add_mul]; congr 1; omega
      have e2 : m' * size ≤ len * size := Nat.mul_le_mul_right _ h4
      omega
    · cases hld
end
end Go.Proofs.YtcgkadfgojmmlaaDoor.Abs
set_option linter.unusedVariables false
set_option linter.unusedSimpArgs false
namespace Go.Proofs.YtcgkadfgojmmlaaDoor.Abs
open Go Go.RowKit

/-! ### Parts put in their places -/
def setRangeV (l : List Value) (off : Nat) : List Value → List Value
  | [] => l
  | v :: vs => setRangeV (l.set off v) (off + 1) vs
theorem VRs.setRange {j : Inj} : ∀ {vs : List AV} {ws : List Value} {l : List AV} {r : List Value} (o : Nat), VRs j l r → VRs j vs ws → VRs j (Abs.setRange l o vs) (setRangeV r o ws)
  | [], ws, l, r, o, h, hv => by rw [hv.nil_right]; exact h
  | v :: vs, ws, l, r, o, h, hv => by
    obtain ⟨u, us, rfl, hu, hus⟩ := hv.cons_left
    exact VRs.setRange (o + 1) (h.set o hu) hus
theorem setRangeV_length : ∀ (vs l : List Value) (o : Nat), (setRangeV l o vs).length = l.length
  | [], l, o => rfl
  | v :: vs, l, o => by rw [setRangeV, setRangeV_length vs]; simp
theorem setRange_length : ∀ (vs l : List AV) (o : Nat), (setRange l o vs).length = l.length
  | [], l, o => rfl
  | v :: vs, l, o => by rw [setRange, setRange_length vs]; simp
theorem foldl_setRange : ∀ (vs : List Value) (k off : Nat) (cells : Array Value), ((vs.zipIdx k).foldl (fun cs (x : Value × Nat) => cs.setIfInBounds (off + x.2) x.1) cells).toList = setRangeV cells.toList (off + k) vs
  | [], k, off, cells => rfl
  | v :: vs, k, off, cells => by
    rw [List.zipIdx_cons, List.foldl_cons, foldl_setRange vs (k + 1) off]
    simp [setRangeV, Nat.add_assoc]
theorem VRs.size {j : Inj} {l : List AV} {r : Array Value} (h : VRs j l r.toList) : l.length = r.size := by have := h.1; simpa using this

section
variable {P : Program} {j : Inj} {w : World} {id : Nat} {ev : IOpd → AV} {ρ : Operand → Value} {H : AH}

theorem fill_sound {place : Nat → Option (Nat × Nat)} (he : EvR P j ev ρ) : ∀ (ps : List (Nat × Operand)) (is : List (Nat × Nat × IOpd)) (l l' : List AV) (c : Array Value), compParts P place ps = some is → VRs j l c.toList →
    fillA l (is.map fun (o, s, x) => (o, s, ev x)) = some l' → ∃ c' : Array Value, Instr.fill place c (ps.map fun (i, x) => (i, ρ x)) = some c' ∧ VRs j l' c'.toList
  | [], is, l, l', c, hc, hl, hf => by
    cases hc; cases hf
    exact ⟨c, rfl, hl⟩
  | (i, x) :: ps, is, l, l', c, hc, hl, hf => by
    simp only [compParts, Option.bind_eq_some_iff, Option.map_eq_some_iff] at hc
    obtain ⟨⟨o, s⟩, hp, a, ha, is', his, rfl⟩ := hc
    simp only [List.map_cons, fillA] at hf
    split at hf
    · rename_i hcond
      obtain ⟨h1, h2⟩ := hcond
      have hv := (he x a ha).cells
      have hlen := hv.size
      have hl1 := hl.size
      have hset : VRs j (Abs.setRange l o (ev a).cells) ((ρ x).cells.zipIdx.foldl (fun cs (c, k) => cs.setIfInBounds (o + k) c) c).toList := by
        have e : ((ρ x).cells.zipIdx.foldl (fun cs (c, k) => cs.setIfInBounds (o + k) c) c).toList = setRangeV c.toList (o + 0) (ρ x).cells.toList := by
          rw [← foldl_setRange (ρ x).cells.toList 0 o c, ← Array.foldl_toList, Array.toList_zipIdx]
        rw [e]
        exact VRs.setRange o hl hv
      obtain ⟨c', hc', hl'⟩ := fill_sound he ps is' _ l' _ his hset hf
      refine ⟨c', ?_, hl'⟩
      simp only [List.map_cons, Instr.fill, hp]
      rw [if_neg (by simp only [Bool.or_eq_true, bne_iff_ne, ne_eq, decide_eq_true_eq, not_or, Decidable.not_not, Nat.not_lt]; omega)]
      exact hc'
    · cases hf

theorem zeroP_inv {t : TypeId} {z : AV} (h : zeroP P t = some z) : ∃ i v, P.info? t = some i ∧ i.zero = some v ∧ VR j z v := by
  simp only [zeroP, Option.bind_eq_some_iff] at h
  obtain ⟨i, hi, v, hv, hz⟩ := h
  exact ⟨i, v, hi, hv, ofV_sound hz⟩
theorem VR.agg_of {z : AV} {v : Value} (h : VR j z v) (h1 : z.one = false) : z.cells.length = v.cells.size := by
  exact h.cells.size

theorem nv_build_struct {t : TypeId} {fs : Array Field} {pl : List (Nat × Nat)} {parts : Array (Nat × Operand)} {is : List (Nat × Nat × IOpd)} {z : AV} {l : List AV} (he : EvR P j ev ρ) (hz : zeroP P t = some z) (hu : P.underlying t = some (.struct fs))
    (hp : places P fs.toList = some pl) (hc : compParts P (pl.toArray[·]?) parts.toList = some is) (h : fillA z.cells (is.map fun (o, s, x) => (o, s, ev x)) = some l) : NV P (Instr.build t (parts.map fun (i, x) => (i, ρ x))) j w id (.agg l) none := by
  obtain ⟨i, v, hi, hv, hzv⟩ := zeroP_inv (j := j) hz
  obtain ⟨c', hf, hl⟩ := fill_sound he parts.toList is z.cells l v.cells hc hzv.cells h
  refine ⟨.agg c', run_build w t _ c' ?_, .agg_list hl⟩
  unfold places at hp
  rw [Array.toList_map]
  simp only [Program.built, hi, hu, hv, hp]
  exact hf
theorem nv_build_array {t e : TypeId} {n s : Nat} {parts : Array (Nat × Operand)} {is : List (Nat × Nat × IOpd)} {z : AV} {l : List AV} (he : EvR P j ev ρ) (hz : zeroP P t = some z) (hu : P.underlying t = some (.array n e))
    (hs : sizeP P e = some s) (hc : compParts P (fun i => some (i * s, s)) parts.toList = some is) (h : fillA z.cells (is.map fun (o, s, x) => (o, s, ev x)) = some l) : NV P (Instr.build t (parts.map fun (i, x) => (i, ρ x))) j w id (.agg l) none := by
  obtain ⟨i, v, hi, hv, hzv⟩ := zeroP_inv (j := j) hz
  simp only [sizeP, Option.map_eq_some_iff] at hs
  obtain ⟨ie, hie, rfl⟩ := hs
  obtain ⟨c', hf, hl⟩ := fill_sound he parts.toList is z.cells l v.cells hc hzv.cells h
  refine ⟨.agg c', run_build w t _ c' ?_, .agg_list hl⟩
  rw [Array.toList_map]
  simp only [Program.built, hi, hu, hv, hie]
  exact hf

/-! ### New memory -/
theorem orel_cells {t : TypeId} {l : List AV} {c : Array Value} (h : VRs j l c.toList) : ORel j (.cells false t l) (.cells c t (0, 0)) := by
  have := h.size
  exact ⟨rfl, by omega, fun i a v ha hv => h.2 i a v ha (by simpa using hv), fun _ => .inl (Nat.le_refl _)⟩
theorem nv_newVar {t : TypeId} {a : AV} {u : Value} (h : VR j a u) : NV P (do pure (.pointer (some (← newVar t u)))) j w id (.ptr id 0) (some (.cells false t a.cells)) :=
  ⟨.pointer (some ⟨w.heap.size, 0, none⟩), .cells u.cells t, { w with heap := w.heap.push (.cells u.cells t) }, by simp [newVar, newRow], rfl, rfl, rfl, rfl, orel_cells h.cells, rfl, fun j' hj hid => .ptr hid⟩
theorem nv_alloc {t : TypeId} {z : AV} (h : zeroP P t = some z) : NV P (Instr.alloc t true (.tuple #[])) j w id (.ptr id 0) (some (.cells false t z.cells)) := by
  obtain ⟨v, hv, hr⟩ := run_zeroValue h w
  have := nv_newVar (P := P) (w := w) (id := id) (t := t) (ofV_sound (j := j) hv)
  obtain ⟨vc, x, w', h1, h2⟩ := this
  refine ⟨vc, x, w', ?_, h2⟩
  simp only [Instr.alloc, Sem.run_bind, hr, Result.andThen_ok]
  simpa using h1
theorem flatten_get (z : List AV) : ∀ (n i : Nat), i < n * z.length → (List.replicate n z).flatten[i]? = z[i % z.length]?
  | 0, i, h => by simp at h
  | n + 1, i, h => by
    rw [List.replicate_succ, List.flatten_cons]
    by_cases hi : i < z.length
    · rw [List.getElem?_append_left hi, Nat.mod_eq_of_lt hi]
    · rw [List.getElem?_append_right (by omega), flatten_get z n (i - z.length) (by rw [Nat.succ_mul] at h; omega), ← Nat.mod_eq_sub_mod (by omega)]
theorem zeros_eq (z : List AV) (n : Nat) : zeros z n = (List.replicate n z).flatten := by
  unfold zeros
  split
  · induction n with
    | zero => rfl
    | succ n ih => rw [List.replicate_succ, List.replicate_succ, List.flatten_cons, ih]; rfl
  · rfl
theorem zeros_length (z : List AV) (n : Nat) : (zeros z n).length = n * z.length := by
  rw [zeros_eq, List.length_flatten, List.map_replicate, List.sum_replicate_nat]
theorem zeros_sound {z : List AV} {c : Array Value} (h : VRs j z c.toList) (n : Nat) : VRs j (zeros z n) (madeCells c (n * z.length)).toList := by
  refine ⟨by rw [zeros_length]; simp [size_madeCells], fun i a b ha hb => ?_⟩
  have hi : i < n * z.length := by have := (List.getElem?_eq_some_iff.1 ha).1; rwa [zeros_length] at this
  have hz : 0 < z.length := Nat.pos_of_ne_zero fun e => by rw [e] at hi; simp at hi
  rw [zeros_eq, flatten_get z n i hi] at ha
  have hlen := h.size
  have hm : i % z.length < z.length := Nat.mod_lt _ hz
  have hb' : c[i % z.length]? = some b := by
    rw [Array.getElem?_toList, madeCells, Array.getElem?_map, Array.getElem?_range, if_pos hi] at hb
    simp only [Option.map_some, Option.some.injEq] at hb
    rw [← hlen, getElem!_pos c (i % z.length) (by omega)] at hb
    rw [← hb]
    exact Array.getElem?_eq_getElem _
  exact h.2 _ a b ha (by simpa using hb')
theorem nv_mks {t e : TypeId} {s b : Nat} {z : AV} {kl kc : IntKind} {l c : Int} {ul uc : Value} (hu : P.underlying t = some (.slice e)) (hs : sizeP P e = some s) (hb : bytesP P e = some b) (hz : zeroP P e = some z) (hzs : z.cells.length = s)
    (hl : VR j (.int kl l) ul) (hc : VR j (.int kc c) uc) (h0 : 0 ≤ l) (h1 : l ≤ c) (h2 : c ≤ 281474976710656) (h3 : c * b ≤ 281474976710656) :
    NV P (Instr.makeSlice t ul uc) j w id (.slice id 0 l.toNat s) (some (.cells false e (zeros z.cells l.toNat))) := by
  cases hl.int_inv
  cases hc.int_inv
  obtain ⟨i, v, hi, hv, hzv⟩ := zeroP_inv (j := j) hz
  simp only [sizeP, hi, Option.map_some, Option.some.injEq] at hs
  simp only [bytesP, hi, Option.map_some, Option.some.injEq] at hb
  have hr := run_make (P := P) w t e i v hu hi hv kl kc l c h0 h1 (by rw [hb, Int.mul_comm]; exact h3) (by omega)
  have hlen := hzv.cells.size
  have hzz := zeros_sound hzv.cells c.toNat
  rw [hzs, ← hs] at hzz
  refine ⟨_, .cells (madeCells v.cells (c.toNat * i.size)) e, _, hr, rfl, rfl, rfl, rfl, ?_, rfl, fun j' hj hid => .slice hid (by omega) (by simp only [csize, size_madeCells]; rw [hs]; omega)⟩
  refine ⟨rfl, ?_, fun k a u ha hu' => ?_, fun _ => .inl (Nat.le_refl _)⟩
  · rw [zeros_length, size_madeCells, hzs, ← hs]
    exact Nat.mul_le_mul_right _ (by omega)
  · have hk : k < l.toNat * z.cells.length := by have := (List.getElem?_eq_some_iff.1 ha).1; rwa [zeros_length] at this
    have hk2 : k < c.toNat * z.cells.length := Nat.lt_of_lt_of_le hk (Nat.mul_le_mul_right _ (by omega))
    rw [zeros_eq, flatten_get _ _ _ hk] at ha
    refine hzz.2 k a u ?_ (by simpa using hu')
    rw [zeros_eq, flatten_get _ _ _ hk2]
    exact ha
theorem fillA_length : ∀ (ps : List (Nat × Nat × AV)) (l l' : List AV), fillA l ps = some l' → l'.length = l.length
  | [], l, l', h => by cases h; rfl
  | (o, s, v) :: ps, l, l', h => by
    simp only [fillA] at h
    split at h
    · rw [fillA_length ps _ _ h, setRange_length]
    · cases h
theorem nv_bsl {t e : TypeId} {s len : Nat} {parts : Array (Nat × Operand)} {is : List (Nat × IOpd)} {z : AV} {l : List AV} (he : EvR P j ev ρ) (hu : P.underlying t = some (.slice e)) (hs : sizeP P e = some s) (hz : zeroP P e = some z)
    (hzs : z.cells.length = s) (hsm : len * s ≤ 2 ^ 24) (hc : compSParts P parts.toList = some is) (h : fillA (zeros z.cells len) (is.map fun (o, x) => (o * s, s, ev x)) = some l) :
    NV P (Instr.buildSlice t len (parts.map fun (i, x) => (i, ρ x))) j w id (.slice id 0 len s) (some (.cells false e l)) := by
  obtain ⟨i, v, hi, hv, hzv⟩ := zeroP_inv (j := j) hz
  simp only [sizeP, hi, Option.map_some, Option.some.injEq] at hs
  have hc' : ∀ (ps : List (Nat × Operand)) (is : List (Nat × IOpd)), compSParts P ps = some is → compParts P (fun i => some (i * s, s)) ps = some (is.map fun (o, x) => (o * s, s, x)) := by
    intro ps
    induction ps with
    | nil => intro is h; cases h; rfl
    | cons p ps ih =>
      obtain ⟨k, x⟩ := p
      intro is h
      simp only [compSParts, Option.bind_eq_some_iff, Option.map_eq_some_iff] at h
      obtain ⟨a, ha, is', his, rfl⟩ := h
      simp [compParts, ha, ih is' his]
  have hlen := hzv.cells.size
  have h0 := zeros_sound hzv.cells len
  rw [hzs, ← hs] at h0
  obtain ⟨c', hf, hl⟩ := fill_sound (j := j) he parts.toList _ (zeros z.cells len) l (madeCells v.cells (len * i.size)) (hc' _ _ hc) h0 (by rw [List.map_map]; exact h)
  refine ⟨.slice (some ⟨w.heap.size, 0, none⟩) len len, .cells c' e, { w with heap := w.heap.push (.cells c' e) }, ?_, rfl, rfl, rfl, rfl, orel_cells hl, rfl, fun j' hj hid => .slice hid (Nat.le_refl _) ?_⟩
  rotate_left
  · have h1 := hl.size
    have h2 := fillA_length _ _ _ h
    rw [zeros_length, hzs] at h2
    simp only [csize]
    omega
  have hf' : Instr.fill (fun i_1 => some (i_1 * i.size, i.size)) (madeCells v.cells (len * i.size)) (parts.map fun (i, x) => (i, ρ x)).toList = some c' := by
    rw [Array.toList_map, hs]
    rw [hs] at hf
    exact hf
  have hbig : ¬ len * i.size > 2 ^ 24 := by rw [hs]; omega
  by_cases hn : len * i.size = 0
  · have e0 : madeCells v.cells (len * i.size) = #[] := by
      rw [hn]; simp [madeCells, Array.range]
    rw [e0] at hf'
    simp only [Instr.buildSlice, Sem.run_bind, run_underlying hu, Result.andThen_ok, sizeOf, typeInfo, run_program, hi, Sem.run_pure]
    rw [if_neg hbig, if_pos hn, hn]
    simp only [Sem.run_bind, Sem.run_pure, Result.andThen_ok]
    have hr : Array.map (fun (x : Nat) => (#[] : Array Value)[x % (#[] : Array Value).size]!) (Array.range 0) = #[] := by simp
    rw [hr, hf']
    simp [newRow]
  · simp only [madeCells] at hf'
    exact run_buildSlice w t e len _ c' i v hu hi hv hbig hn hf'
end
end Go.Proofs.YtcgkadfgojmmlaaDoor.Abs

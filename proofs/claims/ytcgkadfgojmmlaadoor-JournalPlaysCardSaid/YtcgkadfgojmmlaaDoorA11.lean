/- Quiet steps are sound. No condition. -/
import Derived.Test.YtcgkadfgojmmlaaDoorA9
import Derived.Stop.Asserts
set_option linter.unusedVariables false
set_option linter.unusedSimpArgs false
namespace Go.Proofs.YtcgkadfgojmmlaaDoor.Abs
open Go Go.RowKit

section
variable {P : Program} {j : Inj} {w : World} {id : Nat} {ev : IOpd → AV} {ρ : Operand → Value} {H : AH}

theorem push_data (ns : List Int) : ∀ s : ByteArray, (ns.foldl (fun r n => r.push (UInt8.ofNat n.toNat)) s).data.toList = s.data.toList ++ ns.map fun n => UInt8.ofNat n.toNat := by
  induction ns with
  | nil => intro s; simp
  | cons n ns ih => intro s; rw [List.foldl_cons, ih]; simp [ByteArray.push]
theorem bytes_cells : ∀ {cs : List AV} {us : List Value}, VRs j cs us → (cs.all isByte) = true →
    ∃ ns : List Int, us = ns.map (Value.int .u8) ∧ (cs.map byteOf) = ns.map fun n => UInt8.ofNat n.toNat
  | [], us, h, _ => ⟨[], by rw [h.nil_right]; rfl, rfl⟩
  | c :: cs, us, h, ha => by
    obtain ⟨u, us', rfl, hu, hus⟩ := h.cons_left
    simp only [List.all_cons, Bool.and_eq_true] at ha
    obtain ⟨ns, rfl, hns⟩ := bytes_cells hus ha.2
    have h1 := ha.1
    cases c <;> first | (cases h1; done) | skip
    rename_i k n
    cases k <;> first | (cases h1; done) | skip
    cases hu.int_inv
    exact ⟨n :: ns, rfl, by rw [List.map_cons, hns]; rfl⟩
theorem nv_b2s {src dst e : TypeId} {a : AV} {v : AV} {u : Value} (hr : Rel P j H w) (hs : P.underlying src = some (.slice e)) (he : P.underlying e = some (.int .u8)) (hd : P.underlying dst = some .string) (hx : VR j a u)
    (h : b2sA H a = some v) : NV P (convert src dst u) j w id v none := by
  cases a with
  | snil =>
    cases h; cases hx
    exact ⟨.string .empty, by rw [run_convert_bytes_string w src dst e _ _ _ hs he hd]; rfl, str_of rfl⟩
  | sempty =>
    cases h
    cases hx
    rename_i ad k
    refine ⟨.string .empty, ?_, str_of rfl⟩
    rw [run_convert_bytes_string w src dst e _ _ _ hs he hd]
    have := run_bytesToString (P := P) w ad 0 k [] (by simp [loadCells, loadCellsFrom])
    simpa using this
  | szero =>
    cases h
    cases hx
    rename_i ad
    refine ⟨.string .empty, ?_, str_of rfl⟩
    rw [run_convert_bytes_string w src dst e _ _ _ hs he hd]
    have := run_bytesToString (P := P) w ad 0 0 [] (by simp [loadCells, loadCellsFrom])
    simpa using this
  | slice b o n es =>
    obtain ⟨c, z, k, rfl, hc, hn, _⟩ := hx.slice_inv
    simp only [b2sA] at h
    split at h
    · rename_i cs hl
      split at h
      · rename_i hall
        cases h
        obtain ⟨us, vs, hvs, hlen, hrel, hcell⟩ := hr.loadC hl hc
        cases hvs
        obtain ⟨ns, rfl, hns⟩ := bytes_cells hrel hall
        have hload := run_loadCells_of (P := P) hcell
        rw [hlen] at hload
        refine ⟨_, by rw [run_convert_bytes_string w src dst e _ _ _ hs he hd]; exact run_bytesToString w _ n k ns (by simpa using hload), str_of ?_⟩
        rw [push_data, hns]
        rfl
      · cases h
    · cases h
  | _ => cases h
theorem heap_push_modify (h : Array Obj) (o : Obj) (f : Obj → Obj) : (h.push o).modify h.size f = h.push (f o) := by
  apply Array.ext
  · simp
  · intro i h1 h2
    simp only [Array.getElem_modify, Array.getElem_push]
    by_cases hi : i = h.size
    · subst hi; simp
    · have : i < h.size := by simp at h2; omega
      have hne : ¬ h.size = i := fun e => hi e.symm
      simp [this, hne]
theorem nv_s2b {src dst e : TypeId} {l : List UInt8} {u : Value} (hs : P.underlying src = some .string) (hd : P.underlying dst = some (.slice e)) (he : P.underlying e = some (.int .u8)) (hx : VR j (.str l) u)
    : NV P (convert src dst u) j w id (.slice id 0 l.length 1) (some (.cells false e (l.map fun c => .int .u8 (c.toNat : Int)))) := by
  obtain ⟨s, rfl, rfl⟩ := hx.str_inv
  have hlen : s.data.toList.length = s.size := by rw [Array.length_toList]; rfl
  let q : Question := .appendCap s.size 0 e
  let cap := q.cut (w.tape w.drawn q)
  have hcap : s.size ≤ cap := by show s.size ≤ s.size + _; omega
  let cells : Array Value := s.data.map (fun b => .int .u8 b.toNat) ++ Array.replicate (cap - s.size) (.int .u8 0)
  have hsz : cells.size = cap := by simp [cells]; show s.size + (cap - s.size) = cap; omega
  refine ⟨.slice (some ⟨w.heap.size, 0, none⟩) s.size cap, .cells cells e (cells.size, cells.size + 1), { w with drawn := w.drawn + 1, heap := w.heap.push (.cells cells e (cells.size, cells.size + 1)) }, ?_, rfl, rfl, rfl, rfl, ?_, rfl, ?_⟩
  · have hf : q.forced = false := rfl
    have hc : (convert src dst (.string s)).run P w = (Conv.stringToBytes e s).run P w := by
      simp [convert, run_underlying hs, run_underlying hd, run_underlying he]
    rw [hc]
    simp only [Conv.stringToBytes, Sem.run_bind, run_choose]
    rw [show (Question.appendCap s.size 0 e).forced = false from rfl]
    simp only [Bool.false_eq_true, if_false, Result.andThen_ok, newRow, Sem.run_bind, run_newObj, markStringish, run_shape, Sem.run_pure]
    simp only [World.shape?, World.freeze]
    have e1 : (w.heap.push (.cells cells e))[w.heap.size]? = some (.cells cells e) := by simp
    simp [cells, cap, q, heap_push_modify]
    simp [World.freeze, heap_push_modify]
  · refine ⟨rfl, ?_, fun i a v ha hv => ?_, fun _ => .inr (Nat.le_refl _)⟩
    · rw [List.length_map, hlen, hsz]; exact hcap
    · rw [List.getElem?_map] at ha
      simp only [Option.map_eq_some_iff] at ha
      obtain ⟨c, hc, rfl⟩ := ha
      have hi : i < s.data.size := by have := (List.getElem?_eq_some_iff.1 hc).1; simpa using this
      have hv' : (s.data.map (fun b => Value.int .u8 b.toNat))[i]? = some v := by
        rw [Array.getElem?_append_left (by simpa using hi)] at hv
        exact hv
      rw [Array.getElem?_map] at hv'
      have hc' : s.data[i]? = some c := by simpa using hc
      rw [hc'] at hv'
      cases hv'
      exact .int _ _
  · intro j' hj hid
    rw [hlen]
    exact .slice hid hcap (by simp only [csize]; omega)

theorem missing_hasAll (want : Array (String × TypeId)) (got : Array Method) : (Instr.missingMethod want got).isNone = hasAll want got := by
  cases hh : hasAll want got with
  | true =>
    have h0 : Go.lacking want got = [] := by
      unfold Go.lacking
      unfold hasAll at hh
      rw [List.all_eq_true] at hh
      simp only [List.map_eq_nil_iff, List.filter_eq_nil_iff]
      rintro ⟨n, s⟩ hx
      simpa using hh _ hx
    rw [Go.missingMethod_none h0]
    rfl
  | false =>
    have h0 : Go.lacking want got ≠ [] := by
      intro h0
      unfold Go.lacking at h0
      simp only [List.map_eq_nil_iff, List.filter_eq_nil_iff] at h0
      have : hasAll want got = true := by
        unfold hasAll
        rw [List.all_eq_true]
        rintro ⟨n, s⟩ hx
        simpa using h0 _ hx
      rw [this] at hh
      cases hh
    obtain ⟨m, hm⟩ := Go.missingMethod_some h0
    rw [hm]
    rfl
theorem mem_impl {want : Array (String × TypeId)} {yes : Bool} {t : TypeId} (h : (implList P want yes).contains t = true) : ∃ i, P.info? t = some i ∧ ((Instr.missingMethod want i.methods).isNone = yes) := by
  rw [List.contains_iff_mem] at h
  unfold implList at h
  rw [List.mem_filter] at h
  have h2 := h.2
  cases hi : P.info? t with
  | none => rw [hi] at h2; cases h2
  | some i =>
    rw [hi] at h2
    exact ⟨i, rfl, by rw [missing_hasAll]; simpa using h2⟩
theorem nv_tasi {xt t : TypeId} {want : Array (String × TypeId)} {ok : Bool} {a v : AV} {u : Value} (hu : P.underlying t = some (.interface want)) (hz : zeroP P t = some .nilIface) (hx : VR j a u)
    (h : tasiA (implList P want true) (implList P want false) ok a = some v) : NV P (Instr.typeAssert u xt t ok) j w id v none := by
  obtain ⟨zv, hzv, hzr⟩ := run_zeroValue hz w
  have hzn : zv = .nilIface := by
    have := ofV_sound (j := j) hzv
    cases this; rfl
  subst hzn
  cases a with
  | iface t' a' =>
    obtain ⟨u', rfl, hu'⟩ := hx.iface_inv
    simp only [tasiA] at h
    split at h
    · rename_i hy
      obtain ⟨i, hi, hm⟩ := mem_impl hy
      have hm' : Instr.missingMethod want i.methods = none := by simpa using hm
      cases h
      cases ok
      · exact ⟨.iface t' u', by simp [Instr.typeAssert, run_underlying hu, typeInfo, hi, hm'], .iface hu'⟩
      · exact ⟨.tuple #[.iface t' u', .bool true], by simp [Instr.typeAssert, run_underlying hu, typeInfo, hi, hm'], .tuple_list (.cons (.iface hu') (.cons (.bool _) .nil))⟩
    · split at h
      · rename_i hn
        simp only [Bool.and_eq_true] at hn
        obtain ⟨rfl, hn⟩ := hn
        obtain ⟨i, hi, hm⟩ := mem_impl hn
        cases hmm : Instr.missingMethod want i.methods with
        | none => rw [hmm] at hm; cases hm
        | some m =>
          cases h
          exact ⟨.tuple #[.nilIface, .bool false], by simp [Instr.typeAssert, run_underlying hu, typeInfo, hi, hmm, hzr], .tuple_list (.cons .nilIface (.cons (.bool _) .nil))⟩
      · cases h
  | nilIface =>
    cases hx
    simp only [tasiA] at h
    split at h
    · rename_i hok
      subst hok
      cases h
      exact ⟨.tuple #[.nilIface, .bool false], by simp [Instr.typeAssert, run_underlying hu, hzr], .tuple_list (.cons .nilIface (.cons (.bool _) .nil))⟩
    · cases h
  | _ => cases h
theorem nv_tas {xt t : TypeId} {ok : Bool} {z a v : AV} {u : Value} {d : TypeDesc} (hu : P.underlying t = some d) (hd : ∀ want, d ≠ .interface want) (hz : zeroP P t = some z) (hx : VR j a u)
    (h : tasA t z ok a = some v) : NV P (Instr.typeAssert u xt t ok) j w id v none := by
  obtain ⟨zv, hzv, hzr⟩ := run_zeroValue hz w
  have hzV := ofV_sound (j := j) hzv
  cases a with
  | iface t' a' =>
    obtain ⟨u', rfl, hu'⟩ := hx.iface_inv
    simp only [tasA] at h
    split at h
    · rename_i ht
      subst ht
      cases h
      cases ok
      · refine ⟨u', ?_, hu'⟩
        simp only [Instr.typeAssert, Sem.run_bind, run_underlying hu, Result.andThen_ok]
        cases d <;> first | exact absurd rfl (hd _) | simp
      · refine ⟨.tuple #[u', .bool true], ?_, .tuple_list (.cons hu' (.cons (.bool _) .nil))⟩
        simp only [Instr.typeAssert, Sem.run_bind, run_underlying hu, Result.andThen_ok]
        cases d <;> first | exact absurd rfl (hd _) | simp
    · rename_i ht
      split at h
      · rename_i hok
        subst hok
        cases h
        refine ⟨.tuple #[zv, .bool false], ?_, .tuple_list (.cons hzV (.cons (.bool _) .nil))⟩
        simp only [Instr.typeAssert, Sem.run_bind, run_underlying hu, Result.andThen_ok]
        cases d <;> first | exact absurd rfl (hd _) | simp [ht, hzr]
      · cases h
  | nilIface =>
    cases hx
    simp only [tasA] at h
    split at h
    · rename_i hok
      subst hok
      cases h
      refine ⟨.tuple #[zv, .bool false], ?_, .tuple_list (.cons hzV (.cons (.bool _) .nil))⟩
      simp only [Instr.typeAssert, Sem.run_bind, run_underlying hu, Result.andThen_ok]
      cases d <;> first | exact absurd rfl (hd _) | simp [hzr]
    · cases h
  | _ => cases h
end
end Go.Proofs.YtcgkadfgojmmlaaDoor.Abs
set_option linter.unusedVariables false
set_option linter.unusedSimpArgs false
namespace Go.Proofs.YtcgkadfgojmmlaaDoor.Abs
open Go Go.RowKit

section
variable {P : Program} {j : Inj} {w : World} {id : Nat} {ev : IOpd → AV} {ρ : Operand → Value} {H : AH}

theorem max2_run (a b c : AV) (u v : Value) (ha : VR j a u) (hb : VR j b v) (h : mx2 a b = some c) : ∃ x, (Builtin.max2 u v).run P w = .ok x w ∧ VR j c x := by
  unfold mx2 at h
  split at h
  · split at h
    · rename_i k x k' y hk
      subst hk
      cases h
      cases ha.int_inv
      cases hb.int_inv
      refine ⟨.int k (if y > x then y else x), rfl, ?_⟩
      rw [show max x y = if y > x then y else x by rw [Int.max_def]; split <;> split <;> omega]
      exact .int _ _
    · cases h
  · cases h
theorem min2_run (a b c : AV) (u v : Value) (ha : VR j a u) (hb : VR j b v) (h : mn2 a b = some c) : ∃ x, (Builtin.min2 u v).run P w = .ok x w ∧ VR j c x := by
  unfold mn2 at h
  split at h
  · split at h
    · rename_i k x k' y hk
      subst hk
      cases h
      cases ha.int_inv
      cases hb.int_inv
      refine ⟨.int k (if y < x then y else x), rfl, ?_⟩
      rw [show min x y = if y < x then y else x by rw [Int.min_def]; split <;> split <;> omega]
      exact .int _ _
    · cases h
  · cases h
theorem nv_fold {f : AV → AV → Option AV} {g : Value → Value → Sem Value} (hf : ∀ (a b c : AV) (u v : Value), VR j a u → VR j b v → f a b = some c → ∃ x, (g u v).run P w = .ok x w ∧ VR j c x) :
    ∀ {l : List AV} {r : List Value} {a : AV} {u : Value} {c : AV}, VR j a u → VRs j l r → mmA f a l = some c → ∃ x, (r.foldlM g u).run P w = .ok x w ∧ VR j c x
  | [], r, a, u, c, ha, hl, h => by rw [hl.nil_right]; cases h; exact ⟨u, rfl, ha⟩
  | b :: l, r, a, u, c, ha, hl, h => by
    obtain ⟨v, r', rfl, hb, hl'⟩ := hl.cons_left
    unfold mmA at h
    obtain ⟨d, hd, h⟩ := Option.bind_eq_some_iff.1 h
    obtain ⟨x, hx, hxr⟩ := hf _ _ _ _ _ ha hb hd
    obtain ⟨y, hy, hyr⟩ := nv_fold hf hxr hl' h
    exact ⟨y, by rw [List.foldlM_cons, Sem.run_bind, hx]; exact hy, hyr⟩
theorem nv_fold1 {f : AV → AV → Option AV} {g : Value → Value → Sem Value} {z : Sem Value} {id : Nat} {l : List AV} {r : Array Value} {c : AV} (hf : ∀ (a b c : AV) (u v : Value), VR j a u → VR j b v → f a b = some c → ∃ x, (g u v).run P w = .ok x w ∧ VR j c x)
    (hl : VRs j l r.toList) (h : mmA1 f l = some c) : NV P (match r.toList with | [] => z | x :: rest => rest.foldlM g x) j w id c none := by
  cases l with
  | nil => cases h
  | cons a l =>
    obtain ⟨u, r', hr, ha, hl'⟩ := hl.cons_left
    obtain ⟨x, hx, hxr⟩ := nv_fold hf ha hl' h
    refine ⟨x, ?_, hxr⟩
    rw [hr]
    exact hx
theorem compOs_map (he : EvR P j ev ρ) {xs : Array Operand} {is : List IOpd} (h : compOs P xs.toList = some is) : VRs j (is.map ev) (xs.map ρ).toList := by
  rw [Array.toList_map]; exact he.list h

set_option maxHeartbeats 1000000 in
theorem findA_sound {q : IntKind} {k : IntKind} {n : Int} : ∀ (es : List AEntry) (ds : List MapEntry) (i : Nat) (r : Option (Nat × AV)), es.length = ds.length → (∀ (i : Nat) e d, es[i]? = some e → ds[i]? = some d → VR j e.key d.key ∧ VR j e.val d.val) → findA k n es i = some r →
    ∃ r', Instr.findNow (.int q) (.int k n) ds i = some r' ∧ ((r = none ∧ r' = none) ∨ ∃ m v u, r = some (m, v) ∧ r' = some (m, u) ∧ VR j v u)
  | [], ds, i, r, hl, _, h => by
    cases h
    obtain rfl := List.eq_nil_of_length_eq_zero (by simpa using hl.symm : ds.length = 0)
    exact ⟨none, rfl, .inl ⟨rfl, rfl⟩⟩
  | e :: es, [], i, r, hl, _, h => by simp at hl
  | e :: es, d :: ds, i, r, hl, hv, h => by
    obtain ⟨h1, h2⟩ := hv 0 e d rfl rfl
    simp only [findA] at h
    split at h
    · rename_i k' m hk
      rw [hk] at h1
      have hd := h1.int_inv
      split at h
      · rename_i hkk
        subst hkk
        split at h
        · rename_i hnm
          subst hnm
          cases h
          exact ⟨some (i, d.val), by simp [Instr.findNow, hd, Instr.sameNow], .inr ⟨i, e.val, d.val, rfl, rfl, h2⟩⟩
        · rename_i hnm
          obtain ⟨r', h3, h4⟩ := findA_sound (q := q) es ds (i + 1) r (by simpa using hl) (fun i x y hx hy => hv (i + 1) x y (by simpa using hx) (by simpa using hy)) h
          have hb : (n == m) = false := by simpa using hnm
          exact ⟨r', by simp [Instr.findNow, hd, Instr.sameNow, hb, h3], h4⟩
      · cases h
    · cases h
theorem run_findKey {q : IntKind} {kt : TypeId} (hk : P.underlying kt = some (.int q)) {v : Value} {ds : List MapEntry} {r : Option (Nat × Value)} (h : Instr.findNow (.int q) v ds 0 = some r) : (Instr.findKey kt v ds).run P w = .ok r w := by
  simp [Instr.findKey, run_underlying hk, h]
theorem run_checkKey {q : IntKind} {kt : TypeId} (hk : P.underlying kt = some (.int q)) (b : Bool) (m : Nat) (k : IntKind) (n : Int) : (Instr.checkKey b (m + 1) kt (.int k n)).run P w = .ok () w := by
  unfold Instr.checkKey
  simp [run_underlying hk]
theorem nv_lookup {t kt e : TypeId} {q : IntKind} {ok : Bool} {z a key v : AV} {x i : Value} (hr : Rel P j H w) (hu : P.underlying t = some (.map kt e)) (hk : P.underlying kt = some (.int q)) (hz : zeroP P e = some z) (hx : VR j a x) (hi : VR j key i)
    (h : lkpA H z ok a key = some v) : NV P (Instr.lookup t x i ok) j w id v none := by
  obtain ⟨zv, hzv, hzr⟩ := run_zeroValue hz w
  have hz' := ofV_sound (j := j) hzv
  have hck : ∀ (b : Bool) (k : IntKind) (n : Int), (Instr.checkKey b 10000 kt (.int k n)).run P w = .ok () w := fun b k n => run_checkKey hk b 9999 k n
  unfold lkpA at h
  split at h
  · rename_i k n
    cases h
    cases hx
    obtain rfl := hi.int_inv
    have hf : (Instr.findKey kt (.int k n) []).run P w = .ok none w := run_findKey hk rfl
    cases ok
    · exact ⟨zv, by simp [Instr.lookup, run_underlying hu, hck, hf, hzr], hz'⟩
    · exact ⟨.tuple #[zv, .bool false], by simp [Instr.lookup, run_underlying hu, hck, hf, hzr], .tuple_list (.cons hz' (.cons (.bool _) .nil))⟩
  · rename_i b k n
    split at h
    · rename_i es clock hb
      obtain ⟨r, hf, rfl⟩ := Option.map_eq_some_iff.1 h
      obtain rfl := hi.int_inv
      have hs : ∃ c y, x = .map (some c) ∧ j b = some (c, y) := by cases hx; exact ⟨_, _, rfl, ‹_›⟩
      obtain ⟨c, y, rfl, hj⟩ := hs
      obtain ⟨c', ob, hj', hy, ho⟩ := hr.obj b _ hb
      rw [hj] at hj'
      cases hj'
      cases ob <;> simp only [ORel] at ho
      rename_i ds m
      obtain ⟨_, hlen, hent⟩ := ho
      obtain ⟨r', h3, h4⟩ := findA_sound (q := q) es ds.toList 0 r (by simpa using hlen) (fun i e d he hd => ⟨(hent i e d he (by simpa using hd)).1, (hent i e d he (by simpa using hd)).2.1⟩) hf
      have hfk := run_findKey (w := w) hk h3
      have hg : (getObj c).run P w = .ok (.map ds m) w := by simp [getObj, Sem.run, hy]
      rcases h4 with ⟨rfl, rfl⟩ | ⟨m', v', u, rfl, rfl, hvu⟩
      · cases ok
        · exact ⟨zv, by simp [Instr.lookup, run_underlying hu, hg, hck, hfk, hzr], hz'⟩
        · exact ⟨.tuple #[zv, .bool false], by simp [Instr.lookup, run_underlying hu, hg, hck, hfk, hzr], .tuple_list (.cons hz' (.cons (.bool _) .nil))⟩
      · cases ok
        · exact ⟨u, by simp [Instr.lookup, run_underlying hu, hg, hck, hfk, hzr], hvu⟩
        · exact ⟨.tuple #[u, .bool true], by simp [Instr.lookup, run_underlying hu, hg, hck, hfk, hzr], .tuple_list (.cons hvu (.cons (.bool _) .nil))⟩
    · cases h
  · cases h
theorem nop_sound {o : Oper} {no : NOp} {v : AV} {b : Option AObj} (hc : compN P o.op = some no) (he : EvR P j ev ρ) (hr : Rel P j H w) (h : nop ev H id no = some (v, b)) : NOk P o ρ j w id v b := by
  obtain ⟨dst, op, ty, pos, af, g⟩ := o
  simp only at hc
  cases op with
  | move x =>
    simp only [compN, Option.map_eq_some_iff] at hc
    obtain ⟨a, ha, rfl⟩ := hc
    cases h
    exact ⟨_, rfl, he x a ha⟩
  | assign x =>
    simp only [compN, Option.map_eq_some_iff] at hc
    obtain ⟨a, ha, rfl⟩ := hc
    cases h
    exact ⟨_, rfl, he x a ha⟩
  | pick c x y =>
    simp only [compN, Option.bind_eq_some_iff, Option.map_eq_some_iff] at hc
    obtain ⟨c', hc', a, ha, b', hb, rfl⟩ := hc
    simp only [nop] at h
    split at h
    · rename_i t ht
      cases h
      have := he c c' hc'
      rw [ht] at this
      have hcv := this.bool_inv
      cases t
      · exact ⟨ρ y, by simp [execOp, hcv, asBool], he y b' hb⟩
      · exact ⟨ρ x, by simp [execOp, hcv, asBool], he x a ha⟩
    · cases h
  | binOp op t x y ty' =>
    simp only [compN, Option.bind_eq_some_iff] at hc
    obtain ⟨a, ha, b', hb, hc⟩ := hc
    have hx := he x a ha
    have hy := he y b' hb
    have hbin : ∀ {r : AV}, abin op (ev a) (ev b') = some r → NOk P ⟨dst, .binOp op t x y ty', ty, pos, af, g⟩ ρ j w id r none := by
      intro r hr'
      obtain ⟨vc, hv, hvr⟩ := abin_sound (P := P) (w := w) (t := t) hr' hx hy
      have hg : (eqGuard op t x y (ρ x) (ρ y)).run P w = .ok () w := by
        unfold abin at hr'
        split at hr'
        · rename_i k1 n1 k2 n2 e1 e2
          rw [e1] at hx; rw [e2] at hy
          rw [hx.int_inv, hy.int_inv]
          unfold eqGuard
          cases op <;> rfl
        · rename_i s1 s2 e1 e2
          rw [e1] at hx; rw [e2] at hy
          obtain ⟨q1, h1, _⟩ := hx.str_inv
          obtain ⟨q2, h2, _⟩ := hy.str_inv
          rw [h1, h2]
          unfold eqGuard
          cases op <;> rfl
        · cases hr'
      refine NV.lift (s := do eqGuard op t x y (ρ x) (ρ y); binOp op t (ρ x) (ρ y)) ⟨vc, ?_, hvr⟩ rfl
      rw [Sem.run_bind, hg]
      exact hv
    have hleaf : (∀ q, P.underlying t ≠ some (.int q)) → P.underlying t ≠ some .string → ((leafT P (isConstO x || isConstO y) t).bind fun k => (match op with
      | .eql => some (NOp.eq k false a b')
      | .neq => some (.eq k true a b')
      | _ => none)) = some no → NOk P ⟨dst, .binOp op t x y ty', ty, pos, af, g⟩ ρ j w id v b := by
      intro h1 h2 hc
      simp only [Option.bind_eq_some_iff] at hc
      obtain ⟨k, hk, hc⟩ := hc
      cases op <;> first | (cases hc; done) | skip
      · cases hc
        simp only [nop, Option.map_eq_some_iff] at h
        obtain ⟨c, hcc, h⟩ := h
        cases h
        exact NV.lift (nv_eqT (.inl rfl) hk hx hy hcc h1 h2) rfl
      · cases hc
        simp only [nop, Option.map_eq_some_iff] at h
        obtain ⟨c, hcc, h⟩ := h
        cases h
        exact NV.lift (nv_eqT (.inr rfl) hk hx hy hcc h1 h2) rfl
    split at hc
    · cases hc
      simp only [nop, Option.map_eq_some_iff] at h
      obtain ⟨r, hr', h⟩ := h
      cases h
      exact hbin hr'
    · cases hc
      simp only [nop, Option.map_eq_some_iff] at h
      obtain ⟨r, hr', h⟩ := h
      cases h
      exact hbin hr'
    · rename_i fs hu
      simp only [Option.bind_eq_some_iff] at hc
      obtain ⟨ks, hk, hc⟩ := hc
      unfold structK at hk
      split at hk
      · cases hk
      · rename_i hgt
        have key : ∀ (neg : Bool), nop ev H id (.eqs ks neg a b') = some (v, b) → (op = .eql ∨ op = .neq) → neg = decide (op = .neq) → NOk P ⟨dst, .binOp op t x y ty', ty, pos, af, g⟩ ρ j w id v b := by
          intro neg hn hop hneg
          simp only [nop] at hn
          split at hn
          · rename_i xs ys ex ey
            simp only [Option.map_eq_some_iff] at hn
            obtain ⟨c, hcc, hn⟩ := hn
            cases hn
            rw [ex] at hx
            rw [ey] at hy
            obtain ⟨r1, e1, _⟩ := hx.agg_inv
            obtain ⟨r2, e2, _⟩ := hy.agg_inv
            have hs : (Op.equal t (ρ x) (ρ y)).run P w = .ok c w :=
              kindsK_sound (P := P) (w := w) 5 t ks hk 9995 (.agg xs) (.agg ys) (ρ x) (ρ y) c hx hy (fun _ => ⟨_, _, rfl, rfl⟩) (fun hh => by simp [isStructT, hu] at hh) hcc
            have hg : (eqGuard op t x y (ρ x) (ρ y)).run P w = .ok () w := by
              rw [e1, e2]
              have hgf : P.eqGuardType P.depth t = false := by simpa using hgt
              rcases hop with rfl | rfl <;> simp [eqGuard, hgf]
            have hd : binOp op t (ρ x) (ρ y) = eqDo op t (ρ x) (ρ y) := by
              rw [e1, e2]
              rcases hop with rfl | rfl <;> rfl
            have hfin := run_eqOp (P := P) (w := w) hop hs hd
            refine NV.lift (s := do eqGuard op t x y (ρ x) (ρ y); binOp op t (ρ x) (ρ y)) ⟨_, by rw [Sem.run_bind, hg]; exact hfin, ?_⟩ rfl
            subst hneg
            by_cases e : op = .neq
            · simp [e]; exact .bool _
            · simp [e]; exact .bool _
          · cases hn
        cases op <;> first | (cases hc; done) | skip
        · cases hc; exact key false h (.inl rfl) rfl
        · cases hc; exact key true h (.inr rfl) rfl
    · rename_i h1 h2 h3
      exact hleaf (fun q e => h1 q e) (fun e => h2 e) hc
  | unOp op t x =>
    simp only [compN, Option.map_eq_some_iff] at hc
    obtain ⟨a, ha, rfl⟩ := hc
    simp only [nop, Option.map_eq_some_iff] at h
    obtain ⟨r, hr', h⟩ := h
    cases h
    obtain ⟨vc, hv, hvr⟩ := aun_sound (P := P) (w := w) hr' (he x a ha)
    exact NV.lift (s := Op.unary op (ρ x)) ⟨vc, hv, hvr⟩ rfl
  | convert src dst' x =>
    simp only [compN, Option.bind_eq_some_iff] at hc
    obtain ⟨a, ha, hc⟩ := hc
    have hx := he x a ha
    split at hc
    · rename_i k1 k hs hd
      cases hc
      simp only [nop] at h
      split at h
      · rename_i k2 n hn
        cases h
        rw [hn] at hx
        refine NV.lift (s := Go.convert src dst' (ρ x)) ⟨.int k (k.wrap n), ?_, .int _ _⟩ rfl
        rw [hx.int_inv]
        simp [Go.convert, run_underlying hs, run_underlying hd, Conv.intToInt]
      · cases h
    · rename_i hs hd
      cases hc
      simp only [nop] at h
      split at h
      · rename_i l hl
        cases h
        rw [hl] at hx
        obtain ⟨s, hs', rfl⟩ := hx.str_inv
        refine NV.lift (s := Go.convert src dst' (ρ x)) ⟨.string s, ?_, .str s⟩ rfl
        rw [hs']
        simp [Go.convert, run_underlying hs, run_underlying hd]
      · cases h
    · rename_i e hs hd
      split at hc
      · rename_i hee
        cases hc
        simp only [nop] at h
        split at h
        · rename_i l hl
          split at h
          · cases h
            rw [hl] at hx
            exact NV.lift (s := Go.convert src dst' (ρ x)) (nv_s2b hs hd hee hx) rfl
          · cases h
        · cases h
      · cases hc
    · rename_i e hs hd
      split at hc
      · rename_i hee
        cases hc
        simp only [nop, Option.map_eq_some_iff] at h
        obtain ⟨r, hb, h⟩ := h
        cases h
        exact NV.lift (s := Go.convert src dst' (ρ x)) (nv_b2s hr hs hee hd hx hb) rfl
      · cases hc
    · cases hc
  | makeInterface t x =>
    simp only [compN] at hc
    split at hc
    · rename_i hcond
      simp only [Option.map_eq_some_iff] at hc
      obtain ⟨a, ha, rfl⟩ := hc
      cases h
      simp only [Bool.and_eq_true, Bool.not_eq_true'] at hcond
      obtain ⟨d, hd⟩ := Option.isSome_iff_exists.1 hcond.1
      refine NV.lift (s := Instr.makeInterface t (ρ x)) ⟨.iface t (ρ x), ?_, .iface (he x a ha)⟩ rfl
      have hni := hcond.2
      unfold isIface at hni
      rw [hd] at hni
      simp only [Instr.makeInterface, Sem.run_bind, run_underlying hd, Result.andThen_ok]
      cases d <;> first | (cases hni; done) | rfl
    · cases hc
  | makeFunc fn first captured =>
    simp only [compN, Option.bind_eq_some_iff, Option.map_eq_some_iff] at hc
    obtain ⟨as, has, bs, hbs, rfl⟩ := hc
    simp only [nop] at h
    split at h
    · rename_i hy
      cases h
      have h1 := compOs_map he has
      have h2 := compOs_map he hbs
      exact NV.lift (s := Instr.makeFunc fn (first.map ρ) (captured.map ρ)) ⟨_, rfl, .func hy h1.size (fun i a b ha hb => h1.2 i a b ha (by simpa using hb)) h2.size (fun i a b ha hb => h2.2 i a b ha (by simpa using hb))⟩ rfl
    · cases h
  | makeMap t r =>
    cases r with
    | some r => cases hc
    | none =>
      cases hc
      cases h
      exact NV.lift (s := Instr.makeMap t none) ⟨.map (some w.heap.size), .map #[] 0, { w with heap := w.heap.push (.map #[] 0) }, rfl, rfl, rfl, rfl, rfl, ⟨rfl, rfl, by simp⟩, rfl, fun j' hj hid => .map hid⟩ rfl
  | makeSlice t l c =>
    simp only [compN] at hc
    split at hc
    · rename_i e hu
      simp only [Option.bind_eq_some_iff] at hc
      obtain ⟨s, hs, bb, hbb, z, hz, l', hl, c', hcc, hc⟩ := hc
      split at hc
      · rename_i hzs
        cases hc
        simp only [nop] at h
        split at h
        · rename_i kl ln kc cn e1 e2
          split at h
          · rename_i hcond
            obtain ⟨h0, h1, h2, h3⟩ := hcond
            cases h
            have hxl := he l l' hl
            have hxc := he c c' hcc
            rw [e1] at hxl
            rw [e2] at hxc
            exact NV.lift (nv_mks hu hs hbb hz hzs hxl hxc h0 h1 h2 h3) rfl
          · cases h
        · cases h
      · cases hc
    · cases hc
  | slice t x lo hi mx =>
    simp only [compN, Option.bind_eq_some_iff] at hc
    obtain ⟨a, ha, lo', hlo, hi', hhi, mx', hmx, hc⟩ := hc
    have hx := he x a ha
    split at hc
    · rename_i n e hu
      simp only [Option.map_eq_some_iff] at hc
      obtain ⟨s, hs, rfl⟩ := hc
      simp only [nop, Option.bind_eq_some_iff] at h
      obtain ⟨l, hl, hh, hhh, m, hm, h⟩ := h
      split at h
      · rename_i bb o hev
        split at h
        case h_2 => cases h
        rename_i vv hld
        simp only [Option.map_eq_some_iff] at h
        obtain ⟨⟨p, r⟩, hb, h⟩ := h
        cases h
        rw [hev] at hx
        exact NV.lift (s := Instr.sliceAt t (ρ x) (lo.map ρ) (hi.map ρ) (mx.map ρ)) (nv_sarr hr hu hs (optI_sound he hlo hl) (optI_sound he hhi hhh) (optI_sound he hmx hm) hx hld hb) rfl
      · cases h
    · rename_i hu
      split at hc
      · rename_i hmn
        cases hc
        have : mx = none := by
          cases mx with
          | none => rfl
          | some m => simp only [compOp, Option.map_eq_some_iff] at hmx; obtain ⟨q, _, rfl⟩ := hmx; cases hmn
        subst this
        simp only [nop, Option.bind_eq_some_iff] at h
        obtain ⟨l, hl, hh, hhh, h⟩ := h
        split at h
        · rename_i s hev
          simp only [Option.map_eq_some_iff] at h
          obtain ⟨⟨p, r⟩, hb, h⟩ := h
          cases h
          rw [hev] at hx
          exact NV.lift (s := Instr.sliceAt t (ρ x) (lo.map ρ) (hi.map ρ) none) (nv_sstr hu (optI_sound he hlo hl) (optI_sound he hhi hhh) hx hb) rfl
        · cases h
      · cases hc
    · rename_i e hu
      simp only [Option.map_eq_some_iff] at hc
      obtain ⟨s, hs, rfl⟩ := hc
      simp only [nop, Option.bind_eq_some_iff] at h
      obtain ⟨l, hl, hh, hhh, m, hm, h⟩ := h
      simp only [Option.map_eq_some_iff] at h
      obtain ⟨r, hb, h⟩ := h
      cases h
      exact NV.lift (s := Instr.sliceAt t (ρ x) (lo.map ρ) (hi.map ρ) (mx.map ρ)) (nv_slc hu hs (optI_sound he hlo hl) (optI_sound he hhi hhh) (optI_sound he hmx hm) hx hb) rfl
    · cases hc
  | fieldAddr s x f =>
    simp only [compN, Option.bind_eq_some_iff] at hc
    obtain ⟨a, ha, hc⟩ := hc
    split at hc
    · rename_i fs hu
      simp only [Option.bind_eq_some_iff] at hc
      obtain ⟨fd, hf, n, hn, hc⟩ := hc
      split at hc
      · cases hc
      · rename_i h0
        cases hc
        simp only [nop] at h
        split at h
        · rename_i bb o hev
          cases h
          have hx := he x a ha
          rw [hev] at hx
          exact NV.lift (nv_faddr hu hf hn h0 hx) rfl
        · cases h
    · cases hc
  | field t x f =>
    simp only [compN, Option.bind_eq_some_iff] at hc
    obtain ⟨a, ha, hc⟩ := hc
    split at hc
    · rename_i fs hu
      simp only [Option.bind_eq_some_iff, Option.map_eq_some_iff] at hc
      obtain ⟨fd, hf, n, hn, rfl⟩ := hc
      simp only [nop] at h
      split at h
      · rename_i l hev
        simp only [Option.map_eq_some_iff] at h
        obtain ⟨r, hp, h⟩ := h
        cases h
        have hx := he x a ha
        rw [hev] at hx
        exact NV.lift (nv_fld hu hf hn hx hp) rfl
      · cases h
    · cases hc
  | indexAddr t x i =>
    simp only [compN, Option.bind_eq_some_iff] at hc
    obtain ⟨a, ha, i', hi, hc⟩ := hc
    have hx := he x a ha
    have hix := he i i' hi
    split at hc
    · rename_i n e hu
      simp only [Option.map_eq_some_iff] at hc
      obtain ⟨s, hs, rfl⟩ := hc
      simp only [nop] at h
      split at h
      · rename_i bb o k m e1 e2
        split at h
        · rename_i hcond
          cases h
          rw [e1] at hx; rw [e2] at hix
          exact NV.lift (nv_iaddra hu hs hx hix hcond.1 hcond.2) rfl
        · cases h
      · cases h
    · rename_i e hu
      simp only [Option.map_eq_some_iff] at hc
      obtain ⟨s, hs, rfl⟩ := hc
      simp only [nop] at h
      split at h
      · rename_i bb o n es k m e1 e2
        split at h
        · rename_i hcond
          cases h
          rw [e1] at hx; rw [e2] at hix
          exact NV.lift (nv_iaddr hu hs hx hix hcond.1 hcond.2) rfl
        · cases h
      · cases h
    · cases hc
  | index t x i =>
    simp only [compN, Option.bind_eq_some_iff] at hc
    obtain ⟨a, ha, i', hi, hc⟩ := hc
    have hx := he x a ha
    have hix := he i i' hi
    split at hc
    · rename_i n e hu
      simp only [Option.bind_eq_some_iff, Option.map_eq_some_iff] at hc
      obtain ⟨s, hs, k, hk, rfl⟩ := hc
      simp only [nop] at h
      split at h
      · rename_i l kk m e1 e2
        split at h
        · rename_i hcond
          simp only [Option.map_eq_some_iff] at h
          obtain ⟨r, hp, h⟩ := h
          cases h
          rw [e1] at hx; rw [e2] at hix
          exact NV.lift (nv_idxa hu hs hk hx hix hcond.1 hcond.2 hp) rfl
        · cases h
      · cases h
    · rename_i hu
      cases hc
      simp only [nop] at h
      split at h
      · rename_i l k m e1 e2
        split at h
        · rename_i h0
          simp only [Option.map_eq_some_iff] at h
          obtain ⟨c, hcc, h⟩ := h
          cases h
          rw [e1] at hx; rw [e2] at hix
          exact NV.lift (nv_idxs hu hx hix h0 hcc) rfl
        · cases h
      · cases h
    · cases hc
  | extract x i =>
    simp only [compN, Option.map_eq_some_iff] at hc
    obtain ⟨a, ha, rfl⟩ := hc
    simp only [nop] at h
    split at h
    · rename_i l hev
      simp only [Option.map_eq_some_iff] at h
      obtain ⟨r, hp, h⟩ := h
      cases h
      have hx := he x a ha
      rw [hev] at hx
      exact NV.lift (nv_ext hx hp) rfl
    · cases h
  | nilCheck x =>
    simp only [compN, Option.map_eq_some_iff] at hc
    obtain ⟨a, ha, rfl⟩ := hc
    have hx := he x a ha
    simp only [nop] at h
    split at h
    · rename_i bb o hev
      cases h
      rw [hev] at hx
      obtain ⟨c, z, hc, hj⟩ := hx.ptr_inv
      exact ⟨_, by simp only [execOp, hc]; rfl, .ptr hj⟩
    · rename_i t a' hev
      cases h
      rw [hev] at hx
      obtain ⟨u, hu, hur⟩ := hx.iface_inv
      exact ⟨_, by simp only [execOp, hu]; rfl, .iface hur⟩
    · rename_i f a1 c1 hev
      cases h
      rw [hev] at hx
      cases hq : ρ x <;> rw [hq] at hx <;> first | (cases hx; done) | skip
      rename_i fn f2 c2
      have hfn : fn = .func f := by cases hx; rfl
      subst hfn
      exact ⟨_, by simp only [execOp, hq]; rfl, hx⟩
    · cases h
  | typeAssert x xt t ok =>
    simp only [compN, Option.bind_eq_some_iff] at hc
    obtain ⟨a, ha, hc⟩ := hc
    have hx := he x a ha
    split at hc
    · rename_i want hu
      split at hc
      · rename_i hz
        cases hc
        have hz' : zeroP P t = some .nilIface := hz
        simp only [nop, Option.map_eq_some_iff] at h
        obtain ⟨r, hb, h⟩ := h
        cases h
        exact NV.lift (nv_tasi hu hz' hx hb) rfl
      · cases hc
    · rename_i d hni hu
      simp only [Option.map_eq_some_iff] at hc
      obtain ⟨z, hz, rfl⟩ := hc
      simp only [nop, Option.map_eq_some_iff] at h
      obtain ⟨r, hb, h⟩ := h
      cases h
      exact NV.lift (nv_tas hu (fun want e => hni want (by rw [← e])) hz hx hb) rfl
    · cases hc
  | lookup t x i ok =>
    simp only [compN] at hc
    split at hc
    · rename_i k e hu
      split at hc
      · rename_i q hk
        simp only [Option.bind_eq_some_iff, Option.map_eq_some_iff] at hc
        obtain ⟨z, hz, a, ha, i', hi, rfl⟩ := hc
        simp only [nop, Option.map_eq_some_iff] at h
        obtain ⟨r, hl, h⟩ := h
        cases h
        exact NV.lift (nv_lookup hr hu hk hz (he x a ha) (he i i' hi) hl) rfl
      · cases hc
    · cases hc
  | load t x =>
    simp only [compN, Option.bind_eq_some_iff, Option.map_eq_some_iff] at hc
    obtain ⟨a, ha, n, hn, rfl⟩ := hc
    simp only [nop] at h
    split at h
    · rename_i bb o hev
      simp only [Option.map_eq_some_iff] at h
      obtain ⟨r, hp, h⟩ := h
      cases h
      have hx := he x a ha
      rw [hev] at hx
      exact NV.lift (nv_load hr hn hx hp) rfl
    · cases h
  | alloc t =>
    simp only [compN, Option.map_eq_some_iff] at hc
    obtain ⟨z, hz, rfl⟩ := hc
    cases h
    exact NV.lift (nv_alloc hz) rfl
  | box t x =>
    simp only [compN, Option.map_eq_some_iff] at hc
    obtain ⟨a, ha, rfl⟩ := hc
    cases h
    exact NV.lift (s := Instr.box t (ρ x)) (nv_newVar (he x a ha)) rfl
  | build t parts =>
    simp only [compN, Option.bind_eq_some_iff] at hc
    obtain ⟨z, hz, hc⟩ := hc
    split at hc
    · cases hc
    · split at hc
      · rename_i fs hu
        simp only [Option.bind_eq_some_iff, Option.map_eq_some_iff] at hc
        obtain ⟨pl, hpl, ps, hps, rfl⟩ := hc
        simp only [nop, Option.map_eq_some_iff] at h
        obtain ⟨l, hl, h⟩ := h
        cases h
        exact NV.lift (nv_build_struct he hz hu hpl hps hl) rfl
      · rename_i n e hu
        simp only [Option.bind_eq_some_iff, Option.map_eq_some_iff] at hc
        obtain ⟨s, hs, ps, hps, rfl⟩ := hc
        simp only [nop, Option.map_eq_some_iff] at h
        obtain ⟨l, hl, h⟩ := h
        cases h
        exact NV.lift (nv_build_array he hz hu hs hps hl) rfl
      · cases hc
  | buildSlice t len parts =>
    simp only [compN] at hc
    split at hc
    · rename_i e hu
      simp only [Option.bind_eq_some_iff] at hc
      obtain ⟨s, hs, z, hz, ps, hps, hc⟩ := hc
      split at hc
      · rename_i hcond
        cases hc
        simp only [nop, Option.map_eq_some_iff] at h
        obtain ⟨l, hl, h⟩ := h
        cases h
        exact NV.lift (nv_bsl he hu hs hz hcond.1 hcond.2 hps hl) rfl
      · cases hc
    · cases hc
  | call c =>
    obtain ⟨cal, args, ts⟩ := c
    cases cal with
    | builtin bi =>
      cases bi <;> first | (cases hc; done) | skip
      case max =>
        simp only [compN, Option.map_eq_some_iff] at hc
        obtain ⟨as, has, rfl⟩ := hc
        simp only [nop, Option.map_eq_some_iff] at h
        obtain ⟨r, hr1, h⟩ := h
        cases h
        exact NV.lift (s := Builtin.max_ ts ty (args.map ρ)) (nv_fold1 (fun a b c u v => max2_run a b c u v) (compOs_map he has) hr1) rfl
      case min =>
        simp only [compN, Option.map_eq_some_iff] at hc
        obtain ⟨as, has, rfl⟩ := hc
        simp only [nop, Option.map_eq_some_iff] at h
        obtain ⟨r, hr1, h⟩ := h
        cases h
        exact NV.lift (s := Builtin.min_ ts ty (args.map ρ)) (nv_fold1 (fun a b c u v => min2_run a b c u v) (compOs_map he has) hr1) rfl
      simp only [compN] at hc
      have hex : ∀ x : Operand, args.toList = [x] → execOp ρ ⟨dst, .call ⟨.builtin .len, args, ts⟩, ty, pos, af, g⟩ = (do pure (Next.value (← Builtin.len_ ts ty #[ρ x]))) := by
        intro x hx
        have h1 : args = #[x] := by cases args; simp_all
        have h2 : args.map ρ = #[ρ x] := by rw [h1]; simp
        rw [← h2]
        rfl
      split at hc
      · rename_i x hxs hu
        simp only [Option.map_eq_some_iff] at hc
        obtain ⟨a, ha, rfl⟩ := hc
        have hx := he x a ha
        simp only [Option.bind_eq_some_iff] at hu
        obtain ⟨t, ht, hu⟩ := hu
        simp only [nop] at h
        split at h
        · rename_i l hev
          cases h
          rw [hev] at hx
          obtain ⟨s, hs, rfl⟩ := hx.str_inv
          refine NV.lift ⟨.int .i64 (s.size : Int), ?_, ?_⟩ (hex x hxs)
          · rw [hs]; simp [Builtin.len_, ht, run_underlying hu, goInt]
          · have : s.data.toList.length = s.size := by rw [Array.length_toList]; rfl
            rw [this]; exact .int _ _
        · cases h
      · rename_i x e hxs hu
        simp only [Option.map_eq_some_iff] at hc
        obtain ⟨a, ha, rfl⟩ := hc
        have hx := he x a ha
        simp only [Option.bind_eq_some_iff] at hu
        obtain ⟨t, ht, hu⟩ := hu
        simp only [nop] at h
        split at h
        · rename_i bb o n es hev
          cases h
          rw [hev] at hx
          obtain ⟨c, z, k, hs, _, _⟩ := hx.slice_inv
          exact NV.lift ⟨.int .i64 (n : Int), by rw [hs]; simp [Builtin.len_, ht, run_underlying hu, goInt], .int _ _⟩ (hex x hxs)
        · rename_i hev
          cases h
          rw [hev] at hx
          have hs : ρ x = .slice none 0 0 := by cases hq : ρ x <;> rw [hq] at hx <;> cases hx; rfl
          exact NV.lift ⟨.int .i64 0, by rw [hs]; simp [Builtin.len_, ht, run_underlying hu, goInt], .int _ _⟩ (hex x hxs)
        · rename_i hev
          cases h
          rw [hev] at hx
          have hs : ∃ q k, ρ x = .slice (some q) 0 k := by cases hq : ρ x <;> rw [hq] at hx <;> cases hx; exact ⟨_, _, rfl⟩
          obtain ⟨q, k, hs⟩ := hs
          exact NV.lift ⟨.int .i64 0, by rw [hs]; simp [Builtin.len_, ht, run_underlying hu, goInt], .int _ _⟩ (hex x hxs)
        · rename_i hev
          cases h
          rw [hev] at hx
          have hs : ∃ q k, ρ x = .slice (some q) 0 k := by cases hq : ρ x <;> rw [hq] at hx <;> cases hx; exact ⟨_, _, rfl⟩
          obtain ⟨q, k, hs⟩ := hs
          exact NV.lift ⟨.int .i64 0, by rw [hs]; simp [Builtin.len_, ht, run_underlying hu, goInt], .int _ _⟩ (hex x hxs)
        · cases h
      · rename_i x k e hxs hu
        simp only [Option.map_eq_some_iff] at hc
        obtain ⟨a, ha, rfl⟩ := hc
        have hx := he x a ha
        simp only [Option.bind_eq_some_iff] at hu
        obtain ⟨t, ht, hu⟩ := hu
        simp only [nop] at h
        split at h
        · rename_i hev
          cases h
          rw [hev] at hx
          have hs : ρ x = .map none := by cases hq : ρ x <;> rw [hq] at hx <;> cases hx; rfl
          exact NV.lift ⟨.int .i64 0, by rw [hs]; simp [Builtin.len_, ht, run_underlying hu, goInt], .int _ _⟩ (hex x hxs)
        · rename_i bb hev
          split at h
          · rename_i es clock hb
            cases h
            rw [hev] at hx
            have hs : ∃ c z, ρ x = .map (some c) ∧ j bb = some (c, z) := by cases hq : ρ x <;> rw [hq] at hx <;> cases hx; exact ⟨_, _, rfl, ‹_›⟩
            obtain ⟨c, z, hs, hj⟩ := hs
            obtain ⟨c', y, hj', hy, ho⟩ := hr.obj bb _ hb
            rw [hj] at hj'
            cases hj'
            cases y <;> simp only [ORel] at ho
            rename_i ds m
            have hlen := ho.2.1
            refine NV.lift ⟨.int .i64 (ds.size : Int), by rw [hs]; simp [Builtin.len_, ht, run_underlying hu, goInt, getObj, Sem.run, hy], ?_⟩ (hex x hxs)
            rw [hlen]; exact .int _ _
          · cases h
        · cases h
      · cases hc
    | _ => cases hc
  | _ => cases hc
end
end Go.Proofs.YtcgkadfgojmmlaaDoor.Abs

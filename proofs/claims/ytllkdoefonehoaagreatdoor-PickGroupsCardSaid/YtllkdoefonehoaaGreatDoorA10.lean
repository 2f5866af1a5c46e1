/- The quiet steps: all of them. No condition. -/
import Derived.Test.YtllkdoefonehoaaGreatDoorA9
import Derived.Stop.Asserts
set_option linter.unusedVariables false
set_option linter.unusedSimpArgs false
namespace Go.Proofs.YtllkdoefonehoaaGreatDoor.Abs
open Go Go.RowKit

section
variable {P : Program} {j : Inj} {w : World} {id : Nat} {ev : IOpd → AV} {ρ : Operand → Value} {H : AH}

theorem push_data (ns : List Int) : ∀ s : ByteArray, (ns.foldl (fun r n => r.push (UInt8.ofNat n.toNat)) s).data.toList = s.data.toList ++ ns.map fun n => UInt8.ofNat n.toNat := by
  induction ns with
  | nil => intro s; simp
  | cons n ns ih => intro s; rw [List.foldl_cons, ih]; simp [ByteArray.push]
theorem bytes_cells : ∀ {cs : List AV} {us : List Value}, VRs j cs us → (cs.all isByte) = true →
    ∃ ns : List Int, us = ns.map (Value.int .u8) ∧ (cs.map byteOf) = ns.map fun n => UInt8.ofNat n.toNat
  | [], us, h, _ => ⟨[], by rw [h.nil_right]; rfl, rfl⟩
  | c :: cs, us, h, ha => by
    obtain ⟨u, us', rfl, hu, hus⟩ := h.cons_left
    simp only [List.all_cons, Bool.and_eq_true] at ha
    obtain ⟨ns, rfl, hns⟩ := bytes_cells hus ha.2
    have h1 := ha.1
    cases c <;> first | (cases h1; done) | skip
    rename_i k n
    cases k <;> first | (cases h1; done) | skip
    cases hu.int_inv
    exact ⟨n :: ns, rfl, by rw [List.map_cons, hns]; rfl⟩
theorem nv_b2s {src dst e : TypeId} {a : AV} {v : AV} {u : Value} (hr : Rel P j H w) (hs : P.underlying src = some (.slice e)) (he : P.underlying e = some (.int .u8)) (hd : P.underlying dst = some .string) (hx : VR j a u)
    (h : b2sA H a = some v) : NV P (convert src dst u) j w id v none := by
  cases a with
  | snil =>
    cases h; cases hx
    exact ⟨.string .empty, by rw [run_convert_bytes_string w src dst e _ _ _ hs he hd]; rfl, str_of rfl⟩
  | sempty =>
    cases h
    cases hx
    rename_i ad k
    refine ⟨.string .empty, ?_, str_of rfl⟩
    rw [run_convert_bytes_string w src dst e _ _ _ hs he hd]
    have := run_bytesToString (P := P) w ad 0 k [] (by simp [loadCells, loadCellsFrom])
    simpa using this
  | szero =>
    cases h
    cases hx
    rename_i ad
    refine ⟨.string .empty, ?_, str_of rfl⟩
    rw [run_convert_bytes_string w src dst e _ _ _ hs he hd]
    have := run_bytesToString (P := P) w ad 0 0 [] (by simp [loadCells, loadCellsFrom])
    simpa using this
  | slice b o n es =>
    obtain ⟨c, z, k, rfl, hc, hn, _⟩ := hx.slice_inv
    simp only [b2sA] at h
    split at h
    · rename_i cs hl
      split at h
      · rename_i hall
        cases h
        obtain ⟨us, vs, hvs, hlen, hrel, hcell⟩ := hr.loadC hl hc
        cases hvs
        obtain ⟨ns, rfl, hns⟩ := bytes_cells hrel hall
        have hload := run_loadCells_of (P := P) hcell
        rw [hlen] at hload
        refine ⟨_, by rw [run_convert_bytes_string w src dst e _ _ _ hs he hd]; exact run_bytesToString w _ n k ns (by simpa using hload), str_of ?_⟩
        rw [push_data, hns]
        rfl
      · cases h
    · cases h
  | _ => cases h
theorem heap_push_modify (h : Array Obj) (o : Obj) (f : Obj → Obj) : (h.push o).modify h.size f = h.push (f o) := by
  apply Array.ext
  · simp
  · intro i h1 h2
    simp only [Array.getElem_modify, Array.getElem_push]
    by_cases hi : i = h.size
    · subst hi; simp
    · have : i < h.size := by simp at h2; omega
      have hne : ¬ h.size = i := fun e => hi e.symm
      simp [this, hne]
theorem nv_s2b {src dst e : TypeId} {l : List UInt8} {u : Value} (hs : P.underlying src = some .string) (hd : P.underlying dst = some (.slice e)) (he : P.underlying e = some (.int .u8)) (hx : VR j (.str l) u)
    : NV P (convert src dst u) j w id (.slice id 0 l.length 1) (some (.cells false e (l.map fun c => .int .u8 (c.toNat : Int)))) := by
  obtain ⟨s, rfl, rfl⟩ := hx.str_inv
  have hlen : s.data.toList.length = s.size := by rw [Array.length_toList]; rfl
  let q : Question := .appendCap s.size 0 e
  let cap := q.cut (w.tape w.drawn q)
  have hcap : s.size ≤ cap := by show s.size ≤ s.size + _; omega
  let cells : Array Value := s.data.map (fun b => .int .u8 b.toNat) ++ Array.replicate (cap - s.size) (.int .u8 0)
  have hsz : cells.size = cap := by simp [cells]; show s.size + (cap - s.size) = cap; omega
  refine ⟨.slice (some ⟨w.heap.size, 0, none⟩) s.size cap, .cells cells e (cells.size, cells.size + 1), { w with drawn := w.drawn + 1, heap := w.heap.push (.cells cells e (cells.size, cells.size + 1)) }, ?_, rfl, rfl, rfl, rfl, ?_, rfl, ?_⟩
  · have hf : q.forced = false := rfl
    have hc : (convert src dst (.string s)).run P w = (Conv.stringToBytes e s).run P w := by
      simp [convert, run_underlying hs, run_underlying hd, run_underlying he]
    rw [hc]
    simp only [Conv.stringToBytes, Sem.run_bind, run_choose]
    rw [show (Question.appendCap s.size 0 e).forced = false from rfl]
    simp only [Bool.false_eq_true, if_false, Result.andThen_ok, newRow, Sem.run_bind, run_newObj, markStringish, run_shape, Sem.run_pure]
    simp only [World.shape?, World.freeze]
    have e1 : (w.heap.push (.cells cells e))[w.heap.size]? = some (.cells cells e) := by simp
    simp [cells, cap, q, heap_push_modify]
    simp [World.freeze, heap_push_modify]
  · refine ⟨rfl, ?_, fun i a v ha hv => ?_, fun _ => .inr (Nat.le_refl _)⟩
    · rw [List.length_map, hlen, hsz]; exact hcap
    · rw [List.getElem?_map] at ha
      simp only [Option.map_eq_some_iff] at ha
      obtain ⟨c, hc, rfl⟩ := ha
      have hi : i < s.data.size := by have := (List.getElem?_eq_some_iff.1 hc).1; simpa using this
      have hv' : (s.data.map (fun b => Value.int .u8 b.toNat))[i]? = some v := by
        rw [Array.getElem?_append_left (by simpa using hi)] at hv
        exact hv
      rw [Array.getElem?_map] at hv'
      have hc' : s.data[i]? = some c := by simpa using hc
      rw [hc'] at hv'
      cases hv'
      exact .int _ _
  · intro j' hj hid
    rw [hlen]
    exact .slice hid hcap (by simp only [csize]; omega)

theorem missing_hasAll (want : Array (String × TypeId)) (got : Array Method) : (Instr.missingMethod want got).isNone = hasAll want got := by
  cases hh : hasAll want got with
  | true =>
    have h0 : Go.lacking want got = [] := by
      unfold Go.lacking
      unfold hasAll at hh
      rw [List.all_eq_true] at hh
      simp only [List.map_eq_nil_iff, List.filter_eq_nil_iff]
      rintro ⟨n, s⟩ hx
      simpa using hh _ hx
    rw [Go.missingMethod_none h0]
    rfl
  | false =>
    have h0 : Go.lacking want got ≠ [] := by
      intro h0
      unfold Go.lacking at h0
      simp only [List.map_eq_nil_iff, List.filter_eq_nil_iff] at h0
      have : hasAll want got = true := by
        unfold hasAll
        rw [List.all_eq_true]
        rintro ⟨n, s⟩ hx
        simpa using h0 _ hx
      rw [this] at hh
      cases hh
    obtain ⟨m, hm⟩ := Go.missingMethod_some h0
    rw [hm]
    rfl
theorem mem_impl {want : Array (String × TypeId)} {yes : Bool} {t : TypeId} (h : (implList P want yes).contains t = true) : ∃ i, P.info? t = some i ∧ ((Instr.missingMethod want i.methods).isNone = yes) := by
  rw [List.contains_iff_mem] at h
  unfold implList at h
  rw [List.mem_filter] at h
  have h2 := h.2
  cases hi : P.info? t with
  | none => rw [hi] at h2; cases h2
  | some i =>
    rw [hi] at h2
    exact ⟨i, rfl, by rw [missing_hasAll]; simpa using h2⟩
theorem nv_tasi {xt t : TypeId} {want : Array (String × TypeId)} {ok : Bool} {a v : AV} {u : Value} (hu : P.underlying t = some (.interface want)) (hz : zeroP P t = some .nilIface) (hx : VR j a u)
    (h : tasiA (implList P want true) (implList P want false) ok a = some v) : NV P (Instr.typeAssert u xt t ok) j w id v none := by
  obtain ⟨zv, hzv, hzr⟩ := run_zeroValue hz w
  have hzn : zv = .nilIface := by
    have := ofV_sound (j := j) hzv
    cases this; rfl
  subst hzn
  cases a with
  | iface t' a' =>
    obtain ⟨u', rfl, hu'⟩ := hx.iface_inv
    simp only [tasiA] at h
    split at h
    · rename_i hy
      obtain ⟨i, hi, hm⟩ := mem_impl hy
      have hm' : Instr.missingMethod want i.methods = none := by simpa using hm
      cases h
      cases ok
      · exact ⟨.iface t' u', by simp [Instr.typeAssert, run_underlying hu, typeInfo, hi, hm'], .iface hu'⟩
      · exact ⟨.tuple #[.iface t' u', .bool true], by simp [Instr.typeAssert, run_underlying hu, typeInfo, hi, hm'], .tuple_list (.cons (.iface hu') (.cons (.bool _) .nil))⟩
    · split at h
      · rename_i hn
        simp only [Bool.and_eq_true] at hn
        obtain ⟨rfl, hn⟩ := hn
        obtain ⟨i, hi, hm⟩ := mem_impl hn
        cases hmm : Instr.missingMethod want i.methods with
        | none => rw [hmm] at hm; cases hm
        | some m =>
          cases h
          exact ⟨.tuple #[.nilIface, .bool false], by simp [Instr.typeAssert, run_underlying hu, typeInfo, hi, hmm, hzr], .tuple_list (.cons .nilIface (.cons (.bool _) .nil))⟩
      · cases h
  | nilIface =>
    cases hx
    simp only [tasiA] at h
    split at h
    · rename_i hok
      subst hok
      cases h
      exact ⟨.tuple #[.nilIface, .bool false], by simp [Instr.typeAssert, run_underlying hu, hzr], .tuple_list (.cons .nilIface (.cons (.bool _) .nil))⟩
    · cases h
  | _ => cases h
theorem nv_tas {xt t : TypeId} {ok : Bool} {z a v : AV} {u : Value} {d : TypeDesc} (hu : P.underlying t = some d) (hd : ∀ want, d ≠ .interface want) (hz : zeroP P t = some z) (hx : VR j a u)
    (h : tasA t z ok a = some v) : NV P (Instr.typeAssert u xt t ok) j w id v none := by
  obtain ⟨zv, hzv, hzr⟩ := run_zeroValue hz w
  have hzV := ofV_sound (j := j) hzv
  cases a with
  | iface t' a' =>
    obtain ⟨u', rfl, hu'⟩ := hx.iface_inv
    simp only [tasA] at h
    split at h
    · rename_i ht
      subst ht
      cases h
      cases ok
      · refine ⟨u', ?_, hu'⟩
        simp only [Instr.typeAssert, Sem.run_bind, run_underlying hu, Result.andThen_ok]
        cases d <;> first | exact absurd rfl (hd _) | simp
      · refine ⟨.tuple #[u', .bool true], ?_, .tuple_list (.cons hu' (.cons (.bool _) .nil))⟩
        simp only [Instr.typeAssert, Sem.run_bind, run_underlying hu, Result.andThen_ok]
        cases d <;> first | exact absurd rfl (hd _) | simp
    · rename_i ht
      split at h
      · rename_i hok
        subst hok
        cases h
        refine ⟨.tuple #[zv, .bool false], ?_, .tuple_list (.cons hzV (.cons (.bool _) .nil))⟩
        simp only [Instr.typeAssert, Sem.run_bind, run_underlying hu, Result.andThen_ok]
        cases d <;> first | exact absurd rfl (hd _) | simp [ht, hzr]
      · cases h
  | nilIface =>
    cases hx
    simp only [tasA] at h
    split at h
    · rename_i hok
      subst hok
      cases h
      refine ⟨.tuple #[zv, .bool false], ?_, .tuple_list (.cons hzV (.cons (.bool _) .nil))⟩
      simp only [Instr.typeAssert, Sem.run_bind, run_underlying hu, Result.andThen_ok]
      cases d <;> first | exact absurd rfl (hd _) | simp [hzr]
    · cases h
  | _ => cases h
end
end Go.Proofs.YtllkdoefonehoaaGreatDoor.Abs

/- The steps that act; a region whose order is fixed. No condition. -/
import Derived.Test.YtcgkadfgojmmlaaDoorA14
import Derived.Orders
set_option linter.unusedVariables false
set_option linter.unusedSimpArgs false
namespace Go.Proofs.YtcgkadfgojmmlaaDoor.Abs
open Go Go.RowKit

def isStrOrSlice : Option TypeDesc → Bool
  | some .string => true
  | some (.slice _) => true
  | _ => false
def isStr : Option TypeDesc → Bool
  | some .string => true
  | _ => false
def compE (P : Program) : Op → Option EOp
  | .store t x v => (sizeP P t).bind fun n => (compO P x).bind fun x => (compO P v).map fun v => .store n x v
  | .call { callee := .value (.func f), args := args, argTypes := _ } => (compOs P args.toList).map (if bodyP P f then .call f else .xcall f)
  | .call { callee := .value x, args := args, argTypes := _ } => (compO P x).bind fun x => (compOs P args.toList).map (.callv x)
  | .call { callee := .invoke x nm, args := args, argTypes := _ } => (compO P x).bind fun x => (compOs P args.toList).map (.invoke nm x)
  | .call { callee := .builtin .append, args := args, argTypes := ts } => match args.toList, ts.toList with
    | [s, x], [t0, t1] => (match P.underlying t0 with
      | some (.slice e) => (sizeP P e).bind fun size => (bytesP P e).bind fun bytes => (zeroP P e).bind fun z => (compO P s).bind fun s => (compO P x).bind fun x =>
          if z.cells.length = size ∧ isStrOrSlice (P.underlying t1) = true ∧ (isStr (P.underlying t1) = true → size = 1) then some (.append (isStr (P.underlying t1)) e size bytes s x) else none
      | _ => none)
    | _, _ => none
  | .call { callee := .builtin .copy, args := args, argTypes := ts } => match args.toList, ts.toList with
    | [d, s], [t0, t1] => (match P.underlying t0 with
      | some (.slice e) => (sizeP P e).bind fun size => (compO P d).bind fun d => (compO P s).map fun s => .copy size d s
      | _ => none)
    | _, _ => none
  | .call { callee := .builtin .clear, args := args, argTypes := ts } => match args.toList, ts.toList with
    | [x], [t] => (match P.underlying t with
      | some (.slice e) => (sizeP P e).bind fun size => (zeroP P e).bind fun z => (compO P x).bind fun x => if z.cells.length = size then some (.clear size z.cells x) else none
      | _ => none)
    | _, _ => none
  | .call { callee := .builtin .cap, args := args, argTypes := ts } => match args.toList, ts.toList with
    | [x], [t] => (match P.underlying t with
      | some (.slice e) => (compO P x).map .cap
      | _ => none)
    | _, _ => none
  | .mapUpdate t m k v => (match P.underlying t with
    | some (.map kt _) => (match P.underlying kt with
      | some (.int _) => (compO P m).bind fun m => (compO P k).bind fun k => (compO P v).map fun v => .mapset m k v
      | _ => some .never)
    | _ => some .never)
  | _ => some .never

section
variable {P : Program} {j : Inj} {H : AH} {w : World}

theorem run_callFunc {f : FuncId} (h : bodyP P f = true) (args : Array Value) (w : World) : (callFunc f args).run P w = .ok (.enter f args) w := by
  unfold bodyP at h
  split at h
  · rename_i fn hf
    simp only [Bool.and_eq_true, Bool.not_eq_true', bne_iff_ne, ne_eq] at h
    have h1 : fn.body.isNone = false := by cases hb : fn.body <;> simp_all
    have h2 : (fn.name == "runtime.NumGoroutine") = false := by simpa using h.2
    simp only [callFunc, Sem.run_bind, run_program, Result.andThen_ok, hf, h2, h1]
    rfl
  · cases h

theorem run_method {t : TypeId} {nm : String} {f : FuncId} (h : methF P t nm = some f) {n : Nat} {v : Value} {w : World} : (method (n + Made.depth) t v nm).run P w = .ok (f, v) w := by
  unfold methF at h
  obtain ⟨i, hi, h⟩ := Option.bind_eq_some_iff.1 h
  obtain ⟨m, hm, h⟩ := Option.bind_eq_some_iff.1 h
  split at h
  · rename_i hpath
    split at h
    · rename_i g p hf
      have hp : m.path.toList = [] := by
        cases hq : m.path with | mk l => rw [hq] at hpath; simpa using hpath
      split at h
      · rename_i e hu
        split at h
        · rename_i hpt
          cases h
          subst hpt
          show (method (n + 99 + 1) t v nm).run P w = _
          unfold method
          have hti : (typeInfo t).run P w = .ok i w := by unfold typeInfo; simp [hi]
          simp [hti, hm, hp, follow, hf, receiverAt, run_underlying hu, Place.get]
        · cases h
      · rename_i d hd hu
        split at h
        · cases h
        · rename_i hpt
          cases h
          have hpf : p = false := by simpa using hpt
          subst hpf
          show (method (n + 99 + 1) t v nm).run P w = _
          unfold method
          have hti : (typeInfo t).run P w = .ok i w := by unfold typeInfo; simp [hi]
          cases d <;> first | exact absurd rfl (hd _) | simp [hti, hm, hp, follow, hf, receiverAt, run_underlying hu, Place.get]
      · cases h
    · cases h
  · cases h
/-- A step of the model's, or a round. -/
abbrev opR (P : Program) (o : Oper) (a : Act) (w : World) (next : Act → World → Prop) (Q : Exit → Act → World → Prop) : Prop :=
  o.wp P a w next Q ∨ ∃ c f tmps assign body, (execOp a.eval o).run P w = .ok (.round c f tmps assign body) w ∧
    RoundIn Fence.wide 0 P c f tmps assign body w fun e w' => ∃ v, e = .returned v ∧ next (a.put o.dst v) w'
theorem call_wp {o : Oper} {a : Act} {f : FuncId} {cargs : Array Value} {args : List AV} {K : AV → AH → Prop} {next : Act → World → Prop} {Q : Exit → Act → World → Prop} (hr : Rel P j H w)
    (he : (execOp a.eval o).run P w = .ok (.enter f cargs) w) (hv : VRs j args cargs.toList) (h : ACall P f args H K)
    (hn : ∀ v vc j' H' w', K v H' → Post P j H w j' H' w' → VR j' v vc → next (a.put o.dst vc) w') : o.wp P a w next Q := by
  unfold Oper.wp
  rw [he]
  show Calls P f cargs w _
  refine (h.2 j w cargs hr hv).mono ?_
  rintro e w' ⟨v, vc, j', H', rfl, hk, hp, hvr⟩
  exact hn v vc j' H' w' hk hp hvr

theorem MethR.of {t : TypeId} {nm : String} {f : FuncId} (h : methF P t nm = some f) (v : AV) : MethR P t nm v f v := fun _ _ u hu => ⟨u, run_method h, hu⟩
theorem xcall_wp {o : Oper} {a : Act} {f : FuncId} {cargs : Array Value} {args : List AV} {K : AV → AH → Prop} {next : Act → World → Prop} {Q : Exit → Act → World → Prop} (hr : Rel P j H w)
    (he : (execOp a.eval o).run P w = (callFunc f cargs).run P w) (hv : VRs j args cargs.toList) (h : XCall P f args H K)
    (hn : ∀ v vc j' H' w', K v H' → Post P j H w j' H' w' → VR j' v vc → next (a.put o.dst vc) w') : o.wp P a w next Q := by
  obtain ⟨vc, w', v, j', H', hrun, hk, hp, hvr⟩ := h j w cargs hr hv
  unfold Oper.wp
  rw [he, hrun]
  exact hn v vc j' H' w' hk hp hvr
theorem zeroCells_made (c : Array Value) (n : Nat) : Builtin.zeroCells c n = madeCells c (n * c.size) := rfl
theorem clear_sound (hr : Rel P j H w) {t e : TypeId} {ty : TypeId} {size : Nat} {z x : AV} {u : Value} {H' : AH} (hu : P.underlying t = some (.slice e)) (hz : zeroP P e = some z) (hzs : z.cells.length = size) (hx : VR j x u) (h : clearA H size z.cells x = some H') :
    ∃ w', (Builtin.clear_ #[t] ty #[u]).run P w = .ok (.tuple #[]) w' ∧ Post P j H w j H' w' := by
  cases x with
  | snil => cases h; cases hx; exact ⟨w, by simp [Builtin.clear_, run_underlying hu], Post.refl hr⟩
  | sempty => cases h; cases hx; exact ⟨w, by simp [Builtin.clear_, run_underlying hu], Post.refl hr⟩
  | szero => cases h; cases hx; exact ⟨w, by simp [Builtin.clear_, run_underlying hu], Post.refl hr⟩
  | slice b o n es =>
    simp only [clearA] at h
    split at h
    · rename_i hes
      obtain ⟨rfl, hn⟩ := hes
      obtain ⟨c, y, k, rfl, hc, _, _⟩ := hx.slice_inv
      obtain ⟨zv, hzv, hzr⟩ := run_zeroValue hz w
      have hz' := ofV_sound (j := j) hzv
      have hzz := zeros_sound hz'.cells n
      have hsz := hz'.cells.size
      obtain ⟨w', hrun, hp⟩ := storeC_sound hr hc hzz h
      have e1 : (madeCells zv.cells (n * z.cells.length)).toList = (Builtin.zeroCells zv.cells n).toList := by rw [zeroCells_made, hsz]
      rw [e1] at hrun
      obtain ⟨m, rfl⟩ : ∃ m, n = m + 1 := ⟨n - 1, by omega⟩
      exact ⟨w', by simp [Builtin.clear_, run_underlying hu, hzr, hrun], hp⟩
    · cases h
  | _ => cases h
theorem cap_sound (hr : Rel P j H w) {t e ty : TypeId} {x : AV} {u : Value} {K : AV → AH → Prop} (hu : P.underlying t = some (.slice e)) (hx : VR j x u) (h : CapA H K x) :
    ∃ k : Nat, (Builtin.cap_ #[t] ty #[u]).run P w = .ok (.int .i64 (k : Int)) w ∧ K (.int .i64 (k : Int)) H := by
  cases x with
  | snil => cases hx; exact ⟨0, by simp [Builtin.cap_, run_underlying hu, goInt], h⟩
  | szero => cases hx; exact ⟨0, by simp [Builtin.cap_, run_underlying hu, goInt], h⟩
  | sempty =>
    cases hx
    rename_i a k
    exact ⟨k, by simp [Builtin.cap_, run_underlying hu, goInt], h k⟩
  | slice b o n es =>
    obtain ⟨c, y, k, rfl, hc, hnk, _⟩ := hx.slice_inv
    exact ⟨k, by simp [Builtin.cap_, run_underlying hu, goInt], h k hnk⟩
  | _ => exact h.elim
theorem mset_sound (hr : Rel P j H w) {t kt e : TypeId} {q : IntKind} {x key v : AV} {ux uk uv : Value} {H' : AH} (hu : P.underlying t = some (.map kt e)) (hk : P.underlying kt = some (.int q)) (hx : VR j x ux) (hkey : VR j key uk) (hv : VR j v uv) (h : msetA H x key v = some H') :
    ∃ w', (Instr.mapUpdate t ux uk uv).run P w = .ok () w' ∧ Post P j H w j H' w' := by
  unfold msetA at h
  split at h
  · rename_i b k n
    split at h
    · rename_i es clock hb
      split at h
      · rename_i hf
        cases h
        obtain rfl := hkey.int_inv
        have hs : ∃ c y, ux = .map (some c) ∧ j b = some (c, y) := by cases hx; exact ⟨_, _, rfl, ‹_›⟩
        obtain ⟨c, y, rfl, hj⟩ := hs
        obtain ⟨c', ob, hj', hy, ho⟩ := hr.obj b _ hb
        have hj2 := hj
        rw [hj'] at hj
        obtain rfl : c' = c := by injection hj with e; injection e
        have ho1 := ho
        cases ob <;> simp only [ORel] at ho
        rename_i ds m
        obtain ⟨hm, hlen, hent⟩ := ho
        subst hm
        obtain ⟨r', h3, h4⟩ := findA_sound (q := q) es ds.toList 0 none (by simpa using hlen) (fun i e d he hd => ⟨(hent i e d he (by simpa using hd)).1, (hent i e d he (by simpa using hd)).2.1⟩) hf
        obtain rfl : r' = none := by
          rcases h4 with ⟨_, h⟩ | ⟨_, _, _, h, _⟩
          · exact h
          · cases h
        have hfk := run_findKey (w := w) hk h3
        have hg : (getObj c').run P w = .ok (.map ds clock) w := by simp [getObj, Sem.run, hy]
        have hck : (Instr.checkKey false 10000 kt (.int k n)).run P w = .ok () w := run_checkKey hk false 9999 k n
        have hset : (setObj c' (.map (ds.push ⟨.int k n, uv, clock⟩) (clock + 1))).run P w = .ok () { w with heap := w.heap.setIfInBounds c' (.map (ds.push ⟨.int k n, uv, clock⟩) (clock + 1)) } := by simp [setObj, Sem.run, hy]
        refine ⟨{ w with heap := w.heap.setIfInBounds c' (.map (ds.push ⟨.int k n, uv, clock⟩) (clock + 1)) }, by simp [Instr.mapUpdate, run_underlying hu, hg, hck, hfk, hset], ?_⟩
        refine Post.update hr hb rfl hj2 hy ?_ rfl
        refine ⟨rfl, by simp [hlen], fun i e' d he hd => ?_⟩
        by_cases hi : i < es.length
        · rw [List.getElem?_append_left hi] at he
          rw [Array.getElem?_push, if_neg (by omega)] at hd
          exact hent i e' d he hd
        · rw [List.getElem?_append_right (by omega)] at he
          have hi0 : i - es.length = 0 := by have := (List.getElem?_eq_some_iff.1 he).1; simp at this; omega
          rw [hi0] at he
          cases he
          rw [Array.getElem?_push, if_pos (by omega)] at hd
          cases hd
          exact ⟨.int _ _, hv, rfl⟩
      · cases h
    · cases h
  · cases h
theorem estep_sound {o : Oper} {a : Act} {eo : EOp} {ev : IOpd → AV} {K : AV → AH → Prop} {next : Act → World → Prop} {Q : Exit → Act → World → Prop} (hc : compE P o.op = some eo) (he : EvR P j ev a.eval) (hr : Rel P j H w) (h : estep P ev H K eo)
    (hn : ∀ v vc j' H' w', K v H' → Post P j H w j' H' w' → VR j' v vc → next (a.put o.dst vc) w') : opR P o a w next Q := by
  obtain ⟨dst, op, ty, pos, af, g⟩ := o
  simp only at hc hn
  cases op with
  | store t x v =>
    simp only [compE, Option.bind_eq_some_iff, Option.map_eq_some_iff] at hc
    obtain ⟨n, hs, x', hx, v', hv, rfl⟩ := hc
    simp only [estep] at h
    split at h
    · rename_i b o hev
      split at h
      · rename_i hlen
        split at h
        · rename_i H' hst
          have hxr := he x x' hx
          rw [hev] at hxr
          obtain ⟨w', hrun, hp⟩ := run_storeAt hr hs hxr (he v v' hv) hlen hst
          left; unfold Oper.wp
          have : (execOp a.eval ⟨dst, .store t x v, ty, pos, af, g⟩).run P w = .ok .skip w' := by
            simp only [execOp, Sem.run_bind, hrun, Result.andThen_ok]
            rfl
          rw [this]
          exact hn .undef Go.undef j H' w' h hp .undef
        · exact h.elim
      · exact h.elim
    · exact h.elim
  | call c =>
    obtain ⟨cal, args, ts⟩ := c
    cases cal with
    | value x =>
      have hvcase : ∀ (x' : IOpd) (as : List IOpd), compO P x = some x' → compOs P args.toList = some as → estep P ev H K (.callv x' as) → opR P ⟨dst, .call ⟨.value x, args, ts⟩, ty, pos, af, g⟩ a w next Q := by
        intro x' as hx has h
        simp only [estep] at h
        split at h
        · rename_i f first captured hev
          have hxr := he x x' hx
          rw [hev] at hxr
          have hsh : ∃ f2 c2 : Array Value, a.eval x = .func (.func f) f2 c2 ∧ VRs j first f2.toList ∧ VRs j captured c2.toList := by
            cases hq : a.eval x <;> rw [hq] at hxr <;> first | (cases hxr; done) | skip
            cases hxr
            exact ⟨_, _, rfl, VRs.of_agg ‹_› ‹_›, VRs.of_agg ‹_› ‹_›⟩
          obtain ⟨f2, c2, hq, hf2, hc2⟩ := hsh
          refine .inl <| call_wp (cargs := f2 ++ args.map a.eval ++ c2) hr ?_ ?_ h hn
          · simp only [execOp, resolve, hq, Deferred.ofValue, Sem.run_bind, Sem.run_pure, Result.andThen_ok, invoke]
            exact run_callFunc h.1 _ w
          · rw [Array.toList_append, Array.toList_append]
            exact (hf2.append (compOs_map he has)).append hc2
        · rename_i b hev
          have hxr := he x x' hx
          rw [hev] at hxr
          have hsh : ∃ c z, a.eval x = .func (.yield c) #[] #[] ∧ j b = some (c, z) := by
            cases hq : a.eval x <;> rw [hq] at hxr <;> first | (cases hxr; done) | skip
            cases hxr
            exact ⟨_, _, rfl, ‹_›⟩
          obtain ⟨c, z, hq, hj⟩ := hsh
          obtain ⟨f, tmps, assign, body, hrun, hround⟩ := h j w c z (args.map a.eval) hr hj (compOs_map he has)
          refine .inr ⟨c, f, tmps, assign, body, ?_, hround.mono fun e w' ⟨v, vc, j', H', he, q, hp, hvr⟩ => ⟨vc, he, hn v vc j' H' w' q hp hvr⟩⟩
          simp only [execOp, resolve, hq, Deferred.ofValue, Sem.run_bind, Sem.run_pure, Result.andThen_ok, invoke]
          have e : (#[] ++ args.map a.eval ++ #[] : Array Value) = args.map a.eval := by simp
          simpa [e] using hrun
        · exact h.elim
      cases x with
      | func f =>
        simp only [compE, Option.map_eq_some_iff] at hc
        obtain ⟨as, has, hc⟩ := hc
        by_cases hbf : bodyP P f = true
        rotate_left
        · rw [if_neg hbf] at hc
          subst hc
          simp only [estep] at h
          refine .inl <| xcall_wp (cargs := args.map a.eval) hr ?_ (compOs_map he has) h hn
          simp only [execOp, resolve, Act.eval, Deferred.ofValue, Sem.run_bind, Sem.run_pure, Result.andThen_ok, invoke]
          have e : (#[] ++ args.map a.eval ++ #[] : Array Value) = args.map a.eval := by simp
          rw [e]
        rw [if_pos hbf] at hc
        subst hc
        simp only [estep] at h
        refine .inl <| call_wp (cargs := args.map a.eval) hr ?_ (compOs_map he has) h hn
        simp only [execOp, resolve, Act.eval, Deferred.ofValue, Sem.run_bind, Sem.run_pure, Result.andThen_ok, invoke]
        have e : (#[] ++ args.map a.eval ++ #[] : Array Value) = args.map a.eval := by simp
        rw [e]
        exact run_callFunc h.1 _ w
      | tmp t =>
        simp only [compE, Option.bind_eq_some_iff, Option.map_eq_some_iff] at hc
        obtain ⟨x', hx, as, has, rfl⟩ := hc
        exact hvcase x' as hx has h
      | const q =>
        simp only [compE, Option.bind_eq_some_iff, Option.map_eq_some_iff] at hc
        obtain ⟨x', hx, as, has, rfl⟩ := hc
        exact hvcase x' as hx has h
      | global q =>
        simp only [compE, Option.bind_eq_some_iff, Option.map_eq_some_iff] at hc
        obtain ⟨x', hx, as, has, rfl⟩ := hc
        exact hvcase x' as hx has h
    | invoke x nm =>
      simp only [compE, Option.bind_eq_some_iff, Option.map_eq_some_iff] at hc
      obtain ⟨x', hx, as, has, rfl⟩ := hc
      simp only [estep] at h
      split at h
      · rename_i t v hev
        obtain ⟨f, v', hm, hcall⟩ := h
        have hxr := he x x' hx
        rw [hev] at hxr
        have hsh : ∃ v2, a.eval x = .iface t v2 ∧ VR j v v2 := by
          cases hq : a.eval x <;> rw [hq] at hxr <;> first | (cases hxr; done) | skip
          cases hxr
          exact ⟨_, rfl, ‹_›⟩
        obtain ⟨v2, hq, hv2⟩ := hsh
        obtain ⟨u', hm1, hm2⟩ := hm j w v2 hv2
        have hrun : (execOp a.eval ⟨dst, .call ⟨.invoke x nm, args, ts⟩, ty, pos, af, g⟩).run P w = (callFunc f (#[u'] ++ args.map a.eval)).run P w := by
          have e : ((#[a.eval x] ++ args.map a.eval : Array Value).extract 1 (#[a.eval x] ++ args.map a.eval : Array Value).size) = args.map a.eval := by
            apply Array.toList_inj.1
            simp
            exact List.take_of_length_le (by simp)
          simp only [execOp, resolve, Sem.run_bind, Sem.run_pure, Result.andThen_ok, invoke]
          rw [e]
          have e0 : (#[a.eval x] ++ args.map a.eval : Array Value)[0]? = some (.iface t v2) := by rw [hq, Array.getElem?_append_left (by simp)]; rfl
          simp only [e0]
          simp only [callMethod, Sem.run_bind, run_program, Result.andThen_ok, hm1]
        have hvs : VRs j (v' :: as.map ev) (#[u'] ++ args.map a.eval).toList := by
          rw [Array.toList_append]
          exact .cons hm2 (compOs_map he has)
        rcases hcall with h | h
        · exact .inl <| call_wp (cargs := #[u'] ++ args.map a.eval) hr (by rw [hrun]; exact run_callFunc h.1 _ w) hvs h hn
        · exact .inl <| xcall_wp (cargs := #[u'] ++ args.map a.eval) hr (by rw [hrun]) hvs h hn
      · exact h.elim
    | builtin bi =>
      have hargs : ∀ p q : Operand, args.toList = [p, q] → args.map a.eval = #[a.eval p, a.eval q] := by
        intro p q hpq
        have : args = #[p, q] := by cases args; simp_all
        rw [this]; simp
      have hargs1 : ∀ p : Operand, args.toList = [p] → args.map a.eval = #[a.eval p] := by
        intro p hpq
        have : args = #[p] := by cases args; simp_all
        rw [this]; simp
      cases bi <;> first | (cases hc; exact h.elim) | skip
      · simp only [compE] at hc
        split at hc
        · rename_i s x t0 t1 hal htl
          split at hc
          · rename_i e hu
            simp only [Option.bind_eq_some_iff] at hc
            obtain ⟨size, hs, bytes, hb, z, hz, s', hs', x', hx', hc⟩ := hc
            split at hc
            · rename_i hcond
              obtain ⟨hzs, hd, hstr⟩ := hcond
              cases hc
              simp only [estep] at h
              split at h
              · rename_i v H' happ
                have hts : ts = #[t0, t1] := by cases ts; simp_all
                subst hts
                have hd1 : ∃ d1, P.underlying t1 = some d1 ∧ (d1 = .string ∨ ∃ e', d1 = .slice e') := by
                  cases hu1 : P.underlying t1 with
                  | none => rw [hu1] at hd; cases hd
                  | some d1 =>
                    rw [hu1] at hd
                    cases d1 <;> first | (cases hd; done) | skip
                    · exact ⟨_, rfl, .inl rfl⟩
                    · exact ⟨_, rfl, .inr ⟨_, rfl⟩⟩
                obtain ⟨d1, hu1, hd1⟩ := hd1
                have hkind : ∀ l, ev x' = .str l → size = 1 := by
                  intro l hl
                  rw [hl] at happ
                  rcases hd1 with rfl | ⟨e', rfl⟩
                  · exact hstr (by rw [hu1]; rfl)
                  · rw [hu1] at happ
                    simp [appendK, isStr, isStrV] at happ
                have happ' : appendA H e size bytes (ev s') (ev x') = some (v, H') := by
                  unfold appendK at happ
                  split at happ
                  · exact happ
                  · cases happ
                obtain ⟨vc, w', j', hrun, hp, hvr⟩ := appendA_sound (ty := ty) hr hu hu1 hd1 hs hb hz hzs (he s s' hs') (he x x' hx') hkind happ'
                left; unfold Oper.wp
                have : (execOp a.eval ⟨dst, .call ⟨.builtin .append, args, #[t0, t1]⟩, ty, pos, af, g⟩).run P w = .ok (.value vc) w' := by
                  have e1 : execOp a.eval ⟨dst, .call ⟨.builtin .append, args, #[t0, t1]⟩, ty, pos, af, g⟩ = (do pure (Next.value (← Builtin.append_ #[t0, t1] ty (args.map a.eval)))) := rfl
                  rw [e1, hargs s x hal]
                  exact run_v hrun
                rw [this]
                exact hn v vc j' H' w' h hp hvr
              · exact h.elim
            · cases hc
          · cases hc
        · cases hc
      · simp only [compE] at hc
        split at hc
        · rename_i x t hal htl
          split at hc
          · rename_i e hu
            obtain ⟨x', hx', rfl⟩ := Option.map_eq_some_iff.1 hc
            simp only [estep] at h
            have hts : ts = #[t] := by cases ts; simp_all
            subst hts
            obtain ⟨k, hrun, hk⟩ := cap_sound (ty := ty) hr hu (he x x' hx') h
            left; unfold Oper.wp
            have : (execOp a.eval ⟨dst, .call ⟨.builtin .cap, args, #[t]⟩, ty, pos, af, g⟩).run P w = .ok (.value (.int .i64 (k : Int))) w := by
              have e1 : execOp a.eval ⟨dst, .call ⟨.builtin .cap, args, #[t]⟩, ty, pos, af, g⟩ = (do pure (Next.value (← Builtin.cap_ #[t] ty (args.map a.eval)))) := rfl
              rw [e1, hargs1 x hal]
              exact run_v hrun
            rw [this]
            exact hn _ _ j H w hk (Post.refl hr) (.int _ _)
          · cases hc
        · cases hc
      · simp only [compE] at hc
        split at hc
        · rename_i x t hal htl
          split at hc
          · rename_i e hu
            simp only [Option.bind_eq_some_iff] at hc
            obtain ⟨size, hs, z, hz, x', hx', hc⟩ := hc
            split at hc
            · rename_i hzs
              cases hc
              simp only [estep] at h
              split at h
              · rename_i H' hcl
                have hts : ts = #[t] := by cases ts; simp_all
                subst hts
                obtain ⟨w', hrun, hp⟩ := clear_sound (ty := ty) hr hu hz hzs (he x x' hx') hcl
                left; unfold Oper.wp
                have : (execOp a.eval ⟨dst, .call ⟨.builtin .clear, args, #[t]⟩, ty, pos, af, g⟩).run P w = .ok (.value (.tuple #[])) w' := by
                  have e1 : execOp a.eval ⟨dst, .call ⟨.builtin .clear, args, #[t]⟩, ty, pos, af, g⟩ = (do pure (Next.value (← Builtin.clear_ #[t] ty (args.map a.eval)))) := rfl
                  rw [e1, hargs1 x hal]
                  exact run_v hrun
                rw [this]
                exact hn _ _ j H' w' h hp .undef
              · exact h.elim
            · cases hc
          · cases hc
        · cases hc
      · simp only [compE] at hc
        split at hc
        · rename_i d s t0 t1 hal htl
          split at hc
          · rename_i e hu
            simp only [Option.bind_eq_some_iff, Option.map_eq_some_iff] at hc
            obtain ⟨size, hs, d', hd', s', hs', rfl⟩ := hc
            simp only [estep] at h
            split at h
            · rename_i v H' hcp
              have hts : ts = #[t0, t1] := by cases ts; simp_all
              subst hts
              unfold copyA at hcp
              simp only [Option.bind_eq_some_iff] at hcp
              obtain ⟨n, hn', k, hk, cs, hcs, hcp⟩ := hcp
              have hdr := he d d' hd'
              have hsr := he s s' hs'
              obtain ⟨us, hus, hvr⟩ := run_firstCells hr hsr ⟨n, hn', Nat.min_le_left n k⟩ hcs
              have hls := run_lenOf (P := P) hsr hn' w
              have hres : ∃ w', Post P j H w j H' w' ∧ VR j v (.int .i64 ((Nat.min n k : Nat) : Int)) ∧ (Builtin.copy_ #[t0, t1] ty #[a.eval d, a.eval s]).run P w = .ok (.int .i64 ((Nat.min n k : Nat) : Int)) w' := by
                have hmin : Nat.min n k = min n k := rfl
                have hus0 := hus w rfl
                cases hdv : ev d' <;> rw [hdv] at hcp hk hdr <;> simp only at hcp <;> first | (cases hcp; done) | skip
                · rename_i b o q es
                  simp only [Option.map_eq_some_iff] at hcp
                  obtain ⟨H1, hst, hcp⟩ := hcp
                  cases hcp
                  cases hk
                  obtain ⟨c, y, kk, hdd, hc, _, _⟩ := hdr.slice_inv
                  obtain ⟨w', hrun, hp⟩ := storeC_sound hr hc hvr hst
                  refine ⟨w', hp, .int _ _, ?_⟩
                  rw [hdd]
                  simp [Builtin.copy_, run_underlying hu, hls, run_sizeOf hs, hmin, hus0, hrun, goInt]
                · cases hcp
                  cases hk
                  have hdd : a.eval d = .slice none 0 0 := by cases hq : a.eval d <;> rw [hq] at hdr <;> cases hdr; rfl
                  refine ⟨w, Post.refl hr, by simp; exact .int _ _, ?_⟩
                  rw [hdd]
                  rw [← hmin] at hus0
                  simp at hus0
                  simp [Builtin.copy_, run_underlying hu, hls, run_sizeOf hs, hus0, goInt]
                · cases hcp
                  cases hk
                  have hdd : ∃ p q, a.eval d = .slice (some p) 0 q := by cases hq : a.eval d <;> rw [hq] at hdr <;> cases hdr; exact ⟨_, _, rfl⟩
                  obtain ⟨p, q, hdd⟩ := hdd
                  have hus1 : us = [] := by
                    have := hvr.1
                    have hcs0 : cs.length = 0 := by
                      simp at hcs
                      cases hsv : ev s' <;> rw [hsv] at hcs <;> simp only [srcCells] at hcs <;> first | (cases hcs; done) | skip
                      · cases hcs; simp
                      · simp only [Abs.loadC] at hcs
                        split at hcs
                        · rename_i cs' hl
                          cases hcs
                          split at hl
                          · split at hl
                            · cases hl; simp
                            · cases hl
                          · split at hl
                            · cases hl
                            · rename_i hne; exact absurd (by simp) hne
                          · cases hl
                        · cases hcs
                      · cases hcs; rfl
                      · cases hcs; rfl
                      · cases hcs; rfl
                    exact List.eq_nil_of_length_eq_zero (by omega)
                  subst hus1
                  refine ⟨w, Post.refl hr, by simp; exact .int _ _, ?_⟩
                  rw [hdd]
                  rw [← hmin] at hus0
                  simp at hus0
                  simp [Builtin.copy_, run_underlying hu, hls, run_sizeOf hs, hus0, goInt, storeCells]
                · cases hcp
                  cases hk
                  have hdd : ∃ p q, a.eval d = .slice (some p) 0 q := by cases hq : a.eval d <;> rw [hq] at hdr <;> cases hdr; exact ⟨_, _, rfl⟩
                  obtain ⟨p, q, hdd⟩ := hdd
                  have hus1 : us = [] := by
                    have := hvr.1
                    have hcs0 : cs.length = 0 := by
                      simp at hcs
                      cases hsv : ev s' <;> rw [hsv] at hcs <;> simp only [srcCells] at hcs <;> first | (cases hcs; done) | skip
                      · cases hcs; simp
                      · simp only [Abs.loadC] at hcs
                        split at hcs
                        · rename_i cs' hl
                          cases hcs
                          split at hl
                          · split at hl
                            · cases hl; simp
                            · cases hl
                          · split at hl
                            · cases hl
                            · rename_i hne; exact absurd (by simp) hne
                          · cases hl
                        · cases hcs
                      · cases hcs; rfl
                      · cases hcs; rfl
                      · cases hcs; rfl
                    exact List.eq_nil_of_length_eq_zero (by omega)
                  subst hus1
                  refine ⟨w, Post.refl hr, by simp; exact .int _ _, ?_⟩
                  rw [hdd]
                  rw [← hmin] at hus0
                  simp at hus0
                  simp [Builtin.copy_, run_underlying hu, hls, run_sizeOf hs, hus0, goInt, storeCells]
              obtain ⟨w', hp, hvv, hrun⟩ := hres
              left; unfold Oper.wp
              have : (execOp a.eval ⟨dst, .call ⟨.builtin .copy, args, #[t0, t1]⟩, ty, pos, af, g⟩).run P w = .ok (.value (.int .i64 ((Nat.min n k : Nat) : Int))) w' := by
                have e1 : execOp a.eval ⟨dst, .call ⟨.builtin .copy, args, #[t0, t1]⟩, ty, pos, af, g⟩ = (do pure (Next.value (← Builtin.copy_ #[t0, t1] ty (args.map a.eval)))) := rfl
                rw [e1, hargs d s hal]
                exact run_v hrun
              rw [this]
              exact hn v _ j H' w' h hp hvv
            · exact h.elim
          · cases hc
        · cases hc
  | mapUpdate t m k v =>
    simp only [compE] at hc
    split at hc
    · rename_i kt e hu
      split at hc
      · rename_i q hk
        simp only [Option.bind_eq_some_iff, Option.map_eq_some_iff] at hc
        obtain ⟨m', hm, k', hk', v', hv, rfl⟩ := hc
        simp only [estep] at h
        split at h
        · rename_i H' hms
          obtain ⟨w', hrun, hp⟩ := mset_sound hr hu hk (he m m' hm) (he k k' hk') (he v v' hv) hms
          left; unfold Oper.wp
          have : (execOp a.eval ⟨dst, .mapUpdate t m k v, ty, pos, af, g⟩).run P w = .ok .skip w' := by
            simp only [execOp, Sem.run_bind, hrun, Result.andThen_ok]
            rfl
          rw [this]
          exact hn .undef Go.undef j H' w' h hp .undef
        · exact h.elim
      · (cases hc; exact h.elim)
    · (cases hc; exact h.elim)
  | _ => (cases hc; exact h.elim)
end
end Go.Proofs.YtcgkadfgojmmlaaDoor.Abs
set_option linter.unusedVariables false
set_option linter.unusedSimpArgs false
namespace Go.Proofs.YtcgkadfgojmmlaaDoor.Abs
open Go Go.RowKit

def dstOk (N : Nat) : Option Nat → Bool
  | none => true
  | some d => decide (d < N)
def compG (N : Nat) (ops : Array Oper) : Option (Nat × Bool) → Option Guard
  | none => some none
  | some (k, want) => match (ops[k]?).bind (·.dst) with
    | some g => if g < N then some (some (g, want)) else none
    | none => none
def compStep (P : Program) (N : Nat) (ops : Array Oper) (o : Oper) : Option IStep :=
  if dstOk N o.dst then (compG N ops o.guard).bind fun g => match compN P o.op with
    | some no => some (.n o.dst g no)
    | none => (compE P o.op).map fun eo => .e o.dst g eo []
  else none
def compSteps (P : Program) (N : Nat) (ops : Array Oper) : List Oper → Option (List IStep)
  | [] => some []
  | o :: rest => (compStep P N ops o).bind fun s => (compSteps P N ops rest).map (s :: ·)

section
variable {P : Program} {N : Nat} {ops : Array Oper} {D : List Deferred}

theorem TR.put {j : Inj} {tm : Tms} {a : Act} (h : TR D j N tm a) {dst : Option Nat} (hd : dstOk N dst = true) {v : AV} {vc : Value} (hv : VR j v vc) : TR D j N (Abs.put tm dst v) (a.put dst vc) := by
  cases dst with
  | none => exact h
  | some d =>
    have hd' : d < N := by simpa [dstOk] using hd
    refine ⟨h.defers, by simp [Act.put, h.size], fun t => ?_⟩
    show VR j (upd tm d v t) ((a.tmps.setIfInBounds d vc).getD t Go.undef)
    by_cases e : t = d
    · subst e
      rw [upd_same]
      have : (a.tmps.setIfInBounds t vc).getD t Go.undef = vc := by
        rw [Array.getD_eq_getD_getElem?, Array.getElem?_setIfInBounds_self_of_lt (by rw [h.size]; exact hd')]
        rfl
      rw [this]
      exact hv
    · rw [upd_ne tm v e]
      have : (a.tmps.setIfInBounds d vc).getD t Go.undef = a.tmps.getD t Go.undef := by
        rw [Array.getD_eq_getD_getElem?, Array.getD_eq_getD_getElem?, Array.getElem?_setIfInBounds_ne (Ne.symm e)]
      rw [this]
      exact h.tmps t
theorem TR.get {j : Inj} {tm : Tms} {a : Act} (h : TR D j N tm a) {g : Nat} (hg : g < N) : ∃ v, a.tmps[g]? = some v ∧ VR j (tm g) v := by
  have : g < a.tmps.size := by rw [h.size]; exact hg
  refine ⟨a.tmps[g], Array.getElem?_eq_getElem this, ?_⟩
  have := h.tmps g
  rwa [Array.getD_eq_getD_getElem?, Array.getElem?_eq_getElem ‹_›] at this
theorem wanted_sound {j : Inj} {tm : Tms} {a : Act} (h : TR D j N tm a) {o : Oper} {g : Guard} (hg : compG N ops o.guard = some g) {b : Bool} (hw : wantedA tm g = some b) : Region.wanted o (yielded ops a.tmps) = b := by
  unfold Region.wanted
  cases hgo : o.guard with
  | none =>
    rw [hgo] at hg
    cases hg
    cases hw
    rfl
  | some kw =>
    obtain ⟨k, want⟩ := kw
    rw [hgo] at hg
    simp only [compG] at hg
    split at hg
    · rename_i d hd
      split at hg
      · rename_i hlt
        cases hg
        obtain ⟨v, hv, hvr⟩ := h.get hlt
        simp only [wantedA] at hw
        split at hw
        · rename_i c hc
          cases hw
          rw [hc] at hvr
          rw [hvr.bool_inv] at hv
          have hy : yielded ops a.tmps k = some c := by unfold yielded; rw [hd]; simp only [Option.bind_some, hv]
          simp only [hy]
          cases c <;> cases want <;> rfl
        · rename_i hc
          cases hw
          rw [hc] at hvr
          obtain ⟨r, hr, _⟩ := hvr.tuple_inv
          rw [hr] at hv
          have hy : yielded ops a.tmps k = none := by unfold yielded; rw [hd]; simp only [Option.bind_some, hv]
          simp only [hy]
          cases want <;> rfl
        · cases hw
      · cases hg
    · cases hg

/-- The steps of a region, in a given order: rounds too. -/
def wpOpsR (P : Program) (ops : Array Oper) (Q : Exit → Act → World → Prop) : List Nat → Act → World → Prop
  | [], a, w => Q .normal a w
  | i :: rest, a, w => match ops[i]? with
    | none => wpOpsR P ops Q rest a w
    | some o => if Region.wanted o (yielded ops a.tmps) then opR P o a w (wpOpsR P ops Q rest) Q else wpOpsR P ops Q rest (a.put o.dst undef) w
def wpOpR (P : Program) (ops : Array Oper) (Q : Exit → Act → World → Prop) (i : Nat) (K : Act → World → Prop) (a : Act) (w : World) : Prop :=
  match ops[i]? with
  | none => K a w
  | some o => if Region.wanted o (yielded ops a.tmps) then opR P o a w K Q else K (a.put o.dst undef) w
def wpAnyR (P : Program) (md : Region.Mode) (ops : Array Oper) (Q : Exit → Act → World → Prop) : Nat → Array Bool → Act → World → Prop
  | 0, listed, a, w => Region.ready md ops listed = [] ∧ Q .normal a w
  | fuel + 1, listed, a, w => (Region.ready md ops listed = [] → Q .normal a w) ∧
    ∀ i ∈ Region.ready md ops listed, wpOpR P ops Q i (wpAnyR P md ops Q fuel (listed.setIfInBounds i true)) a w
theorem irun_sound {K : Tms → AH → Prop} {Q : Exit → Act → World → Prop} : ∀ (l : List Nat) (os : List Oper) (steps : List IStep) (j : Inj) (tm : Tms) (H : AH) (a : Act) (w : World), (∀ k : Nat, os[k]? = (l[k]?).bind (ops[·]?)) → l.length = os.length → compSteps P N ops os = some steps →
    IRun P K steps [] tm H → TR D j N tm a → Rel P j H w → (∀ j' tm' H' a' w', K tm' H' → TR D j' N tm' a' → Post P j H w j' H' w' → Q .normal a' w') → wpOpsR P ops Q l a w
  | [], os, steps, j, tm, H, a, w, hos, hlen, hc, hrun, ht, hr, hq => by
    have : os = [] := List.eq_nil_of_length_eq_zero hlen.symm
    subst this
    cases hc
    exact hq j tm H a w hrun ht (Post.refl hr)
  | i :: l, os, steps, j, tm, H, a, w, hos, hlen, hc, hrun, ht, hr, hq => by
    cases os with
    | nil => simp at hlen
    | cons o os =>
      have ho : ops[i]? = some o := by have := hos 0; simpa using this.symm
      have hos' : ∀ k : Nat, os[k]? = (l[k]?).bind (ops[·]?) := fun k => by have := hos (k + 1); simpa using this
      have hlen' : l.length = os.length := by simpa using hlen
      simp only [compSteps, Option.bind_eq_some_iff, Option.map_eq_some_iff] at hc
      obtain ⟨s, hs, rest, hrest, rfl⟩ := hc
      unfold compStep at hs
      split at hs
      · rename_i hd
        simp only [Option.bind_eq_some_iff] at hs
        obtain ⟨g, hg, hs⟩ := hs
        have hev := EvR.of ht hr.globE
        have hskip : wantedA tm g = some false → IRun P K rest [] (Abs.put tm o.dst .undef) H → wpOpsR P ops Q (i :: l) a w := by
          intro hw hrun'
          have hw' := wanted_sound (ops := ops) ht hg hw
          simp only [wpOpsR, ho, hw']
          exact irun_sound l os rest j _ H _ w hos' hlen' hrest hrun' (ht.put hd .undef) hr hq
        split at hs
        · rename_i no hno
          cases hs
          simp only [IRun] at hrun
          split at hrun
          · rename_i hw
            have hw' := wanted_sound (ops := ops) ht hg hw
            simp only [wpOpsR, ho, hw']
            split at hrun
            · rename_i v hv
              obtain ⟨vc, hx, hvr⟩ := nop_sound hno hev hr hv
              left
              unfold Oper.wp
              rw [hx]
              exact irun_sound l os rest j _ H _ w hos' hlen' hrest hrun (ht.put hd hvr) hr hq
            · rename_i v b hv
              obtain ⟨vc, x, w', hx, hh, h1, h2, h3, ho', _, hvr⟩ := nop_sound hno hev hr hv
              have hp := Post.new hr hh h1 h2 h3 ho'
              left
              unfold Oper.wp
              rw [hx]
              exact irun_sound l os rest _ _ _ _ w' hos' hlen' hrest hrun ((ht.mono hp.ext).put hd (hvr _ hp.ext (Inj.add_same _ _ _))) hp.rel (fun j' tm' H' a' w'' hk htr hpp => hq j' tm' H' a' w'' hk htr (hp.trans hpp))
            · exact hrun.elim
          · rename_i hw; exact hskip hw hrun
          · exact hrun.elim
        · rename_i hnn
          simp only [Option.map_eq_some_iff] at hs
          obtain ⟨eo, heo, rfl⟩ := hs
          simp only [IRun] at hrun
          split at hrun
          · rename_i hw
            have hw' := wanted_sound (ops := ops) ht hg hw
            simp only [wpOpsR, ho, hw']
            refine estep_sound heo hev hr hrun ?_
            rintro v vc j' H' w' ⟨_, hk⟩ hp hvr
            exact irun_sound l os rest j' _ H' _ w' hos' hlen' hrest hk ((ht.mono hp.ext).put hd hvr) hp.rel (fun j2 tm' H2 a' w'' hk htr hpp => hq j2 tm' H2 a' w'' hk htr (hp.trans hpp))
          · rename_i hw; exact hskip hw hrun
          · exact hrun.elim
      · cases hs
end
end Go.Proofs.YtcgkadfgojmmlaaDoor.Abs

/- The model's own entries that errors.As and errors.Is come to (reflectlite), as calls over the abstract heap. No condition. -/
import Derived.Test.YtcgkadfgojmmlaaDoorA21
import Derived.Test.YtcgkadfgojmmlaaDoorIc
import Derived.Laws.Externs
import Derived.Stop.Asserts
set_option linter.unusedVariables false
set_option linter.unusedSimpArgs false
set_option maxRecDepth 10000
namespace Go.Proofs.YtcgkadfgojmmlaaDoor.EAs
open Go Go.RowKit Go.Extern Go.Proofs.YtcgkadfgojmmlaaDoor Go.Proofs.YtcgkadfgojmmlaaDoor.Abs Go.Proofs.YtcgkadfgojmmlaaDoor.Ic
abbrev TF : Nat := 74
abbrev TPF : Nat := 76
abbrev TE : Nat := 61
abbrev TPE : Nat := 80
abbrev TR : Nat := 111
abbrev TErr : Nat := 25
abbrev TFS : Nat := 78
abbrev hd (t : Nat) : AV := .hdl 4 t
abbrev hv (t : Nat) : Value := .pointer (some ⟨4, t, none⟩)
abbrev rt (t : Nat) : AV := .iface TR (.agg [hd t])
abbrev rv (t : Nat) : Value := .iface TR (.agg #[hv t])
abbrev val (t b : Nat) (fl : Int) : AV := .agg [hd t, .ptr b 0, .int .u64 fl]
abbrev vv (t : Nat) (a : Addr) (fl : Int) : Value := .agg #[hv t, .pointer (some a), .int .u64 fl]
variable {j : Inj} {w : World} {H : AH}
/-! ### What stands for what -/
theorem vr_hd (t : Nat) : VR j (hd t) (hv t) := .hdl
theorem vr_rt (t : Nat) : VR j (rt t) (rv t) := .iface (.agg_list (.cons .hdl .nil))
theorem vr_val {t b : Nat} {fl : Int} {c z : Nat} (h : j b = some (c, z)) : VR j (val t b fl) (vv t ⟨c, 0, none⟩ fl) := .agg_list (.cons .hdl (.cons (.ptr h) (.cons (.int _ _) .nil)))
theorem arr_of {l : List AV} {r : Array Value} {l' : List Value} (h : VRs j l r.toList) (e : r.toList = l') : r = l'.toArray := by subst e; simp
theorem rt_inv {t : Nat} {v : Value} (h : VR j (rt t) v) : v = rv t := by
  obtain ⟨u, rfl, hu⟩ := h.iface_inv
  obtain ⟨r, rfl, hr⟩ := hu.agg_inv
  obtain ⟨b, r', e, hb, hr'⟩ := hr.cons_left
  have := hr'.nil_right
  subst this
  cases hb
  have : r = #[hv t] := by apply Array.toList_inj.1; rw [e]
  rw [this]
theorem rr_inv {t : Nat} {v : Value} (h : VR j (.agg [hd t]) v) : v = .agg #[hv t] := by
  obtain ⟨r, rfl, hr⟩ := h.agg_inv
  obtain ⟨b, r', e, hb, hr'⟩ := hr.cons_left
  have := hr'.nil_right
  subst this
  cases hb
  have : r = #[hv t] := by apply Array.toList_inj.1; rw [e]
  rw [this]
theorem val_inv {t b : Nat} {fl : Int} {v : Value} (h : VR j (val t b fl) v) : ∃ c z, j b = some (c, z) ∧ v = vv t ⟨c, 0, none⟩ fl := by
  obtain ⟨r, rfl, hr⟩ := h.agg_inv
  obtain ⟨b1, r1, e1, h1, hr1⟩ := hr.cons_left
  obtain ⟨b2, r2, e2, h2, hr2⟩ := hr1.cons_left
  obtain ⟨b3, r3, e3, h3, hr3⟩ := hr2.cons_left
  have := hr3.nil_right
  subst this
  cases h1
  obtain ⟨c, z, rfl, hc⟩ := h2.ptr_inv
  cases h3.int_inv
  refine ⟨c, z, hc, ?_⟩
  have : r = #[hv t, .pointer (some ⟨c, 0, none⟩), .int .u64 fl] := by apply Array.toList_inj.1; rw [e1, e2, e3]
  rw [this]
theorem args1 {a : AV} {cargs : Array Value} (h : VRs j [a] cargs.toList) : ∃ u, cargs = #[u] ∧ VR j a u := by
  obtain ⟨b, r, e, hb, hr⟩ := h.cons_left
  have := hr.nil_right
  subst this
  exact ⟨b, by apply Array.toList_inj.1; rw [e], hb⟩
theorem args2 {a a' : AV} {cargs : Array Value} (h : VRs j [a, a'] cargs.toList) : ∃ u u', cargs = #[u, u'] ∧ VR j a u ∧ VR j a' u' := by
  obtain ⟨b, r, e, hb, hr⟩ := h.cons_left
  obtain ⟨b', r', e', hb', hr'⟩ := hr.cons_left
  have := hr'.nil_right
  subst this
  exact ⟨b, b', by apply Array.toList_inj.1; rw [e, e'], hb, hb'⟩
theorem orel_one {t : TypeId} {a : AV} {u : Value} (h : VR j a u) : ORel j (.cells false t [a]) (.cells #[u] t (0, 0)) :=
  orel_new (by simpa using VRs.cons h .nil)
/-- An entry that only looks. -/
theorem xlook {f : FuncId} {fn : Func} {e : Array Value → Sem Value} {args : List AV} {r : AV} (hf : Tryd.prog.funcs[f]? = some fn) (h1 : (fn.name == "runtime.NumGoroutine") = false) (h2 : fn.body.isNone = true) (h3 : Extern.findNext fn = none) (h4 : Extern.find fn = some e)
    (h : ∀ (j : Inj) (w : World) (cargs : Array Value), Rel Tryd.prog j H w → VRs j args cargs.toList → ∃ rc, (e cargs).run Tryd.prog w = .ok rc w ∧ VR j r rc) : XCall Tryd.prog f args H fun v H' => v = r ∧ H' = H :=
  fun j w cargs hr hv => by
    obtain ⟨rc, hrun, hvr⟩ := h j w cargs hr hv
    exact ⟨rc, w, r, j, H, by rw [run_callFunc_extern hf h1 h2 h3 h4, hrun]; rfl, ⟨rfl, rfl⟩, Post.refl hr, hvr⟩
/-! ### reflectlite.ValueOf -/
theorem m_valueOf {t : Nat} {u : Value} {fl : Int} (hu : ∀ w : World, (ReflectliteValue.unpack (.iface t u)).run Tryd.prog w = .ok (vv t ⟨w.heap.size, 0, none⟩ fl) (w.alloc (.cells #[u] t))) {v : AV} (hv : VR j v u) (hr : Rel Tryd.prog j H w) :
    ∃ vc w' v1 j' H', (callFunc 47 #[.iface t u]).run Tryd.prog w = .ok (.value vc) w' ∧ (v1 = val t H.next fl ∧ H' = H.new (.cells false t [v])) ∧ Post Tryd.prog j H w j' H' w' ∧ VR j' v1 vc := by
  have h6 := @run_callFunc_extern Tryd.prog 47 _ (fun args => ReflectliteValue.unpack (args.getD 0 (.tuple #[]))) Tryd.func47 (by kernel_rfl) (by kernel_rfl) (by kernel_rfl) (by kernel_rfl)
  refine ⟨vv t ⟨w.heap.size, 0, none⟩ fl, w.alloc (.cells #[u] t), val t H.next fl, _, _, ?_, ⟨rfl, rfl⟩, Post.new (x := .cells #[u] t (0, 0)) hr rfl rfl rfl rfl (orel_one hv), vr_val (Inj.add_same _ _ _)⟩
  rw [h6]
  show (Sem.run Tryd.prog (ReflectliteValue.unpack (.iface t u)) w).andThen _ = _
  rw [hu]
  rfl
theorem x_valueOf_PF (b o : Nat) : XCall Tryd.prog 47 [.iface TPF (.ptr b o)] H fun v H' => v = val TPF H.next 150 ∧ H' = H.new (.cells false TPF [.ptr b o]) := by
  intro j w cargs hr hv
  obtain ⟨u, rfl, hu⟩ := args1 hv
  obtain ⟨u', rfl, hu'⟩ := hu.iface_inv
  obtain ⟨c, z, rfl, hc⟩ := hu'.ptr_inv
  exact m_valueOf (fun w => by kernel_rfl) hu' hr
theorem x_valueOf_PE (b o : Nat) : XCall Tryd.prog 47 [.iface TPE (.ptr b o)] H fun v H' => v = val TPE H.next 150 ∧ H' = H.new (.cells false TPE [.ptr b o]) := by
  intro j w cargs hr hv
  obtain ⟨u, rfl, hu⟩ := args1 hv
  obtain ⟨u', rfl, hu'⟩ := hu.iface_inv
  obtain ⟨c, z, rfl, hc⟩ := hu'.ptr_inv
  exact m_valueOf (fun w => by kernel_rfl) hu' hr
theorem x_valueOf_F (b o : Nat) : XCall Tryd.prog 47 [.iface TF (.ptr b o)] H fun v H' => v = val TF H.next 150 ∧ H' = H.new (.cells false TF [.ptr b o]) := by
  intro j w cargs hr hv
  obtain ⟨u, rfl, hu⟩ := args1 hv
  obtain ⟨u', rfl, hu'⟩ := hu.iface_inv
  obtain ⟨c, z, rfl, hc⟩ := hu'.ptr_inv
  exact m_valueOf (fun w => by kernel_rfl) hu' hr
theorem x_valueOf_E (n : Int) : XCall Tryd.prog 47 [.iface TE (.int .i64 n)] H fun v H' => v = val TE H.next 130 ∧ H' = H.new (.cells false TE [.int .i64 n]) := by
  intro j w cargs hr hv
  obtain ⟨u, rfl, hu⟩ := args1 hv
  obtain ⟨u', rfl, hu'⟩ := hu.iface_inv
  cases hu'.int_inv
  exact m_valueOf (fun w => by kernel_rfl) hu' hr
/-! ### Value.Type, Value.IsNil, Value.Elem, Value.Set -/
theorem x_type (t b : Nat) (ht : t = TPF ∨ t = TPE) : XCall Tryd.prog 48 [val t b 150] H fun v H' => v = rt t ∧ H' = H := by
  refine xlook (e := ReflectliteValue.methodAny (ReflectliteValue.valueError "reflectlite.Value.Type" 0) fun t _ _ _ => ReflectliteType.toType t) Tryd.func48 (by kernel_rfl) (by kernel_rfl) (by kernel_rfl) (by kernel_rfl) fun j w cargs hr hv => ?_
  obtain ⟨u, rfl, hu⟩ := args1 hv
  obtain ⟨c, z, hc, rfl⟩ := val_inv hu
  refine ⟨rv t, ?_, vr_rt t⟩
  rcases ht with rfl | rfl <;> kernel_rfl
theorem rlm (z : Sem Value) (f : TypeId → Addr → Nat → Nat → Sem Value) (v : Value) :
    ReflectliteValue.method z f #[v] = (do match ← ReflectliteValue.parts v with | none => z | some (t, a, fl) => f t a fl (fl % 32)) := rfl
theorem parts_PF (a : Addr) (w : World) : (ReflectliteValue.parts (vv TPF a 150)).run Tryd.prog w = .ok (some (TPF, a, 150)) w := by kernel_rfl
theorem parts_PE (a : Addr) (w : World) : (ReflectliteValue.parts (vv TPE a 150)).run Tryd.prog w = .ok (some (TPE, a, 150)) w := by kernel_rfl
theorem isAgg_PF (w : World) : (isAgg TPF).run Tryd.prog w = .ok false w := by kernel_rfl
theorem isAgg_PE (w : World) : (isAgg TPE).run Tryd.prog w = .ok false w := by kernel_rfl
theorem isAgg_F (w : World) : (isAgg TF).run Tryd.prog w = .ok false w := by kernel_rfl
theorem isAgg_E (w : World) : (isAgg TE).run Tryd.prog w = .ok false w := by kernel_rfl
theorem x_isNil (t b c o : Nat) (ht : t = TPF ∨ t = TPE) (hl : loadC H b 0 none = some (.ptr c o)) : XCall Tryd.prog 49 [val t b 150] H fun v H' => v = .bool false ∧ H' = H := by
  refine xlook (e := ReflectliteValue.method (ReflectliteValue.valueError "reflectlite.Value.IsNil" 0) ReflectliteValue.isNil) Tryd.func49 (by kernel_rfl) (by kernel_rfl) (by kernel_rfl) (by kernel_rfl) fun j w cargs hr hv => ?_
  obtain ⟨u, rfl, hu⟩ := args1 hv
  obtain ⟨k, z, hk, rfl⟩ := val_inv hu
  refine ⟨.bool false, ?_, .bool _⟩
  obtain ⟨q, hq, hvq⟩ := hr.loadC hl hk
  obtain ⟨k2, z2, rfl, _⟩ := hvq.ptr_inv
  rw [rlm]
  rcases ht with rfl | rfl
  · simp only [Sem.run_bind, parts_PF, Result.andThen]
    simp [ReflectliteValue.isNil, loadVar, isAgg_PF, hq, Result.andThen]
  · simp only [Sem.run_bind, parts_PE, Result.andThen]
    simp [ReflectliteValue.isNil, loadVar, isAgg_PE, hq, Result.andThen]
theorem elemOf_PF (w : World) : (Rtype.elem? TPF).run Tryd.prog w = .ok (some TF) w := by kernel_rfl
theorem elemOf_PE (w : World) : (Rtype.elem? TPE).run Tryd.prog w = .ok (some TE) w := by kernel_rfl
theorem mk_F (p : Addr) (w : World) : (ReflectliteValue.mk TF p ReflectliteValue.flagAddr).run Tryd.prog w = .ok (vv TF p 406) w := by kernel_rfl
theorem mk_E (p : Addr) (w : World) : (ReflectliteValue.mk TE p ReflectliteValue.flagAddr).run Tryd.prog w = .ok (vv TE p 386) w := by kernel_rfl
theorem x_velem_F (b c : Nat) (hl : loadC H b 0 none = some (.ptr c 0)) : XCall Tryd.prog 58 [val TPF b 150] H fun v H' => v = val TF c 406 ∧ H' = H := by
  refine xlook (e := ReflectliteValue.method (ReflectliteValue.valueError "reflectlite.Value.Elem" 0) ReflectliteValue.elem) Tryd.func58 (by kernel_rfl) (by kernel_rfl) (by kernel_rfl) (by kernel_rfl) fun j w cargs hr hv => ?_
  obtain ⟨u, rfl, hu⟩ := args1 hv
  obtain ⟨k, z, hk, rfl⟩ := val_inv hu
  obtain ⟨q, hq, hvq⟩ := hr.loadC hl hk
  obtain ⟨k2, z2, rfl, hk2⟩ := hvq.ptr_inv
  refine ⟨vv TF ⟨k2, 0, none⟩ 406, ?_, vr_val hk2⟩
  rw [rlm]
  simp only [Sem.run_bind, parts_PF, Result.andThen]
  simp [ReflectliteValue.elem, loadVar, isAgg_PF, hq, Result.andThen, elemOf_PF, mk_F]
theorem x_velem_E (b c : Nat) (hl : loadC H b 0 none = some (.ptr c 0)) : XCall Tryd.prog 58 [val TPE b 150] H fun v H' => v = val TE c 386 ∧ H' = H := by
  refine xlook (e := ReflectliteValue.method (ReflectliteValue.valueError "reflectlite.Value.Elem" 0) ReflectliteValue.elem) Tryd.func58 (by kernel_rfl) (by kernel_rfl) (by kernel_rfl) (by kernel_rfl) fun j w cargs hr hv => ?_
  obtain ⟨u, rfl, hu⟩ := args1 hv
  obtain ⟨k, z, hk, rfl⟩ := val_inv hu
  obtain ⟨q, hq, hvq⟩ := hr.loadC hl hk
  obtain ⟨k2, z2, rfl, hk2⟩ := hvq.ptr_inv
  refine ⟨vv TE ⟨k2, 0, none⟩ 386, ?_, vr_val hk2⟩
  rw [rlm]
  simp only [Sem.run_bind, parts_PE, Result.andThen]
  simp [ReflectliteValue.elem, loadVar, isAgg_PE, hq, Result.andThen, elemOf_PE, mk_E]
theorem rls (v x : Value) : ReflectliteValue.set #[v, x] = (do
    let (some (dst, a, fl), some (src, b, _)) := (← ReflectliteValue.parts v, ← ReflectliteValue.parts x)
      | unsupported (.noEntry "extern/(internal/reflectlite.Value).Set.zeroValue")
    if fl / ReflectliteValue.flagAddr % 2 == 0 then unsupported (.noEntry "extern/(internal/reflectlite.Value).Set.unaddressable")
    let val ← loadVar src b
    if ← Rtype.directlyAssignable dst src then storeVar dst a val
    else if ← Rtype.implements dst src then
      if (← Rtype.kind src) == 20 then
        match val with
        | .nilIface => unsupported (.noEntry "extern/reflectlite: a nil value of one interface type handed on as a value of another")
        | _ => storeVar dst a val
      else storeVar dst a (.iface src val)
    else panicString ("reflectlite.Set: value of type " ++ (← Rtype.spelt src) ++ " is not assignable to type " ++ (← Rtype.spelt dst))
    pure (.tuple #[])) := rfl
theorem parts_Fa (a : Addr) (w : World) : (ReflectliteValue.parts (vv TF a 406)).run Tryd.prog w = .ok (some (TF, a, 406)) w := by kernel_rfl
theorem parts_F (a : Addr) (w : World) : (ReflectliteValue.parts (vv TF a 150)).run Tryd.prog w = .ok (some (TF, a, 150)) w := by kernel_rfl
theorem parts_Ea (a : Addr) (w : World) : (ReflectliteValue.parts (vv TE a 386)).run Tryd.prog w = .ok (some (TE, a, 386)) w := by kernel_rfl
theorem parts_E (a : Addr) (w : World) : (ReflectliteValue.parts (vv TE a 130)).run Tryd.prog w = .ok (some (TE, a, 130)) w := by kernel_rfl
theorem direct_F (w : World) : (Rtype.directlyAssignable TF TF).run Tryd.prog w = .ok true w := by kernel_rfl
theorem direct_E (w : World) : (Rtype.directlyAssignable TE TE).run Tryd.prog w = .ok true w := by kernel_rfl
theorem size_F (w : World) : (sizeOf TF).run Tryd.prog w = .ok 1 w := by kernel_rfl
theorem size_E (w : World) : (sizeOf TE).run Tryd.prog w = .ok 1 w := by kernel_rfl
theorem x_set_F (b c d o : Nat) {H2 : AH} (hl : loadC H d 0 none = some (.ptr b o)) (hs : storeC H c 0 [.ptr b o] = some H2) : XCall Tryd.prog 59 [val TF c 406, val TF d 150] H fun v H' => v = .tuple [] ∧ H' = H2 := by
  intro j w cargs hr hv
  obtain ⟨u, u', rfl, hu, hu'⟩ := args2 hv
  obtain ⟨k, z, hk, rfl⟩ := val_inv hu
  obtain ⟨k', z', hk', rfl⟩ := val_inv hu'
  obtain ⟨q, hq, hvq⟩ := hr.loadC hl hk'
  obtain ⟨w', hrun, hp⟩ := storeC_sound (P := Tryd.prog) hr hk (.cons hvq .nil) hs
  refine ⟨.tuple #[], w', .tuple [], j, H2, ?_, ⟨rfl, rfl⟩, hp, .undef⟩
  rw [run_callFunc_extern Tryd.func59 (by kernel_rfl) (by kernel_rfl) (by kernel_rfl) (e := ReflectliteValue.set) (by kernel_rfl), rls]
  obtain ⟨k2, z2, rfl, hk2⟩ := hvq.ptr_inv
  simp only [Sem.run_bind, parts_Fa, parts_F, Result.andThen]
  simp [ReflectliteValue.flagAddr, loadVar, isAgg_F, hq, Result.andThen, direct_F, storeVar, Value.cells, size_F, hrun]
theorem x_set_E (c d : Nat) (n : Int) {H2 : AH} (hl : loadC H d 0 none = some (.int .i64 n)) (hs : storeC H c 0 [.int .i64 n] = some H2) : XCall Tryd.prog 59 [val TE c 386, val TE d 130] H fun v H' => v = .tuple [] ∧ H' = H2 := by
  intro j w cargs hr hv
  obtain ⟨u, u', rfl, hu, hu'⟩ := args2 hv
  obtain ⟨k, z, hk, rfl⟩ := val_inv hu
  obtain ⟨k', z', hk', rfl⟩ := val_inv hu'
  obtain ⟨q, hq, hvq⟩ := hr.loadC hl hk'
  obtain ⟨w', hrun, hp⟩ := storeC_sound (P := Tryd.prog) hr hk (.cons hvq .nil) hs
  refine ⟨.tuple #[], w', .tuple [], j, H2, ?_, ⟨rfl, rfl⟩, hp, .undef⟩
  rw [run_callFunc_extern Tryd.func59 (by kernel_rfl) (by kernel_rfl) (by kernel_rfl) (e := ReflectliteValue.set) (by kernel_rfl), rls]
  cases hvq.int_inv
  simp only [Sem.run_bind, parts_Ea, parts_E, Result.andThen]
  simp [ReflectliteValue.flagAddr, loadVar, isAgg_E, hq, Result.andThen, direct_E, storeVar, Value.cells, size_E, hrun]
/-! ### Types -/
theorem x_kind (t : Nat) (k : Int) (ht : t = TPF ∧ k = 22 ∨ t = TPE ∧ k = 22 ∨ t = TF ∧ k = 22 ∨ t = TE ∧ k = 2) : XCall Tryd.prog 86 [hd t] H fun v H' => v = .int .u8 k ∧ H' = H := by
  refine xlook (e := ReflectliteType.abiMethod fun t => do pure (.int .u8 (← Rtype.kind t))) Tryd.func86 (by kernel_rfl) (by kernel_rfl) (by kernel_rfl) (by kernel_rfl) fun j w cargs hr hv => ?_
  obtain ⟨u, rfl, hu⟩ := args1 hv
  cases hu
  refine ⟨.int .u8 k, ?_, .int _ _⟩
  rcases ht with ⟨rfl, rfl⟩ | ⟨rfl, rfl⟩ | ⟨rfl, rfl⟩ | ⟨rfl, rfl⟩ <;> kernel_rfl
theorem x_elem (t e : Nat) (ht : t = TPF ∧ e = TF ∨ t = TPE ∧ e = TE) : XCall Tryd.prog 98 [.agg [hd t]] H fun v H' => v = rt e ∧ H' = H := by
  refine xlook (e := ReflectliteType.method ReflectliteType.elem) Tryd.func98 (by kernel_rfl) (by kernel_rfl) (by kernel_rfl) (by kernel_rfl) fun j w cargs hr hv => ?_
  obtain ⟨u, rfl, hu⟩ := args1 hv
  obtain rfl := rr_inv hu
  refine ⟨rv e, ?_, vr_rt e⟩
  rcases ht with ⟨rfl, rfl⟩ | ⟨rfl, rfl⟩ <;> kernel_rfl
theorem x_implements (t : Nat) (ht : t = TF ∨ t = TE) : XCall Tryd.prog 99 [.agg [hd t], rt TErr] H fun v H' => v = .bool true ∧ H' = H := by
  refine xlook (e := ReflectliteType.relation "Implements" ReflectliteType.implements_) Tryd.func99 (by kernel_rfl) (by kernel_rfl) (by kernel_rfl) (by kernel_rfl) fun j w cargs hr hv => ?_
  obtain ⟨u, u', rfl, hu, hu'⟩ := args2 hv
  obtain rfl := rr_inv hu
  obtain rfl := rt_inv hu'
  refine ⟨.bool true, ?_, .bool _⟩
  rcases ht with rfl | rfl <;> kernel_rfl
theorem x_typeOf_F (b o : Nat) : XCall Tryd.prog 51 [.iface TF (.ptr b o)] H fun v H' => v = rt TF ∧ H' = H := by
  refine xlook (e := ReflectliteType.typeOf) Tryd.func51 (by kernel_rfl) (by kernel_rfl) (by kernel_rfl) (by kernel_rfl) fun j w cargs hr hv => ?_
  obtain ⟨u, rfl, hu⟩ := args1 hv
  obtain ⟨u', rfl, hu'⟩ := hu.iface_inv
  exact ⟨rv TF, by kernel_rfl, vr_rt TF⟩
theorem x_typeOf_E (n : Int) : XCall Tryd.prog 51 [.iface TE (.int .i64 n)] H fun v H' => v = rt TE ∧ H' = H := by
  refine xlook (e := ReflectliteType.typeOf) Tryd.func51 (by kernel_rfl) (by kernel_rfl) (by kernel_rfl) (by kernel_rfl) fun j w cargs hr hv => ?_
  obtain ⟨u, rfl, hu⟩ := args1 hv
  obtain ⟨u', rfl, hu'⟩ := hu.iface_inv
  exact ⟨rv TE, by kernel_rfl, vr_rt TE⟩
theorem x_assignable (t e : Nat) (r : Bool) (ht : t = TF ∧ e = TF ∧ r = true ∨ t = TF ∧ e = TE ∧ r = false ∨ t = TE ∧ e = TF ∧ r = false ∨ t = TE ∧ e = TE ∧ r = true) : XCall Tryd.prog 96 [.agg [hd t], rt e] H fun v H' => v = .bool r ∧ H' = H := by
  refine xlook (e := ReflectliteType.relation "AssignableTo" ReflectliteType.assignableTo) Tryd.func96 (by kernel_rfl) (by kernel_rfl) (by kernel_rfl) (by kernel_rfl) fun j w cargs hr hv => ?_
  obtain ⟨u, u', rfl, hu, hu'⟩ := args2 hv
  obtain rfl := rr_inv hu
  obtain rfl := rt_inv hu'
  refine ⟨.bool r, ?_, .bool _⟩
  rcases ht with ⟨rfl, rfl, rfl⟩ | ⟨rfl, rfl, rfl⟩ | ⟨rfl, rfl, rfl⟩ | ⟨rfl, rfl, rfl⟩ <;> kernel_rfl
theorem x_comparable : XCall Tryd.prog 97 [.agg [hd TE]] H fun v H' => v = .bool true ∧ H' = H := by
  refine xlook (e := ReflectliteType.method fun t => do Rtype.noPackHeld "Comparable" t; pure (.bool (← typeInfo t).comparable)) Tryd.func97 (by kernel_rfl) (by kernel_rfl) (by kernel_rfl) (by kernel_rfl) fun j w cargs hr hv => ?_
  obtain ⟨u, rfl, hu⟩ := args1 hv
  obtain rfl := rr_inv hu
  exact ⟨.bool true, by kernel_rfl, .bool _⟩
/-! ### Methods by their names -/
theorem mr_kind (t : Nat) : MethR Tryd.prog TR "Kind" (.agg [hd t]) 86 (hd t) := fun j w u hu => by
  obtain rfl := rr_inv hu
  exact ⟨hv t, by kernel_rfl, .hdl⟩
theorem mr_elem (v : AV) : MethR Tryd.prog TR "Elem" v 98 v := MethR.of (by kernel_rfl) v
theorem mr_implements (v : AV) : MethR Tryd.prog TR "Implements" v 99 v := MethR.of (by kernel_rfl) v
theorem mr_assignable (v : AV) : MethR Tryd.prog TR "AssignableTo" v 96 v := MethR.of (by kernel_rfl) v
theorem mr_comparable (v : AV) : MethR Tryd.prog TR "Comparable" v 97 v := MethR.of (by kernel_rfl) v
theorem mr_unwrap (v : AV) : MethR Tryd.prog TF "Unwrap" v 91 v := MethR.of (by kernel_rfl) v
end Go.Proofs.YtcgkadfgojmmlaaDoor.EAs

/- A region that draws its order: each order comes to what the told one comes to. No condition. -/
import Derived.Test.YtllkdoefonehoaaGreatDoorA17d
set_option linter.unusedVariables false
set_option linter.unusedSimpArgs false
namespace Go.Proofs.YtllkdoefonehoaaGreatDoor.Abs
open Go Go.RowKit

section
variable {P : Program} {N : Nat} {ops : Array Oper} {D : List DOp} {K : Tms → AH → Prop} {j0 : Inj} {H0 : AH} {w0 : World} {tmI : Tms}
  {S : Nat → Bool} {a : Act} {w : World} {Cd ac : List Nat} {rest : List DStep} {steps : List IStep} {val : Nat → AV} {eff : Nat → Option (Nat × AObj)} {H HS : AH} {pd : Pend} {j : Inj}

def addS (S : Nat → Bool) (i : Nat) : Nat → Bool := fun k => S k || k == i
theorem addS_same (S : Nat → Bool) (i : Nat) : addS S i i = true := by simp [addS]
theorem addS_ne (S : Nat → Bool) {i k : Nat} (h : k ≠ i) : addS S i k = S k := by simp [addS, h]
theorem addS_false {i k : Nat} (h : addS S i k = false) : k ≠ i ∧ S k = false := by
  simp only [addS, Bool.or_eq_false_iff, beq_eq_false_iff_ne] at h
  exact ⟨h.2, h.1⟩

theorem looks_guard {d : DOp} {g : Nat} {want : Bool} (h : d.g = some (g, want)) : g ∈ d.looks := by simp [DOp.looks, h, guardT]
theorem looks_opd {d : DOp} {t : Nat} (h : IOpd.tmp t ∈ d.op.opds) : t ∈ d.looks := by
  refine List.mem_append.2 (.inr (List.mem_flatMap.2 ⟨_, h, by simp [IOpd.tmps]⟩))
theorem wanted_congr {d : DOp} {tm tm' : Tms} (h : ∀ t ∈ d.looks, tm t = tm' t) : wantedA tm d.g = wantedA tm' d.g := by
  cases hg : d.g with
  | none => rfl
  | some q => obtain ⟨g, want⟩ := q; simp only [wantedA, h g (looks_guard hg)]
theorem ev_congr {d : DOp} {tm tm' : Tms} (h : ∀ t ∈ d.looks, tm t = tm' t) : ∀ x ∈ d.op.opds, x.ev tm = x.ev tm' := by
  intro x hx
  cases x with
  | tmp t => exact h t (looks_opd hx)
  | const v => rfl
theorem conflict_look {a b : DOp} {t : Nat} (h : a.dst = some t) (hb : t ∈ b.looks) : conflict a b = true := by
  unfold conflict
  rw [h]
  simp only [List.contains_iff_mem.2 hb, Bool.true_or]
theorem conflict_dst {a b : DOp} {t : Nat} (h : a.dst = some t) (hb : b.dst = some t) : conflict a b = true := by simp [conflict, h, hb]
theorem conflict_back {a b : DOp} {t : Nat} (h : b.dst = some t) (hb : t ∈ a.looks) : conflict a b = true := by
  unfold conflict
  rw [h]
  simp only [List.contains_iff_mem.2 hb, Bool.or_true]
theorem dstOf_some {k t : Nat} (h : dstOf D k = some t) : ∃ d, D[k]? = some d ∧ d.dst = some t := by
  simp only [dstOf, Option.bind_eq_some_iff] at h; exact h

/-- A step that is behind one that was not run was not run. -/
theorem Inv.later (h : Inv P N ops D K j0 H0 w0 tmI S a w Cd ac rest steps val eff H HS pd j) {L1 L2 : List Nat} {i k : Nat} (hsp : Cd = L1 ++ i :: L2) (hk : k ∈ L2) (hS : S i = false) {di dk : DOp} (hdi : D[i]? = some di) (hdk : D[k]? = some dk) (hc : conflict di dk = true) : S k = false := by
  cases hSk : S k with
  | false => rfl
  | true =>
    obtain ⟨A, B, rfl⟩ := List.append_of_mem hk
    have := h.stat.conf (L1 ++ i :: A) k B (by rw [hsp]; simp) i (by simp) dk di hdk hdi hc
    have := h.closed.of_mem this hSk
    rw [hS] at this; cases this
/-- What a quiet step that is ready looks at is what it was told at. -/
theorem Inv.looks_told (h : Inv P N ops D K j0 H0 w0 tmI S a w Cd ac rest steps val eff H HS pd j) {L1 L2 : List Nat} {i : Nat} (hsp : Cd = L1 ++ i :: L2) (hS : S i = false)
    (hready : ∀ o, ops[i]? = some o → ∀ e ∈ o.after, Region.binds .any e = true → S e.on = true) {di : DOp} (hdi : D[i]? = some di) : ∀ t ∈ di.looks, foldA D val S Cd tmI t = foldA D val (fun _ => true) L1 tmI t := by
  intro t ht
  rw [hsp, foldA_append]
  have h1 : ∀ tm, foldA D val S (i :: L2) tm t = tm t := by
    intro tm
    refine foldA_none (fun k hk hd => ?_)
    rcases List.mem_cons.1 hk with rfl | hk
    · exact hS
    · obtain ⟨dk, hdk, hdt⟩ := dstOf_some hd
      exact h.later hsp hk hS hdi hdk (conflict_back hdt ht)
  rw [h1]
  refine foldA_agree (fun k hk hd => ?_) rfl
  obtain ⟨dk, hdk, hdt⟩ := dstOf_some hd
  exact h.closed.anc (h.stat.conf L1 i L2 hsp k hk di dk hdi hdk (conflict_look hdt ht)) hready
theorem fold_add (h : Inv P N ops D K j0 H0 w0 tmI S a w Cd ac rest steps val eff H HS pd j) {L1 L2 : List Nat} {i : Nat} (hsp : Cd = L1 ++ i :: L2) (hS : S i = false) {di : DOp} (hdi : D[i]? = some di) :
    foldA D val (addS S i) Cd tmI = put (foldA D val S Cd tmI) di.dst (val i) := by
  funext t
  have hdst : dstOf D i = di.dst := by simp [dstOf, hdi]
  have hnd := h.stat.nodup
  rw [hsp] at hnd
  have hiL2 : i ∉ L2 := by
    have := (List.nodup_append.1 hnd).2.1
    exact (List.nodup_cons.1 this).1
  by_cases hd : di.dst = some t
  · have hl2 : ∀ tm, foldA D val (addS S i) L2 tm t = tm t := by
      intro tm
      refine foldA_none (fun k hk hdk => ?_)
      obtain ⟨dk, hdk', hdt⟩ := dstOf_some hdk
      rw [addS_ne S (fun (e : k = i) => hiL2 (by rw [← e]; exact hk))]
      exact h.later hsp hk hS hdi hdk' (conflict_dst hd hdt)
    rw [hsp, foldA_append]
    simp only [foldA, addS_same, if_true]
    rw [hl2, hdst, hd]
    show upd _ t (val i) t = upd _ t (val i) t
    rw [upd_same, upd_same]
  · rw [put_far _ _ hd]
    refine foldA_agree (fun k hk hdk => ?_) rfl
    by_cases e : k = i
    · subst e; rw [hdst] at hdk; exact absurd hdk hd
    · exact addS_ne S e
theorem compD {i : Nat} {d : DOp} (hD : compDOps P N ops ops.toList = some D) (hd : D[i]? = some d) {o : Oper} (ho : ops[i]? = some o) : compDOp P N ops o = some d := by
  obtain ⟨o', ho', hc⟩ := (compDOps_get hD).2 i d hd
  have : ops[i]? = some o' := by simpa using ho'
  rw [ho] at this
  cases this
  exact hc
theorem compD_inv {d : DOp} {o : Oper} (hc : compDOp P N ops o = some d) : dstOk N o.dst = true ∧ d.dst = o.dst ∧ compG N ops o.guard = some d.g ∧
    ((∃ no, d.op = .n no ∧ compN P o.op = some no ∧ no.opds.all (constOk P.globals.size) = true) ∨ ∃ eo, d.op = .e eo ∧ compE P o.op = some eo) := by
  unfold compDOp at hc
  split at hc
  · rename_i hdk
    simp only [Option.bind_eq_some_iff] at hc
    obtain ⟨g, hg, hc⟩ := hc
    split at hc
    · rename_i no hno
      split at hc
      · rename_i hok
        cases hc
        exact ⟨hdk, rfl, hg, .inl ⟨no, rfl, hno, hok⟩⟩
      · cases hc
    · simp only [Option.map_eq_some_iff] at hc
      obtain ⟨eo, heo, rfl⟩ := hc
      exact ⟨hdk, rfl, hg, .inr ⟨eo, rfl, heo⟩⟩
  · cases hc

/-- The state behind a quiet step. -/
theorem Inv.ran (h : Inv P N ops D K j0 H0 w0 tmI S a w Cd ac rest steps val eff H HS pd j) {L1 L2 : List Nat} {i : Nat} (hsp : Cd = L1 ++ i :: L2) (hS : S i = false) (hready : ∀ o, ops[i]? = some o → ∀ e ∈ o.after, Region.binds .any e = true → S e.on = true)
    {di : DOp} (hdi : D[i]? = some di) {j' : Inj} {HS' : AH} {w' : World} {a' : Act} (htr : TR j' N (put (foldA D val S Cd tmI) di.dst (val i)) a') (hpost : Post P j0 H0 w0 j' HS' w') (hnext : HS'.next = HS.next) (hle : HS.le HS')
    (hj : ∀ b, (∀ o, eff i ≠ some (b, o)) → j' b = j b) (heff : ∀ b o, eff i = some (b, o) → HS'.at_ b = some o) :
    Inv P N ops D K j0 H0 w0 tmI (addS S i) a' w' Cd ac rest steps val eff H HS' pd j' := by
  have hi : i ∈ Cd := by rw [hsp]; simp
  refine ⟨h.go, h.run, h.stat, ?_, ?_, ?_, ?_, hpost, by rw [hnext, h.next], ?_, ?_, ?_, ?_, h.x5, ?_⟩
  · intro k hk
    by_cases e : k = i
    · subst e; exact hi
    · rw [addS_ne S e] at hk; exact h.sub k hk
  · intro k hk hE
    by_cases e : k = i
    · subst e; exact addS_same S k
    · rw [addS_ne S e]; exact h.eS k hk hE
  · intro k o hk ho e he hb
    by_cases ek : k = i
    · subst ek
      have := hready o ho e he hb
      simp only [addS, this, Bool.true_or]
    · rw [addS_ne S ek] at hk
      have := h.closed k o hk ho e he hb
      simp only at this
      simp only [addS, this, Bool.true_or]
  · rw [fold_add h hsp hS hdi]; exact htr
  · intro b o hb
    rcases h.x1 b o hb with hs | ⟨k, h1, h2, h3, h4⟩
    · exact .inl (hle b o hs)
    · by_cases e : k = i
      · subst e; exact .inl (heff b o h4)
      · exact .inr ⟨k, h1, h2, by rw [addS_ne S e]; exact h3, h4⟩
  · intro k hk hSk b o he
    obtain ⟨hne, hSk⟩ := addS_false hSk
    obtain ⟨h1, h2, h3⟩ := h.x2 k hk hSk b o he
    refine ⟨?_, h2, h3⟩
    rw [hj b (fun q hq => hne (h.x3 k hk i hi hSk hS b o q he hq))]
    exact h1
  · intro p hp q hq hSp hSq b o o' he1 he2
    exact h.x3 p hp q hq (addS_false hSp).2 (addS_false hSq).2 b o o' he1 he2
  · intro k b o hk
    obtain ⟨h1, h2, h3, h4⟩ := h.x4 k b o hk
    refine ⟨h1, h2, h3, fun hka => ?_⟩
    obtain ⟨h5, h6⟩ := h4 hka
    refine ⟨h5, fun hSk => ?_⟩
    by_cases e : k = i
    · subst e; exact heff b o h2
    · rw [addS_ne S e] at hSk
      exact hle b o (h6 hSk)
  · intro M1 k M2 hsp2 hSk
    exact h.info M1 k M2 hsp2 (addS_false hSk).2

/-- A quiet step that was told is run. -/
theorem Inv.exec_n (hD : compDOps P N ops ops.toList = some D) (h : Inv P N ops D K j0 H0 w0 tmI S a w Cd ac rest steps val eff H HS pd j) {i : Nat} (hi : i ∈ Cd) (hS : S i = false)
    {o : Oper} (ho : ops[i]? = some o) (hready : ∀ e ∈ o.after, Region.binds .any e = true → S e.on = true) {Q : Exit → Act → World → Prop} {next : Act → World → Prop}
    (hn : ∀ a' w' HS' j', Inv P N ops D K j0 H0 w0 tmI (addS S i) a' w' Cd ac rest steps val eff H HS' pd j' → next a' w') : wpOp P ops Q i next a w := by
  obtain ⟨L1, L2, hsp⟩ := List.append_of_mem hi
  have hready' : ∀ o, ops[i]? = some o → ∀ e ∈ o.after, Region.binds .any e = true → S e.on = true := fun o' ho' => by rw [ho] at ho'; cases ho'; exact hready
  obtain ⟨d, no, hd, hop, hinfo⟩ := h.info L1 i L2 hsp hS
  obtain ⟨hdk, hdst, hg, hk⟩ := compD_inv (compD hD hd ho)
  have hno : compN P o.op = some no ∧ no.opds.all (constOk P.globals.size) = true := by
    rcases hk with ⟨no', h1, h2, h3⟩ | ⟨eo, h1, _⟩
    · rw [hop] at h1; cases h1; exact ⟨h2, h3⟩
    · rw [hop] at h1; cases h1
  have hlook := h.looks_told hsp hS hready' hd
  have hev := EvR.of h.tr h.post.rel.globE
  unfold wpOp
  rw [ho]
  simp only
  rcases hinfo with ⟨hw, hv, he⟩ | ⟨hw, hinfo⟩
  · have hw' : wantedA (foldA D val S Cd tmI) d.g = some false := by rw [wanted_congr hlook]; exact hw
    rw [wanted_sound (ops := ops) h.tr hg hw']
    simp only [Bool.false_eq_true, if_false]
    refine hn _ _ HS j (h.ran hsp hS hready' hd (by rw [hdst, hv]; exact h.tr.put hdk .undef) h.post rfl (fun b o hb => hb) (fun b _ => rfl) (fun b q hb => by rw [he] at hb; cases hb))
  · have hw' : wantedA (foldA D val S Cd tmI) d.g = some true := by rw [wanted_congr hlook]; exact hw
    rw [wanted_sound (ops := ops) h.tr hg hw']
    simp only [if_true]
    left
    have hevc : ∀ x ∈ no.opds, x.ev (foldA D val (fun _ => true) L1 tmI) = x.ev (foldA D val S Cd tmI) := fun x hx => (ev_congr (d := d) hlook x (by rw [hop]; exact hx)).symm
    have hquiet : ∀ (id : Nat), eff i = none → nop (·.ev (foldA D val S Cd tmI)) HS id no = some (val i, none) → o.wp P a w next Q := by
      intro id he hnop
      obtain ⟨vc, hx, hvr⟩ := nop_sound hno.1 hev h.post.rel hnop
      unfold Oper.wp
      rw [hx]
      exact hn _ _ HS j (h.ran hsp hS hready' hd (by rw [hdst]; exact h.tr.put hdk hvr) h.post rfl (fun b o hb => hb) (fun b _ => rfl) (fun b q hb => by rw [he] at hb; cases hb))
    rcases hinfo with ⟨hrd, id, hnop, hid⟩ | ⟨hrd, he, hnop⟩
    · have hnop' := hnop HS
      rw [nop_congr hevc] at hnop'
      cases he : eff i with
      | none => rw [he] at hnop'; exact hquiet id he hnop'
      | some q =>
        obtain ⟨b, blk⟩ := q
        have hb := hid _ he
        simp only at hb
        subst hb
        rw [he] at hnop'
        obtain ⟨vc, x, w', hx, hh, h1, h2, h3, hor, _, hvr⟩ := nop_sound hno.1 hev h.post.rel hnop'
        obtain ⟨hjn, hlt, hge⟩ := h.x2 i hi hS b blk he
        have hp := Post.add h.post.rel (id := b) (n := HS.next) hjn (Nat.le_refl _) (by rw [h.next]; exact hlt) hh h1 h2 h3 hor
        unfold Oper.wp
        rw [hx]
        refine hn _ w' _ _ (h.ran hsp hS hready' hd (by rw [hdst]; exact (h.tr.mono hp.ext).put hdk (hvr _ hp.ext (Inj.add_same _ _ _))) (h.post.transW hp (fun c hc => Inj.add_ne j _ (by omega))) rfl (fun c q hc => ?_) (fun c hc => Inj.add_ne j _ (fun e => hc blk (by rw [e]; exact he))) (fun c q hc => ?_))
        · have : c ≠ b := fun e => by
            subst e
            obtain ⟨c2, x2, hc2, _⟩ := h.post.rel.obj c q hc
            rw [hjn] at hc2; cases hc2
          simp only [if_neg this]
          exact hc
        · rw [he] at hc
          cases hc
          simp
    · refine hquiet 0 he ?_
      rw [← nop_congr hevc]
      refine nop_at hnop (fun x hx c hc q hq => ?_)
      have hjc : ∃ z, j c = some z := by
        cases x with
        | tmp t =>
          rw [hevc _ hx] at hc
          exact touches_dom (h.tr.tmps t) hc
        | const v =>
          have := List.all_eq_true.1 hno.2 _ hx
          simp only [constOk] at this
          have hc' : touches v = some c := hc
          rw [hc'] at this
          obtain ⟨z, hz⟩ := h.post.rel.globE c (by simpa using this)
          exact ⟨_, hz⟩
      obtain ⟨z, hz⟩ := hjc
      rcases h.x1 c q hq with hs | ⟨k, _, h2, h3, h4⟩
      · exact hs
      · rw [(h.x2 k h2 h3 c q h4).1] at hz; cases hz
end
end Go.Proofs.YtllkdoefonehoaaGreatDoor.Abs

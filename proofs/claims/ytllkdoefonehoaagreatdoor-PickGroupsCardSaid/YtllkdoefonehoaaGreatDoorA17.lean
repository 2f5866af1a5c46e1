/- A region that draws its order. No condition. -/
import Derived.Test.YtllkdoefonehoaaGreatDoorA17e
set_option linter.unusedVariables false
set_option linter.unusedSimpArgs false
namespace Go.Proofs.YtllkdoefonehoaaGreatDoor.Abs
open Go Go.RowKit

theorem reGo_spec {D : List DOp} {M : List Nat} {e : Nat} : ∀ (Cd : List Nat) (re : List (Nat × Guard × NOp)), reGo D M e Cd = some re → ∀ L1 k L2, Cd = L1 ++ k :: L2 → ∀ d no, D[k]? = some d → d.op = .n no → no.reads = true → ancB M k e = false →
    ∃ t, d.dst = some t ∧ (t, d.g, no) ∈ re ∧ t ∉ d.looks ∧ ∀ q ∈ L2 ++ [e], ∀ x, dstOf D q = some x → x ∉ d.looks ∧ x ≠ t
  | [], re, h, L1, k, L2, hs, _, _, _, _, _, _ => by simp at hs
  | c :: rest, re, h, L1, k, L2, hs, d, no, hd, ho, hr, ha => by
    simp only [reGo, Option.bind_eq_some_iff] at h
    obtain ⟨re', hre', h⟩ := h
    cases L1 with
    | nil =>
      simp only [List.nil_append, List.cons.injEq] at hs
      obtain ⟨rfl, rfl⟩ := hs
      rw [hd] at h
      simp only [ho, hr, ha, Bool.not_false, Bool.and_self, if_true] at h
      split at h
      · rename_i t ht
        split at h
        · rename_i hc
          cases h
          simp only [Bool.and_eq_true, Bool.not_eq_true', List.all_eq_true] at hc
          refine ⟨t, ht, List.mem_cons_self .., fun hm => ?_, fun q hq x hx => ?_⟩
          · rw [List.contains_iff_mem.2 hm] at hc; exact absurd hc.1 (by simp)
          · have := hc.2 q hq
            rw [hx] at this
            simp only [Bool.and_eq_true, Bool.not_eq_true', bne_iff_ne, ne_eq] at this
            refine ⟨fun hm => ?_, this.2⟩
            rw [List.contains_iff_mem.2 hm] at this
            exact absurd this.1 (by simp)
        · cases h
      · cases h
    | cons c' L1 =>
      simp only [List.cons_append, List.cons.injEq] at hs
      obtain ⟨rfl, rfl⟩ := hs
      obtain ⟨t, h1, h2, h3⟩ := reGo_spec _ re' hre' L1 k L2 rfl d no hd ho hr ha
      refine ⟨t, h1, ?_, h3⟩
      split at h
      · split at h
        · split at h
          · split at h
            · split at h
              · cases h; exact List.mem_cons_of_mem _ h2
              · cases h
            · cases h
          · cases h; exact h2
        · cases h; exact h2
      · cases h

/-- What is told behind an acting step is forced behind it. -/
theorem drawGo_behind {ops : Array Oper} {D : List DOp} {M : List Nat} (hM : M = ancM ops) {e : Nat} (hE : isE D e = true) : ∀ (rest : List DStep) (Cd ac : List Nat) (steps : List IStep), drawGo ops D M rest Cd ac = some steps → e ∈ Cd →
    ∀ i, i < D.length → i ∉ Cd → Anc ops e i
  | [], Cd, ac, steps, h, he, i, hi, hni => by
    simp only [drawGo] at h
    split at h
    · rename_i hall
      have := List.all_eq_true.1 hall i (List.mem_range.2 hi)
      exact absurd (List.contains_iff_mem.1 this) hni
    · cases h
  | .op k :: rest, Cd, ac, steps, h, he, i, hi, hni => by
    simp only [drawGo] at h
    split at h
    · rename_i d hd
      split at h
      · rename_i hm
        by_cases e1 : i = k
        · subst e1
          simp only [mayCome, Bool.and_eq_true, List.all_eq_true] at hm
          have := hm.2 e he
          rw [hE] at this
          subst hM
          exact ancB_sound (by simpa using this)
        · have hrec : ∀ ac steps, drawGo ops D M rest (Cd ++ [k]) ac = some steps → Anc ops e i := fun ac steps h' =>
            drawGo_behind hM hE rest _ ac steps h' (List.mem_append.2 (.inl he)) i hi (fun hh => by
              rcases List.mem_append.1 hh with hh | hh
              · exact hni hh
              · simp at hh; exact e1 hh)
          split at h
          · simp only [Option.map_eq_some_iff] at h
            obtain ⟨s, hs, _⟩ := h
            exact hrec _ _ hs
          · split at h
            · simp only [Option.bind_eq_some_iff, Option.map_eq_some_iff] at h
              obtain ⟨re, _, s, hs, _⟩ := h
              exact hrec _ _ hs
            · cases h
      · cases h
    · cases h
  | .late k :: rest, Cd, ac, steps, h, he, i, hi, hni => by
    simp only [drawGo] at h
    split at h
    · rename_i d hd
      split at h
      · rename_i hm
        by_cases e1 : i = k
        · subst e1
          simp only [mayCome, Bool.and_eq_true, List.all_eq_true] at hm
          have := hm.2 e he
          rw [hE] at this
          subst hM
          exact ancB_sound (by simpa using this)
        · split at h
          · split at h
            · simp only [Option.map_eq_some_iff] at h
              obtain ⟨s, hs, _⟩ := h
              exact drawGo_behind hM hE rest _ ac s hs (List.mem_append.2 (.inl he)) i hi (fun hh => by
                rcases List.mem_append.1 hh with hh | hh
                · exact hni hh
                · simp at hh; exact e1 hh)
            · cases h
          · cases h
      · cases h
    · cases h
  | .act k :: rest, Cd, ac, steps, h, he, i, hi, hni => by
    simp only [drawGo] at h
    split at h
    · simp only [Option.map_eq_some_iff] at h
      obtain ⟨s, hs, _⟩ := h
      exact drawGo_behind hM hE rest _ _ s hs he i hi hni
    · cases h

section
variable {P : Program} {N : Nat} {ops : Array Oper} {D : List DOp} {K : Tms → AH → Prop} {j0 : Inj} {H0 : AH} {w0 : World} {tmI : Tms}
  {S : Nat → Bool} {a : Act} {w : World} {Cd ac : List Nat} {rest : List DStep} {steps : List IStep} {val : Nat → AV} {eff : Nat → Option (Nat × AObj)} {H HS : AH} {pd : Pend} {j : Inj}

/-- The state behind an acting step. -/
theorem Inv.acted {e : Nat} {d : DOp} {steps' : List IStep} (h : Inv P N ops D K j0 H0 w0 tmI S a w Cd ac (.op e :: rest) steps val eff H HS pd j) (hE : isE D e = true) (hd : D[e]? = some d) (hlt : e < ops.size) (hm : mayCome ops D (ancM ops) Cd e d = true)
    (hgo : drawGo ops D (ancM ops) rest (Cd ++ [e]) ac = some steps') (hready : ∀ o, ops[e]? = some o → ∀ x ∈ o.after, Region.binds .any x = true → S x.on = true) (hac : ∀ k ∈ ac, S k = true)
    {v : AV} {j' : Inj} {H' HS' : AH} {a' : Act} {w' : World} (hrun : IRun P K steps' pd (put (foldA D val (fun _ => true) Cd tmI) d.dst v) H') (htr : TR j' N (put (foldA D val S Cd tmI) d.dst v) a') (hpost : Post P j0 H0 w0 j' HS' w') (hnext : HS'.next = H'.next)
    (hH : H.next ≤ H'.next) (hle : H'.le HS') (hfresh : ∀ b, b < H.next → j' b = j b)
    (hpend : ∀ b o z, H.at_ b = none → HS.at_ b = some o → j b = some z → H'.at_ b = none ∧ HS'.at_ b = some o)
    (hre : ∀ L1 k L2, Cd = L1 ++ k :: L2 → S k = false → ∀ dk no, D[k]? = some dk → dk.op = .n no → no.reads = true → wantedA (foldA D val (fun _ => true) L1 tmI) dk.g = some true → nop (·.ev (foldA D val (fun _ => true) L1 tmI)) H 0 no = some (val k, none) →
      nop (·.ev (foldA D val (fun _ => true) L1 tmI)) H' 0 no = some (val k, none)) :
    Inv P N ops D K j0 H0 w0 tmI (addS S e) a' w' (Cd ++ [e]) ac rest steps' (setF val e v) (setF eff e none) H' HS' pd j' := by
  have hm' := hm
  simp only [mayCome, Bool.and_eq_true, Bool.not_eq_true'] at hm'
  have hni : e ∉ Cd := fun hh => by rw [List.contains_iff_mem.2 hh] at hm'; exact absurd hm'.1.1.1 (by simp)
  have hne : ∀ k ∈ Cd, k ≠ e := fun k hk he => hni (he ▸ hk)
  have hdst : dstOf D e = d.dst := by simp [dstOf, hd]
  refine ⟨hgo, ?_, h.stat.snoc hlt hd hm, ?_, ?_, ?_, ?_, hpost, hnext, fun b o hb => .inl (hle b o hb), ?_, ?_, ?_, h.x5, ?_⟩
  · rw [fold_snoc hni, if_pos rfl, hdst]; exact hrun
  · intro k hk
    by_cases ek : k = e
    · subst ek; exact List.mem_append.2 (.inr (by simp))
    · rw [addS_ne S ek] at hk; exact List.mem_append.2 (.inl (h.sub k hk))
  · intro k hk hEk
    by_cases ek : k = e
    · subst ek; exact addS_same S k
    · rw [addS_ne S ek]
      rcases List.mem_append.1 hk with hk | hk
      · exact h.eS k hk hEk
      · simp at hk; exact absurd hk ek
  · intro k o hk ho x hx hb
    by_cases ek : k = e
    · subst ek
      have := hready o ho x hx hb
      simp only [addS, this, Bool.true_or]
    · rw [addS_ne S ek] at hk
      have := h.closed k o hk ho x hx hb
      simp only at this
      simp only [addS, this, Bool.true_or]
  · rw [fold_snoc hni, if_pos (addS_same S e), hdst, foldA_congr_p (q := S) (fun k hk => addS_ne S (hne k hk))]
    exact htr
  · intro k hk hSk b o he
    obtain ⟨hke, hSk⟩ := addS_false hSk
    rcases List.mem_append.1 hk with hk | hk
    · rw [setF_ne eff none hke] at he
      obtain ⟨h1, h2, h3⟩ := h.x2 k hk hSk b o he
      exact ⟨by rw [hfresh b h2]; exact h1, Nat.lt_of_lt_of_le h2 hH, h3⟩
    · simp at hk; exact absurd hk hke
  · intro p hp q hq hSp hSq b o o' he1 he2
    obtain ⟨hpe, hSp⟩ := addS_false hSp
    obtain ⟨hqe, hSq⟩ := addS_false hSq
    rw [setF_ne eff none hpe] at he1
    rw [setF_ne eff none hqe] at he2
    have hp' : p ∈ Cd := by
      rcases List.mem_append.1 hp with hp | hp
      · exact hp
      · simp at hp; exact absurd hp hpe
    have hq' : q ∈ Cd := by
      rcases List.mem_append.1 hq with hq | hq
      · exact hq
      · simp at hq; exact absurd hq hqe
    exact h.x3 p hp' q hq' hSp hSq b o o' he1 he2
  · intro k b o hk
    obtain ⟨h1, h2, h3, h4⟩ := h.x4 k b o hk
    have hke := hne k h1
    refine ⟨List.mem_append.2 (.inl h1), by rw [setF_ne eff none hke]; exact h2, Nat.lt_of_lt_of_le h3 hH, fun hka => ?_⟩
    obtain ⟨h5, h6⟩ := h4 hka
    cases hSk : S k with
    | true =>
      obtain ⟨c, x, hc, _⟩ := h.post.rel.obj b o (h6 hSk)
      obtain ⟨h7, h8⟩ := hpend b o _ h5 (h6 hSk) hc
      exact ⟨h7, fun _ => h8⟩
    | false =>
      obtain ⟨h7, h8, _⟩ := h.x2 k h1 hSk b o h2
      refine ⟨?_, fun hs => ?_⟩
      · cases hb : H'.at_ b with
        | none => rfl
        | some q =>
          obtain ⟨c, x, hc, _⟩ := hpost.rel.obj b q (hle b q hb)
          rw [hfresh b h8, h7] at hc; cases hc
      · rw [addS_ne S hke, hSk] at hs; cases hs
  · intro L1 k L2 hsp hSk
    obtain ⟨hke, hSk⟩ := addS_false hSk
    rcases split_snoc hsp with ⟨rfl, rfl, rfl⟩ | ⟨L3, rfl, hsp2⟩
    · exact absurd rfl hke
    · have hk : k ∈ Cd := by rw [hsp2]; simp
      have ee : foldA D (setF val e v) (fun _ => true) L1 tmI = foldA D val (fun _ => true) L1 tmI := foldA_val (fun q hq _ => setF_ne val v (hne q (by rw [hsp2]; simp [hq])))
      rw [ee]
      have hin := h.info L1 k L3 hsp2 hSk
      refine NInfo.congr (val := val) (eff := eff) ?_ (setF_ne val v hke) (setF_ne eff none hke)
      obtain ⟨dk, no, hdk, hop, hin⟩ := hin
      refine ⟨dk, no, hdk, hop, hin.imp id (fun ⟨hw, hin⟩ => ⟨hw, hin.imp id (fun ⟨hr, he, hn⟩ => ⟨hr, he, hre L1 k L3 hsp2 hSk dk no hdk hop hr hw hn⟩)⟩)⟩

theorem Inv.exec_e {e : Nat} (hD : compDOps P N ops ops.toList = some D) (h : Inv P N ops D K j0 H0 w0 tmI S a w Cd ac (.op e :: rest) steps val eff H HS pd j) (hE : isE D e = true)
    {o : Oper} (ho : ops[e]? = some o) (hready : ∀ x ∈ o.after, Region.binds .any x = true → S x.on = true) {Q : Exit → Act → World → Prop} {next : Act → World → Prop}
    (hn : ∀ a' w' Cd' rest' steps' val' eff' H' HS' j', Inv P N ops D K j0 H0 w0 tmI (addS S e) a' w' Cd' ac rest' steps' val' eff' H' HS' pd j' → next a' w') : wpOp P ops Q e next a w := by
  have hready' : ∀ o, ops[e]? = some o → ∀ x ∈ o.after, Region.binds .any x = true → S x.on = true := fun o' ho' => by rw [ho] at ho'; cases ho'; exact hready
  have hlt : e < ops.size := (Array.getElem?_eq_some_iff.1 ho).1
  have hgo := h.go
  simp only [drawGo] at hgo
  split at hgo
  case h_2 => cases hgo
  rename_i d hd
  split at hgo
  case isFalse => cases hgo
  rename_i hm
  split at hgo
  · rename_i no hop
    simp [isE, hd, hop] at hE
  rename_i eo hop
  split at hgo
  case isFalse => cases hgo
  rename_i hac
  simp only [Option.bind_eq_some_iff, Option.map_eq_some_iff] at hgo
  obtain ⟨re, hre, steps', hgo, rfl⟩ := hgo
  obtain ⟨hdk, hdst, hg, hk⟩ := compD_inv (compD hD hd ho)
  have heo : compE P o.op = some eo := by
    rcases hk with ⟨no', h1, _⟩ | ⟨eo', h1, h2⟩
    · rw [hop] at h1; cases h1
    · rw [hop] at h1; cases h1; exact h2
  have hacS : ∀ k ∈ ac, S k = true := fun k hk => h.closed.anc (ancB_sound (List.all_eq_true.1 hac k hk)) hready'
  have hle : H.le HS := by
    intro b q hb
    rcases h.x1 b q hb with hs | ⟨k, h1, _, h3, _⟩
    · exact hs
    · rw [hacS k h1] at h3; cases h3
  have hm' := hm
  simp only [mayCome, Bool.and_eq_true, Bool.not_eq_true', List.all_eq_true] at hm'
  have hlook : ∀ t ∈ d.looks, foldA D val S Cd tmI t = foldA D val (fun _ => true) Cd tmI t := by
    intro t ht
    refine foldA_agree (fun k hk hdk' => ?_) rfl
    obtain ⟨dk, hdk2, hdt⟩ := dstOf_some hdk'
    have := hm'.1.2 k hk
    rw [hdk2] at this
    simp only [conflict_look hdt ht, Bool.not_true, Bool.false_or] at this
    exact h.closed.anc (ancB_sound this) hready'
  have hrun := h.run
  simp only [IRun] at hrun
  unfold wpOp
  rw [ho]
  simp only
  split at hrun
  · rename_i hw
    have hw' : wantedA (foldA D val S Cd tmI) d.g = some true := by rw [wanted_congr hlook]; exact hw
    rw [wanted_sound (ops := ops) h.tr hg hw']
    simp only [if_true]
    left
    have hevc : ∀ x ∈ eo.opds, x.ev (foldA D val (fun _ => true) Cd tmI) = x.ev (foldA D val S Cd tmI) := fun x hx => (ev_congr (d := d) hlook x (by rw [hop]; exact hx)).symm
    rw [estep_congr hevc] at hrun
    have hrel : Rel P j H w := h.post.rel.forget (by rw [h.next]; exact Nat.le_refl _) hle
    refine estep_sound heo (EvR.of h.tr h.post.rel.globE) hrel hrun ?_
    rintro v vc j' H' w' ⟨hst, hrun'⟩ hp hvr
    have hnn : HS.next ≤ H'.next := by rw [h.next]; exact hp.next
    have hpp := Post.readd h.post.rel hle h.next hnn hp
    refine hn _ w' _ _ _ _ _ H' (AH.plus H' H HS) j' (h.acted hE hd hlt hm hgo hready' hacS (v := v) hrun' (by rw [hdst]; exact (h.tr.mono hp.ext).put hdk hvr) (h.post.trans hpp) rfl hp.next AH.plus_le hp.fresh ?_ ?_)
    · intro b q z hb hq hz
      have hnone : H'.at_ b = none := by
        cases hb' : H'.at_ b with
        | none => rfl
        | some q' =>
          exfalso
          obtain ⟨c, y⟩ := z
          have hj' := hp.ext _ _ hz
          obtain ⟨b0, y0, h1, h2, _⟩ := hp.orig b c y hj' (AH.live_of hb') (h.post.rel.dom b c y hz).2
          have := h.post.rel.inj b0 b c y0 y h2 hz (AH.le_live hle h1) (AH.live_of hq)
          subst this
          rw [AH.live, hb] at h1; cases h1
      exact ⟨hnone, by simp only [AH.plus, hnone, hb, hq]⟩
    · intro L1 k L2 hsp hSk dk no hdk2 hopk hr hwk hnk
      have hanc : ancB (ancM ops) k e = false := by
        cases ha : ancB (ancM ops) k e with
        | false => rfl
        | true => have := h.closed.anc (ancB_sound ha) hready'; rw [hSk] at this; cases this
      obtain ⟨t, ht, hmem, htl, hfar⟩ := reGo_spec Cd re hre L1 k L2 hsp dk no hdk2 hopk hr hanc
      have hst' := hst _ hmem
      have hdstk : dstOf D k = some t := by simp [dstOf, hdk2, ht]
      have hde : dstOf D e = d.dst := by simp [dstOf, hd]
      have hagree : ∀ x ∈ dk.looks, put (foldA D val (fun _ => true) Cd tmI) d.dst v x = foldA D val (fun _ => true) L1 tmI x := by
        intro x hx
        rw [put_far _ _ (fun hdx => (hfar e (by simp) x (by rw [hde]; exact hdx)).1 hx), hsp, foldA_append]
        have h0 : ∀ tm, foldA D val (fun _ => true) L2 tm x = tm x := fun tm => by
          have : ∀ L : List Nat, (∀ q ∈ L, dstOf D q ≠ some x) → ∀ tm, foldA D val (fun _ => true) L tm x = tm x := by
            intro L
            induction L with
            | nil => intro _ tm; rfl
            | cons q L ih =>
              intro hq tm
              simp only [foldA, if_true]
              rw [ih (fun q' hq' => hq q' (List.mem_cons_of_mem _ hq'))]
              exact put_far tm _ (hq q (List.mem_cons_self ..))
          exact this L2 (fun q hq hqx => (hfar q (List.mem_append.2 (.inl hq)) x hqx).1 hx) tm
        simp only [foldA, if_true]
        rw [h0, put_far _ _ (fun hdx => by rw [hdstk] at hdx; cases hdx; exact htl hx)]
      have hval : put (foldA D val (fun _ => true) Cd tmI) d.dst v t = val k := by
        rw [put_far _ _ (fun hdx => (hfar e (by simp) t (by rw [hde]; exact hdx)).2 rfl), hsp, foldA_append]
        have h0 : ∀ tm, foldA D val (fun _ => true) L2 tm t = tm t := fun tm => by
          have : ∀ L : List Nat, (∀ q ∈ L, dstOf D q ≠ some t) → ∀ tm, foldA D val (fun _ => true) L tm t = tm t := by
            intro L
            induction L with
            | nil => intro _ tm; rfl
            | cons q L ih =>
              intro hq tm
              simp only [foldA, if_true]
              rw [ih (fun q' hq' => hq q' (List.mem_cons_of_mem _ hq'))]
              exact put_far tm _ (hq q (List.mem_cons_self ..))
          exact this L2 (fun q hq hqx => (hfar q (List.mem_append.2 (.inl hq)) t hqx).2 rfl) tm
        simp only [foldA, if_true]
        rw [h0, hdstk]
        exact upd_same _ _ _
      have hwk2 : wantedA (put (foldA D val (fun _ => true) Cd tmI) d.dst v) dk.g = some true := by
        rw [wanted_congr (d := dk) hagree]; exact hwk
      rcases hst' with hf | hnop
      · have hf' : wantedA (put (foldA D val (fun _ => true) Cd tmI) d.dst v) dk.g = some false := hf
        rw [hwk2] at hf'; cases hf'
      · replace hnop : nop (·.ev (put (foldA D val (fun _ => true) Cd tmI) d.dst v)) H' 0 no = some (put (foldA D val (fun _ => true) Cd tmI) d.dst v t, none) := hnop
        rw [hval] at hnop
        rw [← nop_congr (ev := (·.ev (put (foldA D val (fun _ => true) Cd tmI) d.dst v))) (ev' := (·.ev (foldA D val (fun _ => true) L1 tmI))) (fun x hx => ev_congr (d := dk) hagree x (by rw [hopk]; exact hx))]
        exact hnop
  · rename_i hw
    have hw' : wantedA (foldA D val S Cd tmI) d.g = some false := by rw [wanted_congr hlook]; exact hw
    rw [wanted_sound (ops := ops) h.tr hg hw']
    simp only [Bool.false_eq_true, if_false]
    refine hn _ w _ _ _ _ _ H HS j (h.acted hE hd hlt hm hgo hready' hacS (v := .undef) hrun (by rw [hdst]; exact h.tr.put hdk .undef) h.post h.next (Nat.le_refl _) hle (fun _ _ => rfl) (fun b q z h1 h2 _ => ⟨h1, h2⟩) (fun L1 k L2 _ _ dk no _ _ _ _ hnk => hnk))
  · exact hrun.elim

theorem filter_set_length {l : List Nat} {q : Nat → Bool} {i : Nat} (hnd : l.Nodup) (hi : i ∈ l) (hq : q i = true) {q' : Nat → Bool} (h1 : q' i = false) (h2 : ∀ k, k ≠ i → q' k = q k) : (l.filter q').length + 1 = (l.filter q).length := by
  induction l with
  | nil => simp at hi
  | cons x l ih =>
    obtain ⟨hx, hnd'⟩ := List.nodup_cons.1 hnd
    by_cases e : x = i
    · subst e
      have : l.filter q' = l.filter q := List.filter_congr (fun k hk => h2 k (fun e => hx (e ▸ hk)))
      simp [List.filter_cons, h1, hq, this]
    · have hi' : i ∈ l := by
        rcases List.mem_cons.1 hi with h | h
        · exact absurd h.symm e
        · exact h
      have := ih hnd' hi'
      rw [List.filter_cons, List.filter_cons, h2 x e]
      cases q x
      · simpa using this
      · simp only [if_true, List.length_cons]; omega

theorem wpAny_inv (hD : compDOps P N ops ops.toList = some D) {Q : Exit → Act → World → Prop} (hq : ∀ j' tm' H' a' w', K tm' H' → TR j' N tm' a' → Post P j0 H0 w0 j' H' w' → Q .normal a' w') : ∀ (fuel : Nat) (listed : Array Bool) (a : Act) (w : World) (Cd ac : List Nat) (rest : List DStep) (steps : List IStep) (val : Nat → AV)
    (eff : Nat → Option (Nat × AObj)) (H HS : AH) (pd : Pend) (j : Inj), listed.size = ops.size → ((List.range ops.size).filter fun k => !listed.getD k false).length ≤ fuel →
    Inv P N ops D K j0 H0 w0 tmI (fun k => listed.getD k false) a w Cd ac rest steps val eff H HS pd j → wpAny P .any ops Q fuel listed a w := by
  have hlen : D.length = ops.size := by rw [(compDOps_get hD).1]; simp
  have hfin : ∀ (listed : Array Bool) (a : Act) (w : World) (Cd ac : List Nat) (rest : List DStep) (steps : List IStep) (val : Nat → AV) (eff : Nat → Option (Nat × AObj)) (H HS : AH) (pd : Pend) (j : Inj), listed.size = ops.size →
      Inv P N ops D K j0 H0 w0 tmI (fun k => listed.getD k false) a w Cd ac rest steps val eff H HS pd j → Region.ready .any ops listed = [] → Q .normal a w := by
    intro listed a w Cd ac rest steps val eff H HS pd j hsz h hre
    obtain ⟨Cd, ac, rest, steps, val, eff, H, HS, pd, h, hrest⟩ := h.adv hlen
    have hnr : ∀ i, i < ops.size → listed.getD i false = false → (∀ o, ops[i]? = some o → ∀ e ∈ o.after, Region.binds .any e = true → listed.getD e.on false = true) → False := by
      intro i hi hS hp
      have : i ∈ Region.ready .any ops listed := by
        rw [mem_ready]
        refine ⟨?_, ops[i], Array.getElem?_eq_getElem hi, fun e he hb => hp _ (Array.getElem?_eq_getElem hi) e he hb⟩
        rw [Array.getD_eq_getD_getElem?] at hS ⊢
        rw [Array.getElem?_eq_getElem (by omega)] at hS ⊢
        exact hS
      rw [hre] at this
      simp at this
    have hall : ∀ (n : Nat) L1 L2, L1.length = n → Cd = L1 ++ L2 → ∀ i ∈ L1, listed.getD i false = true := by
      intro n
      induction n with
      | zero => intro L1 L2 hl _ i hi; rw [List.eq_nil_of_length_eq_zero hl] at hi; simp at hi
      | succ n ih =>
        intro L1' L2 hl hc i hi
        rcases List.eq_nil_or_concat L1' with rfl | ⟨L1, k, rfl⟩
        · simp at hi
        · have hc2 : Cd = L1 ++ k :: L2 := by rw [hc]; simp
          have hL1 := ih L1 (k :: L2) (by simpa using hl) hc2
          have hi' : i ∈ L1 ++ [k] := by simpa using hi
          rcases List.mem_append.1 hi' with hi | hi
          · exact hL1 i hi
          · simp at hi
            subst hi
            cases hS : listed.getD i false with
            | true => rfl
            | false => exact (hnr i (h.stat.lt i (by rw [hc2]; simp)) hS (fun o ho e he hb => hL1 _ (h.stat.preds L1 i L2 hc2 o ho e he hb))).elim
    have hallCd : ∀ i ∈ Cd, listed.getD i false = true := hall Cd.length Cd [] rfl (by simp)
    rcases hrest with rfl | ⟨e, r, rfl, hE⟩
    · have hrun := h.run
      have hgo := h.go
      simp only [drawGo] at hgo
      split at hgo
      · cases hgo
        have hle : H.le HS := by
          intro b q hb
          rcases h.x1 b q hb with hs | ⟨k, _, h2, h3, _⟩
          · exact hs
          · have h3' : listed.getD k false = false := h3
            rw [hallCd k h2] at h3'; cases h3'
        have hfold : foldA D val (fun k => listed.getD k false) Cd tmI = foldA D val (fun _ => true) Cd tmI := foldA_congr_p (fun k hk => hallCd k hk)
        exact hq j _ H a w hrun (by rw [← hfold]; exact h.tr) (h.post.forget hle (by rw [h.next]; exact Nat.le_refl _))
      · cases hgo
    · exfalso
      have hgo := h.go
      simp only [drawGo] at hgo
      split at hgo
      · rename_i d hd
        split at hgo
        · rename_i hm
          have hlt : e < ops.size := by rw [← hlen]; exact (List.getElem?_eq_some_iff.1 hd).1
          simp only [mayCome, Bool.and_eq_true, Bool.not_eq_true'] at hm
          have hni : e ∉ Cd := fun hh => by rw [List.contains_iff_mem.2 hh] at hm; exact absurd hm.1.1.1 (by simp)
          refine hnr e hlt ?_ (fun o ho x hx hb => ?_)
          · cases hS : listed.getD e false with
            | false => rfl
            | true => exact absurd (h.sub e hS) hni
          · have hp := hm.1.1.2
            simp only [predsIn, ho] at hp
            have := Array.all_eq_true_iff_forall_mem.1 hp x hx
            rw [hb] at this
            exact hallCd _ (List.contains_iff_mem.1 (by simpa using this))
        · cases hgo
      · cases hgo
  intro fuel
  induction fuel with
  | zero =>
    intro listed a w Cd ac rest steps val eff H HS pd j hsz hf h
    have hre : Region.ready .any ops listed = [] := by
      rw [List.eq_nil_iff_forall_not_mem]
      intro i hi
      rw [mem_ready] at hi
      obtain ⟨h0, o, ho, _⟩ := hi
      have hlt : i < ops.size := (Array.getElem?_eq_some_iff.1 ho).1
      have h0' : listed.getD i false = false := by
        rw [Array.getD_eq_getD_getElem?] at h0 ⊢
        rw [Array.getElem?_eq_getElem (by omega)] at h0 ⊢
        exact h0
      have : i ∈ (List.range ops.size).filter fun k => !listed.getD k false := List.mem_filter.2 ⟨List.mem_range.2 hlt, by rw [h0']; rfl⟩
      have hnil : ((List.range ops.size).filter fun k => !listed.getD k false) = [] := List.eq_nil_of_length_eq_zero (by omega)
      rw [hnil] at this
      simp at this
    exact ⟨hre, hfin listed a w _ _ _ _ _ _ _ _ _ _ hsz h hre⟩
  | succ fuel ih =>
    intro listed a w Cd ac rest steps val eff H HS pd j hsz hf h
    refine ⟨fun hre => hfin listed a w _ _ _ _ _ _ _ _ _ _ hsz h hre, fun i hi => ?_⟩
    obtain ⟨Cd, ac, rest, steps, val, eff, H, HS, pd, h, hrest⟩ := h.adv hlen
    rw [mem_ready] at hi
    obtain ⟨h0, o, ho, hpre⟩ := hi
    have hlt : i < ops.size := (Array.getElem?_eq_some_iff.1 ho).1
    have h0' : listed.getD i false = false := by
      rw [Array.getD_eq_getD_getElem?] at h0 ⊢
      rw [Array.getElem?_eq_getElem (by omega)] at h0 ⊢
      exact h0
    have hS' : (fun k => (listed.setIfInBounds i true).getD k false) = addS (fun k => listed.getD k false) i := by
      funext k
      by_cases e : k = i
      · subst e
        rw [addS_same]
        rw [Array.getD_eq_getD_getElem?, Array.getElem?_setIfInBounds_self_of_lt (by omega)]
        rfl
      · rw [addS_ne _ e]
        rw [Array.getD_eq_getD_getElem?, Array.getElem?_setIfInBounds_ne (Ne.symm e), ← Array.getD_eq_getD_getElem?]
    have hcnt : ((List.range ops.size).filter fun k => !(listed.setIfInBounds i true).getD k false).length ≤ fuel := by
      have := filter_set_length (l := List.range ops.size) (q := fun k => !listed.getD k false) (i := i) List.nodup_range (List.mem_range.2 hlt) (by show (!listed.getD i false) = true; rw [h0']; rfl)
        (q' := fun k => !(listed.setIfInBounds i true).getD k false) (by have := congrFun hS' i; show (!(listed.setIfInBounds i true).getD i false) = false; rw [this, addS_same]; rfl) (fun k hk => by have := congrFun hS' k; show (!(listed.setIfInBounds i true).getD k false) = _; rw [this, addS_ne _ hk])
      omega
    by_cases hic : i ∈ Cd
    · refine h.exec_n hD hic h0' ho hpre (fun a' w' HS' j' h' => ?_)
      exact ih _ a' w' _ _ _ _ _ _ _ _ _ _ (by simp [hsz]) hcnt (by rw [hS']; exact h')
    · rcases hrest with rfl | ⟨e, r, rfl, hE⟩
      · exfalso
        have hgo := h.go
        simp only [drawGo] at hgo
        split at hgo
        · rename_i hall
          have := List.all_eq_true.1 hall i (List.mem_range.2 (by omega))
          exact hic (List.contains_iff_mem.1 this)
        · cases hgo
      · by_cases hie : i = e
        · subst hie
          refine h.exec_e hD hE ho hpre (fun a' w' Cd' rest' steps' val' eff' H' HS' j' h' => ?_)
          exact ih _ a' w' _ _ _ _ _ _ _ _ _ _ (by simp [hsz]) hcnt (by rw [hS']; exact h')
        · exfalso
          have hgo := h.go
          simp only [drawGo] at hgo
          split at hgo
          · rename_i d hd
            split at hgo
            · rename_i hm
              split at hgo
              · rename_i no hop
                simp [isE, hd, hop] at hE
              · split at hgo
                · simp only [Option.bind_eq_some_iff, Option.map_eq_some_iff] at hgo
                  obtain ⟨re, _, s, hs, _⟩ := hgo
                  have hanc := drawGo_behind rfl hE r (Cd ++ [e]) ac s hs (by simp) i (by omega) (fun hh => by
                    rcases List.mem_append.1 hh with hh | hh
                    · exact hic hh
                    · simp at hh; exact hie hh)
                  have heS := h.closed.anc hanc (fun o' ho' x hx hb => by rw [ho] at ho'; cases ho'; exact hpre x hx hb)
                  simp only [mayCome, Bool.and_eq_true, Bool.not_eq_true'] at hm
                  have := h.sub e heS
                  rw [List.contains_iff_mem.2 this] at hm
                  exact absurd hm.1.1.1 (by simp)
                · cases hgo
            · cases hgo
          · cases hgo
theorem draw_sound {id : Nat} {steps : List IStep} {Q : Exit → Act → World → Prop} {H : AH} {tm : Tms} (hm : P.follows .mixedOrders = true)
    (hc : compDraw P N ops = some steps) (h : IRun P K steps [] tm H) (ht : TR j N tm a) (hr : Rel P j H w)
    (hq : ∀ j' tm' H' a' w', K tm' H' → TR j' N tm' a' → Post P j H w j' H' w' → Q .normal a' w') : (Code.region id ops true).wp P Q a w := by
  simp only [compDraw, Option.bind_eq_some_iff] at hc
  obtain ⟨D, hD, hgo⟩ := hc
  refine wp_region_any hm ?_
  have hr' : Rel P j H { w with drawn := w.drawn + 1 } := hr.of_heap rfl
  have hp0 : Post P j H w j H { w with drawn := w.drawn + 1 } := Post.of_heap hr rfl rfl rfl rfl
  refine wpAny_inv (D := D) (K := K) (j0 := j) (H0 := H) (w0 := w) (tmI := tm) hD hq ops.size (Array.replicate ops.size false) a _ [] [] (orderOf D (ancM ops)) steps (fun _ => .undef) (fun _ => none) H H [] j (by simp) ?_ ?_
  · exact Nat.le_trans (List.length_filter_le _ _) (by simp)
  · have hS : ∀ k, (Array.replicate ops.size false).getD k false = false := fun k => by
      rw [Array.getD_eq_getD_getElem?, Array.getElem?_replicate]
      split <;> rfl
    refine ⟨hgo, h, Stat.nil, fun i hi => ?_, fun i hi => by simp at hi, fun i o hi => ?_, ht, hp0, rfl, fun b o hb => .inl hb, fun i hi => by simp at hi, fun i hi => by simp at hi, fun i b o hi => by simp at hi, fun i k b o q hi => by simp at hi, fun L1 i L2 hs => by simp at hs⟩
    · rw [hS] at hi; cases hi
    · simp only at hi; rw [hS] at hi; cases hi
end
end Go.Proofs.YtllkdoefonehoaaGreatDoor.Abs

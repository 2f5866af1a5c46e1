/- A region that draws its order: what is told ahead of time. No condition. -/
import Derived.Test.YtllkdoefonehoaaGreatDoorA17c
set_option linter.unusedVariables false
set_option linter.unusedSimpArgs false
namespace Go.Proofs.YtllkdoefonehoaaGreatDoor.Abs
open Go Go.RowKit

section
variable {P : Program} {N : Nat} {ops : Array Oper} {D : List DOp} {K : Tms → AH → Prop} {j0 : Inj} {H0 : AH} {w0 : World} {tmI : Tms}
  {S : Nat → Bool} {a : Act} {w : World} {Cd ac : List Nat} {rest : List DStep} {steps : List IStep} {val : Nat → AV} {eff : Nat → Option (Nat × AObj)} {H HS : AH} {pd : Pend} {j : Inj}

def setF {α : Type} (f : Nat → α) (i : Nat) (v : α) : Nat → α := fun k => if k = i then v else f k
theorem setF_same {α : Type} (f : Nat → α) (i : Nat) (v : α) : setF f i v i = v := if_pos rfl
theorem setF_ne {α : Type} (f : Nat → α) {i k : Nat} (v : α) (h : k ≠ i) : setF f i v k = f k := if_neg h
theorem fold_snoc {i : Nat} (hni : i ∉ Cd) (v : AV) (p : Nat → Bool) (tm : Tms) : foldA D (setF val i v) p (Cd ++ [i]) tm = (if p i then put (foldA D val p Cd tm) (dstOf D i) v else foldA D val p Cd tm) := by
  rw [foldA_append]
  have e : foldA D (setF val i v) p Cd tm = foldA D val p Cd tm := foldA_val (fun k hk _ => setF_ne val v (fun e => hni (e ▸ hk)))
  rw [e]
  simp only [foldA, setF_same]

/-- One quiet step more is told: its answer, and its block (none: there is no new one). -/
theorem Inv.told {st : DStep} (h : Inv P N ops D K j0 H0 w0 tmI S a w Cd ac (st :: rest) steps val eff H HS pd j) {i : Nat} (hi : i < ops.size) {d : DOp} {no : NOp} (hd : D[i]? = some d) (ho : d.op = .n no) (hm : mayCome ops D (ancM ops) Cd i d = true)
    {v : AV} {ef : Option (Nat × AObj)} {H' : AH} {ac' : List Nat} {steps' : List IStep} {pd' : Pend} (hgo : drawGo ops D (ancM ops) rest (Cd ++ [i]) ac' = some steps') (hrun : IRun P K steps' pd' (put (foldA D val (fun _ => true) Cd tmI) d.dst v) H')
    (hac : ∀ k ∈ ac, k ∈ ac') (hef : ∀ q, ef = some q → q.1 = H.next ∧ H'.next = H.next + 1) (hle : H.le H') (hn : H.next ≤ H'.next)
    (hx1 : ∀ b o, H'.at_ b = some o → H.at_ b = some o ∨ (i ∈ ac' ∧ ef = some (b, o)))
    (hpd : ∀ k b o, pd'.lookup k = some (b, o) → pd.lookup k = some (b, o) ∨ (k = i ∧ ef = some (b, o) ∧ H'.at_ b = none))
    (hax : ∀ k ∈ ac', k ∈ ac ∨ k = i) (hfar : ∀ b, b < H.next → H.at_ b = none → H'.at_ b = none)
    (hinfo : NInfo D (setF val i v) (setF eff i ef) H' i (foldA D val (fun _ => true) Cd tmI)) :
    Inv P N ops D K j0 H0 w0 tmI S a w (Cd ++ [i]) ac' rest steps' (setF val i v) (setF eff i ef) H' ⟨H'.next, HS.at_⟩ pd' j := by
  have hm' := hm
  simp only [mayCome, Bool.and_eq_true, Bool.not_eq_true'] at hm'
  have hni : i ∉ Cd := fun hh => by rw [List.contains_iff_mem.2 hh] at hm'; exact absurd hm'.1.1.1 (by simp)
  have hSi : S i = false := by
    cases hs : S i with
    | false => rfl
    | true => exact absurd (h.sub i hs) hni
  have hne : ∀ k ∈ Cd, k ≠ i := fun k hk e => hni (e ▸ hk)
  have hE : isE D i = false := by simp [isE, hd, ho]
  have hdst : dstOf D i = d.dst := by simp [dstOf, hd]
  have hnextS : HS.next ≤ H'.next := by rw [h.next]; exact hn
  refine ⟨hgo, ?_, h.stat.snoc hi hd hm, ?_, ?_, h.closed, ?_, h.post.forget (fun b o hb => hb) hnextS, rfl, ?_, ?_, ?_, ?_, ?_, ?_⟩
  · rw [fold_snoc hni, if_pos rfl, hdst]; exact hrun
  · intro k hk; exact List.mem_append.2 (.inl (h.sub k hk))
  · intro k hk hEk
    rcases List.mem_append.1 hk with hk | hk
    · exact h.eS k hk hEk
    · simp at hk; subst hk; rw [hE] at hEk; cases hEk
  · rw [fold_snoc hni, hSi]; exact h.tr
  · intro b o hb
    rcases hx1 b o hb with hb | ⟨hi', he⟩
    · rcases h.x1 b o hb with hs | ⟨k, hk1, hk2, hk3, hk4⟩
      · exact .inl hs
      · exact .inr ⟨k, hac k hk1, List.mem_append.2 (.inl hk2), hk3, by rw [setF_ne eff ef (hne k hk2)]; exact hk4⟩
    · exact .inr ⟨i, hi', List.mem_append.2 (.inr (by simp)), hSi, by rw [setF_same]; exact he⟩
  · intro k hk hS b o he
    rcases List.mem_append.1 hk with hk | hk
    · rw [setF_ne eff ef (hne k hk)] at he
      have := h.x2 k hk hS b o he
      exact ⟨this.1, Nat.lt_of_lt_of_le this.2.1 hn, this.2.2⟩
    · simp at hk
      subst hk
      rw [setF_same] at he
      obtain ⟨q1, q2⟩ := hef _ he
      simp only at q1
      subst q1
      have hnn := h.post.next
      rw [h.next] at hnn
      exact ⟨h.post.rel.fresh (by rw [h.next]; exact Nat.le_refl _), by omega, hnn⟩
  · intro p hp q hq hSp hSq b o o' he1 he2
    rcases List.mem_append.1 hp with hp1 | hp1 <;> rcases List.mem_append.1 hq with hq1 | hq1
    · rw [setF_ne eff ef (hne p hp1)] at he1
      rw [setF_ne eff ef (hne q hq1)] at he2
      exact h.x3 p hp1 q hq1 hSp hSq b o o' he1 he2
    · simp at hq1
      subst hq1
      rw [setF_ne eff ef (hne p hp1)] at he1
      rw [setF_same] at he2
      have := (hef _ he2).1
      simp only at this
      have := (h.x2 p hp1 hSp b o he1).2.1
      omega
    · simp at hp1
      subst hp1
      rw [setF_ne eff ef (hne q hq1)] at he2
      rw [setF_same] at he1
      have := (hef _ he1).1
      simp only at this
      have := (h.x2 q hq1 hSq b o' he2).2.1
      omega
    · simp at hp1 hq1
      rw [hp1, hq1]
  · intro k b o hk
    rcases hpd k b o hk with hk | ⟨rfl, he, hb⟩
    · obtain ⟨h1, h2, h3, h4⟩ := h.x4 k b o hk
      refine ⟨List.mem_append.2 (.inl h1), by rw [setF_ne eff ef (hne k h1)]; exact h2, Nat.lt_of_lt_of_le h3 hn, fun hka => ?_⟩
      obtain ⟨h5, h6⟩ := h4 (fun hka' => hka (hac k hka'))
      exact ⟨hfar b h3 h5, h6⟩
    · obtain ⟨q1, q2⟩ := hef _ he
      simp only at q1
      exact ⟨List.mem_append.2 (.inr (by simp)), by rw [setF_same]; exact he, by omega, fun _ => ⟨hb, fun hs => by rw [hSi] at hs; cases hs⟩⟩
  · intro p k b o q hp hk
    rcases hpd p b o hp with hp | ⟨rfl, he, hb⟩ <;> rcases hpd k b q hk with hk | ⟨rfl, he2, hb2⟩
    · exact h.x5 p k b o q hp hk
    · have := (h.x4 p b o hp).2.2.1
      have := (hef _ he2).1
      simp only at this
      omega
    · have := (h.x4 k b q hk).2.2.1
      have := (hef _ he).1
      simp only at this
      omega
    · rfl
  · intro L1 k L2 hsp hS
    rcases split_snoc hsp with ⟨rfl, rfl, rfl⟩ | ⟨L3, rfl, hsp2⟩
    · have e : foldA D (setF val k v) (fun _ => true) L1 tmI = foldA D val (fun _ => true) L1 tmI := foldA_val (fun q hq _ => setF_ne val v (hne q hq))
      rw [e]
      exact hinfo
    · have hk : k ∈ Cd := by rw [hsp2]; simp
      have e : foldA D (setF val i v) (fun _ => true) L1 tmI = foldA D val (fun _ => true) L1 tmI := foldA_val (fun q hq _ => setF_ne val v (hne q (by rw [hsp2]; simp [hq])))
      rw [e]
      exact ((h.info L1 k L3 hsp2 hS).grow hle).congr (setF_ne val v (hne k hk)) (setF_ne eff ef (hne k hk))

theorem reads_alloc {no : NOp} (h : no.reads = true) : no.allocs = false := by cases no <;> first | rfl | cases h
/-- The steps up to the next acting one are told. -/
theorem Inv.adv (hD : D.length = ops.size) : ∀ (rest : List DStep) {Cd ac steps val eff H HS pd}, Inv P N ops D K j0 H0 w0 tmI S a w Cd ac rest steps val eff H HS pd j →
    ∃ Cd ac rest steps val eff H HS pd, Inv P N ops D K j0 H0 w0 tmI S a w Cd ac rest steps val eff H HS pd j ∧ (rest = [] ∨ ∃ e r, rest = .op e :: r ∧ isE D e = true)
  | [], Cd, ac, steps, val, eff, H, HS, pd, h => ⟨_, _, _, _, _, _, _, _, _, h, .inl rfl⟩
  | .op i :: rest, Cd, ac, steps, val, eff, H, HS, pd, h => by
    cases hE : isE D i with
    | true => exact ⟨_, _, _, _, _, _, _, _, _, h, .inr ⟨i, rest, rfl, hE⟩⟩
    | false =>
      have hgo := h.go
      simp only [drawGo] at hgo
      split at hgo
      · rename_i d hd
        have hi : i < ops.size := by rw [← hD]; exact (List.getElem?_eq_some_iff.1 hd).1
        split at hgo
        · rename_i hm
          split at hgo
          · rename_i no ho
            simp only [Option.map_eq_some_iff] at hgo
            obtain ⟨steps', hgo, rfl⟩ := hgo
            have hrun := h.run
            simp only [IRun] at hrun
            have hacx : ∀ k ∈ (if no.allocs then i :: ac else ac), k ∈ ac ∨ k = i := fun k hk => by
              split at hk
              · rcases List.mem_cons.1 hk with hk | hk
                · exact .inr hk
                · exact .inl hk
              · exact .inl hk
            have hacs : ∀ k ∈ ac, k ∈ (if no.allocs then i :: ac else ac) := fun k hk => by split <;> simp [hk]
            split at hrun
            · rename_i hw
              split at hrun
              · rename_i v hv
                have hna := nop_alloc hv
                refine Inv.adv hD rest (h.told (v := v) (ef := none) (H' := H) (pd' := pd) hi hd ho hm hgo hrun hacs (fun q hq => by cases hq) (fun b o hb => hb) (Nat.le_refl _) (fun b o hb => .inl hb) (fun k b o hk => .inl hk) hacx (fun b _ hb => hb) ?_)
                refine ⟨d, no, hd, ho, .inr ⟨hw, ?_⟩⟩
                rw [setF_same, setF_same]
                cases hrd : no.reads with
                | false => exact .inl ⟨rfl, H.next, fun H'' => by rw [nop_pure (H' := H) hrd]; exact hv, fun q hq => by cases hq⟩
                | true => exact .inr ⟨rfl, rfl, by rw [nop_id (id' := H.next) (reads_alloc hrd)]; exact hv⟩
              · rename_i v b hv
                have hna := nop_alloc hv
                have hal : no.allocs = true := by rw [← hna]; rfl
                have hrd : no.reads = false := by
                  cases hr : no.reads with
                  | false => rfl
                  | true => rw [reads_alloc hr] at hal; cases hal
                have hnx : H.at_ H.next = none := by
                  cases hx : H.at_ H.next with
                  | none => rfl
                  | some q => have := h.live_next hx; omega
                refine Inv.adv hD rest (h.told (v := v) (ef := some (H.next, b)) (H' := H.new b) (pd' := pd) hi hd ho hm hgo hrun hacs (fun q hq => by cases hq; exact ⟨rfl, rfl⟩) (fun c o hc => ?_) (Nat.le_succ _) (fun c o hc => ?_) (fun k b o hk => .inl hk) hacx (fun c hc hn => by rw [AH.new_ne H b (by omega)]; exact hn) ?_)
                · have : c ≠ H.next := fun e => by rw [e, hnx] at hc; cases hc
                  rw [AH.new_ne H b this]; exact hc
                · by_cases e : c = H.next
                  · subst e
                    rw [AH.new_same] at hc
                    cases hc
                    exact .inr ⟨by rw [if_pos hal]; simp, rfl⟩
                  · rw [AH.new_ne H b e] at hc; exact .inl hc
                · refine ⟨d, no, hd, ho, .inr ⟨hw, .inl ⟨hrd, H.next, fun H'' => ?_, fun q hq => ?_⟩⟩⟩
                  · rw [setF_same, setF_same, nop_pure (H' := H) hrd]; exact hv
                  · rw [setF_same] at hq; cases hq; rfl
              · exact hrun.elim
            · rename_i hw
              refine Inv.adv hD rest (h.told (v := .undef) (ef := none) (H' := H) (pd' := pd) hi hd ho hm hgo hrun hacs (fun q hq => by cases hq) (fun b o hb => hb) (Nat.le_refl _) (fun b o hb => .inl hb) (fun k b o hk => .inl hk) hacx (fun b _ hb => hb) ?_)
              exact ⟨d, no, hd, ho, .inl ⟨hw, setF_same _ _ _, setF_same _ _ _⟩⟩
            · exact hrun.elim
          · rename_i eo ho
            simp [isE, hd, ho] at hE
        · cases hgo
      · cases hgo
  | .late i :: rest, Cd, ac, steps, val, eff, H, HS, pd, h => by
    have hgo := h.go
    simp only [drawGo] at hgo
    split at hgo
    · rename_i d hd
      have hi : i < ops.size := by rw [← hD]; exact (List.getElem?_eq_some_iff.1 hd).1
      split at hgo
      · rename_i hm
        split at hgo
        · rename_i no ho
          split at hgo
          · rename_i hal
            simp only [Option.map_eq_some_iff] at hgo
            obtain ⟨steps', hgo, rfl⟩ := hgo
            have hrun := h.run
            simp only [IRun] at hrun
            have hnx : H.at_ H.next = none := by
              cases hx : H.at_ H.next with
              | none => rfl
              | some q => have := h.live_next hx; omega
            have hrd : no.reads = false := by
              cases hr : no.reads with
              | false => rfl
              | true => rw [reads_alloc hr] at hal; cases hal
            split at hrun
            · rename_i hw
              split at hrun
              · rename_i v b hv
                refine Inv.adv hD rest (h.told (v := v) (ef := some (H.next, b)) (H' := H.bump) (pd' := (i, H.next, b) :: pd) hi hd ho hm hgo hrun (fun k hk => hk) (fun q hq => by cases hq; exact ⟨rfl, rfl⟩) (fun c o hc => hc) (Nat.le_succ _) (fun c o hc => .inl hc) (fun k c o hk => ?_) (fun k hk => .inl hk) (fun c _ hc => hc) ?_)
                · rw [List.lookup_cons] at hk
                  split at hk
                  · rename_i he
                    cases hk
                    exact .inr ⟨by simpa using he, rfl, hnx⟩
                  · exact .inl hk
                · refine ⟨d, no, hd, ho, .inr ⟨hw, .inl ⟨hrd, H.next, fun H'' => ?_, fun q hq => ?_⟩⟩⟩
                  · rw [setF_same, setF_same, nop_pure (H' := H) hrd]; exact hv
                  · rw [setF_same] at hq; cases hq; rfl
              · exact hrun.elim
            · rename_i hw
              refine Inv.adv hD rest (h.told (v := .undef) (ef := none) (H' := H) (pd' := pd) hi hd ho hm hgo hrun (fun k hk => hk) (fun q hq => by cases hq) (fun b o hb => hb) (Nat.le_refl _) (fun b o hb => .inl hb) (fun k b o hk => .inl hk) (fun k hk => .inl hk) (fun b _ hb => hb) ?_)
              exact ⟨d, no, hd, ho, .inl ⟨hw, setF_same _ _ _, setF_same _ _ _⟩⟩
            · exact hrun.elim
          · cases hgo
        · cases hgo
      · cases hgo
    · cases hgo
  | .act i :: rest, Cd, ac, steps, val, eff, H, HS, pd, h => by
    have hgo := h.go
    simp only [drawGo] at hgo
    split at hgo
    · rename_i hic
      simp only [Option.map_eq_some_iff] at hgo
      obtain ⟨steps', hgo, rfl⟩ := hgo
      simp only [Bool.and_eq_true, Bool.not_eq_true'] at hic
      have hi : i ∈ Cd := List.contains_iff_mem.1 hic.1
      have hia : i ∉ ac := fun hh => by rw [List.contains_iff_mem.2 hh] at hic; exact absurd hic.2 (by simp)
      have hrun := h.run
      simp only [IRun] at hrun
      cases hl : pd.lookup i with
      | none =>
        rw [hl] at hrun
        refine Inv.adv hD rest (Cd := Cd) (ac := i :: ac) (steps := steps') (val := val) (eff := eff) (H := H) (HS := HS) (pd := pd) ⟨hgo, hrun, h.stat, h.sub, h.eS, h.closed, h.tr, h.post, h.next, ?_, h.x2, h.x3, fun k b o hk => ⟨(h.x4 k b o hk).1, (h.x4 k b o hk).2.1, (h.x4 k b o hk).2.2.1, fun hka => (h.x4 k b o hk).2.2.2 (fun hh => hka (List.mem_cons_of_mem _ hh))⟩, h.x5, h.info⟩
        intro b o hb
        rcases h.x1 b o hb with hs | ⟨k, h1, h2⟩
        · exact .inl hs
        · exact .inr ⟨k, List.mem_cons_of_mem _ h1, h2⟩
      | some q =>
        obtain ⟨id, blk⟩ := q
        rw [hl] at hrun
        obtain ⟨_, he, hlt, hS⟩ := h.x4 i id blk hl
        obtain ⟨hnone, hS⟩ := hS hia
        have hle : H.le (H.set id (some blk)) := by
          intro b o hb
          by_cases e : b = id
          · subst e; rw [hnone] at hb; cases hb
          · rw [AH.set_ne H _ e]; exact hb
        refine Inv.adv hD rest (Cd := Cd) (ac := i :: ac) (steps := steps') (val := val) (eff := eff) (H := H.set id (some blk)) (HS := HS) (pd := pd)
          ⟨hgo, hrun, h.stat, h.sub, h.eS, h.closed, h.tr, h.post, h.next, ?_, h.x2, h.x3, fun k b o hk => ⟨(h.x4 k b o hk).1, (h.x4 k b o hk).2.1, (h.x4 k b o hk).2.2.1, fun hka => ?_⟩, h.x5, fun L1 k L2 hsp hSk => (h.info L1 k L2 hsp hSk).grow hle⟩
        rotate_left
        · obtain ⟨h5, h6⟩ := (h.x4 k b o hk).2.2.2 (fun hh => hka (List.mem_cons_of_mem _ hh))
          refine ⟨?_, h6⟩
          have hne : b ≠ id := fun e => by subst e; exact hka (by rw [h.x5 k i b o blk hk hl]; simp)
          rw [AH.set_ne H _ hne]; exact h5
        intro b o hb
        by_cases e : b = id
        · subst e
          rw [AH.set_same] at hb
          cases hb
          cases hSi : S i with
          | true => exact .inl (hS hSi)
          | false => exact .inr ⟨i, List.mem_cons_self .., hi, hSi, he⟩
        · rw [AH.set_ne H _ e] at hb
          rcases h.x1 b o hb with hs | ⟨k, h1, h2⟩
          · exact .inl hs
          · exact .inr ⟨k, List.mem_cons_of_mem _ h1, h2⟩
    · cases hgo
end
end Go.Proofs.YtllkdoefonehoaaGreatDoor.Abs

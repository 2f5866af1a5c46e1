/- A region that draws its order: the state between. No condition. -/
import Derived.Test.YtllkdoefonehoaaGreatDoorA17b
set_option linter.unusedVariables false
set_option linter.unusedSimpArgs false
namespace Go.Proofs.YtllkdoefonehoaaGreatDoor.Abs
open Go Go.RowKit

def AH.le (H H' : AH) : Prop := ∀ b o, H.at_ b = some o → H'.at_ b = some o
section
variable {P : Program} {j j' j0 : Inj} {H H' H0 HS : AH} {w w' w0 : World}
theorem AH.le_live (h : H.le H') {a : Nat} (hl : H.live a) : H'.live a := by obtain ⟨o, ho⟩ := AH.live_obj hl; exact AH.live_of (h a o ho)
theorem AH.le_wr (h : H.le H') {a : Nat} (hl : H.wr a) : H'.wr a := by obtain ⟨o, ho, hr⟩ := hl; exact ⟨o, h a o ho, hr⟩
theorem Post.forget (h : Post P j0 H0 w0 j HS w) (hle : H.le HS) (hn : HS.next ≤ H.next) : Post P j0 H0 w0 j H w :=
  ⟨⟨h.ext, h.rel.forget hn hle, h.keeps, Nat.le_trans h.next hn, fun a c z ha hl hc => by
    obtain ⟨b, y, h1, h2, h3⟩ := h.orig a c z ha (AH.le_live hle hl) hc
    exact ⟨b, y, h1, h2, fun hw => h3 (AH.le_wr hle hw)⟩⟩, h.fresh⟩

/-- Blocks that an acting step does not know of stay as they are. -/
def AH.plus (H' H HS : AH) : AH := ⟨H'.next, fun b => match H'.at_ b with
  | some o => some o
  | none => match H.at_ b with
    | some _ => none
    | none => HS.at_ b⟩
theorem AH.plus_at {b : Nat} {o : AObj} (h : (AH.plus H' H HS).at_ b = some o) : H'.at_ b = some o ∨ (H'.at_ b = none ∧ H.at_ b = none ∧ HS.at_ b = some o) := by
  simp only [AH.plus] at h
  split at h
  · rename_i q hq; cases h; exact .inl hq
  · rename_i hq
    split at h
    · cases h
    · rename_i h2; exact .inr ⟨hq, h2, h⟩
theorem AH.plus_le : H'.le (AH.plus H' H HS) := fun b o h => by simp only [AH.plus, h]
theorem Post.readd (hS : Rel P j HS w) (hle : H.le HS) (hnx : HS.next = H.next) (hn : HS.next ≤ H'.next) (h : Post P j H w j' H' w') : Post P j HS w j' (AH.plus H' H HS) w' := by
  have hkeep : ∀ b o c z, H.at_ b = none → HS.at_ b = some o → j b = some (c, z) → w'.heap[c]? = w.heap[c]? := by
    intro b o c z hb ho hc
    refine h.keeps.block c (hS.dom b c z hc).2 (fun a y hw ha => ?_)
    obtain ⟨q, hq, _⟩ := hw
    have := hS.inj a b c y z ha hc (AH.live_of (hle a q hq)) (AH.live_of ho)
    subst this
    rw [hb] at hq; cases hq
  -- a block of H' and one that H did not know are two
  have hapart : ∀ a b c y z o o', H'.at_ a = some o → H.at_ b = none → HS.at_ b = some o' → j' a = some (c, y) → j b = some (c, z) → False := by
    intro a b c y z o o' ha hb hb' hac hbc
    obtain ⟨d, x, hl, hd, _⟩ := h.orig a c y hac (AH.live_of ha) (hS.dom b c z hbc).2
    have := hS.inj d b c x z hd hbc (AH.le_live hle hl) (AH.live_of hb')
    subst this
    rw [AH.live, hb] at hl; cases hl
  have hold : ∀ b o, HS.at_ b = some o → ∃ c z, j b = some (c, z) := fun b o ho => by obtain ⟨c, x, hc, _⟩ := hS.obj b o ho; exact ⟨c, _, hc⟩
  refine ⟨⟨h.ext, ⟨fun a c z ha => h.rel.dom a c z ha, ?_, ?_, h.rel.glob⟩, ⟨h.keeps.os, h.keeps.tape, h.keeps.output, h.keeps.size, ?_⟩, hn, ?_⟩, fun a ha => h.fresh a (by omega)⟩
  · intro a b c y z ha hb la lb
    obtain ⟨o1, h1⟩ := AH.live_obj la
    obtain ⟨o2, h2⟩ := AH.live_obj lb
    rcases AH.plus_at h1 with h1 | ⟨n1, n1', h1⟩ <;> rcases AH.plus_at h2 with h2 | ⟨n2, n2', h2⟩
    · exact h.rel.inj a b c y z ha hb (AH.live_of h1) (AH.live_of h2)
    · obtain ⟨c2, z2, hc2⟩ := hold b o2 h2
      have := h.ext _ _ hc2
      rw [hb] at this
      cases this
      exact (hapart a b c y z o1 o2 h1 n2' h2 ha hc2).elim
    · obtain ⟨c1, z1, hc1⟩ := hold a o1 h1
      have := h.ext _ _ hc1
      rw [ha] at this
      cases this
      exact (hapart b a c z y o2 o1 h2 n1' h1 hb hc1).elim
    · obtain ⟨c1, z1, hc1⟩ := hold a o1 h1
      obtain ⟨c2, z2, hc2⟩ := hold b o2 h2
      have e1 := h.ext _ _ hc1
      have e2 := h.ext _ _ hc2
      rw [ha] at e1
      rw [hb] at e2
      cases e1
      cases e2
      exact hS.inj a b c y z hc1 hc2 (AH.live_of h1) (AH.live_of h2)
  · intro a o ha
    rcases AH.plus_at ha with h1 | ⟨n1, n1', h1⟩
    · exact h.rel.obj a o h1
    · obtain ⟨c, x, hc, hx, ho⟩ := hS.obj a o h1
      exact ⟨c, x, h.ext _ _ hc, (hkeep a o c _ n1' h1 hc).trans hx, ho.mono h.ext⟩
  · intro c hc hnw
    exact h.keeps.block c hc (fun a z hw => hnw a z (AH.le_wr hle hw))
  · intro a c z ha hl hc
    obtain ⟨o, ho⟩ := AH.live_obj hl
    rcases AH.plus_at ho with h1 | ⟨n1, n1', h1⟩
    · obtain ⟨b, y, h2, h3, h4⟩ := h.orig a c z ha (AH.live_of h1) hc
      refine ⟨b, y, AH.le_live hle h2, h3, fun hw => AH.le_wr hle (h4 ?_)⟩
      obtain ⟨q, hq, hr⟩ := hw
      have := AH.plus_le (H := H) (HS := HS) a o h1
      rw [this] at hq
      cases hq
      exact ⟨o, h1, hr⟩
    · obtain ⟨c2, z2, hc2⟩ := hold a o h1
      have := h.ext _ _ hc2
      rw [ha] at this
      cases this
      refine ⟨a, z, AH.live_of h1, hc2, fun hw => ?_⟩
      obtain ⟨q, hq, hr⟩ := hw
      rw [ho] at hq
      cases hq
      exact ⟨o, h1, hr⟩
end

/-- Static facts of what has been told so far. -/
structure Stat (ops : Array Oper) (D : List DOp) (Cd : List Nat) : Prop where
  lt : ∀ i ∈ Cd, i < ops.size
  nodup : Cd.Nodup
  preds : ∀ L1 i L2, Cd = L1 ++ i :: L2 → ∀ o, ops[i]? = some o → ∀ e ∈ o.after, Region.binds .any e = true → e.on ∈ L1
  conf : ∀ L1 i L2, Cd = L1 ++ i :: L2 → ∀ k ∈ L1, ∀ di dk, D[i]? = some di → D[k]? = some dk → conflict dk di = true → Anc ops k i
  acts : ∀ L1 i L2, Cd = L1 ++ i :: L2 → ∀ k ∈ L1, isE D k = true → Anc ops k i
theorem split_snoc {Cd L1 L2 : List Nat} {i k : Nat} (h : Cd ++ [k] = L1 ++ i :: L2) : (L2 = [] ∧ L1 = Cd ∧ i = k) ∨ ∃ L3, L2 = L3 ++ [k] ∧ Cd = L1 ++ i :: L3 := by
  rcases List.eq_nil_or_concat L2 with rfl | ⟨L3, x, rfl⟩
  · left
    have h' : Cd ++ [k] = L1 ++ [i] := h
    have := List.append_inj' h' rfl
    exact ⟨rfl, this.1.symm, by simpa using this.2.symm⟩
  · right
    have h' : Cd ++ [k] = (L1 ++ i :: L3) ++ [x] := by rw [h]; simp
    have := List.append_inj' h' rfl
    have hx : k = x := by simpa using this.2
    exact ⟨L3, by rw [hx]; simp, this.1⟩
theorem Stat.nil {ops : Array Oper} {D : List DOp} : Stat ops D [] :=
  ⟨fun i h => by simp at h, List.nodup_nil, fun L1 i L2 h => by simp at h, fun L1 i L2 h => by simp at h, fun L1 i L2 h => by simp at h⟩
theorem Stat.snoc {ops : Array Oper} {D : List DOp} {Cd : List Nat} (h : Stat ops D Cd) {i : Nat} {d : DOp} (hi : i < ops.size) (hd : D[i]? = some d) (hm : mayCome ops D (ancM ops) Cd i d = true) : Stat ops D (Cd ++ [i]) := by
  simp only [mayCome, Bool.and_eq_true, Bool.not_eq_true', List.all_eq_true] at hm
  obtain ⟨⟨⟨h1, h2⟩, h3⟩, h4⟩ := hm
  have hni : i ∉ Cd := fun hh => by rw [List.contains_iff_mem.2 hh] at h1; cases h1
  refine ⟨fun k hk => ?_, ?_, ?_, ?_, ?_⟩
  · rcases List.mem_append.1 hk with hk | hk
    · exact h.lt k hk
    · simp at hk; subst hk; exact hi
  · rw [List.nodup_append]
    exact ⟨h.nodup, by simp, fun a ha b hb => by simp at hb; subst hb; exact fun e => hni (e ▸ ha)⟩
  · intro L1 k L2 he o ho e hee hb
    rcases split_snoc he with ⟨rfl, rfl, rfl⟩ | ⟨L3, rfl, he2⟩
    · simp only [predsIn, ho] at h2
      have := Array.all_eq_true_iff_forall_mem.1 h2 e hee
      rw [hb] at this
      simpa [List.contains_iff_mem] using this
    · exact h.preds L1 k L3 he2 o ho e hee hb
  · intro L1 k L2 he q hq di dk hdi hdk hc
    rcases split_snoc he with ⟨rfl, rfl, rfl⟩ | ⟨L3, rfl, he2⟩
    · have := h3 q hq
      rw [hdk] at this
      rw [hd] at hdi
      cases hdi
      simp only [hc, Bool.not_true, Bool.false_or] at this
      exact ancB_sound this
    · exact h.conf L1 k L3 he2 q hq di dk hdi hdk hc
  · intro L1 k L2 he q hq hE
    rcases split_snoc he with ⟨rfl, rfl, rfl⟩ | ⟨L3, rfl, he2⟩
    · have := h4 q hq
      rw [hE] at this
      exact ancB_sound (by simpa using this)
    · exact h.acts L1 k L3 he2 q hq hE
/-- What is forced ahead of a step that was told was told ahead of it. -/
theorem Stat.anc_mem {ops : Array Oper} {D : List DOp} {Cd : List Nat} (h : Stat ops D Cd) {i k : Nat} (ha : Anc ops k i) : ∀ L1 L2, Cd = L1 ++ i :: L2 → k ∈ L1 := by
  induction ha with
  | edge ho he hb hi => intro L1 L2 hc; subst hi; exact h.preds L1 _ L2 hc _ ho _ he hb
  | @step k0 jj o0 e0 h' ho he hb hk ih =>
    intro L1 L2 hc
    subst hk
    have hm := h.preds L1 _ L2 hc _ ho _ he hb
    obtain ⟨A, B, rfl⟩ := List.append_of_mem hm
    have := ih A (B ++ jj :: L2) (by rw [hc]; simp)
    exact List.mem_append.2 (.inl this)

/-- What was told of a quiet step that may still be to come. -/
def NInfo (D : List DOp) (val : Nat → AV) (eff : Nat → Option (Nat × AObj)) (H : AH) (i : Nat) (tm : Tms) : Prop :=
  ∃ d no, D[i]? = some d ∧ d.op = .n no ∧
    ((wantedA tm d.g = some false ∧ val i = .undef ∧ eff i = none) ∨
     (wantedA tm d.g = some true ∧ ((no.reads = false ∧ ∃ id, (∀ H', nop (·.ev tm) H' id no = some (val i, (eff i).map (·.2))) ∧ ∀ q, eff i = some q → q.1 = id) ∨
        (no.reads = true ∧ eff i = none ∧ nop (·.ev tm) H 0 no = some (val i, none)))))

structure Inv (P : Program) (N : Nat) (ops : Array Oper) (D : List DOp) (K : Tms → AH → Prop) (j0 : Inj) (H0 : AH) (w0 : World) (tmI : Tms)
    (S : Nat → Bool) (a : Act) (w : World) (Cd ac : List Nat) (rest : List DStep) (steps : List IStep) (val : Nat → AV) (eff : Nat → Option (Nat × AObj)) (H HS : AH) (pd : Pend) (j : Inj) : Prop where
  go : drawGo ops D (ancM ops) rest Cd ac = some steps
  run : IRun P K steps pd (foldA D val (fun _ => true) Cd tmI) H
  stat : Stat ops D Cd
  sub : ∀ i, S i = true → i ∈ Cd
  eS : ∀ i ∈ Cd, isE D i = true → S i = true
  closed : Closed ops (fun i => S i = true)
  tr : TR j N (foldA D val S Cd tmI) a
  post : Post P j0 H0 w0 j HS w
  next : HS.next = H.next
  x1 : ∀ b o, H.at_ b = some o → HS.at_ b = some o ∨ ∃ i ∈ ac, i ∈ Cd ∧ S i = false ∧ eff i = some (b, o)
  x2 : ∀ i ∈ Cd, S i = false → ∀ b o, eff i = some (b, o) → j b = none ∧ b < H.next ∧ H0.next ≤ b
  x3 : ∀ i ∈ Cd, ∀ k ∈ Cd, S i = false → S k = false → ∀ b o q, eff i = some (b, o) → eff k = some (b, q) → i = k
  x4 : ∀ i b o, pd.lookup i = some (b, o) → i ∈ Cd ∧ eff i = some (b, o) ∧ b < H.next ∧ (i ∉ ac → H.at_ b = none ∧ (S i = true → HS.at_ b = some o))
  x5 : ∀ i k b o q, pd.lookup i = some (b, o) → pd.lookup k = some (b, q) → i = k
  info : ∀ L1 i L2, Cd = L1 ++ i :: L2 → S i = false → NInfo D val eff H i (foldA D val (fun _ => true) L1 tmI)

section
variable {P : Program} {N : Nat} {ops : Array Oper} {D : List DOp} {K : Tms → AH → Prop} {j0 : Inj} {H0 : AH} {w0 : World} {tmI : Tms}
  {S : Nat → Bool} {a : Act} {w : World} {Cd ac : List Nat} {rest : List DStep} {steps : List IStep} {val : Nat → AV} {eff : Nat → Option (Nat × AObj)} {H HS : AH} {pd : Pend} {j : Inj}

theorem NInfo.grow {i : Nat} {tm : Tms} {H' : AH} (h : NInfo D val eff H i tm) (hle : H.le H') : NInfo D val eff H' i tm := by
  obtain ⟨d, no, hd, ho, h⟩ := h
  refine ⟨d, no, hd, ho, h.imp id (fun ⟨hw, h⟩ => ⟨hw, h.imp id (fun ⟨hr, he, hn⟩ => ⟨hr, he, nop_at hn (fun x _ c _ q hq => hle c q hq)⟩)⟩)⟩
theorem NInfo.congr {i : Nat} {tm : Tms} {val' : Nat → AV} {eff' : Nat → Option (Nat × AObj)} (h : NInfo D val eff H i tm) (hv : val' i = val i) (he : eff' i = eff i) : NInfo D val' eff' H i tm := by
  unfold NInfo at h ⊢
  rw [hv, he]
  exact h
theorem Inv.live_next (h : Inv P N ops D K j0 H0 w0 tmI S a w Cd ac rest steps val eff H HS pd j) {b : Nat} {o : AObj} (hb : H.at_ b = some o) : b < H.next := by
  rcases h.x1 b o hb with hs | ⟨i, _, hi, hS, he⟩
  · obtain ⟨c, x, hc, _⟩ := h.post.rel.obj b o hs
    rw [← h.next]
    exact (h.post.rel.dom b c _ hc).1
  · exact (h.x2 i hi hS b o he).2.1
end
end Go.Proofs.YtllkdoefonehoaaGreatDoor.Abs

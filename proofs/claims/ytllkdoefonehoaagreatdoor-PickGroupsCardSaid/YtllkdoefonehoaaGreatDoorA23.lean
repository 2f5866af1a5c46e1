/- More may be asked of less: posts that follow; cutting a walk in two; parts of a code. No condition. -/
import Derived.Test.YtllkdoefonehoaaGreatDoorA22
set_option linter.unusedVariables false
set_option linter.unusedSimpArgs false
namespace Go.Proofs.YtllkdoefonehoaaGreatDoor.Abs
open Go Go.RowKit
section
variable {P : Program}
theorem CallI.mono {t : TypeId} {nm : String} {v : AV} {args : List AV} {H : AH} {Q Q' : AV → AH → Prop} (h : CallI P t nm v args H Q) (hq : ∀ v H', Q v H' → Q' v H') : CallI P t nm v args H Q' := by
  obtain ⟨f, v', hm, h⟩ := h
  exact ⟨f, v', hm, h.elim (fun h => .inl (h.mono hq)) (fun h => .inr (h.mono hq))⟩
theorem estep_mono {ev : IOpd → AV} {H : AH} {K K' : AV → AH → Prop} (hk : ∀ v H', K v H' → K' v H') : ∀ (o : EOp), estep P ev H K o → estep P ev H K' o
  | .store n x v, h => by
    simp only [estep] at h ⊢
    split at h
    · split at h
      · rename_i hl
        rw [if_pos hl]
        split at h
        · exact hk _ _ h
        · exact h.elim
      · exact h.elim
    · exact h.elim
  | .call f args, h => ACall.mono h hk
  | .callv x args, h => by
    simp only [estep] at h ⊢
    split at h
    · exact ACall.mono h hk
    · exact h.elim
  | .invoke nm x args, h => by
    simp only [estep] at h ⊢
    split at h
    · exact CallI.mono h hk
    · exact h.elim
  | .xcall f args, h => XCall.mono h hk
  | .never, h => h.elim
  | .append _ _ _ _ _ _, h => by
    simp only [estep] at h ⊢
    split at h
    · exact hk _ _ h
    · exact h.elim
  | .copy _ _ _, h => by
    simp only [estep] at h ⊢
    split at h
    · exact hk _ _ h
    · exact h.elim
  | .clear _ _ _, h => by
    simp only [estep] at h ⊢
    split at h
    · exact hk _ _ h
    · exact h.elim
  | .cap x, h => by
    simp only [estep] at h ⊢
    unfold CapA at h ⊢
    split at h
    · exact hk _ _ h
    · exact hk _ _ h
    · exact fun k => hk _ _ (h k)
    · exact fun k hn => hk _ _ (h k hn)
    · exact h.elim
  | .mapset _ _ _, h => by
    simp only [estep] at h ⊢
    split at h
    · exact hk _ _ h
    · exact h.elim
theorem irun_mono {K K' : Tms → AH → Prop} (hk : ∀ tm H, K tm H → K' tm H) : ∀ (l : List IStep) (pd : Pend) (tm : Tms) (H : AH), IRun P K l pd tm H → IRun P K' l pd tm H
  | [], pd, tm, H, h => hk _ _ h
  | .n dst g o :: rest, pd, tm, H, h => by
    rw [IRun] at h ⊢
    split at h
    · split at h
      · exact irun_mono hk rest _ _ _ h
      · exact irun_mono hk rest _ _ _ h
      · exact h.elim
    · exact irun_mono hk rest _ _ _ h
    · exact h.elim
  | .late key dst g o :: rest, pd, tm, H, h => by
    rw [IRun] at h ⊢
    split at h
    · split at h
      · exact irun_mono hk rest _ _ _ h
      · exact h.elim
    · exact irun_mono hk rest _ _ _ h
    · exact h.elim
  | .act key :: rest, pd, tm, H, h => by
    rw [IRun] at h ⊢
    split at h
    · exact irun_mono hk rest _ _ _ h
    · exact irun_mono hk rest _ _ _ h
  | .e dst g o re :: rest, pd, tm, H, h => by
    rw [IRun] at h ⊢
    split at h
    · exact estep_mono (fun v H' ⟨h1, h2⟩ => ⟨h1, irun_mono hk rest _ _ _ h2⟩) o h
    · exact irun_mono hk rest _ _ _ h
    · exact h.elim
theorem then_mono {n n' : Tms → AH → Prop} {Q Q' : IPost} (hn : ∀ tm H, n tm H → n' tm H) (hq : ∀ e tm H, Q e tm H → Q' e tm H) : ∀ e tm H, IPost.then n Q e tm H → IPost.then n' Q' e tm H
  | .normal, tm, H, h => hn _ _ h
  | .exit _, tm, H, h => hq _ _ _ h
  | .ret, tm, H, h => hq _ _ _ h
theorem inBlock_mono {id : Nat} {Q Q' : IPost} (hq : ∀ e tm H, Q e tm H → Q' e tm H) : ∀ e tm H, IPost.inBlock id Q e tm H → IPost.inBlock id Q' e tm H
  | .normal, tm, H, h => hq _ _ _ h
  | .exit k, tm, H, h => by
    simp only [IPost.inBlock] at h ⊢
    split
    · rename_i e; rw [if_pos e] at h; exact hq _ _ _ h
    · rename_i e; rw [if_neg e] at h; exact hq _ _ _ h
  | .ret, tm, H, h => hq _ _ _ h
theorem iwp_mono : ∀ (c : ICode) {Q Q' : IPost} (hq : ∀ e tm H, Q e tm H → Q' e tm H) (tm : Tms) (H : AH), IWP P c Q tm H → IWP P c Q' tm H
  | .skip, Q, Q', hq, tm, H, h => hq _ _ _ h
  | .reg steps, Q, Q', hq, tm, H, h => irun_mono (hq .normal) steps [] tm H h
  | .seq a b, Q, Q', hq, tm, H, h => iwp_mono a (then_mono (fun tm H h => iwp_mono b hq tm H h) hq) tm H h
  | .cond c a b, Q, Q', hq, tm, H, h => by
    rw [IWP] at h ⊢
    split at h
    · exact iwp_mono a hq tm H h
    · exact iwp_mono b hq tm H h
    · exact h.elim
  | .block id a, Q, Q', hq, tm, H, h => iwp_mono a (inBlock_mono hq) tm H h
  | .loop a, Q, Q', hq, tm, H, h => by
    obtain ⟨I, h0, h1⟩ := h
    exact ⟨I, h0, fun n tm H hi => iwp_mono a (then_mono (fun _ _ h => h) hq) tm H (h1 n tm H hi)⟩
  | .exit id, Q, Q', hq, tm, H, h => hq _ _ _ h
  | .ret, Q, Q', hq, tm, H, h => hq _ _ _ h
  | .never, Q, Q', hq, tm, H, h => h.elim
/-- A walk cut in two: what holds between. -/
theorem iwp_cut {a b : ICode} {Q : IPost} {tm : Tms} {H : AH} (R : Tms → AH → Prop) (h1 : IWP P a (IPost.then R Q) tm H) (h2 : ∀ tm' H', R tm' H' → IWP P b Q tm' H') : IWP P (.seq a b) Q tm H :=
  iwp_mono a (then_mono (fun tm' H' h => h2 tm' H' h) fun _ _ _ h => h) tm H h1
theorem iwp_post {a : ICode} {Q : IPost} {tm : Tms} {H : AH} (R : IPost) (h1 : IWP P a R tm H) (h2 : ∀ e tm' H', R e tm' H' → Q e tm' H') : IWP P a Q tm H := iwp_mono a h2 tm H h1
theorem iwp_assoc {a b c : ICode} {Q : IPost} {tm : Tms} {H : AH} (h : IWP P (.seq (.seq a b) c) Q tm H) : IWP P (.seq a (.seq b c)) Q tm H :=
  iwp_mono a (fun e tm H h => by cases e <;> exact h) tm H h
theorem iwp_cut2 {a b c : ICode} {Q : IPost} {tm : Tms} {H : AH} (R : Tms → AH → Prop) (h1 : IWP P (.seq a b) (IPost.then R Q) tm H) (h2 : ∀ tm' H', R tm' H' → IWP P c Q tm' H') : IWP P (.seq a (.seq b c)) Q tm H :=
  iwp_assoc (iwp_cut R h1 h2)
theorem iwp_cut3 {a b c d : ICode} {Q : IPost} {tm : Tms} {H : AH} (R : Tms → AH → Prop) (h1 : IWP P (.seq a (.seq b c)) (IPost.then R Q) tm H) (h2 : ∀ tm' H', R tm' H' → IWP P d Q tm' H') : IWP P (.seq a (.seq b (.seq c d))) Q tm H :=
  iwp_assoc (iwp_cut2 R (iwp_mono a (fun e tm H h => by cases e <;> exact h) tm H h1) h2)
/-- The part of a code at the end of a path: 0 the first part, 1 the second. -/
def part_ : List Nat → ICode → ICode
  | [], c => c
  | 0 :: p, .seq a _ => part_ p a
  | _ :: p, .seq _ b => part_ p b
  | 0 :: p, .cond _ a _ => part_ p a
  | _ :: p, .cond _ _ b => part_ p b
  | _ :: p, .block _ a => part_ p a
  | _ :: p, .loop a => part_ p a
  | _, c => c
end
def lenS : AV → Option Nat
  | .slice _ _ n _ => some n
  | .snil => some 0
  | .sempty => some 0
  | .szero => some 0
  | _ => none
@[simp] theorem lenS_slice (b o n e : Nat) : lenS (.slice b o n e) = some n := (rfl)
@[simp] theorem lenS_snil : lenS .snil = some 0 := (rfl)
@[simp] theorem lenS_sempty : lenS .sempty = some 0 := (rfl)
@[simp] theorem lenS_szero : lenS .szero = some 0 := (rfl)
theorem nop_len (ev : IOpd → AV) (H : AH) (id : Nat) (x : IOpd) : nop ev H id (.len x) = (lenS (ev x)).map fun n => (.int .i64 (n : Int), none) := by
  rw [nop]
  cases ev x <;> rfl
@[simp ↓ high] theorem irun_len {P : Program} (K : Tms → AH → Prop) (dst : Option Nat) (g : Guard) (x : IOpd) (rest : List IStep) (pd : Pend) (tm : Tms) (H : AH) :
    IRun P K (.n dst g (.len x) :: rest) pd tm H = Fork3 (wantedA tm g) (Try (lenS (x.ev tm)) (fun n => IRun P K rest pd (put tm dst (.int .i64 (n : Int))) H) markF) (IRun P K rest pd (put tm dst .undef) H) mark := by
  rw [irun_n, nop_len, Try.map]
  rfl
theorem SL.get {H : AH} {v : AV} {l : List AV} (h : SL H v l) (i : Nat) (hi : i < l.length) : ∃ b o, v = .slice b o l.length 1 ∧ loadC H b (o + i) none = some l[i] := by
  rcases h with ⟨h1, _⟩ | ⟨b, o, rfl, _, h3⟩
  · rw [h1] at hi; simp at hi
  · exact ⟨b, o, rfl, by rw [h3 i hi, List.getElem?_eq_getElem hi]⟩
theorem SL.cases {H : AH} {v : AV} {l : List AV} (h : SL H v l) : (l.length = 0 ∧ v = .snil) ∨ (l.length = 0 ∧ v = .sempty) ∨ ∃ b o, v = .slice b o l.length 1 := by
  rcases h with ⟨h1, rfl | rfl⟩ | ⟨b, o, rfl, _, _⟩
  · exact .inl ⟨by rw [h1]; rfl, rfl⟩
  · exact .inr (.inl ⟨by rw [h1]; rfl, rfl⟩)
  · exact .inr (.inr ⟨b, o, rfl⟩)
/-- A slice that reads as a row, or one of no room. -/
def SZ (H : AH) (v : AV) (l : List AV) : Prop := SL H v l ∨ (l.length = 0 ∧ v = .szero)
theorem SZ.keeps {H H1 : AH} (hk : H.keepsAll H1) {v : AV} {l : List AV} (h : SZ H v l) : SZ H1 v l := h.imp (fun h => h.keeps hk) id
theorem SZ.get {H : AH} {v : AV} {l : List AV} (h : SZ H v l) (i : Nat) (hi : i < l.length) : ∃ b o, v = .slice b o l.length 1 ∧ loadC H b (o + i) none = some l[i] := by
  rcases h with h | ⟨h, _⟩
  · exact SL.get h i hi
  · omega
theorem SZ.cases {H : AH} {v : AV} {l : List AV} (h : SZ H v l) : (l.length = 0 ∧ v = .snil) ∨ (l.length = 0 ∧ v = .sempty) ∨ (l.length = 0 ∧ v = .szero) ∨ ∃ b o, v = .slice b o l.length 1 := by
  rcases h with h | h
  · rcases SL.cases h with h | h | h
    · exact .inl h
    · exact .inr (.inl h)
    · exact .inr (.inr (.inr h))
  · exact .inr (.inr (.inl h))
theorem SL.lenS {H : AH} {v : AV} {l : List AV} (h : SL H v l) : lenS v = some l.length := by
  rcases SL.cases h with ⟨h0, rfl⟩ | ⟨h0, rfl⟩ | ⟨b, o, rfl⟩ <;> simp <;> omega
theorem SZ.lenS {H : AH} {v : AV} {l : List AV} (h : SZ H v l) : lenS v = some l.length := by
  rcases SZ.cases h with ⟨h0, rfl⟩ | ⟨h0, rfl⟩ | ⟨h0, rfl⟩ | ⟨b, o, rfl⟩ <;> simp <;> omega
end Go.Proofs.YtllkdoefonehoaaGreatDoor.Abs

/- More may be asked of less: posts that follow; cutting a walk in two; parts of a code. No condition. -/
import Derived.Test.YteaecdakffjneaaDoorA22
set_option linter.unusedVariables false
set_option linter.unusedSimpArgs false
namespace Go.Proofs.YteaecdakffjneaaDoor.Abs
open Go Go.RowKit
section
variable {P : Program}
theorem CallI.mono {t : TypeId} {nm : String} {v : AV} {args : List AV} {H : AH} {Q Q' : AV → AH → Prop} (h : CallI P t nm v args H Q) (hq : ∀ v H', Q v H' → Q' v H') : CallI P t nm v args H Q' := by
  obtain ⟨f, v', hm, h⟩ := h
  exact ⟨f, v', hm, h.elim (fun h => .inl (h.mono hq)) (fun h => .inr (h.mono hq))⟩
theorem estep_mono {ev : IOpd → AV} {H : AH} {K K' : AV → AH → Prop} (hk : ∀ v H', K v H' → K' v H') : ∀ (o : EOp), estep P ev H K o → estep P ev H K' o
  | .store n x v, h => by
    simp only [estep] at h ⊢
    split at h
    · split at h
      · rename_i hl
        rw [if_pos hl]
        split at h
        · exact hk _ _ h
        · exact h.elim
      · exact h.elim
    · exact h.elim
  | .call f args, h => ACall.mono h hk
  | .callv x args, h => by
    simp only [estep] at h ⊢
    split at h
    · exact ACall.mono h hk
    · exact h.elim
  | .invoke nm x args, h => by
    simp only [estep] at h ⊢
    split at h
    · exact CallI.mono h hk
    · exact h.elim
  | .xcall f args, h => XCall.mono h hk
  | .never, h => h.elim
  | .append _ _ _ _ _ _, h => by
    simp only [estep] at h ⊢
    split at h
    · exact hk _ _ h
    · exact h.elim
  | .copy _ _ _, h => by
    simp only [estep] at h ⊢
    split at h
    · exact hk _ _ h
    · exact h.elim
  | .clear _ _ _, h => by
    simp only [estep] at h ⊢
    split at h
    · exact hk _ _ h
    · exact h.elim
  | .cap x, h => by
    simp only [estep] at h ⊢
    unfold CapA at h ⊢
    split at h
    · exact hk _ _ h
    · exact hk _ _ h
    · exact fun k => hk _ _ (h k)
    · exact fun k hn => hk _ _ (h k hn)
    · exact h.elim
  | .mapset _ _ _, h => by
    simp only [estep] at h ⊢
    split at h
    · exact hk _ _ h
    · exact h.elim
theorem irun_mono {K K' : Tms → AH → Prop} (hk : ∀ tm H, K tm H → K' tm H) : ∀ (l : List IStep) (pd : Pend) (tm : Tms) (H : AH), IRun P K l pd tm H → IRun P K' l pd tm H
  | [], pd, tm, H, h => hk _ _ h
  | .n dst g o :: rest, pd, tm, H, h => by
    rw [IRun] at h ⊢
    split at h
    · split at h
      · exact irun_mono hk rest _ _ _ h
      · exact irun_mono hk rest _ _ _ h
      · exact h.elim
    · exact irun_mono hk rest _ _ _ h
    · exact h.elim
  | .late key dst g o :: rest, pd, tm, H, h => by
    rw [IRun] at h ⊢
    split at h
    · split at h
      · exact irun_mono hk rest _ _ _ h
      · exact h.elim
    · exact irun_mono hk rest _ _ _ h
    · exact h.elim
  | .act key :: rest, pd, tm, H, h => by
    rw [IRun] at h ⊢
    split at h
    · exact irun_mono hk rest _ _ _ h
    · exact irun_mono hk rest _ _ _ h
  | .e dst g o re :: rest, pd, tm, H, h => by
    rw [IRun] at h ⊢
    split at h
    · exact estep_mono (fun v H' ⟨h1, h2⟩ => ⟨h1, irun_mono hk rest _ _ _ h2⟩) o h
    · exact irun_mono hk rest _ _ _ h
    · exact h.elim
theorem then_mono {n n' : Tms → AH → Prop} {Q Q' : IPost} (hn : ∀ tm H, n tm H → n' tm H) (hq : ∀ e tm H, Q e tm H → Q' e tm H) : ∀ e tm H, IPost.then n Q e tm H → IPost.then n' Q' e tm H
  | .normal, tm, H, h => hn _ _ h
  | .exit _, tm, H, h => hq _ _ _ h
  | .ret, tm, H, h => hq _ _ _ h
theorem inBlock_mono {id : Nat} {Q Q' : IPost} (hq : ∀ e tm H, Q e tm H → Q' e tm H) : ∀ e tm H, IPost.inBlock id Q e tm H → IPost.inBlock id Q' e tm H
  | .normal, tm, H, h => hq _ _ _ h
  | .exit k, tm, H, h => by
    simp only [IPost.inBlock] at h ⊢
    split
    · rename_i e; rw [if_pos e] at h; exact hq _ _ _ h
    · rename_i e; rw [if_neg e] at h; exact hq _ _ _ h
  | .ret, tm, H, h => hq _ _ _ h
theorem iwp_mono : ∀ (c : ICode) {Q Q' : IPost} (hq : ∀ e tm H, Q e tm H → Q' e tm H) (tm : Tms) (H : AH), IWP P c Q tm H → IWP P c Q' tm H
  | .skip, Q, Q', hq, tm, H, h => hq _ _ _ h
  | .reg steps, Q, Q', hq, tm, H, h => irun_mono (hq .normal) steps [] tm H h
  | .seq a b, Q, Q', hq, tm, H, h => iwp_mono a (then_mono (fun tm H h => iwp_mono b hq tm H h) hq) tm H h
  | .cond c a b, Q, Q', hq, tm, H, h => by
    rw [IWP] at h ⊢
    split at h
    · exact iwp_mono a hq tm H h
    · exact iwp_mono b hq tm H h
    · exact h.elim
  | .block id a, Q, Q', hq, tm, H, h => iwp_mono a (inBlock_mono hq) tm H h
  | .loop a, Q, Q', hq, tm, H, h => by
    obtain ⟨I, h0, h1⟩ := h
    exact ⟨I, h0, fun n tm H hi => iwp_mono a (then_mono (fun _ _ h => h) hq) tm H (h1 n tm H hi)⟩
  | .exit id, Q, Q', hq, tm, H, h => hq _ _ _ h
  | .ret, Q, Q', hq, tm, H, h => hq _ _ _ h
  | .never, Q, Q', hq, tm, H, h => h.elim
/-- A walk cut in two: what holds between. -/
theorem iwp_cut {a b : ICode} {Q : IPost} {tm : Tms} {H : AH} (R : Tms → AH → Prop) (h1 : IWP P a (IPost.then R Q) tm H) (h2 : ∀ tm' H', R tm' H' → IWP P b Q tm' H') : IWP P (.seq a b) Q tm H :=
  iwp_mono a (then_mono (fun tm' H' h => h2 tm' H' h) fun _ _ _ h => h) tm H h1
theorem iwp_post {a : ICode} {Q : IPost} {tm : Tms} {H : AH} (R : IPost) (h1 : IWP P a R tm H) (h2 : ∀ e tm' H', R e tm' H' → Q e tm' H') : IWP P a Q tm H := iwp_mono a h2 tm H h1
theorem iwp_assoc {a b c : ICode} {Q : IPost} {tm : Tms} {H : AH} (h : IWP P (.seq (.seq a b) c) Q tm H) : IWP P (.seq a (.seq b c)) Q tm H :=
  iwp_mono a (fun e tm H h => by cases e <;> exact h) tm H h
theorem iwp_cut2 {a b c : ICode} {Q : IPost} {tm : Tms} {H : AH} (R : Tms → AH → Prop) (h1 : IWP P (.seq a b) (IPost.then R Q) tm H) (h2 : ∀ tm' H', R tm' H' → IWP P c Q tm' H') : IWP P (.seq a (.seq b c)) Q tm H :=
  iwp_assoc (iwp_cut R h1 h2)
theorem iwp_cut3 {a b c d : ICode} {Q : IPost} {tm : Tms} {H : AH} (R : Tms → AH → Prop) (h1 : IWP P (.seq a (.seq b c)) (IPost.then R Q) tm H) (h2 : ∀ tm' H', R tm' H' → IWP P d Q tm' H') : IWP P (.seq a (.seq b (.seq c d))) Q tm H :=
  iwp_assoc (iwp_cut2 R (iwp_mono a (fun e tm H h => by cases e <;> exact h) tm H h1) h2)
/-- The part of a code at the end of a path: 0 the first part, 1 the second. -/
def part_ : List Nat → ICode → ICode
  | [], c => c
  | 0 :: p, .seq a _ => part_ p a
  | _ :: p, .seq _ b => part_ p b
  | 0 :: p, .cond _ a _ => part_ p a
  | _ :: p, .cond _ _ b => part_ p b
  | _ :: p, .block _ a => part_ p a
  | _ :: p, .loop a => part_ p a
  | _, c => c
end
end Go.Proofs.YteaecdakffjneaaDoor.Abs

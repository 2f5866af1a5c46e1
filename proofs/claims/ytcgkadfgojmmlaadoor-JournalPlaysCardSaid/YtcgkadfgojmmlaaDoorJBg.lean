/- Groups that a law builds. No condition. -/
import Derived.Test.YtcgkadfgojmmlaaDoorJBf
set_option linter.unusedVariables false
set_option linter.unusedSimpArgs false
set_option maxRecDepth 10000
set_option maxHeartbeats 4000000
namespace Go.Proofs.YtcgkadfgojmmlaaDoor.JN
open Go Go.RowKit Go.Proofs.YtcgkadfgojmmlaaDoor Go.Proofs.YtcgkadfgojmmlaaDoor.Abs Go.Proofs.YtcgkadfgojmmlaaDoor.Ic Go.Proofs.YtcgkadfgojmmlaaDoor.EAs Go.Proofs.YtcgkadfgojmmlaaDoor.EErr Go.Proofs.YtcgkadfgojmmlaaDoor.DFn
/-- A group of the law's own. -/
def GL (B : Nat) (H : AH) (v : AV) (li : List Ib) : Prop := OutF B H tBk 2 v (rowsI li) ∧ ∀ x ∈ li, QOk H x.2 ∧ x.2.1 < H.next ∧ B ≤ x.2.1
def Disj (v w : AV) : Prop := ∀ y n m, v = .slice y 0 n 2 → w ≠ .slice y 0 m 2
/-- What is no row of groups stays. -/
def KT (H H' : AH) : Prop := ∀ y t cs, H.at_ y = some (.cells false t cs) → t ≠ tBk → H'.at_ y = some (.cells false t cs)
theorem KT.of {H H' : AH} (h : H.keepsAll H') : KT H H' := fun y t cs hy _ => h _ _ hy
theorem KT.trans {H H1 H2 : AH} (h : KT H H1) (h' : KT H1 H2) : KT H H2 := fun y t cs hy hne => h' _ _ _ (h _ _ _ hy hne) hne
theorem DS.kt {H H' : AH} {p L : Nat} {s : DK} (hk : KT H H') (h : DS H p L s) : DS H' p L s := by
  obtain ⟨h0, h1, cs, h2, h3, h4⟩ := h
  refine ⟨h0, hk _ _ _ h1 (by decide), cs, hk _ _ _ h2 (by decide), h3, fun i hi => ?_⟩
  obtain ⟨av, a1, a2⟩ := h4 i hi
  refine ⟨av, a1, ?_⟩
  cases hc : s.ct[i] with
  | none => rw [hc] at a2; exact a2
  | some bs =>
    rw [hc] at a2
    obtain ⟨b1, q, b2, b3, b4, b5⟩ := a2
    exact ⟨b1, q, b2, hk _ _ _ b3 (by decide), b4, b5⟩
theorem JO.kt {H H' : AH} {jb p at_ most : Nat} (hk : KT H H') (h : JO H jb p at_ most) : JO H' jb p at_ most := hk _ _ _ h (by decide)
theorem GL.nil (B : Nat) (H : AH) : GL B H .snil [] := ⟨.inl ⟨rfl, rfl⟩, by simp⟩
theorem GL.one {B : Nat} {H : AH} {v : AV} {li : List Ib} (h : GL B H v li) : v.cells = [v] ∧ v.one = true ∧ lenS v = some li.length := by
  rcases h.1 with ⟨hh, rfl⟩ | ⟨q, rfl, _⟩
  · have : li.length = 0 := by have := congrArg List.length hh; simpa [rowsI] using this
    exact ⟨rfl, rfl, by rw [this]; rfl⟩
  · exact ⟨rfl, rfl, by simp [lenS, rowsI]⟩
theorem GL.keeps {B : Nat} {H H' : AH} {v : AV} {li : List Ib} (hk : H.keepsAll H') (hn : H.next ≤ H'.next) (h : GL B H v li) : GL B H' v li :=
  ⟨h.1.keeps hk hn, fun x hx => ⟨(h.2 x hx).1.keeps hk, by have := (h.2 x hx).2; omega, (h.2 x hx).2.2⟩⟩
theorem GL.kx {B : Nat} {H H' : AH} {p L : Nat} {s : DK} {v : AV} {li : List Ib} (hd : DS H p L s) (hk : KX p L H H') (hn : H.next ≤ H'.next) (h : GL B H v li) : GL B H' v li := by
  refine ⟨?_, fun x hx => ?_⟩
  · rcases h.1 with hh | ⟨q, h1, h2, h3, h4, h5⟩
    · exact .inl hh
    · obtain ⟨n1, n2⟩ := ds_ne hd h3 (by decide) (by decide)
      exact .inr ⟨q, h1, h2, hk _ _ n1 n2 h3, h4, by omega⟩
  · obtain ⟨a1, a2, a3⟩ := h.2 x hx
    obtain ⟨n1, n2⟩ := ds_ne hd a1.2 (by decide) (by decide)
    exact ⟨⟨a1.1, hk _ _ n1 n2 a1.2⟩, by omega, a3⟩
theorem appAll {H : AH} {b : Nat} {la : List Ib} (hb : H.at_ b = some (.cells false tBk (rowsI la).flatten)) (hlt : b < H.next) (h1 : 1 ≤ la.length) (h2 : la.length ≤ 1000) :
    appendK (H.new (.cells false tBk [])) false tBk 2 32 (.slice H.next 0 0 2) (.slice b 0 la.length 2) = some (.slice (H.next + 1) 0 la.length 2, ((H.new (.cells false tBk [])).set H.next none).new (.cells false tBk (rowsI la).flatten)) := by
  have hb1 : (H.new (.cells false tBk [])).at_ b = some (.cells false tBk (rowsI la).flatten) := by rw [AH.new_ne _ _ (by omega)]; exact hb
  have hlen : (rowsI la).flatten.length = la.length * 2 := by rw [flat_len (allI la)]; simp [rowsI]
  have hall : (rowsI la).flatten.all AV.one = true := flat_mem fun l hl x hx => by
    obtain ⟨y, _, rfl⟩ := List.mem_map.1 hl
    simp only [rowI, List.mem_cons, List.not_mem_nil, or_false] at hx
    rcases hx with rfl | rfl <;> rfl
  have hsrc : srcCells (H.new (.cells false tBk [])) 2 la.length (.slice b 0 la.length 2) = some (rowsI la).flatten := by
    have hld : loadC (H.new (.cells false tBk [])) b 0 (some (la.length * 2)) = some (.agg (rowsI la).flatten) := by
      unfold loadC
      rw [hb1]
      simp only []
      rw [if_pos (by omega), List.drop_zero, List.take_of_length_le (by omega)]
    simp only [srcCells, hld]
  simp only [appendK, isStrV, if_true, appendA, lenA, Option.bind_some, if_neg (show ¬ la.length = 0 by omega), hsrc, hall, AH.new_same]
  rw [if_pos ⟨trivial, trivial, trivial, by simp, by omega, by omega⟩]
  simp
theorem GL.bi {B : Nat} {H : AH} {v : AV} {li : List Ib} (h : GL B H v li) (hne : 1 ≤ li.length) : BI H v li := by
  rcases h.1 with ⟨hh, _⟩ | ⟨b, e, _, hb, _⟩
  · have : li.length = 0 := by have := congrArg List.length hh; simpa [rowsI] using this
    omega
  · exact ⟨b, by rw [e]; simp [rowsI], hb, fun x hx => (h.2 x hx).1⟩
theorem GL.bg {B : Nat} {H : AH} {v : AV} {li : List Ib} (h : GL B H v li) : BG H v (li.map grI) := by
  refine ⟨?_, fun x hx => ?_⟩
  · rcases h.1 with ⟨hh, e⟩ | ⟨b, e, _, hb, _⟩
    · have : li = [] := by simpa [rowsI] using hh
      exact .inl ⟨by simp [this], e⟩
    · exact .inr ⟨b, by rw [e]; simp [rowsI], by rw [rowsG_I]; exact hb⟩
  · obtain ⟨y, hy, rfl⟩ := List.mem_map.1 hx
    exact ⟨rfl, rfl, rfl, by show 128 ≤ 100000; omega⟩
theorem ok_none {H : AH} {b : Nat} (h : H.ok) : (H.set b none).ok := fun c q hc => by
  by_cases e : c = b
  · subst e; rw [AH.set_same] at hc; cases hc
  · rw [AH.set_ne _ _ e] at hc; exact h c q hc
theorem appendA_ok {H H' : AH} {t : TypeId} {size bytes : Nat} {s x v' : AV} (hok : H.ok) (h : appendA H t size bytes s x = some (v', H')) : H'.ok := by
  unfold appendA at h
  obtain ⟨m, _, h⟩ := Option.bind_eq_some_iff.1 h
  split at h
  · split at h <;> first | (cases h; exact hok) | cases h
  · obtain ⟨xs, _, h⟩ := Option.bind_eq_some_iff.1 h
    split at h
    · split at h
      · split at h
        · cases h; exact AH.ok_new hok
        · cases h
      · split at h
        · cases h; exact AH.ok_new hok
        · cases h
      · split at h
        · split at h
          · cases h; exact AH.ok_new (ok_none hok)
          · cases h
        · cases h
      · cases h
    · cases h
theorem appendK_ok {H H' : AH} {str : Bool} {t : TypeId} {size bytes : Nat} {s x v' : AV} (hok : H.ok) (h : appendK H str t size bytes s x = some (v', H')) : H'.ok := by
  unfold appendK at h
  split at h
  · exact appendA_ok hok h
  · cases h
theorem appI {B : Nat} {H : AH} {v : AV} {li : List Ib} {x : Ib} (h : GL B H v li) (hx : QOk H x.2 ∧ x.2.1 < H.next ∧ B ≤ x.2.1) (hok : H.ok) (hB : B ≤ H.next) (hl : li.length ≤ 1000) :
    ∃ v' H', appendK (H.new (.cells false tBk (rowI x))) false tBk 2 32 v (.slice H.next 0 1 2) = some (v', H') ∧ GL B H' v' (li ++ [x]) ∧ H'.next = H.next + 2 ∧ KBel B H H' ∧ KT H H' ∧ H'.ok ∧ ∀ w lj, GL B H w lj → Disj v w → GL B H' w lj ∧ Disj v' w := by
  obtain ⟨v', H', a1, o1, n1, k1, g1, e1⟩ := appendOutG (bytes := 32) (x := rowI x) h.1 (allI li) (by omega) hB rfl rfl (by simp [rowsI]; omega) (by simp [rowsI]; omega)
  have hX := appX h.1 g1
  have hq : ∀ y : Ib, QOk H y.2 ∧ y.2.1 < H.next ∧ B ≤ y.2.1 → QOk H' y.2 ∧ y.2.1 < H'.next ∧ B ≤ y.2.1 := fun y hy => ⟨⟨hy.1.1, hX _ _ _ hy.2.1 hy.1.2 (by decide)⟩, by omega, hy.2.2⟩
  refine ⟨v', H', a1, ⟨by simpa [rowsI] using o1, fun y hy => ?_⟩, n1, k1, fun y t cs hy hne => hX _ _ _ (hok _ _ hy) hy hne, appendK_ok (AH.ok_new hok) a1, fun w lj hw hd => ⟨⟨?_, fun y hy => hq y (hw.2 y hy)⟩, fun y n m e1' e2 => ?_⟩⟩
  · rcases List.mem_append.1 hy with hy | hy
    · exact hq y (h.2 y hy)
    · obtain rfl := List.mem_singleton.1 hy; exact hq y hx
  · rcases hw.1 with hh | ⟨q, h1, h2, h3, h4, h5⟩
    · exact .inl hh
    · exact .inr ⟨q, h1, h2, g1 _ _ h5 h3 fun n e => hd q n _ e h1, h4, by omega⟩
  · rw [e1] at e1'
    injection e1' with e1'
    rcases hw.1 with ⟨_, hh⟩ | ⟨q, h1, h2, h3, h4, h5⟩
    · rw [e2] at hh; cases hh
    · rw [e2] at h1
      injection h1 with h1
      omega
theorem Disj.nil_left (w : AV) : Disj .snil w := fun y n m h => by cases h
theorem Disj.nil_right (v : AV) : Disj v .snil := fun y n m _ h => by cases h
theorem Disj.symm {v w : AV} (h : Disj v w) : Disj w v := fun y n m h1 h2 => h y m n h2 h1
/-- Blocks one behind the other, filled by numbers. -/
def rowF (c : Nat) (f : Nat → Int) (n : Nat) : List Wr := (List.range n).map fun k => (c + k, fill (f k))
theorem rowF_len (c : Nat) (f : Nat → Int) (n : Nat) : (rowF c f n).length = n := by simp [rowF]
theorem rowF_succ (c : Nat) (f : Nat → Int) (n : Nat) : rowF c f (n + 1) = rowF c f n ++ [(c + n, fill (f n))] := by simp [rowF, List.range_succ]
theorem rowF_mem {c : Nat} {f : Nat → Int} {n : Nat} {x : Wr} (h : x ∈ rowF c f n) : ∃ k, k < n ∧ x = (c + k, fill (f k)) := by
  obtain ⟨k, hk, rfl⟩ := List.mem_map.1 h
  exact ⟨k, by simpa using hk, rfl⟩
theorem rowF_in {c : Nat} {f : Nat → Int} {n k : Nat} (h : k < n) : (c + k, fill (f k)) ∈ rowF c f n := List.mem_map.2 ⟨k, by simpa using h, rfl⟩
theorem rowF_nodup (c : Nat) (f : Nat → Int) (n : Nat) : ((rowF c f n).map (·.1)).Nodup := by
  have : (rowF c f n).map (·.1) = (List.range n).map (c + ·) := by simp [rowF]
  rw [this]
  exact List.Pairwise.map _ (fun a b (h : a ≠ b) => show c + a ≠ c + b by omega) List.nodup_range
theorem rowF_good {at_ most nb c n : Nat} {f : Nat → Int} (h1 : c + n ≤ nb) (h2 : at_ + need most ≤ c) : Good at_ most nb (rowF c f n) :=
  ⟨rowF_nodup c f n, fun x hx => by obtain ⟨k, hk, rfl⟩ := rowF_mem hx; show c + k < nb; omega, fun x hx ho => by obtain ⟨k, hk, rfl⟩ := rowF_mem hx; have := ho.2; dsimp only at this; omega, fun x hx => by obtain ⟨k, hk, rfl⟩ := rowF_mem hx; exact fill_len _⟩
theorem rowF_aft {base : Nat → Bs} {c n k : Nat} {f : Nat → Int} (h : k < n) : aft base (rowF c f n) (c + k) = fill (f k) := aft_mem (rowF_nodup c f n) (rowF_in h)
theorem aftz : aft (fun _ => zer) [(30, zer)] = fun _ => zer := by
  funext i
  unfold aft
  by_cases h : (30 : Nat) = i <;> simp [h]
theorem aft_aft (base : Nat → Bs) (l : List Wr) : aft (aft base l) l = aft base l := by
  funext i
  unfold aft
  split <;> simp [*]
end Go.Proofs.YtcgkadfgojmmlaaDoor.JN

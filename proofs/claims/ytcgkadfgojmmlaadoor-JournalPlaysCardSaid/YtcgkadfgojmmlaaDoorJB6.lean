/- journal.body. No condition. -/
import Derived.Test.YtcgkadfgojmmlaaDoorJB5
set_option linter.unusedVariables false
set_option linter.unusedSimpArgs false
set_option maxRecDepth 10000
set_option maxHeartbeats 4000000
namespace Go.Proofs.YtcgkadfgojmmlaaDoor.JN
open Go Go.RowKit Go.Proofs.YtcgkadfgojmmlaaDoor Go.Proofs.YtcgkadfgojmmlaaDoor.Abs Go.Proofs.YtcgkadfgojmmlaaDoor.Ic Go.Proofs.YtcgkadfgojmmlaaDoor.EAs Go.Proofs.YtcgkadfgojmmlaaDoor.EErr Go.Proofs.YtcgkadfgojmmlaaDoor.DFn
theorem iwp_any {P : Program} {C : ICode} {Q : IPost} {tm : Tms} {H : AH} (R : Tms → Prop) (h0 : R tm) (h : ∀ tm, R tm → IWP P C Q tm H) : IWP P C Q tm H := h tm h0
abbrev tSB : Nat := 31
abbrev tBB : Nat := 62
theorem outF_base {B B' : Nat} {H : AH} {t : TypeId} {sz : Nat} {v : AV} {L : List (List AV)} (h : OutF B H t sz v L) (hb : B' ≤ B) : OutF B' H t sz v L := by
  rcases h with h | ⟨q, h0, h1, h2, h3, h4⟩
  · exact .inl h
  · exact .inr ⟨q, h0, h1, h2, by omega, h4⟩
theorem kbel_put {B q : Nat} {cs : Bs} {H H1 H2 : AH} (h : KBel B H H1) (hq : B ≤ q) (hp : PutQ q cs H1 H2) : KBel B H H2 := fun y o hy ho => by rw [hp.2.1 y (by omega)]; exact h y o hy ho
theorem outF_kbel {B : Nat} {H H' : AH} {t : TypeId} {sz : Nat} {v : AV} {L : List (List AV)} (h : OutF B H t sz v L) (hk : KBel H.next H H') (hn : H.next ≤ H'.next) : OutF B H' t sz v L := by
  rcases h with h | ⟨q, h0, h1, h2, h3, h4⟩
  · exact .inl h
  · exact .inr ⟨q, h0, h1, hk _ _ h4 h2, h3, by omega⟩
structure BoJ (l : List Ib) (v : AV) (H : AH) (k : Nat) (H' : AH) : Prop where
  keeps : H.keepsAll H'
  next : H.next + 4 ≤ H'.next
  b1 : H'.at_ (H.next + 1) = some (.cells false tSB [v])
  b2 : H'.at_ (H.next + 2) = some (.cells false 3 [.int .i64 16])
  out : ∃ ov nums, H'.at_ H.next = some (.cells false tBB [ov]) ∧ OutF (H.next + 4) H' tBS 1 ov (rowsQ nums) ∧ (∀ x ∈ nums, QOk H' x ∧ H.next + 4 ≤ x.1 ∧ x.1 < H'.next) ∧ nums.map (·.2) = (List.range k).map (numB (l.map wr))
theorem outF_set' {B : Nat} {H : AH} {t : TypeId} {sz : Nat} {v : AV} {L : List (List AV)} (h : OutF B H t sz v L) {c : Nat} (hc : c < B) (o : Option AObj) : OutF B (H.set c o) t sz v L := by
  rcases h with h | ⟨q, h0, h1, h2, h3, h4⟩
  · exact .inl h
  · exact .inr ⟨q, h0, h1, by rw [AH.set_ne _ _ (by omega)]; exact h2, h3, h4⟩
theorem BoJ.set3 {l : List Ib} {v : AV} {H : AH} (hok : H.ok) {k : Nat} {H' : AH} (h : BoJ l v H k H') (o : Option AObj) : BoJ l v H k (H'.set (H.next + 3) o) := by
  obtain ⟨ov, nums, h1, h2, h3, h4⟩ := h.out
  refine ⟨fun x q hx => ?_, h.next, ?_, ?_, ov, nums, ?_, outF_set' h2 (by omega) _, fun x hx => ⟨⟨(h3 x hx).1.1, ?_⟩, (h3 x hx).2⟩, h4⟩
  · have := hok _ _ hx
    rw [AH.set_ne _ _ (by omega)]; exact h.keeps x q hx
  · rw [AH.set_ne _ _ (by omega)]; exact h.b1
  · rw [AH.set_ne _ _ (by omega)]; exact h.b2
  · rw [AH.set_ne _ _ (by omega)]; exact h1
  · have := (h3 x hx).2.1
    rw [AH.set_ne _ _ (by omega)]; exact (h3 x hx).1.2
def BoI (l : List Ib) (v : AV) (o : Option IEx → AObj) (H : AH) (k : Nat) (H' : AH) : Prop := H'.at_ (H.next + 3) = some (o none) ∧ BoJ l v H k H'
def BoK (l : List Ib) (k b nb oc m : Nat) (nos : List Nat) (Hr : AH) (kk : Nat) (tm : Tms) (H' : AH) : Prop := KBel Hr.next Hr H' ∧ Hr.next < H'.next ∧ ∃ (i : Nat) (cur : Bs), kk = m - i ∧ i ≤ m ∧ H'.at_ nb = some (.cells false tU8 (cur.map byteV)) ∧ cur.length = 128 ∧ numF (nos.drop i) i cur = numB (l.map wr) k ∧
  tm 3 = .ptr oc 0 ∧ tm 5 = .slice nb 0 128 1 ∧ tm 14 = .slice b (16 * k * 2) m 2 ∧ tm 15 = .int .i64 (m : Int) ∧ tm 16 = .int .i64 (i : Int)
theorem nos_get {l : List Ib} {k i : Nat} (h : i < (((l.map wr).drop (16 * k)).take 16).length) : ∃ h' : 16 * k + i < l.length, ((((l.map wr).drop (16 * k)).take 16).map (·.1))[i]'(by simpa using h) = l[16 * k + i].1 := by
  have h' : 16 * k + i < l.length := by simp at h; omega
  exact ⟨h', by simp [wr]⟩
def BoD (l : List Ib) (b : Nat) (H : AH) (kk : Nat) (tm : Tms) (H' : AH) : Prop := H.keepsAll H' ∧ H.next < H'.next ∧ ∃ (i : Nat) (ov : AV) (qs : List Qb), kk = l.length - i ∧ i ≤ l.length ∧ H'.at_ H.next = some (.cells false tBB [ov]) ∧ OutF (H.next + 1) H' tBS 1 ov (rowsQ qs) ∧ (∀ x ∈ qs, QOk H' x ∧ x.1 < H'.next ∧ (H.next ≤ x.1 ∨ ∃ y ∈ l, y.2 = x)) ∧
  qs.map (·.2) = (List.range (lists l.length)).map (numB (l.map wr)) ++ ((l.map wr).take i).map (·.2) ∧ tm 3 = .ptr H.next 0 ∧ tm 34 = .slice b 0 l.length 2 ∧ tm 35 = .int .i64 (l.length : Int) ∧ tm 36 = .int .i64 (i : Int)
def BodyP (l : List Ib) (H : AH) (r : AV) (H' : AH) : Prop := H.keepsAll H' ∧ H.next ≤ H'.next ∧ ∃ qs : List Qb, OutF (H.next + 1) H' tBS 1 r (rowsQ qs) ∧ (∀ x ∈ qs, QOk H' x ∧ (H.next ≤ x.1 ∨ ∃ y ∈ l, y.2 = x)) ∧ qs.map (·.2) = bodyB (l.map wr)
theorem Body {H : AH} {v : AV} {l : List Ib} (h : BI H v l) (hl0 : 1 ≤ l.length) (hl : l.length ≤ 400) (hsm : ∀ x ∈ l, x.1 ≤ 100000) : ACall Tryd.prog 30 [v] H (BodyP l H) := by
  refine acall_ok (bodyP_of fits30) fun hok => acall_of fits30 (by simp) ?_
  obtain ⟨b, rfl, hb, hx⟩ := h
  have hbn := hok _ _ hb
  simp (disch := first | omega | (simp; done) | assumption) [wr64, wrU8, wrU64, Nat.add_assoc, -getElem?_pos, List.getElem?_cons_zero, List.getElem?_cons_succ, ic30, rs30]
  refine CallW.of (Chunk (.slice b 0 l.length 2) rfl rfl _) ?_
  rintro r H2 ⟨rfl, hH2⟩
  simp only [newO_some, newO_none] at hH2
  have n2 : H2.next = H.next + 3 := by rw [hH2]; simp
  have a0 : H2.at_ H.next = some (.cells false tBB [.snil]) := by rw [hH2]; simp; repeat' (first | omega | (rw [if_neg (by omega)]) | rfl)
  have a1 : H2.at_ (H.next + 1) = some (.cells false tSB [.slice b 0 l.length 2]) := by rw [hH2]; simp
  have a2 : H2.at_ (H.next + 2) = some (.cells false 3 [.int .i64 16]) := by rw [hH2]; simp
  have ak : H.keepsAll H2 := fun x q hx => by
    have := hok _ _ hx
    rw [hH2, AH.new_ne _ _ (by simp; omega), AH.new_ne _ _ (by simp; omega), AH.new_ne _ _ (by omega)]
    exact hx
  clear hH2
  simp (disch := first | omega | (simp; done) | assumption) [wr64, wrU8, wrU64, Nat.add_assoc, -getElem?_pos, List.getElem?_cons_zero, List.getElem?_cons_succ, ]
  refine iwp_any (fun tm => tm 0 = .slice b 0 l.length 2 ∧ tm 3 = .ptr H.next 0 ∧ tm 11 = .func (.func 57) [] [.ptr (H.next + 1) 0, .ptr (H.next + 2) 0]) ⟨by simp, by simp, by simp⟩ ?_
  rintro tm ⟨t0, t3, t11⟩
  refine iwp_rangeF (f := 57) (first := []) (captured := [.ptr (H.next + 1) 0, .ptr (H.next + 2) 0]) (by rw [ev_tmp]; exact t11) ?_
  intro o ho hY
  rw [n2] at hY ⊢
  have h0 : BoI l (.slice b 0 l.length 2) o H 0 (H2.new (o none)) := by
    refine ⟨by rw [← n2, AH.new_same], fun x q hx => ?_, by rw [AH.new_next, n2]; omega, ?_, ?_, .snil, [], ?_, .inl ⟨rfl, rfl⟩, by simp, rfl⟩
    · have := hok _ _ hx
      rw [AH.new_ne _ _ (by omega)]; exact ak _ _ hx
    · rw [AH.new_ne _ _ (by omega)]; exact a1
    · rw [AH.new_ne _ _ (by omega)]; exact a2
    · rw [AH.new_ne _ _ (by omega)]; exact a0
  refine ChunkIter (b := b) (N := l.length) (BoI l (.slice b 0 l.length 2) o H) (fun _ => False) _ (by omega) ?_ ?_ ?_ (fun _ h => h.elim) h0
  · rintro k H' ⟨_, h⟩
    exact ⟨h.b1, h.b2⟩
  · rintro k H' ⟨h7, hJ⟩ hkl
    refine hY H' _ _ h7 rfl ?_
    have hJr := hJ.set3 hok none
    generalize H'.set (H.next + 3) none = Hr at *
    obtain ⟨ov, nums, o1, o2, o3, o4⟩ := hJr.out
    have hnr := hJr.next
    have hbr := hJr.keeps _ _ hb
    have hnos : ((((l.map wr).drop (16 * k)).take 16).map (·.1)).length = min 16 (l.length - 16 * k) := by simp
    have hN : numB (l.map wr) k = numF ((((l.map wr).drop (16 * k)).take 16).map (·.1)) 0 zer := rfl
    have hget : ∀ (i : Nat) (h : i < ((((l.map wr).drop (16 * k)).take 16).map (·.1)).length), ∃ h' : 16 * k + i < l.length, ((((l.map wr).drop (16 * k)).take 16).map (·.1))[i] = l[16 * k + i].1 := fun i h => nos_get (by simpa using h)
    generalize (((l.map wr).drop (16 * k)).take 16).map (·.1) = nos at *
    generalize hm : min 16 (l.length - 16 * k) = m at *
    have hm16 : m ≤ 16 := by omega
    simp (disch := first | omega | (simp; done) | assumption) [wr64, wrU8, wrU64, Nat.add_assoc, -getElem?_pos, List.getElem?_cons_zero, List.getElem?_cons_succ, updl, t0, t3, t11, -List.reduceReplicate]
    refine iwp_loop (BoK l k b Hr.next H.next m nos Hr) m ⟨(KBel.refl _ _).new (Nat.le_refl _), by simp, 0, zer, rfl, by omega, by rw [← mgc_bytes]; simp [-List.reduceReplicate], by simp [zer, -List.reduceReplicate], by rw [hN]; rfl, by simp [t3], by simp, by simp, by simp, by simp⟩ ?_
    clear t0 t3 t11 hY
    clear tm
    rintro kk tm H1 ⟨hk1, hn1, i, cur, rfl, hi, hcur, hcl, hnf, t3, t5, t14, t15, t16⟩
    by_cases hlt : i < m
    · have hlt' : (i : Int) < (m : Int) := by omega
      obtain ⟨hil, hno⟩ := hget i (by omega)
      have hld := BI.at (hk1 _ _ (by omega) hbr) hil
      have hdr : nos.drop i = nos[i]'(by omega) :: nos.drop (i + 1) := List.drop_eq_getElem_cons (by omega)
      rw [hdr, hno, numF] at hnf
      have hsx := hsm _ (List.getElem_mem hil)
      generalize l[16 * k + i] = x at *
      rw [show (16 * k + i) * 2 = 16 * k * 2 + i * 2 by omega] at hld
      have hs8 : slcA 1 (some (8 * (i : Int))) none none (.slice Hr.next 0 128 1) = some (.slice Hr.next (8 * i) (128 - 8 * i) 1) := by
        have hb : Abs.bounds 128 (some (8 * (i : Int))) none none = some (8 * i, 128) := by
          simp [Abs.bounds]
          omega
        simp only [slcA, if_true, hb, Option.map_some]
        rw [if_neg (by omega)]
        simp
      simp (disch := first | omega | (simp; done) | assumption) [wr64, wrU8, wrU64, Nat.add_assoc, -getElem?_pos, List.getElem?_cons_zero, List.getElem?_cons_succ, t3, t5, t14, t15, t16, hlt, hlt', hs8]
      refine Try.intro (by simpa [Nat.add_assoc] using hld) ?_
      have hne : ¬ H1.next = Hr.next := by omega
      have hcur2 : ((H1.new (.cells false 35 [.int .i64 0, .snil])).set H1.next (some (.cells false 35 [.int .i64 (x.1 : Int), sl x.2]))).at_ Hr.next = some (.cells false tU8 (cur.map byteV)) := by
        rw [AH.set_ne _ _ (by omega), AH.new_ne _ _ (by omega)]; exact hcur
      have hw : IntKind.u64.wrap (x.1 : Int) = (x.1 : Int) := wrU64 (by omega) (by omega)
      simp (disch := first | omega | (simp; done) | assumption) [wr64, wrU8, wrU64, Nat.add_assoc, -getElem?_pos, List.getElem?_cons_zero, List.getElem?_cons_succ, t3, t5, t14, t15, t16, hlt, hlt', hs8, sl_one, sl_cells, hw]
      refine CallW.okof (Put (o := 8 * i) (m := 128 - 8 * i) (bs := cur) (x.1 : Int) hcur2 (by omega) (by omega)) ?_
      rintro v3 H3 ⟨rfl, hp3⟩ hok3
      simp only [newO_some, newO_none] at hp3
      simp (disch := first | omega | (simp; done) | assumption) [wr64, wrU8, wrU64, Nat.add_assoc, -getElem?_pos, List.getElem?_cons_zero, List.getElem?_cons_succ, t3, t5, t14, t15, t16]
      refine ⟨m - (i + 1), by omega, kbel_put (((hk1.new (by omega)).set (by omega))) (Nat.le_refl _) hp3, by rw [hp3.1]; simp; omega, i + 1, putP cur (8 * i) (x.1 : Int) 8, rfl, by omega, hp3.2.2, by rw [putP_len _ (by omega) (by omega), hcl], hnf, by simp [t3], by simp [t5], by simp [t14], by simp [t15], by simp⟩
    · obtain rfl : i = m := by omega
      rw [List.drop_of_length_le (by omega), numF] at hnf
      subst hnf
      have hxq : QOk H1 (Hr.next, numB (l.map wr) k) := ⟨hcl, hcur⟩
      have hk1n : KBel Hr.next Hr H1 := hk1
      have ho2 := outF_kbel o2 hk1n (by omega)
      obtain ⟨v', H', a1, p1, p2, p3, p4, p5⟩ := appQ (x := (Hr.next, numB (l.map wr) k)) ho2 (fun y hy => ⟨(o3 y hy).1.1, hk1 _ _ (o3 y hy).2.2 (o3 y hy).1.2⟩) hxq (fun y hy => by
        rcases List.mem_append.1 hy with hy | hy
        · have := (o3 y hy).2.2; omega
        · obtain rfl := List.mem_singleton.1 hy; exact hn1) (by omega) (by
        have := congrArg List.length o4
        simp at this
        omega)
      have hov := hk1 _ _ (by omega) o1
      have hov1 : ov.cells = [ov] ∧ ov.one = true := by rcases o2 with ⟨_, rfl⟩ | ⟨q, rfl, _⟩ <;> exact ⟨rfl, rfl⟩
      simp only [sl] at a1
      simp (disch := first | omega | (simp; done) | assumption) [wr64, wrU8, wrU64, Nat.add_assoc, -getElem?_pos, List.getElem?_cons_zero, List.getElem?_cons_succ, t3, t5, t14, t15, t16, hov, hov1.1, hov1.2]
      refine Try.intro a1 ?_
      have hv1 : v'.cells = [v'] ∧ v'.one = true := by rcases p1 with ⟨h, rfl⟩ | ⟨q, rfl, _⟩ <;> exact ⟨rfl, rfl⟩
      have hov' := p4 _ _ (by omega) hov
      simp (disch := first | omega | (simp; done) | assumption) [wr64, wrU8, wrU64, Nat.add_assoc, -getElem?_pos, List.getElem?_cons_zero, List.getElem?_cons_succ, t3, t5, t14, t15, t16, hov', hv1.1, hv1.2, IPost.round, IPost.none]
      refine ⟨AH.set_same _ _ _, BoJ.set3 hok ?_ _⟩
      have hq4 : ∀ x o, x < H.next + 4 → x ≠ H.next → Hr.at_ x = some o → (H'.set H.next (some (.cells false tBB [v']))).at_ x = some o := fun x o hx hne h => by
        rw [AH.set_ne _ _ hne]
        exact p4 _ _ hx (hk1 _ _ (by omega) h)
      refine ⟨fun x q hx => ?_, by show H.next + 4 ≤ H'.next; omega, hq4 _ _ (by omega) (by omega) hJr.b1, hq4 _ _ (by omega) (by omega) hJr.b2, v', nums ++ [(Hr.next, numB (l.map wr) k)], AH.set_same _ _ _, outF_set' p1 (by omega) _, fun x hx => ?_, ?_⟩
      · have := hok _ _ hx
        exact hq4 _ _ (by omega) (by omega) (hJr.keeps _ _ hx)
      · have hx4 : H.next + 4 ≤ x.1 ∧ x.1 < H'.next := by
          rcases List.mem_append.1 hx with hx | hx
          · have := (o3 x hx).2; omega
          · obtain rfl := List.mem_singleton.1 hx
            dsimp only
            omega
        refine ⟨⟨(p2 x hx).1, ?_⟩, hx4.1, hx4.2⟩
        rw [AH.set_ne _ _ (by omega)]
        exact (p2 x hx).2
      · rw [List.map_append, o4, List.range_succ, List.map_append]
        rfl
  · rintro k H' ⟨h7, hJ⟩ hkN hk16
    refine ⟨none, h7, ?_⟩
    have hJs := hJ.set3 hok none
    generalize H'.set (H.next + 3) none = Hs at *
    clear hJ h7 hY
    obtain ⟨ov, nums, o1, o2, o3, o4⟩ := hJs.out
    have hns := hJs.next
    have hks := hJs.keeps
    have hk : k = lists l.length := by unfold lists; omega
    subst hk
    simp (disch := first | omega | (simp; done) | assumption) [wr64, wrU8, wrU64, Nat.add_assoc, -getElem?_pos, List.getElem?_cons_zero, List.getElem?_cons_succ, t0, t3]
    refine iwp_loop (BoD l b H) l.length ⟨hks, by omega, 0, ov, nums, rfl, by omega, o1, outF_base o2 (by omega), fun x hx => ⟨(o3 x hx).1, (o3 x hx).2.2, .inl (by have := (o3 x hx).2; omega)⟩, by simp [o4], by simp [t3], by simp, by simp, by simp⟩ ?_
    clear o1 o2 o3 o4 hJs hns hks t0 t3 t11
    clear tm ov nums
    rintro kk tm H1 ⟨hk1, hn1, i, ov, qs, rfl, hi, o1, o2, o3, o4, t3, t34, t35, t36⟩
    by_cases hlt : i < l.length
    · have hlt' : (i : Int) < (l.length : Int) := by omega
      have hld := BI.at (hk1 _ _ hb) hlt
      have hxm := List.getElem_mem hlt
      have hxq := hx _ hxm
      have htk : ((l.map wr).take (i + 1)).map (·.2) = ((l.map wr).take i).map (·.2) ++ [l[i].2.2] := by
        rw [List.take_add_one, List.getElem?_eq_getElem (by simpa using hlt), List.map_append]
        simp [wr]
      generalize l[i] = x at *
      simp (disch := first | omega | (simp; done) | assumption) [wr64, wrU8, wrU64, Nat.add_assoc, -getElem?_pos, List.getElem?_cons_zero, List.getElem?_cons_succ, t3, t34, t35, t36, hlt, hlt']
      refine Try.intro (by simpa [Nat.add_assoc] using hld) ?_
      have hne : ¬ H.next = H1.next := by omega
      simp (disch := first | omega | (simp; done) | assumption) [wr64, wrU8, wrU64, Nat.add_assoc, -getElem?_pos, List.getElem?_cons_zero, List.getElem?_cons_succ, t3, t34, t35, t36, hlt, hlt', sl_one, sl_cells, o1, hne]
      have hkX : ∀ y o, y < H1.next → H1.at_ y = some o → ((H1.new (.cells false 35 [.int .i64 0, .snil])).set H1.next (some (.cells false 35 [.int .i64 (x.1 : Int), sl x.2]))).at_ y = some o := fun y o hy h => by
        rw [AH.set_ne _ _ (by omega), AH.new_ne _ _ (by omega)]; exact h
      have hnX : ((H1.new (.cells false 35 [.int .i64 0, .snil])).set H1.next (some (.cells false 35 [.int .i64 (x.1 : Int), sl x.2]))).next = H1.next + 1 := by simp
      have hlen : qs.length ≤ 1000 := by
        have := congrArg List.length o4
        simp at this
        unfold lists at this
        omega
      obtain ⟨v', H', a1, p1, p2, p3, p4, p5⟩ := appQ (x := x.2) (H := (H1.new (.cells false 35 [.int .i64 0, .snil])).set H1.next (some (.cells false 35 [.int .i64 (x.1 : Int), sl x.2]))) (outF_kbel o2 hkX (by omega)) (fun y hy => ⟨(o3 y hy).1.1, hkX _ _ (o3 y hy).2.1 (o3 y hy).1.2⟩)
        ⟨hxq.1, hkX _ _ (by have := hok _ _ hxq.2; omega) (hk1 _ _ hxq.2)⟩ (fun y hy => by
          rcases List.mem_append.1 hy with hy | hy
          · have := (o3 y hy).2.1; omega
          · obtain rfl := List.mem_singleton.1 hy; have := hok _ _ hxq.2; omega) (by omega) hlen
      rw [hnX] at a1 p3
      refine Try.intro a1 ?_
      have hv1 : v'.cells = [v'] ∧ v'.one = true := by rcases p1 with ⟨h, rfl⟩ | ⟨q, rfl, _⟩ <;> exact ⟨rfl, rfl⟩
      have hov' := p4 _ _ (by omega) (hkX _ _ (by omega) o1)
      simp (disch := first | omega | (simp; done) | assumption) [wr64, wrU8, wrU64, Nat.add_assoc, -getElem?_pos, List.getElem?_cons_zero, List.getElem?_cons_succ, t3, t34, t35, t36, hov', hv1.1, hv1.2]
      refine ⟨l.length - (i + 1), by omega, fun y o h => ?_, by show H.next < H'.next; omega, i + 1, v', qs ++ [x.2], rfl, by omega, AH.set_same _ _ _, outF_set' p1 (by omega) _, fun y hy => ?_, by rw [List.map_append, o4, htk]; simp, by simp [t3], by simp [t34], by simp [t35], by simp⟩
      · have := hok _ _ h
        rw [AH.set_ne _ _ (by omega)]
        exact p4 _ _ (by omega) (hkX _ _ (by omega) (hk1 _ _ h))
      · have hy2 := p2 y hy
        have hyn : y.1 < H'.next ∧ y.1 ≠ H.next ∧ (H.next ≤ y.1 ∨ ∃ z ∈ l, z.2 = y) := by
          refine ⟨?_, fun e => ?_, ?_⟩
          · rcases List.mem_append.1 hy with hy | hy
            · have := (o3 y hy).2.1; omega
            · obtain rfl := List.mem_singleton.1 hy; have := hok _ _ hxq.2; omega
          · have h9 := hy2.2
            rw [e, hov'] at h9
            injection h9 with h9
            injection h9 with _ h9 _
            exact absurd h9 (by decide)
          · rcases List.mem_append.1 hy with hy | hy
            · exact (o3 y hy).2.2
            · obtain rfl := List.mem_singleton.1 hy; exact .inr ⟨x, hxm, rfl⟩
        refine ⟨⟨hy2.1, by rw [AH.set_ne _ _ hyn.2.1]; exact hy2.2⟩, hyn.1, hyn.2.2⟩
    · obtain rfl : i = l.length := by omega
      rw [List.take_of_length_le (by simp)] at o4
      have hov1 : ov.cells = [ov] ∧ ov.one = true := by rcases o2 with ⟨_, rfl⟩ | ⟨q, rfl, _⟩ <;> exact ⟨rfl, rfl⟩
      simp (disch := first | omega | (simp; done) | assumption) [wr64, wrU8, wrU64, Nat.add_assoc, -getElem?_pos, List.getElem?_cons_zero, List.getElem?_cons_succ, t3, t34, t35, t36, o1, hov1.1, hov1.2]
      exact ⟨hk1, by omega, qs, o2, fun x hx => ⟨(o3 x hx).1, (o3 x hx).2.2⟩, by rw [o4]; simp [bodyB]⟩
end Go.Proofs.YtcgkadfgojmmlaaDoor.JN

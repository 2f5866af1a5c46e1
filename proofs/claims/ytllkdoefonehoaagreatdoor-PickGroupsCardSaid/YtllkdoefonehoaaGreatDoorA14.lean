/- The steps that act: what they are compiled from, and that the model's operation comes to what they say. No condition. -/
import Derived.Test.YtllkdoefonehoaaGreatDoorA13
set_option linter.unusedVariables false
set_option linter.unusedSimpArgs false
namespace Go.Proofs.YtllkdoefonehoaaGreatDoor.Abs
open Go Go.RowKit

section
variable {P : Program} {j : Inj} {H : AH} {w : World}

theorem size_zeroCells' (z : Array Value) (n : Nat) : (Builtin.zeroCells z n).size = n * z.size := by simp [Builtin.zeroCells]
theorem drew_alloc_heap (w : World) (o : Obj) : (w.drew.alloc o).heap = w.heap.push o := rfl
theorem orel_new {t : TypeId} {l : List AV} {c : Array Value} (h : VRs j l (c.toList.take l.length)) : ORel j (.cells false t l) (.cells c t (0, 0)) := by
  have := h.1
  have hlt : c.toList.length = c.size := Array.length_toList
  have h2 : (c.toList.take l.length).length ≤ c.toList.length := by rw [List.length_take]; omega
  refine ⟨rfl, by omega, fun i a v ha hv => h.2 i a v ha ?_, fun _ => .inl (Nat.le_refl _)⟩
  have hi : i < l.length := (List.getElem?_eq_some_iff.1 ha).1
  rw [List.getElem?_take, if_pos hi]
  simpa using hv

theorem appendA_sound (hr : Rel P j H w) {t0 t1 e : TypeId} {ty : TypeId} {size bytes : Nat} {z : AV} {d1 : TypeDesc} (hu : P.underlying t0 = some (.slice e)) (hu1 : P.underlying t1 = some d1)
    (hd1 : d1 = .string ∨ ∃ e', d1 = .slice e') (hs : sizeP P e = some size) (hb : bytesP P e = some bytes) (hz : zeroP P e = some z) (hzs : z.cells.length = size) {sA xA v : AV} {s x : Value} {H' : AH} (hvs : VR j sA s) (hvx : VR j xA x)
    (hkind : ∀ l, xA = .str l → size = 1) (h : appendA H e size bytes sA xA = some (v, H')) : ∃ vc w' j', (Builtin.append_ #[t0, t1] ty #[s, x]).run P w = .ok vc w' ∧ Post P j H w j' H' w' ∧ VR j' v vc := by
  obtain ⟨i, hi, hsz⟩ := Option.map_eq_some_iff.1 hs
  obtain ⟨i2, hi2, hbz⟩ := Option.map_eq_some_iff.1 hb
  rw [hi] at hi2
  cases hi2
  obtain ⟨i3, zv, hi3, hzv, hzr⟩ := zeroP_inv (j := j) hz
  rw [hi] at hi3
  cases hi3
  unfold appendA at h
  simp only [Option.bind_eq_some_iff] at h
  obtain ⟨m, hm, h⟩ := h
  have hlen := run_lenOf (P := P) hvx hm
  split at h
  · rename_i hm0
    subst hm0
    have hf0 : (Builtin.firstCells i.size 0 x).run P w = .ok #[] w := by
      cases xA <;> simp only [lenA] at hm <;> first | (cases hm; done) | skip
      · obtain ⟨q, rfl, _⟩ := hvx.str_inv
        have : (q.extract 0 0).data = #[] := by
          apply Array.toList_inj.1
          rw [Go.Lib.extract_data]
          simp
        rw [Builtin.firstCells, this]
        simp
      · obtain ⟨c, y, k, rfl, _⟩ := hvx.slice_inv
        simp [Builtin.firstCells, loadCells, loadCellsFrom]
      · cases hvx; simp [Builtin.firstCells]
      · cases hvx; simp [Builtin.firstCells, loadCells, loadCellsFrom]
      · cases hvx; simp [Builtin.firstCells, loadCells, loadCellsFrom]
    cases sA <;> simp only at h <;> first | (cases h; done) | skip
    · cases h
      have hvs' := hvs
      obtain ⟨c, y, k, rfl, hc, hk, hz'⟩ := hvs.slice_inv
      exact ⟨_, w, j, run_append_room hu hu1 hd1 hi (hlen w) (by omega) hf0 (by simp [storeCells]), Post.refl hr, hvs'⟩
    · cases h
      cases hvs
      exact ⟨_, w, j, run_append_room hu hu1 hd1 hi (hlen w) (by omega) hf0 rfl, Post.refl hr, .snil⟩
    · cases h
      cases hvs
      rename_i ad k
      exact ⟨_, w, j, run_append_room hu hu1 hd1 hi (hlen w) (by omega) hf0 (by simp [storeCells]), Post.refl hr, .sempty⟩
    · cases h
      cases hvs
      rename_i ad
      exact ⟨_, w, j, run_append_room hu hu1 hd1 hi (hlen w) (by omega) hf0 (by simp [storeCells]), Post.refl hr, .szero⟩
  · rename_i hm0
    simp only [Option.bind_eq_some_iff] at h
    obtain ⟨xs, hxs, h⟩ := h
    split at h
    · rename_i hone
      obtain ⟨us, hus, hvr⟩ := run_firstCells hr hvx ⟨m, hm, Nat.le_refl _⟩ hxs
      have hxl : xs.length = m * size := srcCells_length size m hm (Nat.le_refl _) hxs hkind (fun hh => by rcases hh with rfl | rfl | rfl <;> (cases hm; omega))
      have hul : us.length = m * size := by rw [← hvr.1]; exact hxl
      have hus0 := hus w rfl
      have hus1 := hus w.drew rfl
      rw [← hsz] at hus0 hus1
      cases sA <;> simp only at h <;> first | (cases h; done) | skip
      · rename_i b o n es
        split at h
        · rename_i u cs hat
          split at h
          · rename_i hcond
            obtain ⟨rfl, rfl, rfl, hcl, hb1, hb2⟩ := hcond
            cases h
            obtain ⟨c, y, k, rfl, hc, hk, hz'⟩ := hvs.slice_inv
            obtain ⟨xx, fz, hx, hxz, hle2, hvss, hfz⟩ := hr.cells hat hc
            by_cases hroom : n + m ≤ k
            · have hmul : (n + m) * es ≤ k * es := Nat.mul_le_mul_right _ hroom
              have hadd : (n + m) * es = n * es + m * es := Nat.add_mul _ _ _
              obtain ⟨x', hrun, hx', hs'⟩ := run_storeCells_set (P := P) (c := c) (o := 0 + n * i.size) (t := u) (fz := fz) us 0 xx w hx (by rw [hsz]; omega) (hfz rfl) (all_one hvr hone)
              refine ⟨.slice (some ⟨c, 0, none⟩) (n + m) k, _, _, run_append_room hu hu1 hd1 hi (hlen w) hroom hus0 (by show (storeCells ((⟨c, 0, none⟩ : Addr).add (n * i.size)) us).run P w = _; rw [add_none]; exact hrun), Post.move hr hat rfl hc hx ?_ (by simp only [csize]; exact hs'), .slice (Inj.add_same _ _ _) hroom (by omega)⟩
              have hxx : xx.toList.length = xx.size := Array.length_toList
              have htake : x'.toList.take (cs ++ xs).length = xx.toList.take cs.length ++ us := by
                have := setRange_append us xx.toList (n * es) (by rw [hxx]; omega)
                rw [hx', List.length_append, hcl, hxl, ← hul, hsz]
                simpa using this
              refine ⟨rfl, by rw [hs', List.length_append]; omega, fun q a v ha hv => ?_, fun _ => by rw [hs']; exact hfz rfl⟩
              have hq : q < (cs ++ xs).length := (List.getElem?_eq_some_iff.1 ha).1
              have hrel := hvss.append hvr
              refine hrel.2 q a v ha ?_
              rw [← htake, List.getElem?_take, if_pos hq]
              simpa using hv
            · have hold : srcCells H es n (.slice b 0 n es) = some cs := by
                simp only [srcCells, Abs.loadC, hat]
                rw [if_pos (by omega)]
                simp [← hcl]
              obtain ⟨os, hos, hor⟩ := run_firstCells hr hvs ⟨n, rfl, Nat.le_refl _⟩ hold
              have hos1 := hos w.drew rfl
              rw [← hsz] at hos1
              rw [← hbz] at hb1
              refine ⟨_, _, _, run_append_grow hu hu1 hd1 hi hzv (hlen w) hroom hos1 hus1 hb1 hb2, Post.trans (Post.kill hr b) (Post.new (Post.kill hr b).rel (drew_alloc_heap _ _) rfl rfl rfl (orel_new ?_)), ?_⟩
              · have hrel := hor.append hvr
                have hl := hrel.1
                rw [hl]
                have e3 : (os.toArray ++ us.toArray ++ Builtin.zeroCells zv.cells (grownCap w (n + m) k u - (n + m))).toList.take (os ++ us).length = os ++ us := by
                  rw [Array.toList_append, Array.toList_append, List.take_left']
                  simp
                rw [e3]
                exact hrel
              · rw [AH.set_next]
                refine .slice (Inj.add_same _ _ _) (by unfold grownCap; show n + m ≤ n + m + _; omega) ?_
                have hzl := hzr.cells.size
                have h1 := hor.1
                have h2 := hvr.1
                have hcap : n + m ≤ grownCap w (n + m) k u := by unfold grownCap; show n + m ≤ n + m + _; omega
                have e4 : csize (.cells (os.toArray ++ us.toArray ++ Builtin.zeroCells zv.cells (grownCap w (n + m) k u - (n + m))) u (0, 0)) = (n + m) * es + (grownCap w (n + m) k u - (n + m)) * es := by
                  have : (n + m) * es = n * es + m * es := Nat.add_mul _ _ _
                  simp only [csize, Array.size_append, List.size_toArray, size_zeroCells']
                  rw [← hzl, hzs]
                  omega
                have e5 : (n + m) * es + (grownCap w (n + m) k u - (n + m)) * es = grownCap w (n + m) k u * es := by rw [← Nat.add_mul]; congr 1; omega
                show 0 + grownCap w (n + m) k u * es ≤ csize (.cells (os.toArray ++ us.toArray ++ Builtin.zeroCells zv.cells (grownCap w (n + m) k u - (n + m))) u (0, 0))
                omega
          · cases h
        · cases h
      · split at h
        · rename_i hcond
          obtain ⟨hb1, hb2⟩ := hcond
          cases h
          cases hvs
          have hnl : (Builtin.firstCells i.size 0 (.slice none 0 0)).run P w.drew = .ok #[] w.drew := rfl
          rw [← hbz] at hb1
          refine ⟨_, _, _, run_append_grow (n := 0) hu hu1 hd1 hi hzv (hlen w) (by omega) hnl hus1 (by simpa using hb1) (by simpa using hb2), Post.new hr (drew_alloc_heap _ _) rfl rfl rfl (orel_new ?_), ?_⟩
          · rw [hvr.1]
            have e3 : (#[] ++ us.toArray ++ Builtin.zeroCells zv.cells (grownCap w (0 + m) 0 e - (0 + m))).toList.take us.length = us := by
              simp
            rw [e3]
            exact hvr
          · rw [Nat.zero_add]
            refine .slice (Inj.add_same _ _ _) (by unfold grownCap; show m ≤ m + _; omega) ?_
            have hzl := hzr.cells.size
            have hcap : m ≤ grownCap w m 0 e := by unfold grownCap; show m ≤ m + _; omega
            have e4 : csize (.cells (#[] ++ us.toArray ++ Builtin.zeroCells zv.cells (grownCap w m 0 e - m)) e (0, 0)) = m * size + (grownCap w m 0 e - m) * size := by
              simp only [csize, Array.size_append, List.size_toArray, size_zeroCells']
              rw [← hzl, hzs]
              simp
              omega
            have e5 : m * size + (grownCap w m 0 e - m) * size = grownCap w m 0 e * size := by rw [← Nat.add_mul]; congr 1; omega
            show 0 + grownCap w m 0 e * size ≤ csize (.cells (#[] ++ us.toArray ++ Builtin.zeroCells zv.cells (grownCap w m 0 e - m)) e (0, 0))
            omega
        · cases h
      · split at h
        · rename_i hcond
          obtain ⟨hb1, hb2⟩ := hcond
          cases h
          cases hvs
          rename_i ad
          have hnl : (Builtin.firstCells i.size 0 (.slice (some ad) 0 0)).run P w.drew = .ok #[] w.drew := by simp [Builtin.firstCells, loadCells, loadCellsFrom]
          rw [← hbz] at hb1
          refine ⟨_, _, _, run_append_grow (n := 0) hu hu1 hd1 hi hzv (hlen w) (by omega) hnl hus1 (by simpa using hb1) (by simpa using hb2), Post.new hr (drew_alloc_heap _ _) rfl rfl rfl (orel_new ?_), ?_⟩
          · rw [hvr.1]
            have e3 : (#[] ++ us.toArray ++ Builtin.zeroCells zv.cells (grownCap w (0 + m) 0 e - (0 + m))).toList.take us.length = us := by
              simp
            rw [e3]
            exact hvr
          · rw [Nat.zero_add]
            refine .slice (Inj.add_same _ _ _) (by unfold grownCap; show m ≤ m + _; omega) ?_
            have hzl := hzr.cells.size
            have hcap : m ≤ grownCap w m 0 e := by unfold grownCap; show m ≤ m + _; omega
            have e4 : csize (.cells (#[] ++ us.toArray ++ Builtin.zeroCells zv.cells (grownCap w m 0 e - m)) e (0, 0)) = m * size + (grownCap w m 0 e - m) * size := by
              simp only [csize, Array.size_append, List.size_toArray, size_zeroCells']
              rw [← hzl, hzs]
              simp
              omega
            have e5 : m * size + (grownCap w m 0 e - m) * size = grownCap w m 0 e * size := by rw [← Nat.add_mul]; congr 1; omega
            show 0 + grownCap w m 0 e * size ≤ csize (.cells (#[] ++ us.toArray ++ Builtin.zeroCells zv.cells (grownCap w m 0 e - m)) e (0, 0))
            omega
        · cases h
    · cases h
end
end Go.Proofs.YtllkdoefonehoaaGreatDoor.Abs

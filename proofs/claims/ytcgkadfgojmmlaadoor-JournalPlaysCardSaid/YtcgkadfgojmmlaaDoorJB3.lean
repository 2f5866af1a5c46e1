/- A journal's head; whether blocks may be written. No condition. -/
import Derived.Test.YtcgkadfgojmmlaaDoorJB2
set_option linter.unusedVariables false
set_option linter.unusedSimpArgs false
set_option maxRecDepth 10000
set_option maxHeartbeats 4000000
namespace Go.Proofs.YtcgkadfgojmmlaaDoor.JN
open Go Go.RowKit Go.Proofs.YtcgkadfgojmmlaaDoor Go.Proofs.YtcgkadfgojmmlaaDoor.Abs Go.Proofs.YtcgkadfgojmmlaaDoor.Ic Go.Proofs.YtcgkadfgojmmlaaDoor.EAs Go.Proofs.YtcgkadfgojmmlaaDoor.EErr Go.Proofs.YtcgkadfgojmmlaaDoor.DFn
def mgc : Bs := [99, 114, 101, 100, 101, 110, 122, 97]
def mg0 : Bs := mgc ++ List.replicate 120 0
def headB (n : Int) (bd : List Bs) : Bs := putP (putP mg0 8 n 8) 16 (hash bd) 8
theorem mg0_len : mg0.length = 128 := by decide +kernel
theorem headB_len (n : Int) (bd : List Bs) : (headB n bd).length = 128 := by
  unfold headB
  have h1 := putP_len (bs := mg0) (o := 8) (i := 8) n (by rw [mg0_len]; omega) (by omega)
  rw [putP_len _ (by rw [h1, mg0_len]; omega) (by omega), h1, mg0_len]
theorem hash_rw (n : Int) (l : List Bs) : True := trivial
theorem keeps_put {H H1 H2 : AH} {q : Nat} {cs : Bs} (hok : H.ok) (hk : H.keepsAll H1) (hq : H.next ≤ q) (h : PutQ q cs H1 H2) : H.keepsAll H2 := fun x o hx => by
  have := hok _ _ hx
  rw [h.2.1 x (by omega)]
  exact hk x o hx
theorem RQ.keeps {H H' : AH} {v : AV} {l : List Qb} (hk : H.keepsAll H') (h : RQ H v l) : RQ H' v l := by
  obtain ⟨A, h1, h2, h3⟩ := h
  exact ⟨A, h1, hk _ _ h2, fun x hx => ⟨(h3 x hx).1, hk _ _ (h3 x hx).2⟩⟩
theorem mgc_bytes : List.replicate 128 (AV.int .u8 0) = zer.map byteV := by
  unfold zer
  rw [List.map_replicate]
  rfl
theorem Head {H : AH} {v : AV} {l : List Qb} (n : Nat) (hn : n ≤ 100000) (h : RQ H v l) (hl : l.length ≤ 100000) : ACall Tryd.prog 32 [.int .i64 (n : Int), v] H (CloneP (headB (n : Int) (l.map (·.2))) H) := by
  refine acall_ok (bodyP_of fits32) fun hok => acall_of fits32 (by simp) ?_
  have hcopy : copyA (H.new (.cells false 5 (List.replicate 128 (AV.int .u8 0)))) 1 (.slice H.next 0 128 1) (.str [99, 114, 101, 100, 101, 110, 122, 97]) = some (.int .i64 8, (H.new (.cells false 5 (List.replicate 128 (AV.int .u8 0)))).set H.next (some (.cells false tU8 (mg0.map byteV)))) := by
    have e : setRange (List.replicate 128 (AV.int .u8 0)) 0 ([99, 114, 101, 100, 101, 110, 122, 97].map byteV) = mg0.map byteV := by rfl
    have e2 : ([99, 114, 101, 100, 101, 110, 122, 97].map byteV).length = 8 := rfl
    have e3 : ([99, 114, 101, 100, 101, 110, 122, 97].map byteV).all AV.one = true := rfl
    simp only [copyA, lenA, Option.bind_some, srcCells, storeC, AH.new_same]
    rw [show (min [99, 114, 101, 100, 101, 110, 122, (97 : UInt8)].length 128) = 8 from rfl]
    have e4 : (List.map (fun c : UInt8 => AV.int IntKind.u8 c.toNat) (List.take 8 [99, 114, 101, 100, 101, 110, 122, 97])) = [99, 114, 101, 100, 101, 110, 122, 97].map byteV := rfl
    rw [e4, e, e2, e3, if_pos ⟨by rw [List.length_replicate]; omega, rfl⟩]
    rfl
  simp (disch := first | omega | (simp; done) | assumption) [wr64, wrU8, wrU64, Nat.add_assoc, -getElem?_pos, List.getElem?_cons_zero, List.getElem?_cons_succ, ic32, rs32, -List.reduceReplicate]
  refine Try.intro hcopy ?_
  have hb1 : ((H.new (.cells false 5 (List.replicate 128 (AV.int .u8 0)))).set H.next (some (.cells false tU8 (mg0.map byteV)))).at_ H.next = some (.cells false tU8 (mg0.map byteV)) := AH.set_same _ _ _
  have hk1 : H.keepsAll ((H.new (.cells false 5 (List.replicate 128 (AV.int .u8 0)))).set H.next (some (.cells false tU8 (mg0.map byteV)))) := keeps_set hok (keeps_new hok (AH.keepsAll_refl _) (Nat.le_refl _)) (Nat.le_refl _)
  have hn1 : ((H.new (.cells false 5 (List.replicate 128 (AV.int .u8 0)))).set H.next (some (.cells false tU8 (mg0.map byteV)))).next = H.next + 1 := by simp
  clear hcopy
  generalize (H.new (.cells false 5 (List.replicate 128 (AV.int .u8 0)))).set H.next (some (.cells false tU8 (mg0.map byteV))) = H1 at *
  have hw : IntKind.u64.wrap (n : Int) = (n : Int) := wrU64 (by omega) (by omega)
  have hl1 : (putP mg0 8 (n : Int) 8).length = 128 := by rw [putP_len _ (by rw [mg0_len]; omega) (by omega), mg0_len]
  have hs8 : ∀ b, slcA 1 (some 8) none none (.slice b 0 128 1) = some (.slice b 8 120 1) := fun b => rfl
  have hs16 : ∀ b, slcA 1 (some 16) none none (.slice b 0 128 1) = some (.slice b 16 112 1) := fun b => rfl
  simp (disch := first | omega | (simp; done) | assumption) [wr64, wrU8, wrU64, Nat.add_assoc, -getElem?_pos, List.getElem?_cons_zero, List.getElem?_cons_succ, hw, hs8]
  refine CallW.okof (Put (o := 8) (m := 120) (bs := mg0) (n : Int) hb1 (by rw [mg0_len]; omega) (by omega)) ?_
  rintro v2 H2 ⟨rfl, hp2⟩ hok2
  simp only [newO_none] at hp2
  have hk2 := keeps_put hok hk1 (Nat.le_refl _) hp2
  simp (disch := first | omega | (simp; done) | assumption) [wr64, wrU8, wrU64, Nat.add_assoc, -getElem?_pos, List.getElem?_cons_zero, List.getElem?_cons_succ, hw, hs16]
  refine CallW.val (Parts (h.keeps hk2) hl) ?_
  simp (disch := first | omega | (simp; done) | assumption) [wr64, wrU8, wrU64, Nat.add_assoc, -getElem?_pos, List.getElem?_cons_zero, List.getElem?_cons_succ, hw, hs16]
  refine CallW.okof (Put (o := 16) (m := 112) (bs := putP mg0 8 (n : Int) 8) (hash (l.map (·.2))) hp2.2.2 (by rw [hl1]; omega) (by omega)) ?_
  rintro v3 H3 ⟨rfl, hp3⟩ hok3
  try simp only [newO_none] at hp3
  have hk3 := keeps_put hok hk2 (Nat.le_refl _) hp3
  simp (disch := first | omega | (simp; done) | assumption) [wr64, wrU8, wrU64, Nat.add_assoc, -getElem?_pos, List.getElem?_cons_zero, List.getElem?_cons_succ, ]
  exact ⟨hk3, by rw [hp3.1, hp2.1, hn1]; omega, H.next, Nat.le_refl _, by rw [hp3.1, hp2.1, hn1]; omega, rfl, headB_len _ _, hp3.2.2⟩
end Go.Proofs.YtcgkadfgojmmlaaDoor.JN

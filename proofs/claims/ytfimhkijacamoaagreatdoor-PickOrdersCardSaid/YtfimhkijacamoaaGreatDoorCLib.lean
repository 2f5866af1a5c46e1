/- What the library's functions answer that package count calls. -/
import Derived.Test.YtfimhkijacamoaaGreatDoorShelf
import Derived.Test.YtfimhkijacamoaaGreatDoorSt
import Derived.Test.YtfimhkijacamoaaGreatDoorCMath
import Derived.WalkKit
import Derived.KernelRfl
import Derived.Lib.CutLaws
import Derived.Lib.IndexBytes
import Derived.Lib.SmallJoins
import Derived.Lib.AtoiErrMem
set_option linter.unusedVariables false
namespace Go.Proofs.YtfimhkijacamoaaGreatDoor.CLib
open Go Go.RowKit Go.Lib Go.Sort Go.Proofs.YtfimhkijacamoaaGreatDoor.Abs Go.Proofs.YtfimhkijacamoaaGreatDoor.St Go.Proofs.YtfimhkijacamoaaGreatDoor.Cm
theorem belowN (w : World) (n : Nat) : Below w.heap.size w (w.drewN n) := ⟨rfl, rfl, rfl, Nat.le_refl _, fun _ _ => rfl⟩
set_option maxRecDepth 100000 in
theorem cut38 (s : ByteArray) (hs : s.size < 4294967281) (w : World) :
    Calls Tryz.prog 61 #[.string s, .string ⟨#[45]⟩] w fun e w' => e = .returned (.tuple #[.string ⟨(Lib.cut s.data.toList [45]).1.toArray⟩, .string ⟨(Lib.cut s.data.toList [45]).2.1.toArray⟩, .bool (Lib.cut s.data.toList [45]).2.2]) ∧ ∃ n, w' = w.drewN n := by
  have e45 : ([45] : List UInt8) = (⟨#[45]⟩ : ByteArray).data.toList := rfl
  have one : Lib.indexByte s.data.toList 45 = Lib.indexB s ⟨#[45]⟩ := (Lib.index_one s.data.toList 45).symm
  have hsz : (⟨#[45]⟩ : ByteArray).size = 1 := rfl
  rcases Lib.indexB_cases s ⟨#[45]⟩ with hix | ⟨i, hix, hroom⟩
  · obtain ⟨e1, e2, e3⟩ := Lib.cutB_miss s ⟨#[45]⟩ hix
    rw [e45, e1, e2, e3]
    go_enter Tryz.func61, Tryz.ntmps61
    go_wp2_with (first | (go_at_call 67; refine (Tryz.stringslite_Index_one s 45 _).mono ?_; rintro e w' ⟨rfl, rfl⟩; rw [one, hix]))
    go_ret3
    exact ⟨rfl, 0, rfl⟩
  · obtain ⟨e1, e2, e3⟩ := Lib.cutB_hit s ⟨#[45]⟩ i hix
    rw [hsz] at hroom e2
    have mixed : Tryz.prog.follows .mixedOrders = true := by kernel_rfl
    have hw : IntKind.i64.wrap ((i : Int) + 1) = (i : Int) + 1 := by rw [IntKind.wrap_i64]; omega
    have ht : ((i : Int) + 1).toNat = i + 1 := by omega
    rw [e45, e1, e2, e3]
    have c1 : (0 : Int) ≤ ↑i := by omega
    have c2 : (↑i : Int) ≤ ↑s.size := by omega
    have c3 : (0 : Int) ≤ ↑i + 1 := by omega
    have c4 : (↑i + 1 : Int) ≤ ↑s.size := by omega
    go_enter Tryz.func61, Tryz.ntmps61
    go_wp2_with (first | (go_at_call 67; refine (Tryz.stringslite_Index_one s 45 _).mono ?_; rintro e w' ⟨rfl, rfl⟩; rw [one, hix]))
    go_region_o
    go_wp2
    go_ret3
    exact ⟨rfl, 1, rfl⟩
set_option maxRecDepth 100000 in
theorem cut33 (s : ByteArray) (w : World) (hs : s.size < 4294967281) :
    Calls Tryz.prog 50 #[.string s, .string ⟨#[45]⟩] w fun e w' => e = .returned (.tuple #[.string ⟨(Lib.cut s.data.toList [45]).1.toArray⟩, .string ⟨(Lib.cut s.data.toList [45]).2.1.toArray⟩, .bool (Lib.cut s.data.toList [45]).2.2]) ∧ ∃ n, w' = w.drewN n := by
  go_enter Tryz.func50, Tryz.ntmps50
  go_wp2_with (first | (go_at_call 61; refine (cut38 s hs _).mono ?_; rintro e w' ⟨rfl, n, rfl⟩))
  go_ret3
  exact ⟨rfl, n, rfl⟩

theorem tup3 {j : Inj} {a b c : AV} {x y z : Value} (h1 : VR j a x) (h2 : VR j b y) (h3 : VR j c z) : VR j (.tuple [a, b, c]) (.tuple #[x, y, z]) := .tuple_list (.cons h1 (.cons h2 (.cons h3 .nil)))
theorem tup2 {j : Inj} {a b : AV} {x y : Value} (h1 : VR j a x) (h2 : VR j b y) : VR j (.tuple [a, b]) (.tuple #[x, y]) := .tuple_list (.cons h1 (.cons h2 .nil))
theorem cut (l : List UInt8) (hl : l.length ≤ 1000000) (H : AH) : ACall Tryz.prog 50 [.str l, .str [45]] H fun v H' => v = .tuple [.str (Lib.cut l [45]).1, .str (Lib.cut l [45]).2.1, .bool (Lib.cut l [45]).2.2] ∧ H' = H := by
  refine acall_lib (by kernel_rfl) fun j w cargs hr hv => ?_
  obtain ⟨c1, rfl, h1⟩ := hv.str1
  obtain ⟨c2, rfl, h2⟩ := h1.str1
  obtain rfl := h2.nil_right
  refine ⟨_, tup3 (.str' _) (.str' _) (.bool _), (cut33 (st l) w (by rw [st_size]; omega)).mono ?_⟩
  rintro e w' ⟨rfl, n, rfl⟩
  exact ⟨rfl, belowN w n⟩
theorem cutSuffix (l p : List UInt8) (hl : l.length ≤ 1000000) (H : AH) : ACall Tryz.prog 38 [.str l, .str p] H fun v H' => v = .tuple [.str (Lib.trimSuffix l p), .bool (Lib.hasSuffix l p)] ∧ H' = H := by
  refine acall_lib (by kernel_rfl) fun j w cargs hr hv => ?_
  obtain ⟨c1, rfl, h1⟩ := hv.str1
  obtain ⟨c2, rfl, h2⟩ := h1.str1
  obtain rfl := h2.nil_right
  refine ⟨_, tup2 (.str' _) (.bool _), (Tryz.strings_CutSuffix (st l) (st p) w (by rw [st_size]; omega)).mono ?_⟩
  rintro e w' ⟨rfl, rfl⟩
  exact ⟨rfl, Below.refl _ _⟩
theorem lastPlus (l : List UInt8) (hl : l.length ≤ 1000000) (H : AH) : ACall Tryz.prog 39 [.str l, .int .u8 43] H fun v H' => v = .int .i64 (match plus l with | some (a, _) => (a.length : Int) | none => -1) ∧ H' = H := by
  refine acall_lib (by kernel_rfl) fun j w cargs hr hv => ?_
  obtain ⟨c1, rfl, h1⟩ := hv.str1
  obtain ⟨c2, rfl, h2⟩ := h1.int1
  obtain rfl := h2.nil_right
  refine ⟨_, .int _ _, (Tryz.strings_LastIndexByte (st l) 43 (by rw [st_size]; omega) w).mono ?_⟩
  rintro e w' ⟨rfl, rfl⟩
  rw [lib_last]
  exact ⟨rfl, Below.refl _ _⟩
theorem atoi (l : List UInt8) (n : Int) (hl : l.length ≤ 18) (h : Lib.atoi l = some n) (H : AH) : ACall Tryz.prog 62 [.str l] H fun v H' => v = .tuple [.int .i64 n, .nilIface] ∧ H' = H := by
  refine acall_lib (by kernel_rfl) fun j w cargs hr hv => ?_
  obtain ⟨c1, rfl, h2⟩ := hv.str1
  obtain rfl := h2.nil_right
  refine ⟨_, tup2 (.int _ _) .nilIface, (Tryz.strconv_Atoi (st l) n (by rw [st_size]; omega) h w).mono ?_⟩
  rintro e w' ⟨rfl, t, rfl⟩
  exact ⟨rfl, Lib.bytesWorld_below _ _ _⟩
end Go.Proofs.YtfimhkijacamoaaGreatDoor.CLib

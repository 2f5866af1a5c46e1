/- The table that FormatUint reads, out of a row's list of package variables. -/
import Derived.Test.YtinofijncbnolaaDoorHex
import Derived.Test.YtinofijncbnolaaDoorRows
import Derived.Lib.LaidU8
namespace Go.Proofs.YtinofijncbnolaaDoor.SLaid
open Go
def tab : List Int := [0, 1, 56, 2, 57, 49, 28, 3, 61, 58, 42, 50, 38, 29, 17, 4, 62, 47, 59, 36, 45, 43, 51, 22, 53, 39, 33, 30, 24, 18, 12, 5, 63, 55, 48, 27, 60, 41, 37, 16, 46, 35, 44, 21, 52, 32, 23, 11, 54, 26, 40, 15, 34, 20, 31, 10, 25, 14, 19, 9, 13, 8, 7, 6]
theorem gw_of {W : World} {l : List (String × DataW Unit)} (h : laidMet Tryd.prog l W) (hm : ("math/bits.deBruijn64tab", Lib.tabData .u8 tab) ∈ l) : Hex.GW W := by
  obtain ⟨g, t, cs, fuel, p, hg, ht, hv, hd⟩ := Lib.laidMet.reads h hm
  have hg3 : Tryd.prog.globalNamed "math/bits.deBruijn64tab" = some 3 := by kernel_rfl
  obtain rfl := Option.some.inj (hg3.symm.trans hg)
  have ht3 : (Tryd.prog.globals[3]?).map (·.type) = some 79 := by kernel_rfl
  obtain rfl := Option.some.inj (ht3.symm.trans ht)
  have hcs := Lib.cells_of_tab (n := 64) (e := 5) (k := .u8) (zs := tab) (by kernel_rfl) Tryd.underlying5 (by kernel_rfl) (by kernel_rfl) hd
  have hT : Lib.TabIs Tryd.prog W "math/bits.deBruijn64tab" .u8 tab := by
    unfold Lib.TabIs
    rw [hv, ← hcs]
  exact (hT.cell hg3 15 (by decide)).trans rfl
end Go.Proofs.YtinofijncbnolaaDoor.SLaid

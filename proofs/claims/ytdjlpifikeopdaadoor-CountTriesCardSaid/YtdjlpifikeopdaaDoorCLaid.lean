/- The table that Itoa reads, out of a row's list of package variables. -/
import Derived.Test.YtdjlpifikeopdaaDoorCb
import Derived.Test.YtdjlpifikeopdaaDoorRows
import Derived.Lib.LaidU8
import Derived.Lib.LaidTab
namespace Go.Proofs.YtdjlpifikeopdaaDoor.CLaid
open Go
theorem tab_eq : (Rows.laid_internal_strconv_uint64pow10 : DataW Unit) = Lib.tabData .u64 Lib.pow10Tab := by kernel_rfl
theorem gw_of {W : World} {l : List (String × DataW Unit)} (h : laidMet Tryd.prog l W) (hm : ("internal/strconv.uint64pow10", (Rows.laid_internal_strconv_uint64pow10 : DataW Unit)) ∈ l) : Cb.GW W := by
  rw [tab_eq] at hm
  obtain ⟨g, t, cs, fuel, p, hg, ht, hv, hd⟩ := Lib.laidMet.reads h hm
  have hg3 : Tryd.prog.globalNamed "internal/strconv.uint64pow10" = some 1 := by kernel_rfl
  obtain rfl := Option.some.inj (hg3.symm.trans hg)
  have ht3 : (Tryd.prog.globals[1]?).map (·.type) = some 76 := by kernel_rfl
  obtain rfl := Option.some.inj (ht3.symm.trans ht)
  have hcs := Lib.cells_of_tab (n := 20) (e := 45) (k := .u64) (zs := Lib.pow10Tab) (by kernel_rfl) (by kernel_rfl) (by kernel_rfl) (by kernel_rfl) hd
  unfold Cb.GW Lib.TabIs
  rw [hv, ← hcs]
end Go.Proofs.YtdjlpifikeopdaaDoor.CLaid

/-
  LAWS: from the row's list of variables to the table of powers.
-/
import Derived.Test.YthbcdilmfgfndaaGreatDoorRows
import Derived.Test.YthbcdilmfgfndaaGreatDoorZx
import Derived.Lib.LaidTab
import Derived.LaidSub
set_option linter.unusedSimpArgs false
set_option linter.unusedVariables false
namespace Go.Proofs.YthbcdilmfgfndaaGreatDoor
open Go Go.Den
def laid3 : List (String × DataW Unit) := [("math/bits.deBruijn32tab", Rows.laid_math_bits_deBruijn32tab), ("math/bits.deBruijn64tab", Rows.laid_math_bits_deBruijn64tab), ("internal/strconv.uint64pow10", Rows.laid_internal_strconv_uint64pow10)]
theorem tab_of_laid {W : World} (h : laidMetH Tryz.prog laid3 W) : ∃ e z, W.heap[tabG]? = some (Obj.cells tabC e z) := by
  obtain ⟨h1, _⟩ := laidMetH_iff.1 h
  have h2 := h1.filter (fun x => x.1 == "internal/strconv.uint64pow10")
  have e : ((laid3.filter fun x => x.2.handleName?.isNone).filter fun x => x.1 == "internal/strconv.uint64pow10") = [("internal/strconv.uint64pow10", Lib.tabData .u64 Lib.pow10Tab)] := by kernel_rfl
  rw [e] at h2
  have h3 := Lib.tabIs_of_head (g := 1) (t := 272) (e := 207) (n := 20) (by kernel_rfl) (by kernel_rfl) (by kernel_rfl) (by kernel_rfl) (by kernel_rfl) (by kernel_rfl) h2
  unfold Lib.TabIs World.var? at h3
  rw [show Tryz.prog.globalNamed "internal/strconv.uint64pow10" = some tabG by kernel_rfl] at h3
  simp only [Option.bind_some] at h3
  split at h3
  · rename_i c e z hc
    rw [← tabC_eq] at h3
    cases h3
    exact ⟨e, z, hc⟩
  · cases h3
end Go.Proofs.YthbcdilmfgfndaaGreatDoor

/-
  EVALTYPES: the law's own run, at a quarter of the arguments, by the kernel.
-/
import Derived.Test.YthbcdilmfgfndaaGreatDoorXd
namespace Go.Den.Types
open Go
set_option maxRecDepth 1000000
theorem quarter0 : rounds 0 64 = true := by kernel_rfl
end Go.Den.Types

/-
  EVALTYPES: the law's own run, at a quarter of the arguments, by the kernel.
-/
namespace Go.Den.Types
open Go
set_option maxRecDepth 1000000
theorem quarter1 : rounds 64 64 = true := by kernel_rfl
end Go.Den.Types

/-
  EVALTYPES: the law's own run, at a quarter of the arguments, by the kernel.
-/
namespace Go.Den.Types
open Go
set_option maxRecDepth 1000000
theorem quarter2 : rounds 128 64 = true := by kernel_rfl
end Go.Den.Types

/-
  EVALTYPES: the law's own run, at a quarter of the arguments, by the kernel.
-/
namespace Go.Den.Types
open Go
set_option maxRecDepth 1000000
theorem quarter3 : rounds 192 64 = true := by kernel_rfl
end Go.Den.Types

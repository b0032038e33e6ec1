/-
  EVALTYPES: the symbols of source 0, by the kernel.
-/
import Derived.Test.YthbcdilmfgfndaaGreatDoorXa
namespace Go.Den.Types
open Go
set_option maxRecDepth 1000000
theorem scan0 : AnsOK Go.Proofs.Tryz.prog (scanA S0 T0) := ans_of (A := []) (fun _ h => by cases h) (n := 3000) (by kernel_rfl)
end Go.Den.Types

/-
  EVALTYPES: the tree of source 0, by the kernel; it runs as is told.
-/
namespace Go.Den.Types
open Go
set_option maxRecDepth 1000000
theorem comp0 : AnsOK Go.Proofs.Tryz.prog (compA S0 M0) := ans_of (A := [scanA S0 T0]) (fun a h => by
  obtain rfl := List.mem_singleton.1 h
  exact scan0) (n := 3000) (by kernel_rfl)
theorem told0 : AnsOK Go.Proofs.Tryz.prog (toldA S0 W0) := ans_of (A := [compA S0 M0]) (fun a h => by
  obtain rfl := List.mem_singleton.1 h
  exact comp0) (n := 3000) (by kernel_rfl)
end Go.Den.Types

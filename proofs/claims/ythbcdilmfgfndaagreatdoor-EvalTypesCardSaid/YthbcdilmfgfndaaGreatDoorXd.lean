/-
  EVALTYPES: the law's own run: what is asked of each argument.
-/
import Derived.Test.YthbcdilmfgfndaaGreatDoorXa
namespace Go.Den.Types
open Go
set_option maxRecDepth 100000
def lawA : List Ans := [knownA, toldA S0 W0, toldA S1 W1, toldA S2 W2]
noncomputable def isTrue (r : Option (ARes × Heap)) : Bool := match r with
  | some (.ret (.bool true), _) => true
  | _ => false
noncomputable def okAt (a : Nat) : Bool := isTrue (denT XK (primsA lawA) 1000 12 [.int .u8 (.ofNat a)] heap0)
noncomputable def rounds (lo : Nat) : Nat → Bool := @Nat.rec (fun _ => Bool) true (fun n ih => cb (okAt (Nat.add lo n)) ih false)
theorem rounds_at {lo : Nat} : ∀ {n : Nat}, rounds lo n = true → ∀ k, k < n → okAt (lo + k) = true
  | 0, _, k, hk => by omega
  | n + 1, h, k, hk => by
    change cb (okAt (lo + n)) (rounds lo n) false = true at h
    cases ho : okAt (lo + n) with
    | false => rw [ho] at h; cases h
    | true =>
      rw [ho] at h
      by_cases e : k = n
      · subst e; exact ho
      · exact rounds_at h k (by omega)
theorem okAt_run {a : Nat} (h : okAt a = true) : ∃ h', denT XK (primsA lawA) 1000 12 [.int .u8 (.ofNat a)] heap0 = some (.ret (.bool true), h') := by
  unfold okAt isTrue at h
  split at h
  · rename_i h' e; exact ⟨h', e⟩
  · cases h
end Go.Den.Types


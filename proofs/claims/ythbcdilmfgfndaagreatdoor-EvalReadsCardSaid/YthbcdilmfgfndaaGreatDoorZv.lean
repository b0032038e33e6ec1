/-
  EVALREADS: the call's contract.
-/
import Derived.Test.YthbcdilmfgfndaaGreatDoorRows
import Derived.WalkKit
import Derived.ProofKit
import Derived.OpenShut
import Derived.Carry
import Derived.Deep.Slices
import Derived.Deep.DeepHandedRow
import Derived.Lay
import Derived.Test.YthbcdilmfgfndaaGreatDoorZu
import Derived.Test.YthbcdilmfgfndaaGreatDoorZy
import Derived.Test.YthbcdilmfgfndaaGreatDoorZn
set_option linter.unusedSimpArgs false
set_option linter.unusedVariables false
namespace Go.Proofs.YthbcdilmfgfndaaGreatDoor.evalReads
open Go.ChangeShapes Go.WideShapes Go.ChangeAt Go.RowKit
set_option maxRecDepth 1000000
theorem fact1 : laidOutB Tryz.prog = true := by kernel_rfl
set_option maxRecDepth 100000 in
theorem contract (H : Type) (enc : TypeId × Value → H) (W : World) (base : Nat) (args : Array Value) (ds gs : List (DataW H)) (before : List MemPlace)
    (hval : ∀ (j : Nat) t v, Tryz.f6.params[j]? = some t → args[j]? = some v → Value.okWide Tryz.prog W .any base t v)
    (hW : DataW.Whole enc Tryz.prog Tryz.f6.params.toList Rows.evalReadsSpec.vars false W args.toList ds gs before) (ht : ∃ e z, W.heap[Go.Den.tabG]? = some (Obj.cells Go.Den.tabC e z)) :
    Calls Tryz.prog 6 args W fun e W' => ∃ v, e = .returned v ∧ Rows.evalReadsSpec.post enc Tryz.prog Tryz.f6 false true false false W args v W' := by
  have hW' := hW
  obtain ⟨p, q, hA0, hV, rfl, hfz, hnd⟩ := hW
  have hA : DataW.TrodAll enc Tryz.prog W 0 (fun _ => true) true Tryz.f6.params.toList args.toList ds p := hA0
  rw [Tryz.params6] at hA hval
  obtain ⟨v0, vs0, d0, ds0, p0, q0, hargs, rfl, rfl, h0, r0⟩ := trodAll_cons hA
  obtain ⟨rfl, rfl, rfl⟩ := trodAll_nil r0
  obtain rfl : args = #[v0] := by cases args; simp_all
  obtain ⟨rfl, rfl⟩ := trodVars_none hV
  obtain ⟨a0, len, cap, rfl⟩ := okWide_slice Tryz.underlying23 (hval 0 23 v0 rfl rfl)
  clear hA0
  simp only [List.append_nil] at hW'
  have hlt : ∀ x ∈ p0, x.block < W.heap.size := fun x hx => by simpa using hW'.lt x hx
  have h0k := h0
  obtain ⟨fuel, hf⟩ := h0
  have c5 : Tryz.prog.cellsOf 5 = 1 := by kernel_rfl
  have run : Calls Tryz.prog 6 #[.slice a0 len cap] W fun e w' => e = .returned (.bool true) ∧ RowKit.Below W.heap.size W w' := by
    rcases open_ints Tryz.underlying23 Tryz.underlying5 c5 hf with ⟨hcs, _⟩ | ⟨a, len', cap', zs, hcs, _, hl, hm, hz, hx, hcell, hwz⟩
    · simp [Value.cells] at hcs
      obtain ⟨rfl, rfl, rfl⟩ := hcs
      exact Go.Den.list_call Go.Wf.Reads.SA_ok Go.Wf.Reads.law W ht none 0 0 (Nat.le_refl _) [] rfl (fun h => absurd h (by omega)) (fun n hn => by cases hn)
    · simp [Value.cells] at hcs
      obtain ⟨rfl, rfl, rfl⟩ := hcs
      simp only [if_true] at hz
      have hgd : ∀ i, i < len → (zs.take len).getD i 0 = zs.getD i 0 := fun i hi => by simp [List.getD, hi]
      refine Go.Den.list_call Go.Wf.Reads.SA_ok Go.Wf.Reads.law W ht (some a) len cap hl (zs.take len) (by simp; omega) (fun hpos => ?_) (fun n hn => bounds_u8 (hwz n (List.mem_of_mem_take hn)))
      obtain ⟨b, off, spot⟩ := a
      have hs : spot = none := by simpa [Addr.add] using World.cell?_spot (hcell 0 (by omega))
      subst hs
      exact ⟨b, off, rfl, fun i hi => by
        have q := hcell i (by omega)
        rw [add_plain] at q
        rw [hgd i hi]; exact q⟩
  refine run.mono fun e W' ⟨he, hb⟩ => ?_
  subst he
  have hkept : Go.Den.Kept W W' := ⟨hb.os, hb.output, hb.size, fun B hB => hb.block B hB⟩
  exact ⟨_, rfl, Go.Den.post_kept (pa := p0) (pv := []) hW' (fun _ _ _ => (trodAll_cons_mk (shut_bool Tryz.underlying4 _) trodAll_mk0))
    (fun sp hsp => by
      have t := WideElems.Trod_stays fact1 (by kernel_rfl) (of_decide_eq_true (by kernel_rfl)) h0k (fun x hx => hb.same (hlt x hx)) (sp' := sp) (fun x hx => hsp x hx)
      have q := trodAll_cons_mk t trodAll_mk0
      rw [List.append_nil] at q
      exact q)
    (fun _ _ => rfl) (by simp) (hkept.keptBut _)⟩
end Go.Proofs.YthbcdilmfgfndaaGreatDoor.evalReads

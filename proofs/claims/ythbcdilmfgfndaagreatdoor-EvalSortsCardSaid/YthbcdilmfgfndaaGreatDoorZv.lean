/-
  LAWS: a list of bytes handed to a run of the evaluator that answers true: the memory that was there stays.
-/
import Derived.Test.YthbcdilmfgfndaaGreatDoorZn
import Derived.DataReads
import Derived.Below
import Derived.Test.YthbcdilmfgfndaaGreatDoorRows
import Derived.WalkKit
import Derived.ProofKit
import Derived.OpenShut
import Derived.Carry
import Derived.Deep.Slices
import Derived.Deep.DeepHandedRow
import Derived.Lay
import Derived.Test.YthbcdilmfgfndaaGreatDoorZu
set_option linter.unusedSimpArgs false
set_option linter.unusedVariables false
namespace Go.Den
open Go Go.Proofs Go.Wf
def embA (b off len : Nat) : Emb := { ρ := fun _ => none, kind := fun B => if B = b then .store else .foreign, tag := fun B k => if B = b ∧ off ≤ k ∧ k < off + len then .imm else .junk }
theorem ext_below {b off len : Nat} {w w' : World} {E' : Emb} (hx : Ext (embA b off len) w E' w') (hb : ∀ k, off ≤ k → k < off + len → ∃ x, cellOf w.heap b k = some x) (hc : ∃ c e z, w.heap[b]? = some (Obj.cells c e z)) : RowKit.Below w.heap.size w w' := by
  refine ⟨hx.os, hx.tape, hx.output, hx.size, fun B hB => ?_⟩
  by_cases e : B = b
  · subst e
    obtain ⟨c, e, z, h1⟩ := hc
    obtain ⟨c', h2, h3⟩ := hx.mono.row B c e z h1
    rw [h2, h1]
    have key : c' = c := by
      apply Array.ext_getElem?
      intro k
      have e1 : cellOf w'.heap B k = c'[k]? := by simp [cellOf, h2]
      have e2 : cellOf w.heap B k = c[k]? := by simp [cellOf, h1]
      rw [← e1, ← e2]
      have hk : (embA B off len).kind B = .store := by simp [embA]
      by_cases hr : off ≤ k ∧ k < off + len
      · obtain ⟨x, hx1⟩ := hb k hr.1 hr.2
        have := hx.mono.imm B k x ⟨hk, by simp [embA, hr], hx1⟩
        rw [this.2.2, hx1]
      · exact (hx.junk B k hB hk (by simp [embA]; intro h; omega)).2
    rw [key]
  · exact (hx.foreign B hB (by simp [embA, e])).2
theorem foreign_below {w w' : World} {E' : Emb} (hx : Ext emb0 w E' w') : RowKit.Below w.heap.size w w' :=
  ⟨hx.os, hx.tape, hx.output, hx.size, fun B hB => (hx.foreign B hB rfl).2⟩
def bytesZ (zs : List Int) : List UInt8 := zs.map fun n => UInt8.ofNat n.toNat
theorem bytesZ_at {zs : List Int} (hw : ∀ n ∈ zs, 0 ≤ n ∧ n ≤ 255) : bytesV (bytesZ zs) = zs.map (.int .u8) := by
  unfold bytesV bytesZ
  rw [List.map_map]
  apply List.map_congr_left
  intro n hn
  have := hw n hn
  show AVal.int .u8 (((UInt8.ofNat n.toNat).toNat : Nat) : Int) = .int .u8 n
  have e : (UInt8.ofNat n.toNat).toNat = n.toNat := by
    rw [UInt8.toNat_ofNat']
    exact Nat.mod_eq_of_lt (by omega)
  rw [e]
  congr 1; omega
theorem list_call {A : List Ans} (hA : ∀ a ∈ A, AnsOK Tryz.prog a) {f : FuncId} (hrun : ∀ inp : List UInt8, ∃ H', Ev (primsS A) f [.isl false inp.length (bytesV inp)] heap0 (.ret (.bool true)) H')
    (w : World) (a : Option Addr) (len cap : Nat) (hl : len ≤ cap) (zs : List Int) (hz : zs.length = len) (ha : 0 < len → ∃ b off, a = some ⟨b, off, none⟩ ∧ ∀ i, i < len → w.cell? ⟨b, off + i, none⟩ = some (.int .u8 (zs.getD i 0))) (hw : ∀ n ∈ zs, 0 ≤ n ∧ n ≤ 255) :
    Calls Tryz.prog f #[.slice a len cap] w fun e w' => e = .returned (.bool true) ∧ RowKit.Below w.heap.size w w' := by
  obtain ⟨H', hr⟩ := hrun (bytesZ zs)
  have hbl : (bytesZ zs).length = len := by simp [bytesZ, hz]
  rw [hbl, bytesZ_at hw] at hr
  have out : ∀ (E : Emb), HRel E w.heap heap0 → VRel E w.heap (.isl false len (zs.map (.int .u8))) (.slice a len cap) → Calls Tryz.prog f #[.slice a len cap] w fun e w' => e = .returned (.bool true) ∧ ∃ E', Ext E w E' w' := fun E hH hv => by
    refine (ev_calls hA hr E w #[.slice a len cap] hH ⟨rfl, fun j v x h1 h2 => ?_⟩).mono ?_
    · cases j with
      | zero =>
        simp at h1 h2
        subst h1; subst h2
        exact ⟨hv, .of_strip rfl⟩
      | succ j => simp at h1
    · rintro e w' ⟨E', hx, hH', he⟩
      cases e with
      | returned x => exact ⟨by rw [he.1.bool_eq], E', hx⟩
      | _ => exact he.elim
  rcases Nat.eq_zero_or_pos len with h0 | hpos
  · subst h0
    obtain rfl : zs = [] := List.eq_nil_of_length_eq_zero hz
    refine (out emb0 (hrel0 _) (empty_rel a cap)).mono ?_
    rintro e w' ⟨h1, E', hx⟩
    exact ⟨h1, foreign_below hx⟩
  · obtain ⟨b, off, rfl, hcell⟩ := ha hpos
    have hcl : ∀ i, i < len → cellOf w.heap b (off + i) = some (.int .u8 (zs.getD i 0)) := fun i hi => by
      have := hcell i hi
      rw [cell_eq] at this
      exact this
    have hblk : ∃ c e z, w.heap[b]? = some (Obj.cells c e z) := by
      have := hcl 0 hpos
      unfold cellOf at this
      split at this
      · rename_i c e z hq; exact ⟨c, e, z, hq⟩
      · cases this
    refine (out (embA b off len) ⟨fun b o h => by simp [heap0] at h, fun b B h => by cases h⟩ ?_).mono ?_
    · refine .isl false len (zs.map (.int .u8)) (some ⟨b, off, none⟩) cap b off (fun j => .int .u8 (zs.getD j 0)) hl ?_ ?_ (fun _ => rfl) ?_ ?_
      · constructor
        · intro h; simp at h; subst h; simp at hz; omega
        · intro h; omega
      · intro v hv
        obtain ⟨n, _, rfl⟩ := List.mem_map.1 hv
        exact ⟨rfl, rfl⟩
      · intro j hj
        rw [List.length_map, hz] at hj
        exact ⟨by simp [embA], by simp [embA, hj], hcl j hj⟩
      · intro j v hj
        rw [List.getElem?_map] at hj
        cases hq : zs[j]? with
        | none => rw [hq] at hj; cases hj
        | some n =>
          rw [hq] at hj
          cases hj
          have : zs.getD j 0 = n := by simp [List.getD, hq]
          rw [this]
          exact .int _ _
    · rintro e w' ⟨h1, E', hx⟩
      refine ⟨h1, ext_below hx (fun k k1 k2 => ?_) hblk⟩
      have := hcl (k - off) (by omega)
      rw [show off + (k - off) = k by omega] at this
      exact ⟨_, this⟩
end Go.Den
namespace Go.Proofs.YthbcdilmfgfndaaGreatDoor.evalSorts
open Go.ChangeShapes Go.WideShapes Go.ChangeAt Go.RowKit
set_option maxRecDepth 1000000
theorem fact1 : laidOutB Tryz.prog = true := by kernel_rfl
set_option maxRecDepth 100000 in
theorem contract (H : Type) (enc : TypeId × Value → H) (W : World) (base : Nat) (args : Array Value) (ds gs : List (DataW H)) (before : List MemPlace)
    (hval : ∀ (j : Nat) t v, Tryz.f7.params[j]? = some t → args[j]? = some v → Value.okWide Tryz.prog W .any base t v)
    (hW : DataW.Whole enc Tryz.prog Tryz.f7.params.toList Rows.evalSortsSpec.vars false W args.toList ds gs before) :
    Calls Tryz.prog 7 args W fun e W' => ∃ v, e = .returned v ∧ Rows.evalSortsSpec.post enc Tryz.prog Tryz.f7 false true false false W args v W' := by
  have hW' := hW
  obtain ⟨p, q, hA0, hV, rfl, hfz, hnd⟩ := hW
  have hA : DataW.TrodAll enc Tryz.prog W 0 (fun _ => true) true Tryz.f7.params.toList args.toList ds p := hA0
  rw [Tryz.params7] at hA hval
  obtain ⟨v0, vs0, d0, ds0, p0, q0, hargs, rfl, rfl, h0, r0⟩ := trodAll_cons hA
  obtain ⟨rfl, rfl, rfl⟩ := trodAll_nil r0
  obtain rfl : args = #[v0] := by cases args; simp_all
  obtain ⟨rfl, rfl⟩ := trodVars_none hV
  obtain ⟨a0, len, cap, rfl⟩ := okWide_slice Tryz.underlying23 (hval 0 23 v0 rfl rfl)
  clear hA0
  simp only [List.append_nil] at hW'
  have hlt : ∀ x ∈ p0, x.block < W.heap.size := fun x hx => by simpa using hW'.lt x hx
  have h0k := h0
  obtain ⟨fuel, hf⟩ := h0
  have c5 : Tryz.prog.cellsOf 5 = 1 := by kernel_rfl
  have run : Calls Tryz.prog 7 #[.slice a0 len cap] W fun e w' => e = .returned (.bool true) ∧ RowKit.Below W.heap.size W w' := by
    rcases open_ints Tryz.underlying23 Tryz.underlying5 c5 hf with ⟨hcs, _⟩ | ⟨a, len', cap', zs, hcs, _, hl, hm, hz, hx, hcell, hwz⟩
    · simp [Value.cells] at hcs
      obtain ⟨rfl, rfl, rfl⟩ := hcs
      exact Go.Den.list_call Go.Wf.Sorts.SA_ok Go.Wf.Sorts.law W none 0 0 (Nat.le_refl _) [] rfl (fun h => absurd h (by omega)) (fun n hn => by cases hn)
    · simp [Value.cells] at hcs
      obtain ⟨rfl, rfl, rfl⟩ := hcs
      simp only [if_true] at hz
      have hgd : ∀ i, i < len → (zs.take len).getD i 0 = zs.getD i 0 := fun i hi => by simp [List.getD, hi]
      refine Go.Den.list_call Go.Wf.Sorts.SA_ok Go.Wf.Sorts.law W (some a) len cap hl (zs.take len) (by simp; omega) (fun hpos => ?_) (fun n hn => bounds_u8 (hwz n (List.mem_of_mem_take hn)))
      obtain ⟨b, off, spot⟩ := a
      have hs : spot = none := by simpa [Addr.add] using World.cell?_spot (hcell 0 (by omega))
      subst hs
      exact ⟨b, off, rfl, fun i hi => by
        have q := hcell i (by omega)
        rw [add_plain] at q
        rw [hgd i hi]; exact q⟩
  refine run.mono fun e W' ⟨he, hb⟩ => ?_
  subst he
  have hkept : Go.Den.Kept W W' := ⟨hb.os, hb.output, hb.size, fun B hB => hb.block B hB⟩
  exact ⟨_, rfl, Go.Den.post_kept (pa := p0) (pv := []) hW' (fun _ _ _ => (trodAll_cons_mk (shut_bool Tryz.underlying4 _) trodAll_mk0))
    (fun sp hsp => by
      have t := WideElems.Trod_stays fact1 (by kernel_rfl) (of_decide_eq_true (by kernel_rfl)) h0k (fun x hx => hb.same (hlt x hx)) (sp' := sp) (fun x hx => hsp x hx)
      have q := trodAll_cons_mk t trodAll_mk0
      rw [List.append_nil] at q
      exact q)
    (fun _ _ => rfl) (by simp) (hkept.keptBut _)⟩
end Go.Proofs.YthbcdilmfgfndaaGreatDoor.evalSorts

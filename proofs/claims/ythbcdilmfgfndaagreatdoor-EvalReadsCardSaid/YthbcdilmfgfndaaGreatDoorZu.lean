/-
  EVALREADS: the law's run.
-/
import Derived.Test.YthbcdilmfgfndaaGreatDoorZo
import Derived.Test.YthbcdilmfgfndaaGreatDoorZn
import Derived.Test.YthbcdilmfgfndaaGreatDoorZt
import Derived.Test.YthbcdilmfgfndaaGreatDoorZr
import Derived.Test.YthbcdilmfgfndaaGreatDoorZs
set_option linter.unusedSimpArgs false
set_option linter.unusedVariables false
namespace Go.Wf.Reads
open Go Go.Wf Go.Den
def mdV : List AVal := encMd D 2 [.str [73, 110], .str [79, 117, 116]] 0 [] 0 []
def compN : Ans := ⟨22, [.str Go.Den.Reads.S0, .nils], .tup [.agg mdV, .int .i64 0]⟩
set_option maxRecDepth 1000000 in
theorem norm_M0 : norm Go.Den.Reads.M0 = .tup [.agg mdV, .int .i64 0] := by kernel_rfl
set_option maxRecDepth 1000000 in
theorem strip_mdV : (AVal.tup [.agg mdV, .int .i64 0]).stripA = .tup [.agg mdV, .int .i64 0] := by kernel_rfl
theorem comp_ok : AnsOK Go.Proofs.Tryz.prog compN := ans_norm (a := Go.Den.Reads.compA) Go.Den.Reads.comp norm_M0 strip_mdV
def SA : List Ans := [Go.Den.Kn.knownA, compN]
theorem SA_ok : ∀ a ∈ SA, AnsOK Go.Proofs.Tryz.prog a := by
  intro a ha
  simp only [SA, List.mem_cons, List.not_mem_nil, or_false] at ha
  rcases ha with rfl | rfl
  · exact Go.Den.Kn.known
  · exact comp_ok
theorem SA_has (f : FuncId) (h1 : f ≠ 13) (h2 : f ≠ 22) : hasF f SA = false := by
  have e1 : Nat.beq f 13 = false := by cases e : Nat.beq f 13 with | false => rfl | true => exact (h1 (Nat.eq_of_beq_eq_true e)).elim
  have e2 : Nat.beq f 22 = false := by cases e : Nat.beq f 22 with | false => rfl | true => exact (h2 (Nat.eq_of_beq_eq_true e)).elim
  show (Nat.beq f 13 || (Nat.beq f 22 || false)) = false
  rw [e1, e2]; rfl
theorem PS : PK (primsS SA) := pk_S (fun f h1 h2 _ _ => SA_has f h1 h2)
theorem no (f : FuncId) (h : isPrim0 f = false) : primsS SA f = none := by
  have h' := h
  simp only [isPrim0, Bool.or_eq_false_iff, beq_eq_false_iff_ne] at h'
  unfold primsS
  rw [SA_has f h'.1.1.1.2 h'.1.1.2]
  exact primsB_none h
theorem e_known : Ev (primsS SA) 13 [] heap0 (.ret (.bool true)) heap0 := ev_prim (p := primA SA 13) rfl rfl
theorem e_comp : Ev (primsS SA) 22 [.str Go.Den.Reads.S0, .nils] heap0 (.ret (.tup [.agg mdV, .int .i64 0])) heap0 := by
  refine ev_prim (p := primA SA 22) rfl ?_
  have e : beqAs [AVal.str Go.Den.Reads.S0, .nils] [AVal.str Go.Den.Reads.S0, .nils] = true := by decide +kernel
  show primA SA 22 [.str Go.Den.Reads.S0, .nils] heap0 = _
  unfold primA
  have e2 : findA 22 [.str Go.Den.Reads.S0, .nils] SA = some (.tup [.agg mdV, .int .i64 0]) := by
    show cond (Nat.beq 22 13 && _) _ (cond (Nat.beq 22 22 && beqAs [AVal.str Go.Den.Reads.S0, .nils] [AVal.str Go.Den.Reads.S0, .nils]) (some compN.v) _) = _
    rw [e]; rfl
  rw [e2]; rfl
theorem short_D : short D := by
  refine ⟨by decide, ?_, ?_, ?_, by decide, by decide, by decide⟩
  · intro v hv
    simp only [D, vars, List.mem_cons, List.not_mem_nil, or_false] at hv
    rcases hv with rfl | rfl <;> decide
  · intro p hp; cases hp
  · intro r hr; cases hr
theorem e_run (inp : List UInt8) (h : inp.length ≤ 60) : ∃ H', Ev (primsS SA) 17 [.isl false inp.length (bytesV inp), .int .i64 0, .int .i64 1000, .isl false 1 mdV] heap0 (.ret (.agg [.isl false (outR inp ++ [48, 10] ++ decN inp.length).length (bytesV (outR inp ++ [48, 10] ++ decN inp.length)), .int .i64 1, .int .i64 0])) H' := by
  obtain ⟨s', h1, h2⟩ := whole inp h
  obtain ⟨ov, H', e, ho⟩ := w_run PS D 203 (fun C hR _ => recK_nil (no 203 rfl) hR) short_D (.isl false inp.length (bytesV inp)) inp rfl (by show inp.length ≤ 1000000; omega) 0 1000 (by decide) (by decide) 2 [.str [73, 110], .str [79, 117, 116]] 0 [] 0 [] _ h1 heap0 (by decide)
  have ho' : OutR ov s'.out := ho
  rw [h2] at ho'
  rcases ho' with ⟨_, q⟩ | rfl
  · simp at q
  · exact ⟨H', e⟩
end Go.Wf.Reads
namespace Go.Wf
open Go Go.Den
variable {P : Prims}
theorem tab0_at : ∀ k < 10, ((([48, 49, 50, 51, 52, 53, 54, 55, 56, 57] : List UInt8).take (k + 1)).drop k) = [UInt8.ofNat (48 + k)] := by decide
theorem dec_ev (hp : P 23 = none) (H : Heap) (n : Nat) : n < 1000000000 → Ev P 23 [.int .i64 (n : Int)] H (.ret (.str (decN n))) H := by
  induction n using Nat.strongRecOn with
  | _ n ih =>
    intro hn
    by_cases h : n < 10
    · rw [decN_small h]
      exact r23_0 hp (by omega) (wrap64 (by omega) (by omega)) (by rw [lowB_nat (k := n) rfl, lowB_nat (k := n + 1) (by omega), subStr_eq (by omega) (by show n + 1 ≤ 10; omega), tab0_at n h])
    · have e : decN n = decN (n / 10) ++ decN (n % 10) := by
        rw [decN_small (n := n % 10) (by omega)]
        conv => lhs; unfold decN
        rw [if_neg h]
      have l1 : ∀ m, (decN m).length ≤ m + 1 := by
        intro m
        induction m using Nat.strongRecOn with
        | _ m ih =>
          unfold decN
          split
          · simp
          · have := ih (m / 10) (by omega)
            simp; omega
      have a := l1 (n / 10)
      have b := l1 (n % 10)
      rw [e]
      exact r23_1 hp (by omega) (y0 := ((n / 10 : Nat) : Int)) (wrap64 (n := ((n / 10 : Nat) : Int)) (by omega) (by omega)) (ih (n / 10) (by omega) (by omega)) rfl (ih (n % 10) (by omega) (by omega)) (by omega)
end Go.Wf
namespace Go.Wf.Reads
open Go Go.Wf Go.Den
variable {P : Prims}
theorem outR_snoc (b : UInt8) : ∀ l : List UInt8, outR (l ++ [b]) = (outR l ++ decN b.toNat) ++ [32]
  | [] => by simp [outR]
  | a :: l => by
    have := outR_snoc b l
    simp only [List.cons_append, outR, this, List.append_assoc]
abbrev Xb (ov : List AVal) : List (List AVal) := [mdV, ov]
theorem read_b {l : List UInt8} {k : Nat} {c : UInt8} (h : l[k]? = some c) : readRow false 1 (bytesV l) (k * 1) = some (.int .u8 (c.toNat : Int)) := by
  rw [Nat.mul_one]
  simp [readRow, bytesV, h, AVal.strip]
theorem loopR (h23 : P 23 = none) (inp : List UInt8) (hs : inp.length ≤ 60) (n8 : Nat) (cs8 : List AVal) (H : Heap) : ∀ (m k : Nat), k + m = inp.length →
    LoopEv P 6 k6_0 55 [] [(0, .isl false inp.length (bytesV inp)), (4, .int .i64 0), (5, .loc 1 0), (6, .str (outR (inp.take k))), (7, .int .i64 (k : Int))] ⟨[mdV, [.isl false n8 cs8, .int .i64 1, .int .i64 0]], false⟩ H (.exit 0) []
      [(0, .isl false inp.length (bytesV inp)), (4, .int .i64 0), (5, .loc 1 0), (6, .str (outR inp))] ⟨[mdV, [.isl false n8 cs8, .int .i64 1, .int .i64 0]], false⟩ H
  | 0, k, hk => by
    have e : inp.take k = inp := List.take_of_length_le (by omega)
    rw [e]
    exact loop_exit (by simp) (bu6_0_1 (by omega))
  | m + 1, k, hk => by
    have hki : k < inp.length := by omega
    obtain ⟨c, hc⟩ : ∃ c, inp[k]? = some c := ⟨_, List.getElem?_eq_getElem hki⟩
    have ht : inp.take (k + 1) = inp.take k ++ [c] := by rw [List.take_add_one, hc]; rfl
    have ih := loopR h23 inp hs n8 cs8 H m (k + 1) (by omega)
    rw [ht, outR_snoc] at ih
    have hb := c.toNat_lt
    have l1 := outR_len (inp.take k)
    have l2 := decN_len3 (n := c.toNat) (by omega)
    have l3 : (inp.take k).length ≤ k := by simp; omega
    exact loop_next (by rfl) (bu6_0_0 (by omega) hki (by simp [bytesV]) (read_b hc) (wrap64 (by omega) (by omega)) (dec_ev h23 H c.toNat (by omega)) (by omega) (by simp; omega) (y1 := ((k + 1 : Nat) : Int)) (by rw [wrap64 (by omega) (by omega)]; simp)) ih
theorem bytesOf_V : ∀ l : List UInt8, bytesOf (bytesV l) = some l
  | [] => rfl
  | b :: l => by
    have ih := bytesOf_V l
    show (match bytesOf (bytesV l) with | some bs => some (UInt8.ofNat ((b.toNat : Int)).toNat :: bs) | none => none) = _
    rw [ih]; simp
theorem law (inp : List UInt8) : ∃ H', Ev (primsS SA) 6 [.isl false inp.length (bytesV inp)] heap0 (.ret (.bool true)) H' := by
  have h6 := no 6 rfl
  have h23 := no 23 rfl
  by_cases hs : inp.length ≤ 60
  · obtain ⟨H', e⟩ := e_run inp hs
    have L := loopR (P := primsS SA) h23 inp hs (outR inp ++ [48, 10] ++ decN inp.length).length (bytesV (outR inp ++ [48, 10] ++ decN inp.length)) H' inp.length 0 (by omega)
    have l1 := outR_len inp
    have l2 := decN_len3 (n := inp.length) (by omega)
    have fin := lu6_0 h6 e_known rfl (by omega) e_comp e L rfl rfl (s2 := outR inp ++ [48, 10] ++ decN inp.length) (by
      rw [bytesOf_V]; simp [bytesV]) (by simp; omega) (dec_ev h23 H' inp.length (by omega)) (by simp; omega)
    rw [beqB_refl] at fin
    exact ⟨_, fin⟩
  · exact ⟨heap0, ru6_1 h6 e_known rfl (by omega)⟩
end Go.Wf.Reads

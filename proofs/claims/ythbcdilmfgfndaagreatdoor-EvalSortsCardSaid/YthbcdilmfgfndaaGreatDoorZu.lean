/-
  EVALSORTS: the law's run.
-/
import Derived.Test.YthbcdilmfgfndaaGreatDoorZo
import Derived.Test.YthbcdilmfgfndaaGreatDoorZn
import Derived.Test.YthbcdilmfgfndaaGreatDoorZt
import Derived.Test.YthbcdilmfgfndaaGreatDoorZr
import Derived.Test.YthbcdilmfgfndaaGreatDoorZs
set_option linter.unusedSimpArgs false
set_option linter.unusedVariables false
namespace Go.Den
open Go
mutual
def norm : AVal → AVal
  | .nils => .isl false 0 []
  | .isl own n cs => .isl own n (normL cs)
  | .agg cs => .agg (normL cs)
  | .tup cs => .tup (normL cs)
  | v => v
def normL : List AVal → List AVal
  | [] => []
  | v :: l => norm v :: normL l
end
theorem normL_map : ∀ l, normL l = l.map norm
  | [] => rfl
  | v :: l => by simp only [normL, normL_map l, List.map_cons]
theorem norm_atom (v : AVal) (h : v.atom = true ∧ v.strip = v) : (norm v).atom = true ∧ (norm v).strip = norm v := by
  cases v <;> first | exact h | (simp [norm, AVal.atom, AVal.strip] at h ⊢; done) | (simp [norm, AVal.atom, AVal.strip] at h ⊢; exact h)
theorem norm_atom1 (v : AVal) (h : v.atom = true) : (norm v).atom = true := by
  cases v <;> first | exact h | (simp [norm, AVal.atom] at h ⊢; done) | (simp [norm, AVal.atom] at h ⊢; exact h)
theorem VRel.norm {E : Emb} {hp : HP} {v : AVal} {x : Value} (h : VRel E hp v x) : VRel E hp (norm v) x := by
  induction h with
  | nils => exact empty_rel none 0
  | isl own n cs a cap B o u hn hn0 ha hb hc hv ih =>
    have el : (normL cs).length = cs.length := by rw [normL_map]; simp
    refine .isl own n (normL cs) a cap B o u hn ?_ ?_ ?_ ?_ ?_
    · rw [normL_map]; simpa using hn0
    · intro v hv'
      rw [normL_map] at hv'
      obtain ⟨w, hw, rfl⟩ := List.mem_map.1 hv'
      exact norm_atom w (ha w hw)
    · intro hne; exact hb (fun e => hne (by rw [e]; rfl))
    · intro j hj; exact hc j (by omega)
    · intro j v hj
      rw [normL_map, List.getElem?_map] at hj
      cases hq : cs[j]? with
      | none => rw [hq] at hj; cases hj
      | some w => rw [hq] at hj; cases hj; exact ih j w hq
  | agg cs us hl ha hv ih =>
    refine .agg (normL cs) us (by rw [normL_map]; simpa using hl) ?_ ?_
    · intro v hv'
      rw [normL_map] at hv'
      obtain ⟨w, hw, rfl⟩ := List.mem_map.1 hv'
      exact norm_atom1 w (ha w hw)
    · intro j v x h1 h2
      rw [normL_map, List.getElem?_map] at h1
      cases hq : cs[j]? with
      | none => rw [hq] at h1; cases h1
      | some w => rw [hq] at h1; cases h1; exact ih j w x hq h2
  | tup vs us hl hv ih =>
    refine .tup (normL vs) us (by rw [normL_map]; simpa using hl) ?_
    intro j v x h1 h2
    rw [normL_map, List.getElem?_map] at h1
    cases hq : vs[j]? with
    | none => rw [hq] at h1; cases h1
    | some w => rw [hq] at h1; cases h1; exact ih j w x hq h2
  | bool b => exact .bool b
  | int k n => exact .int k n
  | str s => exact .str s
  | nilp => exact .nilp
  | ptr b off B h => exact .ptr b off B h
  | ept cs off B o u ha hc hv ih => exact .ept cs off B o u ha hc hv
  | msl b off n size a cap B c e z hn hb => exact .msl b off n size a cap B c e z hn hb
  | nilm => exact .nilm
  | map b B h => exact .map b B h
  | nilf => exact .nilf
  | fn f caps us hl hv ha ih => exact .fn f caps us hl hv ha
  | nili => exact .nili
  | iface t v x h ih => exact .iface t v x h
theorem ans_norm {P : Program} {a : Ans} (h : AnsOK P a) {v' : AVal} (hv : norm a.v = v') (hs : v'.stripA = v') : AnsOK P ⟨a.f, a.args, v'⟩ := by
  intro E w cargs hH hargs
  refine (h E w cargs hH hargs).mono ?_
  rintro e w' ⟨E', hx, hH', he⟩
  refine ⟨E', hx, hH', ?_⟩
  cases e with
  | returned x =>
    subst hv
    exact ⟨he.1.norm, .of_strip hs⟩
  | _ => exact he.elim
end Go.Den
namespace Go.Wf.Sorts
open Go Go.Wf Go.Den
def mdV : List AVal := encMd D 2 [.str [73, 110], .str [79, 117, 116]] 0 [] 0 []
def compN : Ans := ⟨22, [.str Go.Den.Sorts.S0, .nils], .tup [.agg mdV, .int .i64 0]⟩
set_option maxRecDepth 1000000 in
theorem norm_M0 : norm Go.Den.Sorts.M0 = .tup [.agg mdV, .int .i64 0] := by kernel_rfl
set_option maxRecDepth 1000000 in
theorem strip_mdV : (AVal.tup [.agg mdV, .int .i64 0]).stripA = .tup [.agg mdV, .int .i64 0] := by kernel_rfl
theorem comp_ok : AnsOK Go.Proofs.Tryz.prog compN := ans_norm (a := Go.Den.Sorts.compA) Go.Den.Sorts.comp norm_M0 strip_mdV
def SA : List Ans := [Go.Den.Sorts.knownA, compN]
theorem SA_ok : ∀ a ∈ SA, AnsOK Go.Proofs.Tryz.prog a := by
  intro a ha
  simp only [SA, List.mem_cons, List.not_mem_nil, or_false] at ha
  rcases ha with rfl | rfl
  · exact Go.Den.Sorts.known
  · exact comp_ok
theorem SA_has (f : FuncId) (h1 : f ≠ 13) (h2 : f ≠ 22) : hasF f SA = false := by
  have e1 : Nat.beq f 13 = false := by cases e : Nat.beq f 13 with | false => rfl | true => exact (h1 (Nat.eq_of_beq_eq_true e)).elim
  have e2 : Nat.beq f 22 = false := by cases e : Nat.beq f 22 with | false => rfl | true => exact (h2 (Nat.eq_of_beq_eq_true e)).elim
  show (Nat.beq f 13 || (Nat.beq f 22 || false)) = false
  rw [e1, e2]; rfl
theorem PS : PK (primsS SA) := pk_S (fun f h1 h2 _ _ => SA_has f h1 h2)
theorem no (f : FuncId) (h1 : f ≠ 13) (h2 : f ≠ 22) (h3 : f ≠ 28) (h4 : f ≠ 171) : primsS SA f = none := by
  unfold primsS primsC
  have e1 : Nat.beq f 28 = false := by cases e : Nat.beq f 28 with | false => rfl | true => exact (h3 (Nat.eq_of_beq_eq_true e)).elim
  have e2 : Nat.beq f 171 = false := by cases e : Nat.beq f 171 with | false => rfl | true => exact (h4 (Nat.eq_of_beq_eq_true e)).elim
  rw [SA_has f h1 h2, e1, e2]; rfl
theorem e_known : Ev (primsS SA) 13 [] heap0 (.ret (.bool true)) heap0 := ev_prim (p := primA SA 13) rfl rfl
theorem e_comp : Ev (primsS SA) 22 [.str Go.Den.Sorts.S0, .nils] heap0 (.ret (.tup [.agg mdV, .int .i64 0])) heap0 := by
  refine ev_prim (p := primA SA 22) rfl ?_
  have e : beqAs [AVal.str Go.Den.Sorts.S0, .nils] [AVal.str Go.Den.Sorts.S0, .nils] = true := by decide +kernel
  show primA SA 22 [.str Go.Den.Sorts.S0, .nils] heap0 = _
  unfold primA
  have e2 : findA 22 [.str Go.Den.Sorts.S0, .nils] SA = some (.tup [.agg mdV, .int .i64 0]) := by
    show cond (Nat.beq 22 13 && _) _ (cond (Nat.beq 22 22 && beqAs [AVal.str Go.Den.Sorts.S0, .nils] [AVal.str Go.Den.Sorts.S0, .nils]) (some compN.v) _) = _
    rw [e]; rfl
  rw [e2]; rfl
theorem short_D : short D := by
  refine ⟨by decide, ?_, ?_, ?_, by decide, by decide, by decide⟩
  · intro v hv
    simp only [D, vars, List.mem_cons, List.not_mem_nil, or_false] at hv
    rcases hv with rfl | rfl | rfl | rfl | rfl <;> decide
  · intro p hp; cases hp
  · intro r hr; cases hr
theorem e_run (inp : List UInt8) (h : inp.length ≤ 20) : ∃ ov out H', Ev (primsS SA) 17 [.isl false inp.length (bytesV inp), .int .i64 0, .int .i64 5000, .isl false 1 mdV] heap0 (.ret (.agg [ov, .int .i64 1, .int .i64 0])) H' ∧ OutR ov out ∧ out.Perm inp ∧ out.Pairwise (fun a b => a.toNat ≤ b.toNat) := by
  obtain ⟨s', h1, h2, h3⟩ := whole inp h
  obtain ⟨ov, H', e, ho⟩ := w_run PS D 203 (fun C hR _ => recK_nil (no 203 (by decide) (by decide) (by decide) (by decide)) hR) short_D (.isl false inp.length (bytesV inp)) inp rfl (by show inp.length ≤ 1000000; omega) 0 5000 (by decide) (by decide) 2 [.str [73, 110], .str [79, 117, 116]] 0 [] 0 [] _ h1 heap0 (by decide)
  exact ⟨ov, s'.out, H', e, ho, h2, h3⟩
end Go.Wf.Sorts
namespace Go.Wf.Sorts
open Go Go.Wf Go.Den
variable {P : Prims}
def e64 (l : List Int) : List AVal := l.map (.int .i64)
def cI (l : List UInt8) (b : Nat) : Int := ((l.countP fun c => c.toNat == b : Nat) : Int)
theorem cI_le (l : List UInt8) (b : Nat) : 0 ≤ cI l b ∧ cI l b ≤ l.length := by
  unfold cI
  have := List.countP_le_length (p := fun c : UInt8 => c.toNat == b) (l := l)
  omega
theorem take_succ' {l : List UInt8} {k : Nat} {c : UInt8} (h : l[k]? = some c) : l.take (k + 1) = l.take k ++ [c] := by
  rw [List.take_add_one, h]; rfl
theorem cI_succ {l : List UInt8} {k : Nat} {c : UInt8} (h : l[k]? = some c) (b : Nat) : cI (l.take (k + 1)) b = cI (l.take k) b + (if c.toNat = b then 1 else 0) := by
  unfold cI
  rw [take_succ' h, List.countP_append]
  by_cases e : c.toNat = b <;> simp [e]
def Cnt (inp out : List UInt8) (k : Nat) (cnt : List Int) : Prop := cnt.length = 256 ∧ ∀ b, b < 256 → cnt[b]? = some (cI (inp.take k) b - cI (out.take k) b)
theorem Cnt.next {inp out : List UInt8} {k : Nat} {cnt : List Int} (h : Cnt inp out k cnt) {c d : UInt8} (hc : inp[k]? = some c) (hd : out[k]? = some d) {x y : Int} (hx : cnt[c.toNat]? = some x) (hy : (cnt.set c.toNat (x + 1))[d.toNat]? = some y) :
    Cnt inp out (k + 1) ((cnt.set c.toNat (x + 1)).set d.toNat (y - 1)) := by
  obtain ⟨h1, h2⟩ := h
  have c1 := c.toNat_lt
  have d1 := d.toNat_lt
  refine ⟨by simp [h1], fun b hb => ?_⟩
  have hb2 := h2 b hb
  have hc2 := h2 c.toNat (by omega)
  rw [hx] at hc2
  have hd2 := h2 d.toNat (by omega)
  rw [cI_succ hc, cI_succ hd]
  rw [List.getElem?_set] at hy ⊢
  by_cases e1 : d.toNat = b
  · subst e1
    rw [if_pos rfl, if_pos (by simp [h1]; omega)]
    by_cases e2 : c.toNat = d.toNat
    · rw [e2] at hc2
      rw [if_pos e2, if_pos (by omega)] at hy
      cases hy
      cases hc2
      simp [e2]; omega
    · rw [if_neg e2, hd2] at hy
      cases hy
      simp [e2]; omega
  · rw [if_neg e1, List.getElem?_set]
    by_cases e2 : c.toNat = b
    · subst e2
      rw [if_pos rfl, if_pos (by omega)]
      cases hc2
      simp [e1]; omega
    · rw [if_neg e2, hb2]
      simp [e1, e2]
theorem putAt_64 (cnt : List Int) (i : Nat) (y : Int) : putAt (e64 cnt) (0 + i * 1) [.int .i64 y] = e64 (cnt.set i y) := by
  rw [show 0 + i * 1 = i by omega]
  show (e64 cnt).set i (.int .i64 y) = _
  simp [e64, List.map_set]
theorem read_64 {cnt : List Int} {i : Nat} {x : Int} (h : cnt[i]? = some x) : readRow false 1 (e64 cnt) (0 + i * 1) = some (.int .i64 x) := by
  rw [show 0 + i * 1 = i by omega]
  simp [readRow, e64, h, AVal.strip]
theorem read_b {l : List UInt8} {k : Nat} {c : UInt8} (h : l[k]? = some c) : readRow false 1 (bytesV l) (k * 1) = some (.int .u8 (c.toNat : Int)) := by
  rw [Nat.mul_one]
  simp [readRow, bytesV, h, AVal.strip]
abbrev Xo (out : List UInt8) (cnt : List Int) : List (List AVal) := [mdV, [.isl false out.length (bytesV out), .int .i64 1, .int .i64 0], e64 cnt]
abbrev Xn (cnt : List Int) : List (List AVal) := [mdV, [.nils, .int .i64 1, .int .i64 0], e64 cnt]
theorem loop0 (inp out : List UInt8) (hl : out.length = inp.length) (hs : inp.length ≤ 20) (hp : out.Pairwise (fun a b => a.toNat ≤ b.toNat)) (H : Heap) : ∀ (m k : Nat) (cnt : List Int), k + m = inp.length → Cnt inp out k cnt →
    ∃ cnt', Cnt inp out inp.length cnt' ∧ LoopEv P 7 k7_0 82 [] [(0, .isl false inp.length (bytesV inp)), (5, .loc 1 0), (6, .loc 2 0), (7, .int .i64 (k : Int))] ⟨Xo out cnt, false⟩ H (.exit 0) [] [(6, .loc 2 0)] ⟨Xo out cnt', false⟩ H
  | 0, k, cnt, hk, hc => by
    have e : k = inp.length := by omega
    subst e
    exact ⟨cnt, hc, loop_exit (by simp) (bu7_0_3 (by omega))⟩
  | m + 1, k, cnt, hk, hc => by
    have hki : k < inp.length := by omega
    obtain ⟨c, hcc⟩ : ∃ c, inp[k]? = some c := ⟨_, List.getElem?_eq_getElem hki⟩
    obtain ⟨d, hdd⟩ : ∃ d, out[k]? = some d := ⟨_, List.getElem?_eq_getElem (by omega)⟩
    have c1 := c.toNat_lt
    have d1 := d.toNat_lt
    have hx := hc.2 c.toNat (by omega)
    have b1 := cI_le (inp.take k) c.toNat
    have b2 := cI_le (out.take k) c.toNat
    have t1 : (inp.take k).length ≤ 20 := by simp; omega
    have t2 : (out.take k).length ≤ 20 := by simp; omega
    generalize hxx : cI (inp.take k) c.toNat - cI (out.take k) c.toNat = x at hx
    obtain ⟨y, hy⟩ : ∃ y, (cnt.set c.toNat (x + 1))[d.toNat]? = some y := ⟨_, List.getElem?_eq_getElem (by simp [hc.1]; omega)⟩
    have hyb : -100 ≤ y ∧ y ≤ 100 := by
      rw [List.getElem?_set] at hy
      by_cases e : c.toNat = d.toNat
      · rw [if_pos e, if_pos (by rw [hc.1]; omega)] at hy
        cases hy; omega
      · rw [if_neg e, hc.2 d.toNat (by omega)] at hy
        have b3 := cI_le (inp.take k) d.toNat
        have b4 := cI_le (out.take k) d.toNat
        cases hy; omega
    have hn := hc.next hcc hdd hx hy
    obtain ⟨cnt', i1, i2⟩ := loop0 inp out hl hs hp H m (k + 1) _ (by omega) hn
    refine ⟨cnt', i1, ?_⟩
    have lb1 : (bytesV inp).length = inp.length * 1 := by simp [bytesV]
    have lb2 : (bytesV out).length = out.length * 1 := by simp [bytesV]
    have w1 : IntKind.wrap .i64 (x + 1) = x + 1 := wrap64 (by omega) (by omega)
    have w2 : IntKind.wrap .i64 (y - 1) = y - 1 := wrap64 (by omega) (by omega)
    have wk : IntKind.wrap .i64 ((k : Int) + 1) = ((k + 1 : Nat) : Int) := by rw [wrap64 (by omega) (by omega)]; omega
    have l1 : (0 + c.toNat * 1) + 1 ≤ (e64 cnt).length := by simp [e64, hc.1]; omega
    have l2 : (0 + d.toNat * 1) + 1 ≤ (e64 (cnt.set c.toNat (x + 1))).length := by simp [e64, hc.1]; omega
    by_cases h0 : (k : Int) > 0
    · obtain ⟨p, hpp⟩ : ∃ p, out[k - 1]? = some p := ⟨_, List.getElem?_eq_getElem (by omega)⟩
      have hpd : p.toNat ≤ d.toNat := by
        have g1 := List.getElem?_eq_some_iff.1 hpp
        have g2 := List.getElem?_eq_some_iff.1 hdd
        have := List.pairwise_iff_getElem.1 hp (k - 1) k g1.1 g2.1 (by omega)
        rw [g1.2, g2.2] at this
        exact this
      exact loop_next (by rfl) (bu7_0_1 (by omega) hki lb1 (read_b hcc) rfl (by omega) (read_64 hx) w1 rfl (by omega) l1 (putAt_64 _ _ _) (by omega) lb2 (read_b hdd) rfl (by omega) (read_64 hy) w2 rfl (by omega) l2 (putAt_64 _ _ _) h0
        (wrap64 (by omega) (by omega)) (i4 := k - 1) (by omega) (by omega) (read_b hpp) (by omega) (read_b hdd) (by omega) wk) i2
    · exact loop_next (by rfl) (bu7_0_2 (by omega) hki lb1 (read_b hcc) rfl (by omega) (read_64 hx) w1 rfl (by omega) l1 (putAt_64 _ _ _) (by omega) lb2 (read_b hdd) rfl (by omega) (read_64 hy) w2 rfl (by omega) l2 (putAt_64 _ _ _) h0 wk) i2
theorem loop1 (bx : List (List AVal)) (cnt : List Int) (h : ∀ b, b < 256 → cnt[b]? = some 0) (H : Heap) (body : ∀ k : Nat, k < 256 → RunEv P 7 k7_1 82 [] [(6, .loc 2 0), (8, .int .i64 (k : Int))] ⟨bx, false⟩ H .normal [] [(6, .loc 2 0), (8, .int .i64 ((k + 1 : Nat) : Int))] ⟨bx, false⟩ H)
    (fin : RunEv P 7 k7_1 82 [] [(6, .loc 2 0), (8, .int .i64 ((256 : Nat) : Int))] ⟨bx, false⟩ H (.exit 2) [] [] ⟨bx, false⟩ H) :
    ∀ (m k : Nat), k + m = 256 → LoopEv P 7 k7_1 82 [] [(6, .loc 2 0), (8, .int .i64 (k : Int))] ⟨bx, false⟩ H (.exit 2) [] [] ⟨bx, false⟩ H
  | 0, k, hk => by
    have e : k = 256 := by omega
    subst e
    exact loop_exit (by simp) fin
  | m + 1, k, hk => loop_next (by rfl) (body k (by omega)) (loop1 bx cnt h H body fin m (k + 1) (by omega))
theorem w256 {k : Nat} (h : k < 256) : IntKind.wrap .i64 ((k : Int) + 1) = ((k + 1 : Nat) : Int) := by rw [wrap64 (by omega) (by omega)]; omega
theorem cnt_zero {inp out : List UInt8} (hp : out.Perm inp) {cnt : List Int} (h : Cnt inp out inp.length cnt) : ∀ b, b < 256 → cnt[b]? = some 0 := fun b hb => by
  rw [h.2 b hb, List.take_of_length_le (Nat.le_refl _), List.take_of_length_le (by rw [hp.length_eq]; exact Nat.le_refl _)]
  unfold cI
  rw [hp.countP_eq]
  simp
theorem cnt_start (inp out : List UInt8) : Cnt inp out 0 (List.replicate 256 0) := ⟨List.length_replicate, fun b hb => by
  rw [List.take_zero, List.take_zero, List.getElem?_replicate, if_pos hb]
  rfl⟩
set_option maxRecDepth 100000 in
theorem law (inp : List UInt8) : ∃ H', Ev (primsS SA) 7 [.isl false inp.length (bytesV inp)] heap0 (.ret (.bool true)) H' := by
  have h7 : primsS SA 7 = none := no 7 (by decide) (by decide) (by decide) (by decide)
  by_cases h : inp.length ≤ 20
  · obtain ⟨ov, out, H', e, ho, h2, h3⟩ := e_run inp h
    have hl := h2.length_eq
    rcases ho with ⟨rfl, hout⟩ | rfl
    · subst hout
      have hin : inp = [] := List.eq_nil_of_length_eq_zero (by rw [← hl]; rfl)
      subst hin
      have z := cnt_zero h2 (cnt_start [] [])
      have L0 : LoopEv (primsS SA) 7 k7_0 82 [] [(0, .isl false ([] : List UInt8).length (bytesV [])), (5, .loc 1 0), (6, .loc 2 0), (7, .int .i64 0)] ⟨Xn (List.replicate 256 0), false⟩ H' (.exit 0) [] [(6, .loc 2 0)] ⟨Xn (List.replicate 256 0), false⟩ H' := loop_exit (by simp) (bv7_0_0 (k0 := 0) (by simp))
      have L1 := loop1 (P := primsS SA) (Xn (List.replicate 256 0)) _ z H' (fun k hk => bv7_1_1 (by omega) hk (read_64 (z k hk)) rfl (w256 hk)) (bv7_1_2 (by omega)) 256 0 rfl
      exact ⟨_, lv7_0 h7 e_known rfl (by simp) e_comp rfl e rfl (by simp) L0 L1⟩
    · obtain ⟨cnt', i1, L0⟩ := loop0 (P := primsS SA) inp out hl h h3 H' inp.length 0 (List.replicate 256 0) (by omega) (cnt_start inp out)
      have z := cnt_zero h2 i1
      have L1 := loop1 (P := primsS SA) (Xo out cnt') _ z H' (fun k hk => bu7_1_1 (by omega) hk (read_64 (z k hk)) rfl (w256 hk)) (bu7_1_2 (by omega)) 256 0 rfl
      exact ⟨_, lu7_0 h7 e_known rfl (by omega) e_comp rfl e rfl (by omega) L0 L1⟩
  · exact ⟨heap0, ru7_1 h7 e_known rfl (by omega)⟩
end Go.Wf.Sorts

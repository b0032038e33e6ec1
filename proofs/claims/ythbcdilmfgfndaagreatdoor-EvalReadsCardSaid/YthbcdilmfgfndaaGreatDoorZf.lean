/-
  LAWS: what is to be known of the program: once, by the kernel.
-/
import Derived.Test.YthbcdilmfgfndaaGreatDoorZe
set_option linter.unusedSimpArgs false
set_option linter.unusedVariables false
namespace Go.Den
open Go Go.Proofs
set_option maxRecDepth 1000000
theorem mixed : Tryz.prog.follows .mixedOrders = true := by kernel_rfl
theorem names_ok : (Tryz.prog.funcs.toList.all fun fn => !(fn.name == "runtime.NumGoroutine")) = true := by kernel_rfl
theorem plainNames : PlainNames Tryz.prog := by
  intro g fn h
  have := List.all_eq_true.1 names_ok fn (by
    have := List.mem_of_getElem? (l := Tryz.prog.funcs.toList) (i := g) (by simpa using h)
    exact this)
  simpa using this
def drawsAll (X : Ctx) : List Func → Nat → Bool
  | [], _ => true
  | fn :: r, f => (match fn.body with | some c => drawsOK X f c | none => true) && drawsAll X r (f + 1)
theorem drawsAll_at {X : Ctx} : ∀ (l : List Func) (k : Nat), drawsAll X l k = true → ∀ (g : Nat) fn c, l[g]? = some fn → fn.body = some c → drawsOK X (k + g) c = true
  | [], _, _, g, fn, c, hg, _ => by simp at hg
  | a :: l, k, h, 0, fn, c, hg, hc => by
    simp at hg; subst hg
    simp only [drawsAll, hc, Bool.and_eq_true] at h
    exact h.1
  | a :: l, k, h, g + 1, fn, c, hg, hc => by
    simp only [drawsAll, Bool.and_eq_true] at h
    have := drawsAll_at l (k + 1) h.2 g fn c (by simpa using hg) hc
    rwa [show k + 1 + g = k + (g + 1) by omega] at this
theorem drawsK : drawsAll XK Tryz.prog.funcs.toList 0 = true := by kernel_rfl
theorem draws_ok : ∀ g fn c, XK.P.funcs[g]? = some fn → fn.body = some c → drawsOK XK g c = true := by
  intro g fn c h hc
  have h' : Tryz.prog.funcs.toList[g]? = some fn := by rw [Array.getElem?_toList]; exact h
  have := drawsAll_at _ 0 drawsK g fn c h' hc
  rwa [Nat.zero_add] at this
theorem sim (n : Nat) : CallSim Tryz.prog (denT XK primsC n) := denT_sound (X := XK) mixed plainNames draws_ok primsC_sim n
end Go.Den
namespace Go.Den
open Go
mutual
def pureV : AVal → Bool
  | .ptr _ _ | .loc _ _ | .msl _ _ _ _ | .map _ => false
  | .ept cs _ | .isl _ _ cs | .fn _ cs | .agg cs | .tup cs => pureL cs
  | .iface _ v => pureV v
  | _ => true
def pureL : List AVal → Bool
  | [] => true
  | v :: l => pureV v && pureL l
end
theorem pureL_at : ∀ {l : List AVal}, pureL l = true → ∀ (j : Nat) v, l[j]? = some v → pureV v = true
  | [], _, j, v, hj => by simp at hj
  | a :: l, h, 0, v, hj => by simp at hj; subst hj; simp only [pureL, Bool.and_eq_true] at h; exact h.1
  | a :: l, h, j + 1, v, hj => by simp only [pureL, Bool.and_eq_true] at h; exact pureL_at h.2 j v (by simpa using hj)
theorem VRel.forget {E E' : Emb} {hp : HP} (m : ∀ B k x, Imm E hp B k x → Imm E' hp B k x) {v : AVal} {x : Value} (h : VRel E hp v x) : pureV v = true → VRel E' hp v x := by
  induction h with
  | bool b => intro _; exact .bool b
  | int k n => intro _; exact .int k n
  | str s => intro _; exact .str s
  | nilp => intro _; exact .nilp
  | ptr b off B h => intro h; simp [pureV] at h
  | ept cs off B o u ha hc hv ih =>
    intro h; simp only [pureV] at h
    exact .ept cs off B o u ha (fun j hj => m _ _ _ (hc j hj)) fun j v hj => ih j v hj (pureL_at h j v hj)
  | nils => intro _; exact .nils
  | isl own n cs a cap B o u hn hn0 ha hb hc hv ih =>
    intro h; simp only [pureV] at h
    exact .isl own n cs a cap B o u hn hn0 ha hb (fun j hj => m _ _ _ (hc j hj)) fun j v hj => ih j v hj (pureL_at h j v hj)
  | msl b off n size a cap B c e z hn hb => intro h; simp [pureV] at h
  | nilm => intro _; exact .nilm
  | map b B h => intro h; simp [pureV] at h
  | nilf => intro _; exact .nilf
  | fn f caps us hl hv ha ih =>
    intro h; simp only [pureV] at h
    exact .fn f caps us hl (fun j v x h1 h2 => ih j v x h1 h2 (pureL_at h j v h1)) ha
  | nili => intro _; exact .nili
  | iface t v x h ih => intro h; simp only [pureV] at h; exact .iface t v x (ih h)
  | agg cs us hl ha hv ih =>
    intro h; simp only [pureV] at h
    exact .agg cs us hl ha fun j v x h1 h2 => ih j v x h1 h2 (pureL_at h j v h1)
  | tup vs us hl hv ih =>
    intro h; simp only [pureV] at h
    exact .tup vs us hl fun j v x h1 h2 => ih j v x h1 h2 (pureL_at h j v h1)
theorem hrel0' {ρk : Nat → Kind} {t : Nat → Nat → Tag} {hp : HP} (ht : TabOK { ρ := fun _ => none, kind := ρk, tag := t } hp) : HRel { ρ := fun _ => none, kind := ρk, tag := t } hp heap0 := ⟨ht, fun b o h => by simp [heap0] at h, fun b B h => by cases h⟩
theorem run_prim {P : Program} {call : Call} (hs : CallSim P call) {f : FuncId} {args : List AVal} {v : AVal} {h' : Heap} (hr : call f args heap0 = some (.ret v, h')) (hv : pureV v = true)
    (E : Emb) (w : World) (cargs : Array Value) (hH : HRel E w.heap heap0) (hA : ArgsRel E w.heap args cargs) : Calls P f cargs w (CallPost E w heap0 (.ret v)) := by
  refine (hs f args heap0 _ h' hr E w cargs hH hA).mono ?_
  rintro e w' ⟨E1, hx, hH1, he⟩
  cases e with
  | returned x =>
    obtain ⟨h1, h2⟩ := he
    have hm : ∀ B k y, Imm E1 w'.heap B k y → Imm { ρ := fun _ => none, kind := fun B => match E1.kind B with | .obj _ => .foreign | k => k, tag := E1.tag } w'.heap B k y := by
      rintro B k y ⟨q1, q2, q3⟩
      exact ⟨by simp [q1], q2, q3⟩
    refine ⟨{ ρ := fun _ => none, kind := fun B => match E1.kind B with | .obj _ => .foreign | k => k, tag := E1.tag }, ?_, hrel0' ⟨by simp [hH1.tab.1], hH1.tab.2⟩, h1.forget hm hv, ?_⟩
    · refine ⟨hx.os, hx.tape, hx.output, hx.size, ⟨fun b B hb => ?_, fun B k y hi => hm _ _ _ (hx.mono.imm _ _ _ hi), hx.mono.row⟩, fun B hB hk => ?_, fun B hB hk => ?_, fun B k hB hk ht => hx.junk B k hB hk ht⟩
      · have := (hH.rng b B hb).1
        simp [heap0] at this
      · have := hx.foreign B hB hk
        exact ⟨by simp [this.1], this.2⟩
      · simp [hx.store B hB hk]
    · intro j vj xj a1 a2 n cs e
      obtain ⟨a, cap, b1, b2, b3⟩ := h2 j vj xj a1 a2 n cs e
      refine ⟨a, cap, b1, b2, fun hn => ?_⟩
      obtain ⟨B, o, s, c1, c2, c3, c4⟩ := b3 hn
      refine ⟨B, o, s, c1, c2, c3, fun k k1 k2 => ?_⟩
      obtain ⟨d1, d2, d3⟩ := c4 k k1 k2
      exact ⟨by simp [d1], d2, d3⟩
  | _ => exact he.elim
structure Ans where
  f : FuncId
  args : List AVal
  v : AVal
def findA (f : FuncId) (args : List AVal) : List Ans → Option AVal
  | [] => none
  | a :: r => cond (Nat.beq f a.f && beqAs args a.args) (some a.v) (findA f args r)
def emptyH : Heap → Bool
  | ⟨[], 0⟩ => true
  | _ => false
def primA (A : List Ans) (f : FuncId) : List AVal → Heap → Option (ARes × Heap) := fun args h => cond (emptyH h) (match findA f args A with
  | some v => some (.ret v, heap0)
  | none => none) none
def hasF (f : FuncId) : List Ans → Bool
  | [] => false
  | a :: r => Nat.beq f a.f || hasF f r
noncomputable def primsA (A : List Ans) : Prims := fun f => cond (hasF f A) (some (primA A f)) (primsC f)
def AnsOK (P : Program) (a : Ans) : Prop := ∀ (E : Emb) (w : World) (cargs : Array Value), HRel E w.heap heap0 → ArgsRel E w.heap a.args cargs → Calls P a.f cargs w (CallPost E w heap0 (.ret a.v))
theorem findA_ok {P : Program} {f : FuncId} {args : List AVal} {v : AVal} : ∀ {A : List Ans}, (∀ a ∈ A, AnsOK P a) → findA f args A = some v →
    ∀ (E : Emb) (w : World) (cargs : Array Value), HRel E w.heap heap0 → ArgsRel E w.heap args cargs → Calls P f cargs w (CallPost E w heap0 (.ret v))
  | [], _, h => by simp [findA] at h
  | a :: r, hA, h => by
    unfold findA at h
    cases hc : (Nat.beq f a.f && beqAs args a.args) with
    | false => rw [hc] at h; exact findA_ok (fun b hb => hA b (List.mem_cons_of_mem _ hb)) h
    | true =>
      rw [hc] at h
      simp only [Bool.and_eq_true] at hc
      obtain rfl : f = a.f := Nat.eq_of_beq_eq_true hc.1
      obtain rfl := beqAs_eq hc.2
      cases h
      exact hA a List.mem_cons_self
theorem primsA_sim {A : List Ans} (hA : ∀ a ∈ A, AnsOK Go.Proofs.Tryz.prog a) : PrimSim Go.Proofs.Tryz.prog (primsA A) := by
  intro f p hp args h r h' hr E w cargs hH hargs
  unfold primsA at hp
  cases hf : hasF f A with
  | false => rw [hf] at hp; exact primsC_sim f p hp args h r h' hr E w cargs hH hargs
  | true =>
    rw [hf] at hp
    cases hp
    unfold primA at hr
    cases he : emptyH h with
    | false => rw [he] at hr; cases hr
    | true =>
      rw [he, cond_true] at hr
      have hh : h = heap0 := by
        unfold emptyH at he
        split at he
        · rfl
        · cases he
      subst hh
      cases hq : findA f args A with
      | none => rw [hq] at hr; cases hr
      | some v =>
        rw [hq] at hr
        cases hr
        exact findA_ok hA hq E w cargs hH hargs
theorem simA {A : List Ans} (hA : ∀ a ∈ A, AnsOK Go.Proofs.Tryz.prog a) (n : Nat) : CallSim Go.Proofs.Tryz.prog (denT XK (primsA A) n) := denT_sound (X := XK) mixed plainNames draws_ok (primsA_sim hA) n
theorem ans_of {A : List Ans} (hA : ∀ a ∈ A, AnsOK Go.Proofs.Tryz.prog a) {n : Nat} {a : Ans} (hr : (denT XK (primsA A) n a.f a.args heap0).map (fun r => match r.1 with | .ret v => beqA v a.v && pureV v | _ => false) = some true) : AnsOK Go.Proofs.Tryz.prog a := by
  cases hq : denT XK (primsA A) n a.f a.args heap0 with
  | none => rw [hq] at hr; cases hr
  | some r =>
    rw [hq] at hr
    obtain ⟨r, h'⟩ := r
    cases r with
    | panic v => simp at hr
    | ret v =>
      simp only [Option.map_some, Option.some.injEq, Bool.and_eq_true] at hr
      have := beqA_eq hr.1
      subst this
      exact fun E w cargs hH hargs => run_prim (simA hA n) hq hr.2 E w cargs hH hargs
end Go.Den

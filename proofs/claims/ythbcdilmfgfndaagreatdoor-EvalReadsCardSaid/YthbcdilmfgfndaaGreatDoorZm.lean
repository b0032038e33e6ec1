/-
  EVAL, PART S: frames; calls.
-/
import Derived.Test.YthbcdilmfgfndaaGreatDoorZl
import Derived.Test.YthbcdilmfgfndaaGreatDoorZh
import Derived.Test.YthbcdilmfgfndaaGreatDoorZk
set_option linter.unusedSimpArgs false
set_option linter.unusedVariables false
namespace Go.Wf
open Go Go.Den
variable {P : Prims} {C : EC} {F : Fn} {rows : List Nat} {s : St} {H : Heap}
structure NF (C : EC) (rows : List Nat) (mem : List (List Int)) (g : Fr) (fr : Nat) (H : Heap) : Prop where
  fe : FrE C rows mem g fr H
  r : fr ≠ C.r
  p : fr ≠ C.p
  v : fr ≠ C.v
  ro : H.ro ≤ fr
theorem NF.mono {r1 r2 : List Nat} {s1 s2 : St} {g : Fr} {fr : Nat} {H1 H2 : Heap} (h : NF C r1 s1.mem g fr H1) (p : Post C r1 s1 H1 r2 s2 H2) : NF C r2 s2.mem g fr H2 :=
  ⟨h.fe.mono p, h.r, h.p, h.v, by rw [p.pres.ro]; exact h.ro⟩
theorem RE.entry (h : RE C rows s H) {g : Fr} {fr : Nat} (nf : NF C rows s.mem g fr H) (name : Nm) {l : Loc} {v : AVal} (hv : PlaceV rows s.mem l v) :
    ∃ H', mset H fr name v = some H' ∧ RE C rows s H' ∧ NF C rows s.mem ((name, l) :: g) fr H' ∧ (∀ {f : Fr} {fr2 : Nat}, fr2 ≠ fr → FrE C rows s.mem f fr2 H → FrE C rows s.mem f fr2 H') ∧
      (∀ {rows0 : List Nat} {s0 : St} {H0 : Heap}, H0.objs.length ≤ fr → Post C rows0 s0 H0 rows s H → Post C rows0 s0 H0 rows s H') := by
  obtain ⟨es, q1, q2⟩ := nf.fe.obj
  have hv0 := hv
  obtain ⟨rr, blk, k1, k2, k3, rfl⟩ := hv
  have hlt := lt_of_obj q1
  refine ⟨_, mset_of q1 nf.ro rfl rfl, ?_⟩
  have keep : ∀ (b : Nat) (o : AObj), b ≠ fr → H.objs[b]? = some o → (H.setMap fr (putM name (.agg [.msl rr 0 blk.length 1, .int .i64 (l.o : Int)]) es)).objs[b]? = some o := fun b o hb ho => by rw [setMap_other _ (Ne.symm hb)]; exact ho
  have ncell : ∀ (b : Nat) l, H.objs[b]? = some (AObj.cells l) → b ≠ fr := fun b l hb e => by subst e; rw [q1] at hb; cases hb
  have hcr : ∀ x, CRef C (H.setMap fr (putM name (.agg [.msl rr 0 blk.length 1, .int .i64 (l.o : Int)]) es)) x → CRef C H x := fun x ⟨es', rec, a1, a2⟩ => by
    rw [setMap_other _ nf.fe.nfl] at a1; exact ⟨es', rec, a1, a2⟩
  have frm : ∀ {f : Fr} {fr2 : Nat}, fr2 ≠ fr → FrE C rows s.mem f fr2 H → FrE C rows s.mem f fr2 (H.setMap fr (putM name (.agg [.msl rr 0 blk.length 1, .int .i64 (l.o : Int)]) es)) := fun hne hF => by
    obtain ⟨es', a1, a2⟩ := hF.obj
    exact ⟨⟨es', keep _ _ hne a1, a2⟩, hF.nz, hF.nfl, fun q => hF.ncr (hcr _ q)⟩
  have hre : RE C rows s (H.setMap fr (putM name (.agg [.msl rr 0 blk.length 1, .int .i64 (l.o : Int)]) es)) := by
    obtain ⟨th, iv, ov, h1, h2, h3, h4, h5, h6, h7⟩ := h.mach
    refine ⟨⟨th, iv, ov, keep _ _ (ncell _ _ h1) h1, h2, h3, keep _ _ (ncell _ _ h4) h4, h5, h6, h7⟩, ⟨h.mem.len, h.mem.nodup, fun k r x hk hx => keep _ _ (ncell _ _ (h.mem.row k r x hk hx)) (h.mem.row k r x hk hx), h.mem.ro⟩, h.mrow, h.mro,
      ⟨?_, ?_, frm nf.v.symm h.stat.vars, h.stat.rz, h.stat.rfl', h.stat.pz, h.stat.pfl⟩, ⟨?_, ?_, h.cache.zfl, h.cache.zro, h.cache.flro⟩, h.fuel, h.room, h.depth, h.objs, fun x hx => ⟨keep _ _ (ncell _ _ (h.side x hx).1) (h.side x hx).1, (h.side x hx).2⟩⟩
    · obtain ⟨es', a1, a2⟩ := h.stat.recs; exact ⟨es', keep _ _ nf.r.symm a1, a2⟩
    · obtain ⟨es', a1, a2⟩ := h.stat.procs; exact ⟨es', keep _ _ nf.p.symm a1, a2⟩
    · obtain ⟨es', a1, a2⟩ := h.cache.sizes; exact ⟨es', keep _ _ nf.fe.nz.symm a1, a2⟩
    · obtain ⟨es', a1, a2⟩ := h.cache.fields
      refine ⟨es', keep _ _ nf.fe.nfl.symm a1, fun rec a ha => ?_⟩
      obtain ⟨b, fes, p1, p2, p3, p4, p5⟩ := a2 rec a ha
      refine ⟨b, fes, p1, p2, p3, keep _ _ (fun e => nf.fe.ncr ⟨es', rec, a1, ?_⟩) p4, p5⟩
      rw [ha, p1, e]
  refine ⟨hre, ⟨⟨⟨_, setMap_same _ q1, fun nm l' hl => ?_⟩, nf.fe.nz, nf.fe.nfl, fun q => nf.fe.ncr (hcr _ q)⟩, nf.r, nf.p, nf.v, nf.ro⟩, frm, fun {rows0 s0 H0} hb hp => ?_⟩
  · rw [findE_put]
    unfold findR at hl
    by_cases e : nm = name
    · rw [if_pos e] at hl ⊢
      cases hl
      exact ⟨_, rfl, hv0⟩
    · rw [if_neg e] at hl ⊢
      exact q2 nm l' hl
  · refine ⟨hre, ⟨fun b es' hb h1 h2 => ?_, ?_, hp.pres.ro, fun b hb => ?_, fun x q => hp.pres.cref x (hcr x q)⟩, hp.ext, hp.le⟩
    · have := lt_of_obj hb
      exact keep _ _ (by omega) (hp.pres.amap b es' hb h1 h2)
    · rw [setMap_len]; exact hp.pres.len
    · have := nf.ro
      have e := hp.pres.ro
      rw [setMap_other _ (by omega)]; exact hp.pres.old b hb
theorem encPms_len : ∀ l, (encPms l).length = l.length * 6
  | [] => rfl
  | t :: l => by simp only [encPms, encPm, List.length_append, List.length_cons, encTy_len, encPms_len l]; omega
theorem encVrs_len : ∀ l, (encVrs l).length = l.length * 6
  | [] => rfl
  | t :: l => by simp only [encVrs, encVr, List.length_append, List.length_cons, encTy_len, encVrs_len l]; omega
theorem encPm_strip (e : Pm) : (encPm e).map AVal.strip = encPm e := by obtain ⟨n, r, ⟨f, m, nm, of⟩⟩ := e; simp [encPm, encTy, AVal.strip]
theorem encVr_strip (e : Vr) : (encVr e).map AVal.strip = encVr e := by obtain ⟨n, r, ⟨f, m, nm, of⟩⟩ := e; simp [encVr, encTy, AVal.strip]
theorem read_pm {l : List Pm} {k : Nat} {e : Pm} (h : l[k]? = some e) : readRow true 6 (encPms l) (k * 6) = some (.agg (encPm e)) := read_flat encPm encPms 6 rfl (fun _ _ => rfl) (fun a => by simp [encPm, encTy_len]) encPm_strip h
theorem read_vr {l : List Vr} {k : Nat} {e : Vr} (h : l[k]? = some e) : readRow true 6 (encVrs l) (k * 6) = some (.agg (encVr e)) := read_flat encVr encVrs 6 rfl (fun _ _ => rfl) (fun a => by simp [encVr, encTy_len]) encVr_strip h
end Go.Wf
namespace Go.Wf
open Go Go.Den
variable {P : Prims} {C : EC} {F : Fn} {rows : List Nat} {s : St} {H : Heap}
theorem RE.frame (h : RE C rows s H) : Post C rows s H rows s (H.push (.amap [])) ∧ NF C rows s.mem [] H.objs.length (H.push (.amap [])) := by
  have keep : ∀ (b : Nat) o, H.objs[b]? = some o → (H.push (.amap [])).objs[b]? = some o := fun b o hb => push_old _ hb
  have frm : ∀ {f : Fr} {fr : Nat}, FrE C rows s.mem f fr H → FrE C rows s.mem f fr (H.push (.amap [])) := fun hF => by
    obtain ⟨es, q1, q2⟩ := hF.obj
    exact ⟨⟨es, keep _ _ q1, q2⟩, hF.nz, hF.nfl, fun q => hF.ncr (q.of h.cache (fun b es => keep b _))⟩
  have hre : RE C rows s (H.push (.amap [])) := by
    obtain ⟨th, iv, ov, h1, h2, h3, h4, h5, h6, h7⟩ := h.mach
    refine ⟨⟨th, iv, ov, keep _ _ h1, h2, h3, keep _ _ h4, h5, h6, h7⟩, ⟨h.mem.len, h.mem.nodup, fun k r x hk hx => keep _ _ (h.mem.row k r x hk hx), h.mem.ro⟩, h.mrow, h.mro,
      ⟨?_, ?_, frm h.stat.vars, h.stat.rz, h.stat.rfl', h.stat.pz, h.stat.pfl⟩, ⟨?_, ?_, h.cache.zfl, h.cache.zro, h.cache.flro⟩, h.fuel, h.room, h.depth, h.objs, fun x hx => ⟨keep _ _ (h.side x hx).1, (h.side x hx).2⟩⟩
    · obtain ⟨es', a1, a2⟩ := h.stat.recs; exact ⟨es', keep _ _ a1, a2⟩
    · obtain ⟨es', a1, a2⟩ := h.stat.procs; exact ⟨es', keep _ _ a1, a2⟩
    · obtain ⟨es', a1, a2⟩ := h.cache.sizes; exact ⟨es', keep _ _ a1, a2⟩
    · obtain ⟨es', a1, a2⟩ := h.cache.fields
      refine ⟨es', keep _ _ a1, fun rec a ha => ?_⟩
      obtain ⟨b, fes, p1, p2, p3, p4, p5⟩ := a2 rec a ha
      exact ⟨b, fes, p1, p2, p3, keep _ _ p4, p5⟩
  have hlt : ∀ (b : Nat), H.objs.length = b → ∀ o, H.objs[b]? = some o → False := fun b e o ho => by have := lt_of_obj ho; omega
  have hm : C.m < H.objs.length := by obtain ⟨th, iv, ov, h1, _⟩ := h.mach; exact lt_of_obj h1
  refine ⟨⟨hre, ⟨fun b es hb _ _ => keep b _ hb, by simp, rfl, fun b hb => ?_, fun x q => .inl (q.of h.cache (fun b es => keep b _))⟩, ⟨[], by simp⟩, MemLe.refl _⟩, ⟨⟨⟨[], push_new _ _, fun nm l hl => by cases hl⟩, ?_, ?_, ?_⟩, ?_, ?_, ?_, ?_⟩⟩
  · have := h.mro
    rw [Heap.push, List.getElem?_append_left (by omega)]
  · intro e; obtain ⟨es', a1, a2⟩ := h.cache.sizes; exact hlt _ e _ a1
  · intro e; obtain ⟨es', a1, a2⟩ := h.cache.fields; exact hlt _ e _ a1
  · intro q
    obtain ⟨es, rec, q1, q2⟩ := q.of h.cache (fun b es => keep b _)
    obtain ⟨es', a1, a2⟩ := h.cache.fields
    rw [a1] at q1; cases q1
    obtain ⟨b, fes, p1, p2, p3, p4, p5⟩ := a2 rec _ q2
    cases p1
    exact hlt _ rfl _ p4
  · intro e; obtain ⟨es', a1, a2⟩ := h.stat.recs; exact hlt _ e _ a1
  · intro e; obtain ⟨es', a1, a2⟩ := h.stat.procs; exact hlt _ e _ a1
  · intro e; obtain ⟨es', a1, a2⟩ := h.stat.vars.obj; exact hlt _ e _ a1
  · have := h.mro
    show H.ro ≤ _; omega
theorem w_call : CallOK P C F := by
  intro f e s r hs
  cases hs
end Go.Wf
namespace Go.Wf
open Go Go.Den
variable {P : Prims} {C : EC} {F : Fn} {rows : List Nat} {s : St} {H : Heap}
theorem iteT {α : Type} {c : Prop} [Decidable c] {a b : M α} {r : Rs α} (h : c) (hs : (ite c a b : M α) s = some r) : a s = some r := (congrFun (if_pos h) s).symm.trans hs
theorem iteF {α : Type} {c : Prop} [Decidable c] {a b : M α} {r : Rs α} (h : ¬ c) (hs : (ite c a b : M α) s = some r) : b s = some r := (congrFun (if_neg h) s).symm.trans hs
theorem Does.mapU {f g : FuncId} {a b : List AVal} {r : Rs Unit} (h : Does P f a C rows s H QU r)
    (ok : ∀ H', Ev P f a H (.ret (.tup [])) H' → Ev P g b H (.ret (.tup [])) H') (no : ∀ v H', Ev P f a H (.panic v) H' → Ev P g b H (.panic v) H') : Does P g b C rows s H QU r := by
  cases r with
  | ok a s1 =>
    obtain ⟨rows1, H1, v, e, q, p⟩ := h
    cases q
    exact ⟨rows1, H1, _, ok _ e, rfl, p⟩
  | stop e t s1 =>
    obtain ⟨H1, e1, o1⟩ := h
    exact ⟨H1, no _ _ e1, o1⟩
theorem w_simple (hP : PK P) (hR : RecK P C) (IH : ExOK P C F) (f : Fr) (op : Int) (x : List Ex) (b : List (List Sm)) (i : List Int) (r : Rs Unit) (hs : simpleS C.E F f op x s = some r) {fr : Nat} (h : RE C rows s H) (hF : FrE C rows s.mem f fr H) :
    Does P 81 [.ptr C.m 0, .map fr, .agg (encSm (.mk op x b i))] C rows s H QU r := by
  cases x with
  | nil =>
    by_cases h17 : op = 17
    · subst h17; exact w_putLn hP f b i r hs h
    · have hs' : (if op = 17 then put [10] else stuck) s = some r := hs
      cases iteF h17 hs'
  | cons e l =>
    cases l with
    | cons _ _ => cases hs
    | nil =>
      by_cases h11 : op = 11
      · subst h11; cases (show (stuck : M Unit) s = some r from hs)
      by_cases h12 : op = 12
      · subst h12; exact w_assert hP IH f e b i r hs h hF
      by_cases h13 : op = 13
      · subst h13; exact w_read hP IH f e b i r hs h hF
      by_cases h14 : op = 14
      · subst h14; exact w_putInt hP IH f e b i r hs h hF
      by_cases h15 : op = 15
      · subst h15; exact w_putChar hP IH f e b i r hs h hF
      by_cases h16 : op = 16
      · subst h16; cases (show (stuck : M Unit) s = some r from hs)
      cases iteF h16 (iteF h15 (iteF h14 (iteF h13 (iteF h12 (iteF h11 hs)))))
theorem w_stmt (hP : PK P) (hR : RecK P C) (IH : ExOK P C F) (IS : StOK P C F) : StmtOK P C F := by
  intro f sm s r hs rows H fr h hF
  have hp := hP.pl 43 rfl
  obtain ⟨op, x, b, i⟩ := sm
  by_cases h0 : op = 0
  · replace hs := iteT h0 hs
    match x, hs with
    | [to, e], hs =>
      have r0 := read_ex (l := [to, e]) (k := 0) rfl
      have r1 := read_ex (l := [to, e]) (k := 1) rfl
      rw [Nat.zero_mul] at r0
      rw [Nat.one_mul] at r1
      have hl := encExs_len [to, e]
      have := w_assign hP hR IH f to e r hs h hF
      obtain ⟨to1, ⟨to2, to3, to4, to5⟩, to6, to7, to8⟩ := to
      obtain ⟨eo, ⟨ef, en, enm, eof⟩, ei, str, ex⟩ := e
      exact this.mapU (fun _ e => r43_0 hp h0 (by simp) hl r0 (by simp) r1 e) (fun _ _ e => r43_1 hp h0 (by simp) hl r0 (by simp) r1 e)
  replace hs := iteF h0 hs
  by_cases h1 : op = 1
  · cases iteT h1 hs
  replace hs := iteF h1 hs
  by_cases h2 : op = 2
  · cases iteT h2 hs
  replace hs := iteF h2 hs
  by_cases h3 : op = 3
  · replace hs := iteT h3 hs
    subst h3
    have := IS.whl f x b i s r hs rows H fr h hF
    cases r with
    | ok a s1 =>
      obtain ⟨rows1, H1, l1, p1⟩ := this
      exact ⟨rows1, H1, _, l43_1 hp rfl l1, rfl, p1⟩
    | stop t u s1 =>
      obtain ⟨H1, l1, o1⟩ := this
      exact ⟨H1, l43_0 hp rfl l1, o1⟩
  replace hs := iteF h3 hs
  by_cases h4 : op = 4
  · replace hs := iteT h4 hs
    subst h4
    match x, b, hs with
    | [e], [l], hs =>
      have := IS.rep f e l i s r hs rows H fr h hF
      cases r with
      | ok a s1 =>
        obtain ⟨rows1, H1, l1, p1⟩ := this
        exact ⟨rows1, H1, _, l43_2 hp rfl l1, rfl, p1⟩
      | stop t u s1 =>
        obtain ⟨H1, l1, o1⟩ := this
        exact ⟨H1, l43_3 hp rfl l1, o1⟩
  replace hs := iteF h4 hs
  by_cases h5 : op = 5
  · replace hs := iteT h5 hs
    subst h5
    match x, b, i, hs with
    | [v, a, z], [l], [by'], hs =>
      exact (w_forStmt hP IH IS f v a z l by' r hs h hF).mapU (fun _ e => r43_8 hp rfl e) (fun _ _ e => r43_9 hp rfl e)
  replace hs := iteF h5 hs
  by_cases h6 : op = 6
  · cases iteT h6 hs
  replace hs := iteF h6 hs
  by_cases h7 : op = 7 ∨ op = 8 ∨ op = 9 ∨ op = 10
  · replace hs := iteT h7 hs
    match x, hs with
    | [to, e], hs =>
      have := w_change hP IH f op h7 to e b i r hs h hF
      rcases h7 with h7 | h7 | h7 | h7
      · exact this.mapU (fun _ e => r43_12 hp h7 e) (fun _ _ e => r43_13 hp h7 e)
      · exact this.mapU (fun _ e => r43_14 hp h7 e) (fun _ _ e => r43_15 hp h7 e)
      · exact this.mapU (fun _ e => r43_16 hp h7 e) (fun _ _ e => r43_17 hp h7 e)
      · exact this.mapU (fun _ e => r43_18 hp h7 e) (fun _ _ e => r43_19 hp h7 e)
  replace hs := iteF h7 hs
  simp only [not_or] at h7
  obtain ⟨h7, h8, h9, h10⟩ := h7
  have := w_simple hP hR IH f op x b i r hs h hF
  exact this.mapU (fun _ e => r43_20 hp h0 h1 h2 h3 h4 h5 h6 h7 h8 h9 h10 e) (fun _ _ e => r43_21 hp h0 h1 h2 h3 h4 h5 h6 h7 h8 h9 h10 e)
theorem chk_ok {F : Fn} {E : Env} {f : Fr} {e : Ex} {r : Rs Int} (h : chkS E F f e s = some r) : exprS E F f e s = some r ∧ (∀ v s', r = .ok v s' → in32 v = true) := by
  unfold chkS at h
  split at h
  · rename_i v s' hv
    cases hi : in32 v with
    | true => rw [hi] at h; cases h; exact ⟨hv, fun v' s'' q => by cases q; exact hi⟩
    | false => rw [hi] at h; cases h
  · rename_i hne
    exact ⟨h, fun v s' q => (hne v s' (by rw [← q]; exact h)).elim⟩
theorem w_lvl (hP : PK P) (hR : RecK P C) : ∀ k, ExOK P C (lvl C.E k) ∧ StOK P C (lvl C.E k)
  | 0 => ⟨⟨fun _ _ _ _ h => (nomatch h), fun _ _ _ _ h => (nomatch h), fun _ _ _ _ _ h => (nomatch h)⟩, ⟨fun _ _ _ _ h => (nomatch h), fun _ _ _ _ _ _ h => (nomatch h), fun _ _ _ _ _ _ h => (nomatch h), fun _ _ _ _ _ _ _ _ h => (nomatch h)⟩⟩
  | k + 1 => by
    obtain ⟨IH, IS⟩ := w_lvl hP hR k
    refine ⟨⟨fun f e s r hs rows H fr h hF => w_place hP hR IH f e s r hs rows H fr h hF, fun f e s r hs rows H fr h hF => ?_, fun f e s v s' hs => (chk_ok hs).2 v s' rfl⟩,
      ⟨fun f l s r hs rows H fr h hF => w_seq hP (w_stmt hP hR IH IS) f l s r hs rows H fr h hF, fun f x b i s r hs rows H fr h hF => w_whl hP IH IS f x b i s r hs rows H fr h hF,
       fun f e l i s r hs rows H fr h hF => w_rep hP IH IS f e l i s r hs rows H fr h hF, fun f p last by' l x s r hs rows H fr rr blk h hF k1 k2 => w_for hP IS f p last by' l x s r hs rows H fr rr blk h hF k1 k2⟩⟩
    exact w_value hP hR IH w_call (w_op hP IH) (w_elem hP IH) f e s r (chk_ok hs).1 rows H fr h hF
end Go.Wf
namespace Go.Wf
open Go Go.Den
variable {P : Prims} {C : EC} {F : Fn} {rows : List Nat} {s : St} {H : Heap}
def encRcs : List Rc → List AVal
  | [] => []
  | r :: l => encRc r ++ encRcs l
def encPrs : List Pr → List AVal
  | [] => []
  | p :: l => encPr p ++ encPrs l
theorem encPr_len (p : Pr) : (encPr p).length = 10 := by simp [encPr, encTy_len]
theorem encRcs_len : ∀ l, (encRcs l).length = l.length * 4
  | [] => rfl
  | t :: l => by simp only [encRcs, encRc, List.length_append, List.length_cons, List.length_nil, encRcs_len l]; omega
theorem encPrs_len : ∀ l, (encPrs l).length = l.length * 10
  | [] => rfl
  | t :: l => by simp only [encPrs, List.length_append, encPr_len, List.length_cons, encPrs_len l]; omega
theorem encRc_strip (e : Rc) : (encRc e).map AVal.strip = encRc e := by obtain ⟨n, r, b, f⟩ := e; simp [encRc, AVal.strip]
theorem encPr_strip (e : Pr) : (encPr e).map AVal.strip = encPr e := by obtain ⟨pn, pe, pp, ⟨tf, tn, tnm, tof⟩, pl, pb, pret⟩ := e; simp [encPr, encTy, AVal.strip]
theorem read_rc {l : List Rc} {k : Nat} {e : Rc} (h : l[k]? = some e) : readRow true 4 (encRcs l) (k * 4) = some (.agg (encRc e)) := read_flat encRc encRcs 4 rfl (fun _ _ => rfl) (fun a => by simp [encRc]) encRc_strip h
theorem read_pr {l : List Pr} {k : Nat} {e : Pr} (h : l[k]? = some e) : readRow true 10 (encPrs l) (k * 10) = some (.agg (encPr e)) := read_flat encPr encPrs 10 rfl (fun _ _ => rfl) encPr_len encPr_strip h
def encMd (m : Md) (n1 : Nat) (c1 : List AVal) (n2 : Nat) (c2 : List AVal) (n3 : Nat) (c3 : List AVal) : List AVal :=
  [.str m.name, .isl false n1 c1, .isl false n2 c2, .isl false n3 c3, .isl false m.recs.length (encRcs m.recs), .isl false m.vars.length (encVrs m.vars), .isl false m.procs.length (encPrs m.procs), .isl false m.body.length (encSms m.body)]
abbrev EC.at (C : EC) (g : Fr) (ps : List (Nm × Pr)) : EC := { C with E := { C.E with vars := g, procs := ps } }
def short (m : Md) : Prop := m.name.length ≤ 1000000 ∧ (∀ v ∈ m.vars, v.name.length ≤ 1000000) ∧ (∀ p ∈ m.procs, p.name.length ≤ 1000000) ∧ (∀ r ∈ m.recs, r.name.length ≤ 1000000) ∧ m.vars.length ≤ far ∧ m.procs.length ≤ far ∧ m.recs.length ≤ far
structure Apart (C : EC) (H : Heap) : Prop where
  vr : C.v ≠ C.r
  vp : C.v ≠ C.p
  vro : H.ro ≤ C.v
  pr : C.p ≠ C.r
  pro : H.ro ≤ C.p
  pcr : ¬ CRef C H C.p
theorem RE.setMap (h : RE C rows s H) {fr : Nat} {es es' : List (List UInt8 × AVal)} (q1 : H.objs[fr]? = some (.amap es)) (hz : fr ≠ C.z) (hfl : fr ≠ C.fl) (hcr : ¬ CRef C H fr) {C' : EC} (e1 : C'.m = C.m) (e2 : C'.r = C.r) (e3 : C'.p = C.p) (e4 : C'.v = C.v) (e5 : C'.z = C.z) (e6 : C'.fl = C.fl) (e7 : C'.side = C.side) (e8 : C'.E.R = C.E.R) (e9 : C'.E.k = C.E.k)
    (hst : StatE C' rows s.mem (H.setMap fr es')) : RE C' rows s (H.setMap fr es') := by
  obtain ⟨m', r', p', v', z', fl', E', side'⟩ := C'
  simp only at e1 e2 e3 e4 e5 e6 e7 e8 e9
  subst e1; subst e2; subst e3; subst e4; subst e5; subst e6; subst e7
  have keep : ∀ (b : Nat) (o : AObj), b ≠ fr → H.objs[b]? = some o → (H.setMap fr es').objs[b]? = some o := fun b o hb ho => by rw [setMap_other _ (Ne.symm hb)]; exact ho
  have ncell : ∀ (b : Nat) l, H.objs[b]? = some (AObj.cells l) → b ≠ fr := fun b l hb e => by subst e; rw [q1] at hb; cases hb
  obtain ⟨th, iv, ov, h1, h2, h3, h4, h5, h6, h7⟩ := h.mach
  refine ⟨⟨th, iv, ov, keep _ _ (ncell _ _ h1) h1, h2, h3, keep _ _ (ncell _ _ h4) h4, h5, h6, h7⟩, ⟨h.mem.len, h.mem.nodup, fun k r x hk hx => keep _ _ (ncell _ _ (h.mem.row k r x hk hx)) (h.mem.row k r x hk hx), h.mem.ro⟩, h.mrow, h.mro,
    hst, ⟨?_, ?_, h.cache.zfl, h.cache.zro, h.cache.flro⟩, h.fuel, h.room, h.depth, h.objs, fun x hx => ⟨keep _ _ (ncell _ _ (h.side x hx).1) (h.side x hx).1, (h.side x hx).2⟩⟩
  · obtain ⟨es', a1, a2⟩ := h.cache.sizes
    refine ⟨es', keep _ _ hz.symm a1, fun name a ha => ?_⟩
    obtain ⟨n, b1, b2⟩ := a2 name a ha
    exact ⟨n, b1, by unfold recW at b2 ⊢; rw [e8, e9]; exact b2⟩
  · obtain ⟨es', a1, a2⟩ := h.cache.fields
    refine ⟨es', keep _ _ hfl.symm a1, fun rec a ha => ?_⟩
    obtain ⟨b, fes, p1, p2, p3, p4, p5⟩ := a2 rec a ha
    refine ⟨b, fes, p1, p2, p3, keep _ _ (fun e => hcr ⟨es', rec, a1, ?_⟩) p4, fun name n hn => p5 name n ?_⟩
    · rw [ha, p1, e]
    · unfold offW at hn ⊢
      simp only at hn
      rw [← e8, ← e9]; exact hn
theorem CRef.setMap {fr : Nat} {es' : List (List UInt8 × AVal)} (hfl : fr ≠ C.fl) {x : Nat} (q : CRef C (H.setMap fr es') x) : CRef C H x := by
  obtain ⟨es, rec, a1, a2⟩ := q
  rw [setMap_other _ hfl] at a1; exact ⟨es, rec, a1, a2⟩
theorem RE.var {g : Fr} {ps : List (Nm × Pr)} (h : RE (C.at g ps) rows s H) (ha : Apart C H) (name : Nm) {l : Loc} {v : AVal} (hv : PlaceV rows s.mem l v) :
    ∃ H', mset H C.v name v = some H' ∧ RE (C.at ((name, l) :: g) ps) rows s H' ∧ Apart C H' ∧ H'.ro = H.ro := by
  obtain ⟨es, q1, q2⟩ := h.stat.vars.obj
  have nz : C.v ≠ C.z := h.stat.vars.nz
  have nfl : C.v ≠ C.fl := h.stat.vars.nfl
  have hv0 := hv
  obtain ⟨rr, blk, k1, k2, k3, rfl⟩ := hv
  have q1' : H.objs[C.v]? = some (.amap es) := q1
  have keep : ∀ (b : Nat) (o : AObj), b ≠ C.v → H.objs[b]? = some o → (H.setMap C.v (putM name (.agg [.msl rr 0 blk.length 1, .int .i64 (l.o : Int)]) es)).objs[b]? = some o := fun b o hb ho => by rw [setMap_other _ (Ne.symm hb)]; exact ho
  refine ⟨_, mset_of q1' ha.vro rfl rfl, h.setMap q1' nz nfl h.stat.vars.ncr rfl rfl rfl rfl rfl rfl rfl rfl rfl ⟨?_, ?_, ⟨⟨_, setMap_same _ q1', fun nm l' hl => ?_⟩, nz, nfl, fun q => h.stat.vars.ncr (CRef.setMap nfl q)⟩, h.stat.rz, h.stat.rfl', h.stat.pz, h.stat.pfl⟩, ⟨ha.vr, ha.vp, ha.vro, ha.pr, ha.pro, fun q => ha.pcr (CRef.setMap nfl q)⟩, rfl⟩
  · obtain ⟨es', a1, a2⟩ := h.stat.recs; exact ⟨es', keep _ _ ha.vr.symm a1, a2⟩
  · obtain ⟨es', a1, a2⟩ := h.stat.procs; exact ⟨es', keep _ _ ha.vp.symm a1, a2⟩
  · rw [findE_put]
    unfold findR at hl
    by_cases e : nm = name
    · rw [if_pos e] at hl ⊢
      cases hl
      exact ⟨_, rfl, hv0⟩
    · rw [if_neg e] at hl ⊢
      exact q2 nm l' hl
theorem RE.proc {g : Fr} {ps : List (Nm × Pr)} (h : RE (C.at g ps) rows s H) (ha : Apart C H) (name : Nm) (p : Pr) :
    ∃ H', mset H C.p name (.agg (encPr p)) = some H' ∧ RE (C.at g ((name, p) :: ps)) rows s H' ∧ Apart C H' ∧ H'.ro = H.ro := by
  obtain ⟨es, q1, q2⟩ := h.stat.procs
  have nz : C.p ≠ C.z := h.stat.pz
  have nfl : C.p ≠ C.fl := h.stat.pfl
  have q1' : H.objs[C.p]? = some (.amap es) := q1
  have hs : (AVal.agg (encPr p)).stripA = .agg (encPr p) := by
    show AVal.agg ((encPr p).map AVal.strip) = _
    rw [encPr_strip]
  have keep : ∀ (b : Nat) (o : AObj), b ≠ C.p → H.objs[b]? = some o → (H.setMap C.p (putM name (.agg (encPr p)) es)).objs[b]? = some o := fun b o hb ho => by rw [setMap_other _ (Ne.symm hb)]; exact ho
  refine ⟨_, mset_of q1' ha.pro rfl hs, h.setMap q1' nz nfl ha.pcr rfl rfl rfl rfl rfl rfl rfl rfl rfl ⟨?_, ⟨_, setMap_same _ q1', fun nm p' hl => ?_⟩, ⟨?_, h.stat.vars.nz, h.stat.vars.nfl, fun q => h.stat.vars.ncr (CRef.setMap nfl q)⟩, h.stat.rz, h.stat.rfl', h.stat.pz, h.stat.pfl⟩, ⟨ha.vr, ha.vp, ha.vro, ha.pr, ha.pro, fun q => ha.pcr (CRef.setMap nfl q)⟩, rfl⟩
  · obtain ⟨es', a1, a2⟩ := h.stat.recs; exact ⟨es', keep _ _ ha.pr.symm a1, a2⟩
  · rw [findE_put]
    simp only [findR] at hl
    by_cases e : nm = name
    · rw [if_pos e] at hl ⊢
      cases hl
      rfl
    · rw [if_neg e] at hl ⊢
      exact q2 nm p' hl
  · obtain ⟨es', a1, a2⟩ := h.stat.vars.obj; exact ⟨es', keep _ _ ha.vp a1, a2⟩
theorem Apart.post {C' : EC} {r1 r2 : List Nat} {s1 s2 : St} {H1 H2 : Heap} (a : Apart C H1) (e : C'.fl = C.fl) (p : Post C' r1 s1 H1 r2 s2 H2) (hl : ∃ es, H1.objs[C.p]? = some (.amap es)) : Apart C H2 := by
  obtain ⟨es, hl⟩ := hl
  have := lt_of_obj hl
  refine ⟨a.vr, a.vp, by rw [p.pres.ro]; exact a.vro, a.pr, by rw [p.pres.ro]; exact a.pro, fun q => ?_⟩
  have q' : CRef C' H2 C.p := by obtain ⟨es, rec, a1, a2⟩ := q; exact ⟨es, rec, by rw [e]; exact a1, a2⟩
  rcases p.pres.cref _ q' with k | k
  · exact a.pcr (by obtain ⟨es, rec, a1, a2⟩ := k; exact ⟨es, rec, by rw [← e]; exact a1, a2⟩)
  · omega
abbrev mdF (C : EC) (r0 t9 : Nat) (md : AVal) (x : Nat) (l : AVal) (n k : Nat) : Facts := [(3, .isl false 1 md.cells), (8, .ptr r0 0), (9, .ptr t9 0), (11, .loc 0 0), (34, .isl false 1 md.cells), (35, .int .i64 1), (36, .int .i64 0), (x, l), (x + 1, .int .i64 (n : Int)), (x + 2, .int .i64 (k : Int))]
abbrev mdE (C : EC) (r0 t9 : Nat) (md : AVal) : Facts := [(3, .isl false 1 md.cells), (8, .ptr r0 0), (9, .ptr t9 0), (11, .loc 0 0), (34, .isl false 1 md.cells), (35, .int .i64 1), (36, .int .i64 0)]
end Go.Wf
namespace Go.Wf
open Go Go.Den
variable {P : Prims} {C : EC} {F : Fn} {rows : List Nat} {s : St} {H : Heap}
abbrev VF (L : List AVal) (r0 t9 : Nat) : Facts := [(3, .isl false 1 L), (8, .ptr r0 0), (9, .ptr t9 0), (11, .loc 0 0), (34, .isl false 1 L), (35, .int .i64 1), (36, .int .i64 0)]
abbrev VF1 (L : List AVal) (r0 t9 : Nat) (m : Md) (k : Nat) : Facts := [(3, .isl false 1 L), (8, .ptr r0 0), (9, .ptr t9 0), (11, .loc 0 0), (34, .isl false 1 L), (35, .int .i64 1), (36, .int .i64 0), (41, .isl false m.vars.length (encVrs m.vars)), (42, .int .i64 (m.vars.length : Int)), (43, .int .i64 (k : Int))]
abbrev VF2 (L : List AVal) (r0 t9 : Nat) (m : Md) (k : Nat) : Facts := [(3, .isl false 1 L), (8, .ptr r0 0), (9, .ptr t9 0), (11, .loc 0 0), (34, .isl false 1 L), (35, .int .i64 1), (36, .int .i64 0), (63, .isl false m.procs.length (encPrs m.procs)), (64, .int .i64 (m.procs.length : Int)), (65, .int .i64 (k : Int))]
abbrev VF3 (L : List AVal) (r0 t9 : Nat) : Facts := [(3, .isl false 1 L), (8, .ptr r0 0), (9, .ptr t9 0), (34, .isl false 1 L), (35, .int .i64 1), (36, .int .i64 0)]
abbrev VD (r0 t9 : Nat) : Dfs := [(29, [.ptr t9 0, .ptr r0 0])]
theorem dotted_eq (a b : Nm) : dotted a b = (a ++ [46]) ++ b := by simp [dotted]
theorem RE.box (h : RE C rows s H) {t9 : Nat} (hb : (t9, [AVal.ptr C.m 0]) ∈ C.side) : hload H false 1 t9 0 = some (.ptr C.m 0) := by
  exact hload_of' (h.side _ hb).1 rfl rfl
theorem w_vars (hP : PK P) (hR : ∀ g ps, RecK P (C.at g ps)) (m : Md) (hm : short m) (n1 : Nat) (c1 : List AVal) (n2 : Nat) (c2 : List AVal) (n3 : Nat) (c3 : List AVal) (r0 t9 : Nat) (hb : (t9, [AVal.ptr C.m 0]) ∈ C.side) (E : Env) (hE : E.R = C.E.R) (hk : E.k = C.E.k) (ps : List (Nm × Pr)) :
    ∀ (vs : List Vr) (k : Nat) (g : Fr), m.vars.drop k = vs → ∀ (s : St) (r : Rs Fr), varsIn E m.name vs g s = some r → ∀ rows H, RE (C.at g ps) rows s H → Apart C H →
    ∃ g' s', r = .ok g' s' ∧ ∃ rows' H', LoopEv P 17 k17_1 99 (VD r0 t9) (VF1 (encMd m n1 c1 n2 c2 n3 c3) r0 t9 m k) ⟨[encMd m n1 c1 n2 c2 n3 c3], true⟩ H (.exit 2) (VD r0 t9) (VF (encMd m n1 c1 n2 c2 n3 c3) r0 t9) ⟨[encMd m n1 c1 n2 c2 n3 c3], true⟩ H' ∧ RE (C.at g' ps) rows' s' H' ∧ Apart C H' ∧ H'.ro = H.ro
  | [], k, g, hk', s, r, hs, rows, H, h, ha => by
    cases pure_ok hs
    have : m.vars.length ≤ k := by simpa using hk'
    exact ⟨_, _, rfl, rows, H, loop_exit (by simp) (b17_1_1 (by omega)), h, ha, rfl⟩
  | v :: vs, k, g, hk', s, r, hs, rows, H, h, ha => by
    obtain ⟨hkl, hget, hd⟩ := drop_cons hk'
    have rp := read_vr hget
    have hf : far = 1000000000000 := rfl
    rcases bind_ok hs with ⟨n, s1, hs1, hs2⟩ | ⟨t, u, s1, hs1, rfl⟩
    · obtain ⟨n', hn, e1⟩ := W_ok hs1
      cases e1
      rcases bind_ok hs2 with ⟨l, s2, hs3, hs4⟩ | ⟨t, u, s2, hs3, rfl⟩
      · cases hs3
        rw [hE, hk] at hn
        obtain ⟨rows2, H2, v2, e2, q2, p2⟩ := w_fresh (C := C.at g ps) hP (hR g ps) hn h
        have hpl : ∃ es, H.objs[C.p]? = some (.amap es) := by obtain ⟨es, a1, _⟩ := h.stat.procs; exact ⟨es, a1⟩
        have ha2 : Apart C H2 := ha.post (C' := C.at g ps) rfl p2 hpl
        obtain ⟨H3, m3, h3, ha3, hro⟩ := p2.re.var ha2 (dotted m.name v.name) q2
        obtain ⟨g', s', rfl, rows4, H4, l4, h4, ha4, ro4⟩ := w_vars hP hR m hm n1 c1 n2 c2 n3 c3 r0 t9 hb E hE hk ps vs (k + 1) _ hd _ r hs4 rows2 H3 h3 ha3
        have hb' : (t9, [AVal.ptr C.m 0]) ∈ (C.at g ps).side := hb
        have x1 := h.box hb'
        have x2 := h.ld (off := 2) (v := .map C.v) (fun _ _ _ => rfl) rfl
        have x3 := p2.re.box hb'
        have x4 := p2.re.ld (off := 2) (v := .map C.v) (fun _ _ _ => rfl) rfl
        have s1 : m.name.length ≤ 1000000 := hm.1
        have s2 : v.name.length ≤ 1000000 := hm.2.1 v (List.mem_of_getElem? hget)
        have s3 : m.vars.length ≤ far := hm.2.2.2.2.1
        rw [dotted_eq] at m3
        obtain ⟨rr, blk, k1, k2, k3, rfl⟩ := q2
        obtain ⟨qn, qr, ⟨qf, qm, qnm, qof⟩⟩ := v
        exact ⟨_, _, rfl, rows4, H4, loop_next (by rfl) (b17_1_0 (k1 := 0) (by omega) hkl (encVrs_len m.vars) rp x1 x2 (by simp; omega) (by simp only [List.length_append, List.length_cons, List.length_nil] at s2 ⊢; omega) e2 m3 x3 x4 (add1 hkl s3)) l4, h4, ha4, by rw [ro4, hro, p2.pres.ro]⟩
      · cases hs3
    · obtain ⟨n', hn, e1⟩ := W_ok hs1
      cases e1
theorem w_procs (m : Md) (hm : short m) (n1 : Nat) (c1 : List AVal) (n2 : Nat) (c2 : List AVal) (n3 : Nat) (c3 : List AVal) (r0 t9 : Nat) (hb : (t9, [AVal.ptr C.m 0]) ∈ C.side) (g : Fr) :
    ∀ (l : List Pr) (k : Nat) (ps : List (Nm × Pr)), m.procs.drop k = l → ∀ H, RE (C.at g ps) rows s H → Apart C H →
    ∃ H', LoopEv P 17 k17_2 99 (VD r0 t9) (VF2 (encMd m n1 c1 n2 c2 n3 c3) r0 t9 m k) ⟨[encMd m n1 c1 n2 c2 n3 c3], true⟩ H (.exit 4) (VD r0 t9) (VF3 (encMd m n1 c1 n2 c2 n3 c3) r0 t9) ⟨[encMd m n1 c1 n2 c2 n3 c3], true⟩ H' ∧
      RE (C.at g ((l.map fun p => (dotted m.name p.name, p)).reverse ++ ps)) rows s H' ∧ Apart C H' ∧ H'.ro = H.ro
  | [], k, ps, hk', H, h, ha => by
    have : m.procs.length ≤ k := by simpa using hk'
    exact ⟨H, loop_exit (by simp) (b17_2_1 (by omega)), h, ha, rfl⟩
  | p :: l, k, ps, hk', H, h, ha => by
    obtain ⟨hkl, hget, hd⟩ := drop_cons hk'
    have rp := read_pr hget
    have hf : far = 1000000000000 := rfl
    obtain ⟨H3, m3, h3, ha3, hro⟩ := h.proc ha (dotted m.name p.name) p
    obtain ⟨H4, l4, h4, ha4, ro4⟩ := w_procs m hm n1 c1 n2 c2 n3 c3 r0 t9 hb g l (k + 1) ((dotted m.name p.name, p) :: ps) hd H3 h3 ha3
    have hb' : (t9, [AVal.ptr C.m 0]) ∈ (C.at g ps).side := hb
    have x1 := h.box hb'
    have x2 := h.ld (off := 1) (v := .map C.p) (fun _ _ _ => rfl) rfl
    have s1 : m.name.length ≤ 1000000 := hm.1
    have s2 : p.name.length ≤ 1000000 := hm.2.2.1 p (List.mem_of_getElem? hget)
    have s3 : m.procs.length ≤ far := hm.2.2.2.2.2.1
    rw [dotted_eq] at m3
    refine ⟨H4, ?_, by simpa using h4, ha4, by rw [ro4, hro]⟩
    obtain ⟨pn, pe, pp, ⟨tf, tn, tnm, tof⟩, pl, pb, pret⟩ := p
    exact loop_next (by rfl) (b17_2_0 (by omega) hkl (encPrs_len m.procs) rp x1 x2 (by simp; omega) (by simp only [List.length_append, List.length_cons, List.length_nil] at s2 ⊢; omega) m3 (add1 hkl s3)) l4
end Go.Wf
namespace Go.Wf
open Go Go.Den
variable {P : Prims} {C : EC} {F : Fn} {rows : List Nat} {s : St} {H : Heap}
theorem findR_app {α : Type} (name : Nm) : ∀ (l m : List (Nm × α)), findR name (l ++ m) = (findR name l).or (findR name m)
  | [], m => by simp [findR]
  | (a, b) :: l, m => by
    simp only [List.cons_append, findR]
    by_cases h : name = a
    · simp [h]
    · simp [h, findR_app name l m]
abbrev RF (L : List AVal) (m0 m1 : Nat) (m : Md) (k : Nat) : Facts := [(3, .map m0), (4, .map m1), (6, .loc 0 0), (13, .isl false 1 L), (14, .int .i64 1), (15, .int .i64 0), (27, .isl false m.recs.length (encRcs m.recs)), (28, .int .i64 (m.recs.length : Int)), (29, .int .i64 (k : Int))]
abbrev RF' (L : List AVal) (m0 m1 : Nat) : Facts := [(3, .map m0), (4, .map m1), (13, .isl false 1 L), (14, .int .i64 1), (15, .int .i64 0)]
theorem w_recsL (m : Md) (hm : short m) (n1 : Nat) (c1 : List AVal) (n2 : Nat) (c2 : List AVal) (n3 : Nat) (c3 : List AVal) (m0 m1 : Nat) :
    ∀ (l : List Rc) (k : Nat) (R : Recs), m.recs.drop k = l → ∀ (H : Heap) (es : List (List UInt8 × AVal)), H.objs[m0]? = some (.amap es) → H.ro ≤ m0 → (∀ name, findE name es = (findR name R).map fun r => .agg (encRc r)) →
    ∃ H' es', LoopEv P 27 k27_1 57 [] (RF (encMd m n1 c1 n2 c2 n3 c3) m0 m1 m k) ⟨[encMd m n1 c1 n2 c2 n3 c3], true⟩ H (.exit 2) [] (RF' (encMd m n1 c1 n2 c2 n3 c3) m0 m1) ⟨[encMd m n1 c1 n2 c2 n3 c3], true⟩ H' ∧
      H'.objs[m0]? = some (.amap es') ∧ (∀ b : Nat, b ≠ m0 → H'.objs[b]? = H.objs[b]?) ∧ H'.ro = H.ro ∧ H'.objs.length = H.objs.length ∧ ∀ name, findE name es' = (findR name (R ++ l.map fun r => (dotted m.name r.name, r))).map fun r => .agg (encRc r)
  | [], k, R, hk', H, es, h1, h2, h3 => by
    have : m.recs.length ≤ k := by simpa using hk'
    exact ⟨H, es, loop_exit (by simp) (b27_1_2 (by omega)), h1, fun _ _ => rfl, rfl, rfl, by simpa using h3⟩
  | c :: l, k, R, hk', H, es, h1, h2, h3 => by
    obtain ⟨hkl, hget, hd⟩ := drop_cons hk'
    have rp := read_rc hget
    have hf : far = 1000000000000 := rfl
    have s1 : m.name.length ≤ 1000000 := hm.1
    have s2 : c.name.length ≤ 1000000 := hm.2.2.2.1 c (List.mem_of_getElem? hget)
    have s3 : m.recs.length ≤ far := hm.2.2.2.2.2.2
    have t1 : (m.name : List UInt8).length + ([46] : List UInt8).length ≤ 1099511627776 := by simp; omega
    have t2 : ((m.name ++ [46]) : List UInt8).length + (c.name : List UInt8).length ≤ 1099511627776 := by simp only [List.length_append, List.length_cons, List.length_nil]; omega
    have hg := mget_of (key := (m.name ++ [46]) ++ c.name) h1
    rw [h3, ← dotted_eq] at hg
    cases hr : findR (dotted m.name c.name) R with
    | some c' =>
      rw [hr] at hg
      have h3' : ∀ name, findE name es = (findR name (R ++ [(dotted m.name c.name, c)])).map fun r => .agg (encRc r) := fun name => by
        rw [h3 name, findR_app]
        by_cases e : name = dotted m.name c.name
        · subst e; rw [hr]; rfl
        · simp [findR, e]
      obtain ⟨H', es', l', q1, q2, q3, q4, q5⟩ := w_recsL m hm n1 c1 n2 c2 n3 c3 m0 m1 l (k + 1) _ hd H es h1 h2 h3'
      obtain ⟨cn, ce, cb, cf⟩ := c
      obtain ⟨cn', ce', cb', cf'⟩ := c'
      rw [dotted_eq] at hg
      exact ⟨H', es', loop_next (by rfl) (b27_1_0 (by omega) hkl (encRcs_len m.recs) rp t1 t2 hg (add1 hkl s3)) l', q1, q2, q3, q4, by simpa using q5⟩
    | none =>
      rw [hr] at hg
      have hs : (AVal.agg (encRc c)).stripA = .agg (encRc c) := by
        show AVal.agg ((encRc c).map AVal.strip) = _
        rw [encRc_strip]
      have hset := mset_of (key := (m.name ++ [46]) ++ c.name) (v := .agg (encRc c)) h1 h2 rfl hs
      have h3' : ∀ name, findE name (putM ((m.name ++ [46]) ++ c.name) (.agg (encRc c)) es) = (findR name (R ++ [(dotted m.name c.name, c)])).map fun r => .agg (encRc r) := fun name => by
        rw [findE_put, findR_app, ← dotted_eq]
        by_cases e : name = dotted m.name c.name
        · subst e; rw [hr]; simp [findR]
        · simp [findR, e, h3 name]
      obtain ⟨H', es', l', q1, q2, q3, q4, q5⟩ := w_recsL m hm n1 c1 n2 c2 n3 c3 m0 m1 l (k + 1) _ hd _ _ (setMap_same _ h1) h2 h3'
      obtain ⟨cn, ce, cb, cf⟩ := c
      rw [dotted_eq] at hg
      exact ⟨H', es', loop_next (by rfl) (b27_1_1 (by omega) hkl (encRcs_len m.recs) rp t1 t2 hg t1 t2 hset (add1 hkl s3)) l', q1, fun b hb => by rw [q2 b hb, setMap_other _ hb.symm], q3, by rw [q4, setMap_len], by simpa using q5⟩
theorem w_recs (hP : P 27 = none) (m : Md) (hm : short m) (n1 : Nat) (c1 : List AVal) (n2 : Nat) (c2 : List AVal) (n3 : Nat) (c3 : List AVal) (H : Heap) (hro : H.ro ≤ H.objs.length) :
    ∃ H' es, Ev P 27 [.isl false 1 (encMd m n1 c1 n2 c2 n3 c3)] H (.ret (.map H.objs.length)) H' ∧ H'.objs[H.objs.length]? = some (.amap es) ∧ (∀ b : Nat, b < H.objs.length → H'.objs[b]? = H.objs[b]?) ∧ H'.ro = H.ro ∧ H'.objs.length = H.objs.length + 2 ∧
      ∀ name, findE name es = (findR name (recsOf [m])).map fun r => .agg (encRc r) := by
  have e1 : ((H.push (.amap [])).push (.amap [])).objs[(H.push (.amap [])).objs.length]? = some (.amap []) := push_new _ _
  have e0 : ((H.push (.amap [])).push (.amap [])).objs[H.objs.length]? = some (.amap []) := push_old _ (push_new _ _)
  have hg := mget_of (key := m.name) e1
  have hset := mset_of (key := m.name) (v := .bool true) e1 (by simp; omega) rfl rfl
  have hne : (H.push (.amap [])).objs.length ≠ H.objs.length := by simp
  have e2 : (((H.push (.amap [])).push (.amap [])).setMap (H.push (.amap [])).objs.length (putM m.name (.bool true) [])).objs[H.objs.length]? = some (.amap []) := by rw [setMap_other _ hne]; exact e0
  obtain ⟨H', es', l', q1, q2, q3, q4, q5⟩ := w_recsL (P := P) m hm n1 c1 n2 c2 n3 c3 H.objs.length (H.push (.amap [])).objs.length m.recs 0 [] rfl _ [] e2 (by simp; omega) (fun _ => rfl)
  refine ⟨H', es', l27_2 hP hg hset l', q1, fun b hb => ?_, by rw [q3]; rfl, by rw [q4]; simp, fun name => ?_⟩
  · rw [q2 b (by omega), setMap_other _ (by simp; omega)]
    rw [Heap.push, List.getElem?_append_left (by simp; omega), Heap.push, List.getElem?_append_left hb]
  · rw [q5 name]; simp [recsOf]
end Go.Wf
namespace Go.Wf
open Go Go.Den
variable {P : Prims} {C : EC} {F : Fn} {rows : List Nat} {s : St} {H : Heap}
theorem bodyOf_some {fn : Func} (hc : fn.body.isSome = true) : fn.body = some (bodyOf fn) := by
  unfold bodyOf
  cases hb : fn.body with
  | none => rw [hb] at hc; cases hc
  | some c => rfl
theorem ev_run_def {f : FuncId} {fn : Func} {args : List AVal} {r : ARes} {H₁ H₂ H₃ : Heap} {ex : AExit} {l l' : Facts} {bx' : Bxs} {g : FuncId} {caps : List AVal} {v : AVal} (hp : P f = none) (hfn : XK.P.funcs[f]? = some fn) (hc : fn.body.isSome = true) (hle : Nat.ble args.length fn.ntmps = true) (hi : Has (envOf args) l)
    (hx : ((ex = .normal ∨ ex = .ret) ∧ v = .nili) ∨ ex = .panic v) (h : RunEv P f (bodyOf fn) fn.ntmps [] l ⟨[], false⟩ H ex [(g, caps)] l' bx' H₁)
    (hg : ∃ n0, ∀ m, n0 ≤ m → recovered XK (den XK P m) m g caps v H₁ = some H₂)
    (hr : ∀ E B, bx'.ok B → Go.Den.results XK fn f (stL E l' B fn.ntmps [(g, caps)]) H₂ = some (r, H₃)) : Ev P f args H r H₃ := by
  refine ev_body hp ?_
  obtain ⟨x, hx'⟩ := h
  obtain ⟨y, hy⟩ := hg
  refine ⟨max x y, fun m hm => ?_⟩
  obtain ⟨s', a1, e1⟩ := hx' m (by omega) { env := envOf args, boxes := [], n := fn.ntmps, defs := [] } ⟨rfl, rfl, rfl, hi⟩
  have h2 := hr s'.env s'.boxes a1.bx
  rw [← a1.eq] at h2
  simp only [body, hfn]
  rw [bodyOf_some hc]
  simp only [hle, cond_true, e1]
  rcases hx with ⟨rfl | rfl, rfl⟩ | rfl <;> simp only [a1.d, hy m (by omega), h2]
theorem rec29 {caps : List AVal} {v : AVal} (hcl : Nat.ble caps.length 25 = true) {l' : Facts} {bx : Bxs} {H₁ H₂ : Heap} {l : Facts} (hi : Has (setE (setE (envOf caps) 5 v.stripA) 2 v.stripA) l)
    (h : RunEv P 29 (cdB (bodyOf Go.Proofs.Tryz.f29)) 25 [] l ⟨[], false⟩ H₁ .normal [] l' bx H₂) : ∃ n0, ∀ m, n0 ≤ m → recovered XK (den XK P m) m 29 caps v H₁ = some H₂ := by
  obtain ⟨x, hx⟩ := h
  refine ⟨x, fun m hm => ?_⟩
  obtain ⟨s', a1, e1⟩ := hx m hm { env := setE (setE (envOf caps) 5 v.stripA) 2 v.stripA, boxes := [], n := 25, defs := [] } ⟨rfl, rfl, rfl, hi⟩
  have e : recovered XK (den XK P m) m 29 caps v H₁ = cond (Nat.beq 5 5 && Nat.ble caps.length 25 && Nat.blt 5 25 && Nat.blt 2 25)
      (match run XK (den XK P m) 29 m (cdB (bodyOf Go.Proofs.Tryz.f29)) { env := setE (setE (envOf caps) 5 v.stripA) 2 v.stripA, boxes := [], n := 25, defs := [] } H₁ with
       | some (.normal, s, h') | some (.ret, s, h') => match s.defs, Go.Proofs.Tryz.f29.results.toList with
         | [], [] => some h'
         | _, _ => none
       | _ => none) none := by
    unfold recovered
    have hf : XK.P.funcs[29]? = some Go.Proofs.Tryz.f29 := Go.Proofs.Tryz.func29
    rw [hf]
    rfl
  rw [e, hcl, e1]
  simp only [a1.d]
  rfl
end Go.Wf
namespace Go.Wf
open Go Go.Den
variable {P : Prims} {F : Fn} {rows : List Nat} {s : St} {H : Heap}
abbrev A1 (H0 : Heap) : Heap := H0.push (.amap [])
abbrev A2 (H0 : Heap) : Heap := (H0.push (.amap [])).push (.amap [])
abbrev A3 (H0 : Heap) : Heap := ((H0.push (.amap [])).push (.amap [])).push (.amap [])
abbrev A4 (H0 : Heap) : Heap := (((H0.push (.amap [])).push (.amap [])).push (.amap [])).push (.amap [])
abbrev A5 (H0 : Heap) : Heap := ((((H0.push (.amap [])).push (.amap [])).push (.amap [])).push (.amap [])).push (.cells [.str [], .nils])
abbrev A6 (H0 : Heap) (row : List AVal) : Heap := (A5 H0).push (.cells row)
abbrev A7 (H0 : Heap) (row : List AVal) : Heap := ((A5 H0).push (.cells row)).push (.cells [.nilp])
abbrev rowOf (H0 : Heap) (r : Nat) (room fuel : Int) (inp : List UInt8) : List AVal :=
  [.map r, .map H0.objs.length, .map (A1 H0).objs.length, .map (A2 H0).objs.length, .map (A3 H0).objs.length, .msl (A4 H0).objs.length 0 1 2, .int .i64 (if room < 0 then 0 else room), .isl false inp.length (bytesV inp), .nils, .int .i64 fuel, .int .i64 0]
def startC (H0 : Heap) (r r0 : Nat) (row : List AVal) (R : Recs) (k : Nat) : EC :=
  ⟨(A5 H0).objs.length, r, H0.objs.length, (A1 H0).objs.length, (A2 H0).objs.length, (A3 H0).objs.length, ⟨R, k, [], []⟩, [((A6 H0 row).objs.length, [.ptr (A5 H0).objs.length 0]), (r0, [.nils, .int .i64 0, .int .i64 0])]⟩
def startS (room fuel : Int) (inp : List UInt8) : St := ⟨fuel, 0, inp, [], if room < 0 then 0 else room, [], []⟩
theorem RE.start (H0 : Heap) (r r0 : Nat) (es : List (List UInt8 × AVal)) (R : Recs) (k : Nat) (room fuel : Int) (inp : List UInt8) (hr : H0.objs[r]? = some (.amap es)) (hes : ∀ name, findE name es = (findR name R).map fun r => .agg (encRc r))
    (hr0 : H0.objs[r0]? = some (.cells [.nils, .int .i64 0, .int .i64 0])) (hro : H0.ro ≤ r0) (hf : -9223372036854775808 ≤ fuel ∧ fuel ≤ 9223372036854775807) (hm : -9223372036854775808 ≤ room ∧ room ≤ 9223372036854775807) :
    ∃ H2, hstore (A7 H0 (rowOf H0 r room fuel inp)) (A6 H0 (rowOf H0 r room fuel inp)).objs.length 0 [.ptr (A5 H0).objs.length 0] = some H2 ∧
      RE ((startC H0 r r0 (rowOf H0 r room fuel inp) R k).at [] []) [] (startS room fuel inp) H2 ∧ Apart (startC H0 r r0 (rowOf H0 r room fuel inp) R k) H2 ∧ H2.ro = H0.ro := by
  have hrl := lt_of_obj hr
  have hr0l := lt_of_obj hr0
  have l1 : (A1 H0).objs.length = H0.objs.length + 1 := by simp
  have l2 : (A2 H0).objs.length = H0.objs.length + 2 := by simp
  have l3 : (A3 H0).objs.length = H0.objs.length + 3 := by simp
  have l4 : (A4 H0).objs.length = H0.objs.length + 4 := by simp
  have l5 : (A5 H0).objs.length = H0.objs.length + 5 := by simp
  have l6 : (A6 H0 (rowOf H0 r room fuel inp)).objs.length = H0.objs.length + 6 := by simp
  have hst := hstore_of (off := 0) (v := .ptr (A5 H0).objs.length 0) (push_new (A6 H0 (rowOf H0 r room fuel inp)) (.cells [.nilp])) (by show H0.ro ≤ _; rw [l6]; omega) (by simp)
  refine ⟨_, hst, ?_⟩
  generalize hrow : rowOf H0 r room fuel inp = row at *
  let H2 : Heap := (A7 H0 row).setRow (A6 H0 row).objs.length [.ptr (A5 H0).objs.length 0]
  have keep : ∀ (b : Nat) o, b ≠ H0.objs.length + 6 → (A6 H0 row).objs[b]? = some o → H2.objs[b]? = some o := fun b o hb ho => by
    show ((A7 H0 row).setRow _ _).objs[b]? = _
    rw [setRow_other _ (by rw [l6]; exact hb.symm)]
    exact push_old _ ho
  have k0 : ∀ (b : Nat) o, H0.objs[b]? = some o → H2.objs[b]? = some o := fun b o ho => keep b o (by have := lt_of_obj ho; omega) (push_old _ (push_old _ (push_old _ (push_old _ (push_old _ (push_old _ ho))))))
  have k1 : H2.objs[H0.objs.length]? = some (.amap []) := keep _ _ (by omega) (push_old _ (push_old _ (push_old _ (push_old _ (push_old _ (push_new _ _))))))
  have k2 : H2.objs[(A1 H0).objs.length]? = some (.amap []) := keep _ _ (by omega) (push_old _ (push_old _ (push_old _ (push_old _ (push_new _ _)))))
  have k3 : H2.objs[(A2 H0).objs.length]? = some (.amap []) := keep _ _ (by omega) (push_old _ (push_old _ (push_old _ (push_new _ _))))
  have k4 : H2.objs[(A3 H0).objs.length]? = some (.amap []) := keep _ _ (by omega) (push_old _ (push_old _ (push_new _ _)))
  have k5 : H2.objs[(A4 H0).objs.length]? = some (.cells [.str [], .nils]) := keep _ _ (by omega) (push_old _ (push_new _ _))
  have k6 : H2.objs[(A5 H0).objs.length]? = some (.cells row) := keep _ _ (by omega) (push_new _ _)
  have k7 : H2.objs[(A6 H0 row).objs.length]? = some (.cells [.ptr (A5 H0).objs.length 0]) := setRow_same _ (push_new _ _)
  have ro2 : H2.ro = H0.ro := rfl
  have ncr : ∀ x, ¬ CRef (startC H0 r r0 row R k) H2 x := fun x ⟨es', rec, a1, a2⟩ => by
    have a1' : H2.objs[(A3 H0).objs.length]? = some (.amap es') := a1
    rw [k4] at a1'
    cases a1'
    cases a2
  refine ⟨⟨⟨(A4 H0).objs.length, .isl false inp.length (bytesV inp), .nils, ?_, ⟨_, rfl⟩, .inl ⟨rfl, rfl⟩, ?_, ?_, by simp, ?_⟩, ⟨rfl, by simp, fun k r x hk => by simp at hk, fun r hr => by simp at hr⟩, by simp, ?_, ⟨⟨es, k0 _ _ hr, hes⟩, ⟨[], k1, fun name p hp => by cases hp⟩, ⟨⟨[], k2, fun name l hl => by cases hl⟩, ?_, ?_, ncr _⟩, ?_, ?_, ?_, ?_⟩, ⟨⟨[], k3, fun name a ha => by cases ha⟩, ⟨[], k4, fun rec a ha => by cases ha⟩, ?_, ?_, ?_⟩, hf, ?_, by simp [startS], fun o ho => by simp [startS] at ho, ?_⟩, ⟨?_, ?_, ?_, ?_, ?_, ncr _⟩, rfl⟩
  · subst hrow
    exact k6
  · exact k5
  · show (A4 H0).objs.length ≠ (A5 H0).objs.length; omega
  · show H0.ro ≤ (A4 H0).objs.length; omega
  · show H0.ro ≤ (A5 H0).objs.length; omega
  · show (A1 H0).objs.length ≠ (A2 H0).objs.length; omega
  · show (A1 H0).objs.length ≠ (A3 H0).objs.length; omega
  · show r ≠ (A2 H0).objs.length; omega
  · show r ≠ (A3 H0).objs.length; omega
  · show H0.objs.length ≠ (A2 H0).objs.length; omega
  · show H0.objs.length ≠ (A3 H0).objs.length; omega
  · show (A2 H0).objs.length ≠ (A3 H0).objs.length; omega
  · show H0.ro ≤ (A2 H0).objs.length; omega
  · show H0.ro ≤ (A3 H0).objs.length; omega
  · show -9223372036854775808 ≤ (if room < 0 then 0 else room) ∧ (if room < 0 then 0 else room) ≤ 9223372036854775807
    split <;> omega
  · intro x hx
    have hx' : x = ((A6 H0 row).objs.length, [.ptr (A5 H0).objs.length 0]) ∨ x = (r0, [.nils, .int .i64 0, .int .i64 0]) := by
      have : x ∈ [((A6 H0 row).objs.length, [AVal.ptr (A5 H0).objs.length 0]), (r0, [AVal.nils, .int .i64 0, .int .i64 0])] := hx
      simpa using this
    rcases hx' with rfl | rfl
    · exact ⟨k7, rfl, by show H0.ro ≤ (A6 H0 row).objs.length; omega⟩
    · exact ⟨k0 _ _ hr0, rfl, hro⟩
  · show (A1 H0).objs.length ≠ r; omega
  · show (A1 H0).objs.length ≠ H0.objs.length; omega
  · show H0.ro ≤ (A1 H0).objs.length; omega
  · show H0.objs.length ≠ r; omega
  · show H0.ro ≤ H0.objs.length; omega
end Go.Wf
namespace Go.Wf
open Go Go.Den
variable {P : Prims} {F : Fn} {rows : List Nat} {s : St} {H : Heap}
theorem res17 {E : Den.Env} {B : List (List AVal)} {H : Heap} {r0 : Nat} {d : Dfs} {l : List AVal} {v : AVal} (ho : H.objs[r0]? = some (.cells l)) (h : readRow true 3 l 0 = some v) :
    Go.Den.results XK Go.Proofs.Tryz.f17 17 (stL E [(8, .ptr r0 0)] B Go.Proofs.Tryz.f17.ntmps d) H = some (.ret v, H) := by
  have e1 : XK.cfg.pureF 17 = false := by kernel_rfl
  have e2 : XK.cfg.freeze 17 = false := by kernel_rfl
  have e4 : resultOf XK (stL E [(8, .ptr r0 0)] B Go.Proofs.Tryz.f17.ntmps d) H (Go.Proofs.Tryz.f17.results.toList.headD (.tmp 0)) =
      (match (match H.objs[r0]? with | some (.cells l) => some (l, 0) | _ => none) with | some (l, off) => readRow true 3 l off | none => none) := by kernel_rfl
  have e5 : Go.Proofs.Tryz.f17.results.toList = [Go.Proofs.Tryz.f17.results.toList.headD (.tmp 0)] := by kernel_rfl
  rw [ho] at e4
  simp only [h] at e4
  unfold Go.Den.results
  rw [e1, cond_false, e5]
  simp only [mapO, e4, handBack, e2, cond_false]
def endOf : Rs Unit → Int × Int
  | .ok _ _ => (1, 0)
  | .stop e t _ => (e, t)
def stOf : Rs Unit → St
  | .ok _ s => s
  | .stop _ _ s => s
def OutR (v : AVal) (l : List UInt8) : Prop := (v = .nils ∧ l = []) ∨ v = .isl false l.length (bytesV l)
theorem OutV.strip {v : AVal} {l : List UInt8} (h : OutV v l) : OutR v.strip l := by
  rcases h with ⟨rfl, rfl⟩ | rfl
  · exact .inl ⟨rfl, rfl⟩
  · exact .inr rfl
theorem w_run (hP : PK P) (m : Md) (k : Nat) (hR : ∀ C : EC, C.E.R = recsOf [m] → C.E.k = k → RecK P C) (hm : short m) (hv0 : AVal) (inp : List UInt8) (hin : InW hv0 inp) (hil : inp.length ≤ most) (room fuel : Int) (hf : -9223372036854775808 ≤ fuel ∧ fuel ≤ 9223372036854775807) (hro : -9223372036854775808 ≤ room ∧ room ≤ 9223372036854775807)
    (n1 : Nat) (c1 : List AVal) (n2 : Nat) (c2 : List AVal) (n3 : Nat) (c3 : List AVal) (r : Rs Unit) (hs : runS k [m] (startS room fuel inp) = some r) (H : Heap) (hH : H.ro ≤ H.objs.length) :
    ∃ ov H', Ev P 17 [hv0, .int .i64 room, .int .i64 fuel, .isl false 1 (encMd m n1 c1 n2 c2 n3 c3)] H (.ret (.agg [ov, .int .i64 (endOf r).1, .int .i64 (endOf r).2])) H' ∧ OutR ov (stOf r).out := by
  have hp := hP.pl 17 rfl
  -- records
  obtain ⟨H0, es, e27, q1, q2, q3, q4, q5⟩ := w_recs (hP.pl 27 rfl) m hm n1 c1 n2 c2 n3 c3 (H.push (.cells [.nils, .int .i64 0, .int .i64 0])) (by simp; omega)
  have hr0 : H0.objs[H.objs.length]? = some (.cells [.nils, .int .i64 0, .int .i64 0]) := by rw [q2 _ (by simp)]; exact push_new _ _
  have ro0 : H0.ro = H.ro := by rw [q3]; rfl
  obtain ⟨H2, st2, re2, ap2, ro2⟩ := RE.start H0 _ H.objs.length es (recsOf [m]) k room fuel inp q1 q5 hr0 (by rw [ro0]; exact hH) hf hro
  generalize hC : startC H0 (H.push (.cells [.nils, .int .i64 0, .int .i64 0])).objs.length H.objs.length (rowOf H0 (H.push (.cells [.nils, .int .i64 0, .int .i64 0])).objs.length room fuel inp) (recsOf [m]) k = C at *
  have hCR : C.E.R = recsOf [m] := by rw [← hC]; rfl
  have hCk : C.E.k = k := by rw [← hC]; rfl
  have hCm : C.m = (A5 H0).objs.length := by rw [← hC]; rfl
  have hb : ((A6 H0 (rowOf H0 (H.push (.cells [.nils, .int .i64 0, .int .i64 0])).objs.length room fuel inp)).objs.length, [AVal.ptr C.m 0]) ∈ C.side := by rw [← hC]; exact List.mem_cons_self
  have hb0 : (H.objs.length, [AVal.nils, .int .i64 0, .int .i64 0]) ∈ C.side := by rw [← hC]; exact List.mem_cons_of_mem _ List.mem_cons_self
  have e28 := hP.clone hv0 inp (A5 H0) hil hin
  -- variables
  have hs' : (do let g ← varsOf ⟨recsOf [m], k, [], procsOf [m]⟩ [m] []; bodiesS (lvl ⟨recsOf [m], k, g, procsOf [m]⟩ k) [m] : M Unit) (startS room fuel inp) = some r := hs
  have nov : ∀ {s : St} {t u : Int} {s1 : St}, varsOf ⟨recsOf [m], k, [], procsOf [m]⟩ [m] [] s = some (.stop t u s1) → s = startS room fuel inp → False := fun {s t u s1} hv hs0 => by
    subst hs0
    have hv' : (varsIn ⟨recsOf [m], k, [], procsOf [m]⟩ m.name m.vars [] >>= fun g => varsOf ⟨recsOf [m], k, [], procsOf [m]⟩ [] g) (startS room fuel inp) = some (.stop t u s1) := hv
    rcases bind_ok hv' with ⟨g, s2, h1, h2⟩ | ⟨t', u', s2, h1, h2⟩
    · cases pure_ok h2
    · obtain ⟨_, _, q, _⟩ := w_vars (C := C) hP (fun g ps => hR _ hCR hCk) m hm n1 c1 n2 c2 n3 c3 H.objs.length _ hb ⟨recsOf [m], k, [], procsOf [m]⟩ hCR.symm hCk.symm [] m.vars 0 [] rfl _ _ h1 [] H2 re2 ap2
      cases q
  rcases bind_ok hs' with ⟨g, s1, hs1, hs2⟩ | ⟨t, u, s1, hs1, rfl⟩
  rotate_left
  · exact (nov hs1 rfl).elim
  have hv' : (varsIn ⟨recsOf [m], k, [], procsOf [m]⟩ m.name m.vars [] >>= fun g => varsOf ⟨recsOf [m], k, [], procsOf [m]⟩ [] g) (startS room fuel inp) = some (.ok g s1) := hs1
  rcases bind_ok hv' with ⟨g', s2, h1, h2⟩ | ⟨t', u', s2, h1, h2⟩
  rotate_left
  · cases h2
  cases pure_ok h2
  obtain ⟨_, _, q, rows3, H3, l3, re3, ap3, ro3⟩ := w_vars (C := C) hP (fun g ps => hR _ hCR hCk) m hm n1 c1 n2 c2 n3 c3 H.objs.length _ hb ⟨recsOf [m], k, [], procsOf [m]⟩ hCR.symm hCk.symm [] m.vars 0 [] rfl _ _ h1 [] H2 re2 ap2
  cases q
  -- procedures
  obtain ⟨H4, l4, re4, ap4, ro4⟩ := w_procs (P := P) (C := C) m hm n1 c1 n2 c2 n3 c3 H.objs.length _ hb g m.procs 0 [] rfl H3 re3 ap3
  have hps : ((m.procs.map fun p => (dotted m.name p.name, p)).reverse ++ []) = procsOf [m] := by simp [procsOf]
  rw [hps] at re4
  have hEnv : (C.at g (procsOf [m])).E = ⟨recsOf [m], k, g, procsOf [m]⟩ := by
    show (⟨C.E.R, C.E.k, g, procsOf [m]⟩ : Env) = _
    rw [hCR, hCk]
  -- the body
  have hbx : ((A6 H0 (rowOf H0 (H.push (.cells [.nils, .int .i64 0, .int .i64 0])).objs.length room fuel inp)).objs.length, [AVal.ptr C.m 0]) ∈ (C.at g (procsOf [m])).side := hb
  have o5 := re4.box hbx
  obtain ⟨pf, nf⟩ := re4.frame
  have hs3 : (do (lvl ⟨recsOf [m], k, g, procsOf [m]⟩ k).body [] m.body; pure () : M Unit) s1 = some r := hs2
  rw [← hEnv] at hs3
  have IS := (w_lvl hP (hR (C.at g (procsOf [m])) hCR hCk) k).2
  rw [hCm] at o5
  have i1 : hstore (A7 H0 (rowOf H0 (H.push (.cells [.nils, .int .i64 0, .int .i64 0])).objs.length room fuel inp)) (A6 H0 (rowOf H0 (H.push (.cells [.nils, .int .i64 0, .int .i64 0])).objs.length room fuel inp)).objs.length 0 [.ptr (A5 H0).objs.length 0] = some H2 := st2
  rcases bind_ok hs3 with ⟨_, s2, hs4, hs5⟩ | ⟨t, u, s2, hs4, rfl⟩
  · cases pure_ok hs5
    obtain ⟨rows5, H5, v5, e5, qv, p5⟩ := IS.body _ _ _ _ hs4 rows3 _ H4.objs.length pf.re nf.fe
    cases qv
    have e5' : Ev P 31 [.ptr (A5 H0).objs.length 0, .map H4.objs.length, .isl false m.body.length (encSms m.body)] (H4.push (.amap [])) (.ret (.tup [])) H5 := by rw [← hCm]; exact e5
    have o7 := p5.re.box hbx
    obtain ⟨th, iv, ov, x1, x2, x3, _⟩ := p5.re.mach
    have o8 : hload H5 false 1 (A5 H0).objs.length 8 = some ov.strip := by rw [← hCm]; exact hload_of x1 rfl
    rw [hCm] at o7
    have sd := p5.re.side _ hb0
    have o9 := fun ov' => hstore_list (off := 0) (cs := [ov', .int .i64 1, .int .i64 0]) sd.1 sd.2.2 (by simp)
    have hrec := fun ov' => rec29 (P := P) (caps := [.ptr (A6 H0 (rowOf H0 (H.push (.cells [.nils, .int .i64 0, .int .i64 0])).objs.length room fuel inp)).objs.length 0, .ptr H.objs.length 0]) (v := .nili) rfl (l := [(0, .ptr (A6 H0 (rowOf H0 (H.push (.cells [.nils, .int .i64 0, .int .i64 0])).objs.length room fuel inp)).objs.length 0), (1, .ptr H.objs.length 0), (2, .nili), (5, .nili)]) ⟨rfl, rfl, rfl, rfl, trivial⟩
      (d0_29_0 (H := H5.setRow H.objs.length (putAt [.nils, .int .i64 0, .int .i64 0] 0 [ov', .int .i64 1, .int .i64 0])))
    have hx := x3.strip
    rcases x3 with ⟨rfl, ho⟩ | rfl
    · refine ⟨.nils, _, ev_run_def (bx' := ⟨[encMd m n1 c1 n2 c2 n3 c3], true⟩) (l := [(0, hv0), (1, .int .i64 room), (2, .int .i64 fuel), (3, .isl false 1 (encMd m n1 c1 n2 c2 n3 c3))]) hp Go.Proofs.Tryz.func17 (by kernel_rfl) (by kernel_rfl) ⟨rfl, rfl, rfl, rfl, trivial⟩ (.inl ⟨.inr rfl, rfl⟩) ?_ (hrec .nils) (fun E B hB => res17 (setRow_same _ sd.1) rfl), hx⟩
      cases hin
      exact p17_0 e27 e28 i1 l3 l4 o5 e5' o7 o8 (o9 _)
    · refine ⟨.isl false s2.out.length (bytesV s2.out), _, ev_run_def (bx' := ⟨[encMd m n1 c1 n2 c2 n3 c3], true⟩) (l := [(0, hv0), (1, .int .i64 room), (2, .int .i64 fuel), (3, .isl false 1 (encMd m n1 c1 n2 c2 n3 c3))]) hp Go.Proofs.Tryz.func17 (by kernel_rfl) (by kernel_rfl) ⟨rfl, rfl, rfl, rfl, trivial⟩ (.inl ⟨.inr rfl, rfl⟩) ?_ (hrec (.isl false s2.out.length (bytesV s2.out))) (fun E B hB => res17 (setRow_same _ sd.1) rfl), hx⟩
      cases hin
      exact p17_1 e27 e28 i1 l3 l4 o5 e5' o7 o8 (o9 _)
  · obtain ⟨H5, e5, oe⟩ := IS.body _ _ _ _ hs4 rows3 _ H4.objs.length pf.re nf.fe
    have e5' : Ev P 31 [.ptr (A5 H0).objs.length 0, .map H4.objs.length, .isl false m.body.length (encSms m.body)] (H4.push (.amap [])) (.panic (over t u)) H5 := by rw [← hCm]; exact e5
    obtain ⟨⟨row, ov, x1, x2, x3⟩, sd⟩ := oe
    have sb := sd _ hb
    have s0 := sd _ hb0
    have o7 : hload H5 false 1 (A6 H0 (rowOf H0 (H.push (.cells [.nils, .int .i64 0, .int .i64 0])).objs.length room fuel inp)).objs.length 0 = some (.ptr (A5 H0).objs.length 0) := by rw [← hCm]; exact hload_of' sb.1 rfl rfl
    have o8 : hload H5 false 1 (A5 H0).objs.length 8 = some ov.strip := by rw [← hCm]; exact hload_of x1 x2
    have o9 := fun ov' => hstore_list (off := 0) (cs := [ov', .int .i64 t, .int .i64 u]) s0.1 s0.2.2 (by simp)
    have hx := x3.strip
    have hrec := fun ov' (h : RunEv P 29 (cdB (bodyOf Go.Proofs.Tryz.f29)) 25 [] [(0, .ptr (A6 H0 (rowOf H0 (H.push (.cells [.nils, .int .i64 0, .int .i64 0])).objs.length room fuel inp)).objs.length 0), (1, .ptr H.objs.length 0), (2, over t u), (5, over t u)] ⟨[], false⟩ H5 .normal [] [] ⟨[[.int .i64 t, .int .i64 u]], false⟩ (H5.setRow H.objs.length (putAt [.nils, .int .i64 0, .int .i64 0] 0 [ov', .int .i64 t, .int .i64 u]))) =>
      rec29 (P := P) (caps := [.ptr (A6 H0 (rowOf H0 (H.push (.cells [.nils, .int .i64 0, .int .i64 0])).objs.length room fuel inp)).objs.length 0, .ptr H.objs.length 0]) (v := over t u) rfl (l := [(0, .ptr (A6 H0 (rowOf H0 (H.push (.cells [.nils, .int .i64 0, .int .i64 0])).objs.length room fuel inp)).objs.length 0), (1, .ptr H.objs.length 0), (2, over t u), (5, over t u)]) ⟨rfl, rfl, rfl, rfl, trivial⟩ h
    rcases x3 with ⟨rfl, ho⟩ | rfl
    · refine ⟨.nils, _, ev_run_def (bx' := ⟨[], true⟩) (l := [(0, hv0), (1, .int .i64 room), (2, .int .i64 fuel), (3, .isl false 1 (encMd m n1 c1 n2 c2 n3 c3))]) hp Go.Proofs.Tryz.func17 (by kernel_rfl) (by kernel_rfl) ⟨rfl, rfl, rfl, rfl, trivial⟩ (.inr rfl) ?_ (hrec .nils (d1_29_0 o7 o8 (o9 _))) (fun E B hB => res17 (setRow_same _ s0.1) rfl), hx⟩
      cases hin
      exact p17_2 e27 e28 i1 l3 l4 o5 e5'
    · refine ⟨.isl false s2.out.length (bytesV s2.out), _, ev_run_def (bx' := ⟨[], true⟩) (l := [(0, hv0), (1, .int .i64 room), (2, .int .i64 fuel), (3, .isl false 1 (encMd m n1 c1 n2 c2 n3 c3))]) hp Go.Proofs.Tryz.func17 (by kernel_rfl) (by kernel_rfl) ⟨rfl, rfl, rfl, rfl, trivial⟩ (.inr rfl) ?_ (hrec (.isl false s2.out.length (bytesV s2.out)) (d1_29_1 o7 o8 (o9 _))) (fun E B hB => res17 (setRow_same _ s0.1) rfl), hx⟩
      cases hin
      exact p17_2 e27 e28 i1 l3 l4 o5 e5'
end Go.Wf

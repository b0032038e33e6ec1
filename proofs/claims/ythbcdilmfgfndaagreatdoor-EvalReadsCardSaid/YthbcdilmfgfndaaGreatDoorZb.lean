/-
  DEN, PART M: the operations that make a block: new variables, maps, rows.
-/
import Derived.Test.YthbcdilmfgfndaaGreatDoorZa
import Derived.Laws.Append
import Derived.Recover
import Derived.LoopN
set_option linter.unusedSimpArgs false
set_option linter.unusedVariables false
namespace Go.Den
open Go
variable {E : Emb} {β : Nat → Option Nat} {X : Ctx} {w : World} {s : FS} {h : Heap} {a : Act} {f : FuncId}
def pushed (w : World) (o : Obj) : World := { w with heap := w.heap.push o }
@[simp] theorem pushed_heap (w : World) (o : Obj) : (pushed w o).heap = w.heap.push o := rfl
theorem run_newObj {P : Program} (o : Obj) : (newObj o).run P w = .ok w.heap.size (pushed w o) := rfl
theorem run_newVar {P : Program} (t : TypeId) (v : Value) : (newVar t v).run P w = .ok ⟨w.heap.size, 0, none⟩ (pushed w (.cells v.cells t)) := rfl
theorem run_newRow {P : Program} (t : TypeId) (c : Array Value) : (newRow t c).run P w = .ok ⟨w.heap.size, 0, none⟩ (pushed w (.cells c t)) := rfl
theorem lt_ρ (hH : HRel E w.heap h) : (E.addObj h.objs.length w.heap.size).ρ h.objs.length = some w.heap.size := by simp [Emb.addObj]
theorem new_obj (hH : HRel E w.heap h) (hF : FRel E β w.heap s a) (o : Obj) (ob : AObj)
    (ho : ORel (E.addObj h.objs.length w.heap.size) (w.heap.push o) h.objs.length ob) :
    HRel (E.addObj h.objs.length w.heap.size) (pushed w o).heap (h.push ob) ∧ FRel (E.addObj h.objs.length w.heap.size) β (pushed w o).heap s a ∧
      Ext E w (E.addObj h.objs.length w.heap.size) (pushed w o) :=
  ⟨hH.addObj o ob ho, hF.agree (Agree.addObj hH o), (Agree.addObj hH o).ext rfl rfl rfl⟩
theorem new_row (hH : HRel E w.heap h) (hF : FRel E β w.heap s a) (c : Array Value) (t : TypeId) (l : List AVal) (hl : l.length ≤ c.size)
    (hc : ∀ (j : Nat) v y, l[j]? = some v → c[j]? = some y → v.atom = true ∧ VRel E w.heap v y ∧ Spare1 E w.heap (.spareH h.objs.length j) v y) :
    HRel (E.addObj h.objs.length w.heap.size) (pushed w (.cells c t)).heap (h.push (.cells l)) ∧ FRel (E.addObj h.objs.length w.heap.size) β (pushed w (.cells c t)).heap s a ∧
      Ext E w (E.addObj h.objs.length w.heap.size) (pushed w (.cells c t)) := by
  refine new_obj hH hF _ _ ⟨w.heap.size, c, t, lt_ρ hH, by simp [Emb.addObj], by simp, hl, fun j v hj => ?_⟩
  have hlt : j < c.size := Nat.lt_of_lt_of_le (List.getElem?_eq_some_iff.1 hj).1 hl
  obtain ⟨h1, h2, h3⟩ := hc j v c[j] hj (Array.getElem?_eq_getElem hlt)
  have ha : Agree E w.heap (E.addObj h.objs.length w.heap.size) (w.heap.push (.cells c t)) := Agree.addObj hH _
  exact ⟨h1, _, Array.getElem?_eq_getElem hlt, h2.mono ha.mono, h3.mono fun B k => ha.spare⟩
theorem new_box (hH : HRel E w.heap h) (hF : FRel E β w.heap s a) (c : Array Value) (t : TypeId) (l : List AVal) (hl : c.size = l.length)
    (hc : ∀ (j : Nat) v y, l[j]? = some v → c[j]? = some y → v.atom = true ∧ VRel E w.heap v y ∧ v.strip = v) :
    HRel (E.addBox s.boxes.length w.heap.size) (pushed w (.cells c t)).heap h ∧
      FRel (E.addBox s.boxes.length w.heap.size) (fun i => if i = s.boxes.length then some w.heap.size else β i) (pushed w (.cells c t)).heap { s with boxes := s.boxes ++ [l] } a ∧
      Ext E w (E.addBox s.boxes.length w.heap.size) (pushed w (.cells c t)) := by
  have ha : Agree E w.heap (E.addBox s.boxes.length w.heap.size) (w.heap.push (.cells c t)) := Agree.addBox _ _
  refine ⟨hH.keep ha rfl, ?_, ha.ext rfl rfl rfl⟩
  have hF' := hF.agree ha
  refine ⟨hF'.size, fun t' => ⟨?_, (hF'.tmp t').2⟩, ?_, ?_, hF'.defs⟩
  · rcases (hF'.tmp t').1 with h1 | ⟨i, off, B, e, hβ, hx⟩
    · exact .inl h1
    · refine .inr ⟨i, off, B, e, ?_, hx⟩
      have := hF.brng i B hβ
      simp [Nat.ne_of_lt this, hβ]
  · intro i l' hi
    rw [List.getElem?_append] at hi
    split at hi
    · rename_i hlt
      obtain ⟨B, h1, h2⟩ := hF'.box i l' hi
      exact ⟨B, by simp [Nat.ne_of_lt hlt, h1], h2⟩
    · rename_i hge
      have hi' : i = s.boxes.length := by
        have := (List.getElem?_eq_some_iff.1 hi).1
        simp at this; omega
      subst hi'
      simp at hi; subst hi
      refine ⟨w.heap.size, by simp, c, t, by simp [Emb.addBox], by simp, hl, fun j v hj => ?_⟩
      have hlt : j < c.size := by rw [hl]; exact (List.getElem?_eq_some_iff.1 hj).1
      obtain ⟨h1, h2, h3⟩ := hc j v c[j] hj (Array.getElem?_eq_getElem hlt)
      exact ⟨h1, _, Array.getElem?_eq_getElem hlt, h2.mono ha.mono, .of_strip h3⟩
  · intro i B hi
    split at hi
    · rename_i e; subst e; simp
    · have := hF.brng i B hi; simp; omega
theorem strip_of_stripA {cs : List AVal} {v : AVal} (h : (AVal.agg cs).stripA = .agg cs) (hv : v ∈ cs) : v.strip = v := by
  simp only [AVal.stripA, AVal.agg.injEq] at h
  obtain ⟨j, hj⟩ := List.getElem?_of_mem hv
  have := congrArg (fun l => l[j]?) h
  simp only [List.getElem?_map, hj, Option.map_some] at this
  exact Option.some.inj this
theorem cells_strip {v u : AVal} {j : Nat} (h : v.stripA = v) (hn : v.isLoc = false) (hu : v.cells[j]? = some u) : u.strip = u := by
  cases hv : v with
  | agg cs => subst hv; exact strip_of_stripA h (List.mem_of_getElem? hu)
  | tup vs => subst hv; cases hn
  | loc i off => subst hv; cases hn
  | _ =>
    have hat : v.atom = true := by rw [hv]; rfl
    rw [atom_cells hat] at hu
    cases j with
    | zero => simp at hu; subst hu; rw [← atom_stripA hat]; exact h
    | succ j => simp at hu
theorem step_alloc {o : Oper} {t : TypeId} {z : AVal} {d : Nat} {out : Out} (hH : HRel E w.heap h) (hF : FRel E β w.heap s a) (ho : o.op = .alloc t) (hz : tyZero X.P t = some z) (hd : o.dst = some d) (hzl : z.isLoc = false)
    (hc : (cond (X.cfg.heapy f d) (cont? (s.put o.dst (.ptr h.objs.length 0)) (h.push (.cells z.cells)))
        (cont? ({ s with boxes := s.boxes ++ [z.cells] }.put o.dst (.loc s.boxes.length 0)) h)) = some out) : o.wp X.P a w (NextOK E w out) (PanicOK E w out) := by
  obtain ⟨zc, hzr, hzc⟩ := run_zeroValue' hz
  have hr : (execOp a.eval o).run X.P w = .ok (.value (.pointer (some ⟨w.heap.size, 0, none⟩))) (pushed w (.cells zc.cells t)) := by
    simp [execOp, ho, Instr.alloc, hzr, run_newVar]
  obtain ⟨z1, z2⟩ := constOf_rel (E := E) (hp := w.heap) hzc
  obtain ⟨c1, c2, c3⟩ := cellsOf_rel (keep := true) (T := fun _ => .junk) z1 hzl fun _ => .of_strip z2
  cases hh : X.cfg.heapy f d with
  | true =>
    rw [hh] at hc
    obtain ⟨s', hs, rfl⟩ := cont_some hc
    obtain ⟨k1, k2, k3⟩ := new_row hH hF zc.cells t z.cells (Nat.le_of_eq c1.symm) (fun j v y hv hy => by
      obtain ⟨e1, e2, _⟩ := c3 j v y hv hy
      exact ⟨e1, e2, .of_strip (cells_strip z2 hzl hv)⟩)
    exact wp_value hr ⟨s', _, _, β, rfl, k1, k2.put hs (.inl (.ptr _ _ _ (lt_ρ hH))) fun t _ => .of_strip rfl, k3⟩
  | false =>
    rw [hh] at hc
    obtain ⟨s', hs, rfl⟩ := cont_some hc
    obtain ⟨k1, k2, k3⟩ := new_box hH hF zc.cells t z.cells c1 (fun j v y hv hy => by
      obtain ⟨e1, e2, _⟩ := c3 j v y hv hy
      exact ⟨e1, e2, cells_strip z2 hzl hv⟩)
    exact wp_value hr ⟨s', _, _, _, rfl, k1, k2.put hs (.inr ⟨s.boxes.length, 0, w.heap.size, rfl, by simp, rfl⟩) fun t _ => .of_strip rfl, k3⟩
theorem step_box {o : Oper} {t : TypeId} {x : Operand} {v : AVal} {d : Nat} {out : Out} (hH : HRel E w.heap h) (hF : FRel E β w.heap s a) (ho : o.op = .box t x) (hx : opnd s.env x = some v) (hd : o.dst = some d) (hvl : v.isLoc = false)
    (hc : (cond (X.cfg.heapy f d)
        (cont? ((cond (isLin X f x) (s.drop x) s).put o.dst (.ptr h.objs.length 0)) (h.push (.cells (cellsOf (isLin X f x) v))))
        (cont? ({ s with boxes := s.boxes ++ [v.cells.map AVal.strip] }.put o.dst (.loc s.boxes.length 0)) h)) = some out) : o.wp X.P a w (NextOK E w out) (PanicOK E w out) := by
  have hr : (execOp a.eval o).run X.P w = .ok (.value (.pointer (some ⟨w.heap.size, 0, none⟩))) (pushed w (.cells (a.eval x).cells t)) := by
    simp [execOp, ho, Instr.box, run_newVar]
  cases hh : X.cfg.heapy f d with
  | true =>
    rw [hh] at hc
    obtain ⟨s', hs, rfl⟩ := cont_some hc
    have key : ∃ E', HRel E' w.heap h ∧ FRel E' β w.heap (cond (isLin X f x) (s.drop x) s) a ∧ Ext E w E' w ∧ (isLin X f x = true → SpareV E' w.heap (.spareH h.objs.length) v (a.eval x)) := by
      cases isLin X f x with
      | true =>
        obtain ⟨E', h1, h2, h3, h4, _⟩ := take_out hH hF hx (.spareH h.objs.length)
        exact ⟨E', h1, h2, h3, fun _ => h4⟩
      | false => exact ⟨E, hH, hF, Ext.refl _ _, fun h => by cases h⟩
    obtain ⟨E', h1, h2, h3, h4⟩ := key
    have hv := ((opnd_rel hF hx).mono h3.mono).val hvl
    obtain ⟨c1, c2, c3⟩ := cellsOf_rel hv hvl h4
    obtain ⟨k1, k2, k3⟩ := new_row h1 h2 (a.eval x).cells t (cellsOf (isLin X f x) v) (by omega) (fun j v y hv hy => c3 j v y hv hy)
    exact wp_value hr ⟨s', _, _, β, rfl, k1, k2.put hs (.inl (.ptr _ _ _ (lt_ρ h1))) fun t _ => .of_strip rfl, h3.trans k3⟩
  | false =>
    rw [hh] at hc
    obtain ⟨s', hs, rfl⟩ := cont_some hc
    obtain ⟨c1, c2, c3⟩ := cellsOf_rel (keep := false) (T := fun _ => .junk) ((opnd_rel hF hx).val hvl) hvl fun h => by cases h
    obtain ⟨k1, k2, k3⟩ := new_box hH hF (a.eval x).cells t (v.cells.map AVal.strip) (by simp [c1]) (fun j u y hv hy => by
      obtain ⟨e1, e2, _⟩ := c3 j u y hv hy
      refine ⟨e1, e2, ?_⟩
      rw [List.getElem?_map] at hv
      cases h3 : v.cells[j]? with
      | none => rw [h3] at hv; cases hv
      | some u' => rw [h3] at hv; cases hv; exact strip_strip _)
    exact wp_value hr ⟨s', _, _, _, rfl, k1, k2.put hs (.inr ⟨s.boxes.length, 0, w.heap.size, rfl, by simp, rfl⟩) fun t _ => .of_strip rfl, k3⟩
theorem step_makeMap {o : Oper} {t kt et : TypeId} {out : Out} (hH : HRel E w.heap h) (hF : FRel E β w.heap s a) (ho : o.op = .makeMap t none) (hu : X.P.underlying t = some (.map kt et))
    (hc : cont? (s.put o.dst (.map h.objs.length)) (h.push (.amap [])) = some out) : o.wp X.P a w (NextOK E w out) (PanicOK E w out) := by
  have hr : (execOp a.eval o).run X.P w = .ok (.value (.map (some w.heap.size))) (pushed w (.map #[] 0)) := by
    simp [execOp, ho, Instr.makeMap, run_newObj]
    rfl
  obtain ⟨s', hs, rfl⟩ := cont_some hc
  obtain ⟨k1, k2, k3⟩ := new_obj hH hF (.map #[] 0) (.amap []) ⟨w.heap.size, #[], 0, lt_ρ hH, by simp [Emb.addObj], by simp, trivial⟩
  exact wp_value hr ⟨s', _, _, β, rfl, k1, k2.put hs (.inl (.map _ _ (lt_ρ hH))) fun t _ => .of_strip rfl, k3⟩
theorem step_defer {o : Oper} {x : Operand} {g : FuncId} {caps : List AVal} {ts : Array TypeId} {out : Out} (hH : HRel E w.heap h) (hF : FRel E β w.heap s a)
    (ho : o.op = .defer { callee := .value x, args := #[], argTypes := ts }) (hx : opnd s.env x = some (.fn g caps))
    (hc : cont? ({ s with defs := (g, caps) :: s.defs }.put o.dst undefA) h = some out) : o.wp X.P a w (NextOK E w out) (PanicOK E w out) := by
  obtain ⟨s', hs, rfl⟩ := cont_some hc
  have hr := (opnd_rel hF hx).val rfl
  generalize hz : a.eval x = z at hr
  cases hr with
  | fn _ _ us hl hvv ha =>
    have hrun : (execOp a.eval o).run X.P w = .ok (.defer { target := .fn (.func g) us, args := #[] }) w := by
      simp [execOp, ho, resolve, hz, Deferred.ofValue]
    unfold Oper.wp
    rw [hrun]
    have hF2 : FRel E β w.heap { s with defs := (g, caps) :: s.defs } { a with defers := { target := .fn (.func g) us, args := #[] } :: a.defers } :=
      ⟨hF.size, hF.tmp, hF.box, hF.brng, ⟨us, rfl, rfl, .fn g caps us hl hvv ha⟩, hF.defs⟩
    exact ⟨s', h, E, β, rfl, hH, hF2.put hs (.inl .undef) fun t _ => .of_strip rfl, Ext.refl _ _⟩
end Go.Den
namespace Go.Den
open Go
variable {E : Emb} {β : Nat → Option Nat} {X : Ctx} {w : World} {s : FS} {h : Heap} {a : Act} {f : FuncId}
theorem fold_set_list (off : Nat) : ∀ (vs : List Value) (k : Nat) (cells : Array Value), off + k + vs.length ≤ cells.size →
    ((vs.zipIdx k).foldl (fun cs (p : Value × Nat) => cs.setIfInBounds (off + p.2) p.1) cells).size = cells.size ∧
    ∀ i : Nat, ((vs.zipIdx k).foldl (fun cs (p : Value × Nat) => cs.setIfInBounds (off + p.2) p.1) cells)[i]? = if off + k ≤ i ∧ i < off + k + vs.length then vs[i - (off + k)]? else cells[i]?
  | [], k, cells, _ => by
    refine ⟨rfl, fun i => ?_⟩
    rw [if_neg (by simp only [List.length_nil]; omega)]
    simp
  | v :: vs, k, cells, hle => by
    simp only [List.length_cons] at hle
    obtain ⟨h1, h2⟩ := fold_set_list off vs (k + 1) (cells.setIfInBounds (off + k) v) (by simp; omega)
    simp only [List.zipIdx_cons, List.foldl_cons]
    refine ⟨by rw [h1]; simp, fun i => ?_⟩
    rw [h2 i]
    simp only [List.length_cons]
    by_cases hc : off + (k + 1) ≤ i ∧ i < off + (k + 1) + vs.length
    · rw [if_pos hc, if_pos (by omega), show i - (off + k) = (i - (off + (k + 1))) + 1 by omega, List.getElem?_cons_succ]
    · rw [if_neg hc]
      by_cases hi : i = off + k
      · subst hi
        rw [if_pos (by omega), Array.getElem?_setIfInBounds_self_of_lt (by omega)]
        simp
      · rw [if_neg (by omega), Array.getElem?_setIfInBounds_ne (by omega)]
theorem fold_set (off : Nat) (vs cells : Array Value) (hle : off + vs.size ≤ cells.size) :
    (vs.zipIdx.foldl (fun cs (p : Value × Nat) => cs.setIfInBounds (off + p.2) p.1) cells).size = cells.size ∧
    ∀ i : Nat, (vs.zipIdx.foldl (fun cs (p : Value × Nat) => cs.setIfInBounds (off + p.2) p.1) cells)[i]? = if off ≤ i ∧ i < off + vs.size then vs[i - off]? else cells[i]? := by
  have h := fold_set_list off vs.toList 0 cells (by simpa using hle)
  rw [← Array.foldl_toList, Array.toList_zipIdx]
  simpa using h
theorem fill_one {hp : HP} {T : Nat → Tag} {zs cs : List AVal} {us vs : Array Value} {off : Nat} (hz : us.size = zs.length) (hc : CellsRel E hp T zs us) (hl : vs.size = cs.length) (hle : off + cs.length ≤ zs.length)
    (hv : ∀ (j : Nat) u y, cs[j]? = some u → vs[j]? = some y → u.atom = true ∧ VRel E hp u y ∧ Spare1 E hp (T (off + j)) u y) :
    (vs.zipIdx.foldl (fun cs (p : Value × Nat) => cs.setIfInBounds (off + p.2) p.1) us).size = (putAt zs off cs).length ∧
    CellsRel E hp T (putAt zs off cs) (vs.zipIdx.foldl (fun cs (p : Value × Nat) => cs.setIfInBounds (off + p.2) p.1) us) := by
  obtain ⟨h1, h2⟩ := fold_set off vs us (by omega)
  refine ⟨by rw [h1, putAt_length, hz], fun j v hj => ?_⟩
  rw [putAt_get cs zs off j hle] at hj
  rw [h2 j]
  by_cases hin : off ≤ j ∧ j < off + cs.length
  · rw [if_pos hin] at hj
    rw [if_pos (by omega)]
    have hlt : j - off < vs.size := by omega
    obtain ⟨h3, h4, h5⟩ := hv (j - off) v vs[j - off] hj (Array.getElem?_eq_getElem hlt)
    refine ⟨h3, _, Array.getElem?_eq_getElem hlt, h4, ?_⟩
    rwa [show off + (j - off) = j by omega] at h5
  · rw [if_neg hin] at hj
    rw [if_neg (by omega)]
    exact hc j v hj
theorem fillS_rel {P : Program} {lin : Operand → Bool} {fields : Array Field} {place : Nat → Option (Nat × Nat)} (hpl : ∀ (i : Nat) (fd : Field) n, fields[i]? = some fd → tySize P fd.type = some n → place i = some (fd.offset, n)) :
    ∀ (parts : List (Nat × Operand)) (E : Emb) (s : FS) (zs : List AVal) (us : Array Value) (cs : List AVal) (s' : FS), HRel E w.heap h → FRel E β w.heap s a → us.size = zs.length → CellsRel E w.heap .spareR zs us →
      fillS P lin fields s zs parts = some (cs, s') →
      ∃ E' us', Instr.fill place us (parts.map fun p => (p.1, a.eval p.2)) = some us' ∧ us'.size = cs.length ∧ CellsRel E' w.heap .spareR cs us' ∧ HRel E' w.heap h ∧ FRel E' β w.heap s' a ∧ Ext E w E' w
  | [], E, s, zs, us, cs, s', hH, hF, hz, hc, hf => by
    simp [fillS] at hf
    obtain ⟨rfl, rfl⟩ := hf
    exact ⟨E, us, rfl, hz, hc, hH, hF, Ext.refl _ _⟩
  | (i, x) :: rest, E, s, zs, us, cs, s', hH, hF, hz, hc, hf => by
    unfold fillS at hf
    split at hf
    · rename_i fd v hfd hx
      split at hf
      · rename_i n hn
        cases hcond : (Nat.beq v.cells.length n && Nat.ble (fd.offset + n) zs.length && !v.isLoc) with
        | false => rw [hcond] at hf; cases hf
        | true =>
          rw [hcond] at hf
          simp only [Bool.and_eq_true, Nat.beq_eq, Nat.ble_eq, Bool.not_eq_true'] at hcond
          obtain ⟨⟨hc1, hc2⟩, hc3⟩ := hcond
          simp only [cond_true] at hf
          have key : ∃ E', HRel E' w.heap h ∧ FRel E' β w.heap (cond (lin x) (s.drop x) s) a ∧ Ext E w E' w ∧ (lin x = true → SpareV E' w.heap (fun j => .spareR (fd.offset + j)) v (a.eval x)) ∧ CellsRel E' w.heap .spareR zs us := by
            cases lin x with
            | true =>
              obtain ⟨E', h1, h2, h3, h4, h5⟩ := take_out hH hF hx (fun j => .spareR (fd.offset + j))
              exact ⟨E', h1, h2, h3, fun _ => h4, hc.mono h3.mono fun B k j => h5 B k _ (fun t j e => by cases e)⟩
            | false => exact ⟨E, hH, hF, Ext.refl _ _, fun h => (by cases h), hc⟩
          obtain ⟨E', h1, h2, h3, h4, h5⟩ := key
          have hv := ((opnd_rel hF hx).mono h3.mono).val hc3
          obtain ⟨c1, c2, c3⟩ := cellsOf_rel (keep := lin x) hv hc3 h4
          obtain ⟨f1, f2⟩ := fill_one (off := fd.offset) hz h5 (cs := cellsOf (lin x) v) (vs := (a.eval x).cells) (by omega) (by omega) c3
          obtain ⟨E'', us', g1, g2, g3, g4, g5, g6⟩ := fillS_rel hpl rest E' _ _ _ cs s' h1 h2 f1 f2 hf
          refine ⟨E'', us', ?_, g2, g3, g4, g5, h3.trans g6⟩
          simp only [List.map_cons, Instr.fill, hpl i fd n hfd hn]
          rw [if_neg (by simp; omega)]
          exact g1
      · cases hf
    · cases hf
theorem retagR (hH : HRel E w.heap h) (hF : FRel E β w.heap s a) (T : Nat → Tag) : ∃ E', HRel E' w.heap h ∧ FRel E' β w.heap s a ∧ Ext E w E' w ∧ ∀ B k j, Spare E w.heap B k (.spareR j) → Spare E' w.heap B k (T j) := by
  let g : Tag → Tag := fun t => match t with
    | .spareR j => T j
    | t => t
  refine ⟨E.retag g, hH.retag rfl fun _ _ => rfl, ⟨hF.size, fun t' => ⟨(hF.tmp t').1.mono (.retag rfl), (hF.tmp t').2.mono fun B k j h => h.retag rfl⟩, ?_, hF.brng, hF.defs.mono (.retag rfl)⟩, .retag rfl rfl, fun B k j h => h.retag rfl⟩
  intro i l hi
  obtain ⟨B, h1, h2⟩ := hF.box i l hi
  exact ⟨B, h1, h2.mono (.retag rfl) ⟨rfl, rfl⟩ fun B k j h => h.retag rfl⟩
theorem mapM_places {P : Program} (fields : Array Field) (ns : List Nat) (hns : mapO (fun f : Field => tySize P f.type) fields.toList = some ns) :
    ∃ places : Array (Nat × Nat), (fields.mapM fun f => do pure (f.offset, ← sizeOf f.type) : Sem (Array (Nat × Nat))).run P w = .ok places w ∧
      ∀ (i : Nat) (fd : Field) n, fields[i]? = some fd → tySize P fd.type = some n → places[i]? = some (fd.offset, n) := by
  have hl : ∀ (l : List Field) (ns : List Nat), mapO (fun f : Field => tySize P f.type) l = some ns →
      ∃ pl : List (Nat × Nat), (l.mapM fun f => do pure (f.offset, ← sizeOf f.type) : Sem (List (Nat × Nat))).run P w = .ok pl w ∧
        ∀ (i : Nat) (fd : Field) n, l[i]? = some fd → tySize P fd.type = some n → pl[i]? = some (fd.offset, n) := by
    intro l
    induction l with
    | nil => intro ns _; exact ⟨[], by simp, fun i fd n h => by simp at h⟩
    | cons f l ih =>
      intro ns hns
      simp only [mapO] at hns
      split at hns
      · cases hns
      · rename_i n hn
        split at hns
        · cases hns
        · rename_i ns' hns'
          obtain ⟨pl, h1, h2⟩ := ih ns' hns'
          refine ⟨(f.offset, n) :: pl, by simp only [List.mapM_cons, Sem.run_bind, run_sizeOf' hn, Result.andThen_ok, Sem.run_pure, h1], fun i fd m hi hm => ?_⟩
          cases i with
          | zero => simp at hi; subst hi; rw [hn] at hm; cases hm; rfl
          | succ i => simp only [List.getElem?_cons_succ] at hi ⊢; exact h2 i fd m hi hm
  obtain ⟨pl, h1, h2⟩ := hl fields.toList ns hns
  refine ⟨pl.toArray, ?_, fun i fd n hi hn => by simpa using h2 i fd n (by simpa using hi) hn⟩
  rw [Array.mapM_eq_mapM_toList]
  simp only [Sem.run_map, h1, Result.andThen_ok]
theorem step_build {o : Oper} {t : TypeId} {parts : Array (Nat × Operand)} {v : AVal} {s₁ : FS} {out : Out} (hH : HRel E w.heap h) (hF : FRel E β w.heap s a) (ho : o.op = .build t parts)
    (hb : abuild X.P (isLin X f) s t parts = some (v, s₁)) (hc : cont? (s₁.put o.dst v) h = some out) : o.wp X.P a w (NextOK E w out) (PanicOK E w out) := by
  obtain ⟨s', hs, rfl⟩ := cont_some hc
  unfold abuild at hb
  split at hb
  · rename_i fields zs hu hz
    split at hb
    · rename_i ns cs s₂ hns hfill
      cases hb
      obtain ⟨zc, hzr, hzc⟩ := run_zeroValue' hz
      obtain ⟨z1, z2⟩ := constOf_rel (E := E) (hp := w.heap) hzc
      obtain ⟨c1, c2, c3⟩ := cellsOf_rel (keep := true) (T := .spareR) z1 rfl fun _ => .of_strip z2
      obtain ⟨places, hpl, hpl'⟩ := mapM_places (w := w) fields ns hns
      have hcz : CellsRel E w.heap .spareR zs zc.cells := fun j v hj => by
        have hlt : j < zc.cells.size := by rw [c1]; exact (List.getElem?_eq_some_iff.1 hj).1
        obtain ⟨e1, e2, e3⟩ := c3 j v zc.cells[j] hj (Array.getElem?_eq_getElem hlt)
        exact ⟨e1, _, Array.getElem?_eq_getElem hlt, e2, e3⟩
      obtain ⟨E', us', g1, g2, g3, g4, g5, g6⟩ := fillS_rel (P := X.P) (place := (places[·]?)) hpl' parts.toList E s zs zc.cells cs s₁ hH hF c1 hcz hfill
      obtain ⟨E'', r1, r2, r3, r4⟩ := retagR g4 g5 (dstTag o.dst)
      have hrun : (execOp a.eval o).run X.P w = .ok (.value (.agg us')) w := by
        simp only [execOp, ho, Instr.build, Sem.run_bind, hzr, Result.andThen_ok, run_underlying' hu, hpl]
        simp only [Array.toList_map, g1]
        rfl
      have hcr : CellsRel E'' w.heap (dstTag o.dst) cs us' := g3.mono r3.mono r4
      refine wp_value hrun ⟨s', h, E'', β, rfl, r1, r2.put hs (.inl (.agg cs us' g2 ?_ ?_)) ?_, g6.trans r3⟩
      · intro v hv
        obtain ⟨j, hj⟩ := List.getElem?_of_mem hv
        exact (hcr j v hj).1
      · intro j v y hv hy
        obtain ⟨_, y', e1, e2, _⟩ := hcr j v hv
        rw [hy] at e1; cases e1; exact e2
      · intro t ht j v y hv hy
        obtain ⟨_, y', e1, _, e3⟩ := hcr j v hv
        rw [dstTag_some ht] at e3
        have hy' : us'[j]? = some y := hy
        rw [hy'] at e1; cases e1; exact e3
    · cases hb
  · cases hb
end Go.Den
namespace Go.Den
open Go
variable {E : Emb} {β : Nat → Option Nat} {X : Ctx} {w : World} {s : FS} {h : Heap} {a : Act} {f : FuncId}
theorem repL_length (zs : List AVal) : ∀ n, (repL zs n).length = n * zs.length
  | 0 => by simp [repL]
  | n + 1 => by simp [repL, repL_length zs n, Nat.add_mul, Nat.add_comm]
theorem repL_get (zs : List AVal) (hz : 1 ≤ zs.length) : ∀ (n j : Nat), j < n * zs.length → (repL zs n)[j]? = zs[j % zs.length]?
  | 0, j, hj => by simp at hj
  | n + 1, j, hj => by
    simp only [repL, List.getElem?_append]
    split
    · rename_i h1; rw [Nat.mod_eq_of_lt h1]
    · rename_i h1
      have : j - zs.length < n * zs.length := by rw [Nat.add_mul] at hj; omega
      rw [repL_get zs hz n _ this, Nat.mod_eq_sub_mod (a := j) (by omega)]
theorem rep_rel {hp : HP} {T : Nat → Tag} {z : AVal} {zc : Value} {n : Nat} (hz : VRel E hp z zc) (hs : z.stripA = z) (hl : z.isLoc = false) (h1 : 1 ≤ z.cells.length) :
    ((Array.range (n * z.cells.length)).map (zc.cells[· % zc.cells.size]!)).size = (repL z.cells n).length ∧
    CellsRel E hp T (repL z.cells n) ((Array.range (n * z.cells.length)).map (zc.cells[· % zc.cells.size]!)) := by
  obtain ⟨c1, _, c3⟩ := cellsOf_rel (keep := true) (T := fun _ => .junk) hz hl fun _ => .of_strip hs
  refine ⟨by simp [repL_length], fun j v hj => ?_⟩
  have hj' : j < n * z.cells.length := by have := (List.getElem?_eq_some_iff.1 hj).1; rwa [repL_length] at this
  rw [repL_get z.cells h1 n j hj'] at hj
  have hm : j % z.cells.length < z.cells.length := Nat.mod_lt _ (by omega)
  have hm' : j % zc.cells.size < zc.cells.size := by rw [c1]; exact hm
  obtain ⟨e1, e2, _⟩ := c3 (j % z.cells.length) v zc.cells[j % zc.cells.size] hj (by simp only [c1]; exact Array.getElem?_eq_getElem _)
  refine ⟨e1, zc.cells[j % zc.cells.size], ?_, e2, .of_strip (cells_strip hs hl hj)⟩
  simp only [Array.getElem?_map]
  rw [Array.getElem?_eq_getElem (by simpa using hj')]
  simp [getElem!_pos, hm']
theorem fillR_rel {hp : HP} (hw : w.heap = hp) {T : Nat → Tag} (hF : FRel E β w.heap s a) {size : Nat} :
    ∀ (parts : List (Nat × Operand)) (zs : List AVal) (us : Array Value) (cs : List AVal), us.size = zs.length → CellsRel E hp T zs us →
      fillR s.env size zs parts = some cs →
      ∃ us', Instr.fill (fun i => some (i * size, size)) us (parts.map fun p => (p.1, a.eval p.2)) = some us' ∧ us'.size = cs.length ∧ CellsRel E hp T cs us' ∧ cs.length = zs.length
  | [], zs, us, cs, hz, hc, hf => by
    simp [fillR] at hf
    subst hf
    exact ⟨us, rfl, hz, hc, rfl⟩
  | (i, x) :: rest, zs, us, cs, hz, hc, hf => by
    unfold fillR at hf
    split at hf
    · rename_i v hx
      cases hcond : (Nat.beq v.cells.length size && Nat.ble (i * size + size) zs.length && !v.isLoc) with
      | false => rw [hcond] at hf; cases hf
      | true =>
        rw [hcond] at hf
        simp only [Bool.and_eq_true, Nat.beq_eq, Nat.ble_eq, Bool.not_eq_true'] at hcond
        obtain ⟨⟨hc1, hc2⟩, hc3⟩ := hcond
        simp only [cond_true] at hf
        have hv := (opnd_rel hF hx).val hc3
        rw [hw] at hv
        obtain ⟨c1, c2, c3⟩ := cellsOf_rel (keep := false) (T := fun j => T (i * size + j)) hv hc3 fun h => by cases h
        obtain ⟨f1, f2⟩ := fill_one (off := i * size) hz hc (cs := cellsOf false v) (vs := (a.eval x).cells) (by omega) (by omega) c3
        obtain ⟨us', g1, g2, g3, g4⟩ := fillR_rel hw hF rest _ _ cs f1 f2 hf
        refine ⟨us', ?_, g2, g3, by rw [g4, putAt_length]⟩
        simp only [List.map_cons, Instr.fill]
        rw [if_neg (by simp; omega)]
        exact g1
    · cases hf
theorem putAt_mem : ∀ (cs l : List AVal) (i : Nat) (v : AVal), v ∈ putAt l i cs → v ∈ l ∨ v ∈ cs
  | [], l, i, v, h => .inl h
  | c :: cs, l, i, v, h => by
    rcases putAt_mem cs (l.set i c) (i + 1) v h with h | h
    · rcases List.mem_or_eq_of_mem_set h with h | h
      · exact .inl h
      · subst h; exact .inr (by simp)
    · exact .inr (by simp [h])
theorem repL_mem : ∀ {zs : List AVal} {n : Nat} {v : AVal}, v ∈ repL zs n → v ∈ zs
  | zs, 0, v, h => by simp [repL] at h
  | zs, n + 1, v, h => by
    simp only [repL, List.mem_append] at h
    rcases h with h | h
    · exact h
    · exact repL_mem h
theorem fillR_strip {env : Env} {size : Nat} : ∀ (parts : List (Nat × Operand)) (zs cs : List AVal), (∀ v ∈ zs, v.strip = v) → fillR env size zs parts = some cs → ∀ v ∈ cs, v.strip = v
  | [], zs, cs, hz, hf => by simp [fillR] at hf; subst hf; exact hz
  | (i, x) :: rest, zs, cs, hz, hf => by
    unfold fillR at hf
    split at hf
    · rename_i v hx
      cases hcond : (Nat.beq v.cells.length size && Nat.ble (i * size + size) zs.length && !v.isLoc) with
      | false => rw [hcond] at hf; cases hf
      | true =>
        rw [hcond] at hf
        refine fillR_strip rest _ cs (fun u hu => ?_) hf
        rcases putAt_mem _ _ _ _ hu with h | h
        · exact hz u h
        · obtain ⟨u', _, rfl⟩ := List.mem_map.1 h
          exact strip_strip u'
    · cases hf
theorem new_store (hH : HRel E w.heap h) (hF : FRel E β w.heap s a) (c : Array Value) (t : TypeId) (g : Nat → Tag) :
    HRel (E.addStore w.heap.size g) (pushed w (.cells c t)).heap h ∧ FRel (E.addStore w.heap.size g) β (pushed w (.cells c t)).heap s a ∧
      Ext E w (E.addStore w.heap.size g) (pushed w (.cells c t)) :=
  have ha : Agree E w.heap (E.addStore w.heap.size g) (w.heap.push (.cells c t)) := Agree.addStore _ _
  ⟨hH.keep ha rfl, hF.agree ha, ha.ext rfl rfl rfl⟩
theorem new_isl {c : Array Value} {t : TypeId} {g : Nat → Tag} {own : Bool} {n cap : Nat} {l : List AVal} (hn : n ≤ cap) (hn0 : l = [] ↔ n = 0) (hg : ∀ j, j < l.length → g j = .imm)
    (hc : ∀ (j : Nat) v, l[j]? = some v → (v.atom = true ∧ v.strip = v) ∧ ∃ x, c[j]? = some x ∧ VRel E w.heap v x) :
    VRel (E.addStore w.heap.size g) (pushed w (.cells c t)).heap (.isl own n l) (.slice (some ⟨w.heap.size, 0, none⟩) n cap) := by
  have ha : Agree E w.heap (E.addStore w.heap.size g) (w.heap.push (.cells c t)) := Agree.addStore _ _
  refine .isl own n l _ cap w.heap.size 0 (fun j => c.getD j undef) hn hn0 ?_ (fun _ => rfl) ?_ ?_
  · intro v hv
    obtain ⟨j, hj⟩ := List.getElem?_of_mem hv
    exact (hc j v hj).1
  · intro j hj
    obtain ⟨_, x, h1, _⟩ := hc j l[j] (List.getElem?_eq_getElem hj)
    refine ⟨by simp [Emb.addStore], by simp [Emb.addStore, hg j hj], ?_⟩
    simp [cellOf, h1, Array.getD_eq_getD_getElem?]
  · intro j v hj
    obtain ⟨_, x, h1, h2⟩ := hc j v hj
    have : c.getD j undef = x := by simp [Array.getD_eq_getD_getElem?, h1]
    rw [this]
    exact h2.mono ha.mono
theorem step_buildSlice {o : Oper} {t : TypeId} {len size : Nat} {parts : Array (Nat × Operand)} {cs : List AVal} {out : Out} (hH : HRel E w.heap h) (hF : FRel E β w.heap s a) (ho : o.op = .buildSlice t len parts)
    (hb : aslice X.P s.env t len parts = some cs) (hsz : (tyElem X.P t).bind (tySize X.P) = some size)
    (hc : (cond (atDst X.cfg.mutB f o.dst) (cont? (s.put o.dst (.msl h.objs.length 0 len size)) (h.push (.cells cs))) (cont? (s.put o.dst (.isl (linDst X f o.dst) len cs)) h)) = some out) :
    o.wp X.P a w (NextOK E w out) (PanicOK E w out) := by
  unfold aslice at hb
  split at hb
  · rename_i e hE
    have hu := tyElem_underlying hE
    rw [hE] at hsz
    have hs : tySize X.P e = some size := hsz
    rw [hs] at hb
    split at hb
    · rename_i size' z hs' hz
      obtain rfl : size = size' := Option.some.inj hs'
      cases hcond : (!z.isLoc && Nat.beq z.cells.length size && Nat.ble 1 size && Nat.ble (len * size) 100000) with
      | false => rw [hcond] at hb; cases hb
      | true =>
        rw [hcond] at hb
        simp only [Bool.and_eq_true, Nat.beq_eq, Nat.ble_eq, Bool.not_eq_true'] at hcond
        obtain ⟨⟨⟨hzl, h1⟩, h2⟩, h3⟩ := hcond
        simp only [cond_true] at hb
        obtain ⟨zc, hzr, hzc⟩ := run_zeroValue' hz
        obtain ⟨z1, z2⟩ := constOf_rel (E := E) (hp := w.heap) hzc
        obtain ⟨r1, r2⟩ := rep_rel (T := .spareH h.objs.length) (n := len) z1 z2 hzl (by omega)
        rw [h1] at r1 r2
        obtain ⟨us, g1, g2, g3, g4⟩ := fillR_rel (w := w) rfl hF parts.toList _ _ cs r1 r2 hb
        rw [repL_length, h1] at g4
        have hrun : (execOp a.eval o).run X.P w = .ok (.value (.slice (some ⟨w.heap.size, 0, none⟩) len len)) (pushed w (.cells us e)) := by
          have hbig : ¬ len * size > 2 ^ 24 := by omega
          simp only [execOp, ho, Instr.buildSlice, Sem.run_bind, run_underlying' hu, Result.andThen_ok, run_sizeOf' hs, if_neg hbig]
          by_cases h0 : len * size = 0
          · have harr : ((Array.range (len * size)).map (fun x => (#[] : Array Value)[x % (#[] : Array Value).size]!)) = (Array.range (len * size)).map (zc.cells[· % zc.cells.size]!) := by
              simp [h0]
            simp only [if_pos h0, Sem.run_bind, Sem.run_pure, Result.andThen_ok, harr, Array.toList_map, g1, run_newRow]
          · simp only [if_neg h0, Sem.run_bind, hzr, Sem.run_pure, Result.andThen_ok, Array.toList_map, g1, run_newRow]
        cases hm : atDst X.cfg.mutB f o.dst with
        | true =>
          rw [hm] at hc
          obtain ⟨s', hs', rfl⟩ := cont_some hc
          obtain ⟨k1, k2, k3⟩ := new_row hH hF us e cs (by omega) (fun j v y hv hy => by
            obtain ⟨e1, y', e2, e3, e4⟩ := g3 j v hv
            rw [hy] at e2; cases e2; exact ⟨e1, e3, e4⟩)
          refine wp_value hrun ⟨s', _, _, β, rfl, k1, k2.put hs' (.inl (.msl _ _ _ _ _ _ w.heap.size us e (0, 0) (Nat.le_refl _) fun _ => ⟨lt_ρ hH, rfl, by simp, by omega⟩)) fun t _ => .of_strip rfl, k3⟩
        | false =>
          rw [hm] at hc
          obtain ⟨s', hs', rfl⟩ := cont_some hc
          obtain ⟨k1, k2, k3⟩ := new_store hH hF us e (fun _ => .imm)
          have hn0 : cs = [] ↔ len = 0 := by
            rw [← List.length_eq_zero_iff, g4, Nat.mul_eq_zero]; omega
          refine wp_value hrun ⟨s', _, _, β, rfl, k1, k2.put hs' (.inl (new_isl (own := linDst X f o.dst) (Nat.le_refl _) hn0 (fun _ _ => rfl) fun j v hv => ?_)) fun t ht => ?_, k3⟩
          · obtain ⟨e1, y', e2, e3, e4⟩ := g3 j v hv
            refine ⟨⟨e1, fillR_strip parts.toList _ cs (fun u hu => ?_) hb v (List.mem_of_getElem? hv)⟩, y', e2, e3⟩
            obtain ⟨i, hi⟩ := List.getElem?_of_mem (repL_mem hu)
            exact cells_strip z2 hzl hi
          · intro j vj xj hvj hxj
            cases j with
            | succ j => simp [AVal.cells] at hvj
            | zero =>
              simp [AVal.cells] at hvj
              simp [Value.cells] at hxj
              subst hvj; subst hxj
              intro n' cs' e'
              injection e' with _ e2 e3
              subst e2; subst e3
              exact ⟨_, _, rfl, fun h0 => h0, fun hn => ⟨_, 0, size, rfl, h2, g4, fun k hk1 hk2 => by omega⟩⟩
    · cases hb
  · cases hb
theorem step_makeSlice {o : Oper} {t e : TypeId} {l c : Operand} {k k' : IntKind} {n m : Int} {ti : TypeInfo} {z : AVal} {out : Out} (hH : HRel E w.heap h) (hF : FRel E β w.heap s a) (ho : o.op = .makeSlice t l c)
    (hE : tyElem X.P t = some e) (hl : opnd s.env l = some (.int k n)) (hcp : opnd s.env c = some (.int k' m)) (hti : X.P.info? e = some ti) (hz : tyZero X.P e = some z)
    (h0 : 0 ≤ n) (hnm : n = m) (hmost : n.toNat ≤ most) (hzl : z.isLoc = false) (hzs : z.cells.length = ti.size) (h1 : 1 ≤ ti.size) (hby : ti.bytes ≤ 4096)
    (hc : cont? (s.put o.dst (.msl h.objs.length 0 n.toNat ti.size)) (h.push (.cells (repL z.cells n.toNat))) = some out) : o.wp X.P a w (NextOK E w out) (PanicOK E w out) := by
  subst hnm
  have hu := tyElem_underlying hE
  obtain ⟨zc, hzr, hzc⟩ := run_zeroValue' hz
  obtain ⟨z1, z2⟩ := constOf_rel (E := E) (hp := w.heap) hzc
  obtain ⟨r1, r2⟩ := rep_rel (T := .spareH h.objs.length) (n := n.toNat) z1 z2 hzl (by omega)
  rw [hzs] at r1 r2
  have hs : tySize X.P e = some ti.size := by simp [tySize, hti]
  have e1 := opnd_int hF hl
  have e2 := opnd_int hF hcp
  have hsmall : n ≤ 1048576 := by unfold most at hmost; omega
  have hwrap : IntKind.i64.wrap n = n := by unfold IntKind.wrap; simp [IntKind.bits, IntKind.signed]; omega
  obtain ⟨s', hs', rfl⟩ := cont_some hc
  have hrun : (execOp a.eval o).run X.P w = .ok (.value (.slice (some ⟨w.heap.size, 0, none⟩) n.toNat n.toNat)) (pushed w (.cells ((Array.range (n.toNat * ti.size)).map (zc.cells[· % zc.cells.size]!)) e)) := by
    have hb : (ti.bytes : Int) * n ≤ 4096 * 1048576 := Int.mul_le_mul (by omega) hsmall h0 (by omega)
    have hlarge : (decide (n < 0) || decide ((ti.bytes : Int) * n > 2 ^ 48)) = false := by
      simp; omega
    have hroom : (askRoom (n.toNat * ti.bytes)).run X.P w = .ok () w := by
      unfold askRoom; split <;> rfl
    have hbad : ¬ ((decide (n < 0) || decide ((ti.bytes : Int) * n > 2 ^ 48)) || decide (n < 0) || decide (n > n)) = true := by rw [hlarge]; simp; omega
    simp only [execOp, ho, e1, e2, Instr.makeSlice, Sem.run_bind, run_underlying' hu, Result.andThen_ok, asInt, asIntOf, Sem.run_pure, run_typeInfo' hti, hwrap, if_neg hbad, hroom, run_sizeOf' hs]
    by_cases h0 : n.toNat * ti.size = 0
    · have harr : ((Array.range (n.toNat * ti.size)).map (fun x => (#[] : Array Value)[x % (#[] : Array Value).size]!)) = (Array.range (n.toNat * ti.size)).map (zc.cells[· % zc.cells.size]!) := by
        simp [h0]
      simp only [if_pos h0, Sem.run_bind, Sem.run_pure, Result.andThen_ok, harr, run_newRow]
    · simp only [if_neg h0, Sem.run_bind, hzr, Sem.run_pure, Result.andThen_ok, run_newRow]
  obtain ⟨k1, k2, k3⟩ := new_row hH hF ((Array.range (n.toNat * ti.size)).map (zc.cells[· % zc.cells.size]!)) e (repL z.cells n.toNat) (by omega) (fun j v y hv hy => by
    obtain ⟨e1, y', e2, e3, e4⟩ := r2 j v hv
    rw [hy] at e2; cases e2; exact ⟨e1, e3, e4⟩)
  exact wp_value hrun ⟨s', _, _, β, rfl, k1, k2.put hs' (.inl (.msl _ _ _ _ _ _ w.heap.size _ e (0, 0) (Nat.le_refl _) fun _ => ⟨lt_ρ hH, rfl, by simp; rfl, by simp⟩)) fun t _ => .of_strip rfl, k3⟩
end Go.Den
namespace Go.Den
open Go
variable {E : Emb} {β : Nat → Option Nat} {X : Ctx} {w : World} {s : FS} {h : Heap} {a : Act} {f : FuncId}
theorem put_rel {hp : HP} (k : List UInt8) (v : AVal) (x : Value) (hv : VRel E hp v x) (hs : v.stripA = v) (hl : v.isLoc = false) :
    ∀ {es : List (List UInt8 × AVal)} {ents : List MapEntry} (i : Nat), MRelL E hp es ents →
      ∃ r, Instr.findNow .string (.string ⟨⟨k⟩⟩) ents i = some r ∧
        (r = none → ∀ e : MapEntry, e.key = .string ⟨⟨k⟩⟩ → e.val = x → MRelL E hp (putM k v es) (ents ++ [e])) ∧
        ∀ j y, r = some (j, y) → i ≤ j ∧ (∃ e, ents[j - i]? = some e ∧ e.key = .string ⟨⟨k⟩⟩) ∧ ∀ g : MapEntry → MapEntry, (∀ e, (g e).key = .string ⟨⟨k⟩⟩ ∧ (g e).val = x) → MRelL E hp (putM k v es) (ents.modify (j - i) g)
  | [], [], i, _ => ⟨none, rfl, fun _ e he hx => by subst hx; exact ⟨hl, hs, he, hv, trivial⟩, fun j y e => by cases e⟩
  | (k', u) :: es, e :: ents, i, h => by
    obtain ⟨h1, h2, h3, h4, h5⟩ := h
    simp only [Instr.findNow, h3, Instr.sameNow, beq_mk, putM]
    cases hb : beqB k k' with
    | true =>
      have hk : k = k' := by rw [beqB_eq] at hb; simpa using hb
      subst hk
      refine ⟨some (i, e.val), rfl, (fun h => by cases h), ?_⟩
      intro j y hj
      cases hj
      refine ⟨Nat.le_refl _, ⟨e, by simp, h3⟩, fun g hg => ?_⟩
      simp only [Nat.sub_self, List.modify_zero_cons, cond_true]
      exact ⟨hl, hs, (hg e).1, by rw [(hg e).2]; exact hv, h5⟩
    | false =>
      obtain ⟨r, r1, r2, r3⟩ := put_rel k v x hv hs hl (i + 1) h5
      refine ⟨r, r1, fun hr e' he hx => ⟨h1, h2, h3, h4, r2 hr e' he hx⟩, fun j y hj => ?_⟩
      obtain ⟨q1, ⟨e', q2, q3⟩, q4⟩ := r3 j y hj
      have hji : j - i = (j - (i + 1)) + 1 := by omega
      refine ⟨by omega, ⟨e', by rw [hji]; simpa using q2, q3⟩, fun g hg => ?_⟩
      rw [hji, List.modify_succ_cons]
      exact ⟨h1, h2, h3, h4, q4 g hg⟩
  | [], _ :: _, _, h => h.elim
  | _ :: _, [], _, h => h.elim
theorem touch_setObj {hp : HP} {B : Nat} {o o' : Obj} (h0 : hp[B]? = some o) (hn : ∀ c e z, o ≠ Obj.cells c e z) : Touch hp (hp.setIfInBounds B o') B where
  blk B' hB := by rw [Array.getElem?_setIfInBounds_ne (by omega)]
  row c e z h := by rw [h0] at h; cases h; exact absurd rfl (hn _ _ _)
  size := by simp
theorem step_mapUpdate {o : Oper} {t : TypeId} {m k v : Operand} {qm qk qv : AVal} {h₁ : Heap} {out : Out} (hH : HRel E w.heap h) (hF : FRel E β w.heap s a) (ho : o.op = .mapUpdate t m k v ∨ o.op = .insert t m k v)
    (hm : opnd s.env m = some qm) (hk : opnd s.env k = some qk) (hv : opnd s.env v = some qv) (hu : amapUpdate X.P h t qm qk qv = some h₁)
    (hc : cont? (s.put o.dst undefA) h₁ = some out) : o.wp X.P a w (NextOK E w out) (PanicOK E w out) := by
  obtain ⟨s', hs, rfl⟩ := cont_some hc
  unfold amapUpdate at hu
  split at hu
  · rename_i kt et b key hut
    split at hu
    · rename_i es hkt hob
      cases hcond : (Nat.ble h.ro b && !qv.isLoc) with
      | false => rw [hcond] at hu; cases hu
      | true =>
        rw [hcond] at hu; cases hu
        simp only [Bool.and_eq_true, Nat.ble_eq, Bool.not_eq_true'] at hcond
        obtain ⟨_, hvl⟩ := hcond
        have rm := (opnd_rel hF hm).val rfl
        have rk := ((opnd_rel hF hk).val rfl).str_eq
        have rv := ((opnd_rel hF hv).val hvl).stripA
        generalize hzm : a.eval m = zm at rm
        cases rm with
        | map _ B hB =>
          obtain ⟨B', ents, clock, e1, e2, e3, e4⟩ := hH.obj b _ hob
          obtain rfl : B' = B := by rw [hB] at e1; exact (Option.some.inj e1).symm
          obtain ⟨r, r1, r2, r3⟩ := put_rel key qv.stripA (a.eval v) rv (stripA_stripA _) (by rw [isLoc_stripA]; exact hvl) 0 e4
          have hg : (getObj B').run X.P w = .ok (.map ents clock) w := by simp [getObj, Sem.run, e3]
          have hset : ∀ o', (setObj B' o').run X.P w = .ok () { w with heap := w.heap.setIfInBounds B' o' } := fun o' => by simp [setObj, Sem.run, e3]
          have hlt : B' < w.heap.size := (Array.getElem?_eq_some_iff.1 e3).1
          have fin : ∀ (ents' : Array MapEntry) clock', MRelL E w.heap (putM key qv.stripA es) ents'.toList →
              (execOp a.eval o).run X.P w = .ok .skip { w with heap := w.heap.setIfInBounds B' (.map ents' clock') } → o.wp X.P a w (NextOK E w (.cont s' { h with objs := h.objs.set b (.amap (putM key qv.stripA es)) })) (PanicOK E w (.cont s' { h with objs := h.objs.set b (.amap (putM key qv.stripA es)) })) := by
            intro ents' clock' hrel hrun
            have ht : Touch w.heap (w.heap.setIfInBounds B' (.map ents' clock')) B' := touch_setObj e3 (fun _ _ _ e => by cases e)
            have hns : E.kind B' ≠ .store := by rw [e2]; exact fun e => by cases e
            refine wp_skipped hrun ⟨s', _, E, β, rfl, ?_, ?_, ht.ext hns (by rw [e2]; exact fun e => by cases e) rfl rfl rfl⟩
            · exact hH.touchObj ht e2 ⟨B', ents', clock', e1, e2, by simp [hlt], MRelL.mono (ht.mono hns) hrel⟩
            · exact (hF.touch ht hns (by rw [e2]; exact fun i e => by cases e)).put hs (.inl .undef) fun t _ => .of_strip rfl
          have hmu : ∀ q, (Instr.mapUpdate t (.map (some B')) (a.eval k) (a.eval v)).run X.P w = q → (execOp a.eval o).run X.P w = q.andThen fun _ w' => .ok .skip w' := by
            intro q hq
            rcases ho with ho | ho <;> simp [execOp, ho, hzm, hq]
          cases r with
          | none =>
            refine fin (ents.push { key := a.eval k, val := a.eval v, born := clock }) (clock + 1) ?_ ?_
            · have := r2 rfl { key := a.eval k, val := a.eval v, born := clock } rk rfl
              simpa using this
            · rw [hmu _ rfl]
              simp [Instr.mapUpdate, run_underlying' hut, hg, run_checkKey' hkt, rk, Instr.findKey, run_underlying' hkt, r1, hset]
          | some p =>
            obtain ⟨j, y⟩ := p
            obtain ⟨_, ⟨e', q2, q3⟩, q4⟩ := r3 j y rfl
            simp only [Nat.sub_zero] at q2 q4
            have q2' : ents[j]? = some e' := by simpa using q2
            refine fin (ents.modify j fun e => { e with key := a.eval k, val := a.eval v }) clock ?_ ?_
            · have := q4 (fun e => { e with key := a.eval k, val := a.eval v }) (fun e => ⟨rk, rfl⟩)
              simpa using this
            · have hstay : (Instr.keyThatStays (.string ⟨⟨key⟩⟩) (.string ⟨⟨key⟩⟩)).run X.P w = .ok (.string ⟨⟨key⟩⟩) w := by
                have : Instr.sameBits 10000 (.string ⟨⟨key⟩⟩) (.string ⟨⟨key⟩⟩) = true := by
                  show ((ByteArray.mk ⟨key⟩) == (ByteArray.mk ⟨key⟩)) = true
                  rw [beq_mk, beqB_eq]; simp
                simp [Instr.keyThatStays, this]
              rw [hmu _ rfl]
              simp [Instr.mapUpdate, run_underlying' hut, hg, run_checkKey' hkt, rk, Instr.findKey, run_underlying' hkt, r1, hset, q2', q3, hstay]
    · cases hu
  · cases hu
theorem added_rel (hH : HRel E w.heap h) {size k : Nat} {y : AVal} {Y : Value} {cs : List AVal} (hy : VRel E w.heap y Y) (h1 : 1 ≤ size) (hk : addedCells h size y = some (k, cs)) :
    (Builtin.lenOf Y).run X.P w = .ok k w ∧ cs.length = k * size ∧ ∃ arr : Array Value, (Builtin.firstCells size k Y).run X.P w = .ok arr w ∧ arr.size = cs.length ∧
      ∀ (j : Nat) v x, cs[j]? = some v → arr[j]? = some x → (v.atom = true ∧ v.strip = v) ∧ VRel E w.heap v x := by
  unfold addedCells at hk
  split at hk
  · cases hk
    cases hy
    exact ⟨rfl, by simp, #[], rfl, rfl, fun j v x hv => by simp at hv⟩
  · rename_i own n cs'
    cases hc : Nat.beq cs'.length (n * size) with
    | false => rw [hc] at hk; cases hk
    | true =>
      rw [hc] at hk; cases hk
      have hl : cs.length = k * size := Nat.eq_of_beq_eq_true hc
      obtain ⟨a', cap, B, o, u, rfl, hcap, hn0, hat, hab, hcc, hv⟩ := isl_cells hy
      refine ⟨rfl, hl, ((List.range (k * size)).map u).toArray, ?_, by simp [hl], ?_⟩
      · cases hcs : cs with
        | nil =>
          have hk0 := hn0.1 hcs
          subst hk0
          cases a' <;> simp [Builtin.firstCells, loadCells, loadCellsFrom]
        | cons c0 cs0 =>
          have := hab (by rw [hcs]; simp)
          subst this
          simp only [Builtin.firstCells]
          exact run_loadImm fun j hj => hcc j (by omega)
      · intro j v x hvj hx
        refine ⟨hat v (List.mem_of_getElem? hvj), ?_⟩
        have hj : j < k * size := by rw [← hl]; exact (List.getElem?_eq_some_iff.1 hvj).1
        simp [hj] at hx
        subst hx
        exact hv j v hvj
  · rename_i b off n sz
    split at hk
    · rename_i l ho
      cases hc : (Nat.ble (off + n * size) l.length && Nat.beq size sz) with
      | false => rw [hc] at hk; cases hk
      | true =>
        rw [hc] at hk; cases hk
        simp only [Bool.and_eq_true, Nat.ble_eq, Nat.beq_eq] at hc
        obtain ⟨c1, rfl⟩ := hc
        cases hy with
        | msl _ _ _ _ a' cap B c e z hn hb =>
          obtain ⟨B', c', e', e1, e2, e3, e4, e5⟩ := hH.obj b _ ho
          by_cases hk0 : k = 0
          · subst hk0
            refine ⟨rfl, by simp, #[], ?_, by simp, fun j v x hv => by simp at hv⟩
            cases a' <;> simp [Builtin.firstCells, loadCells, loadCellsFrom]
          · obtain ⟨b1, rfl, b3, b4⟩ := hb hk0
            obtain rfl : B' = B := by rw [b1] at e1; exact (Option.some.inj e1).symm
            refine ⟨rfl, by simp; omega, ((List.range (k * size)).map fun j => (cellOf w.heap B' (off + j)).getD undef).toArray, ?_, by simp; omega, ?_⟩
            · simp only [Builtin.firstCells]
              refine run_loadCells w _ _ _ fun j hj => ?_
              rw [addr_add, cell_eq]
              obtain ⟨_, x, hx, _⟩ := e5 (off + j) _ (List.getElem?_eq_getElem (by omega))
              simp [cellOf, e3, hx]
            · intro j v x hv hx
              rw [List.getElem?_map, List.getElem?_take] at hv
              by_cases hj : j < k * size
              · simp only [hj, if_true, List.getElem?_drop] at hv
                cases h3 : l[off + j]? with
                | none => rw [h3] at hv; cases hv
                | some v' =>
                  rw [h3] at hv; cases hv
                  obtain ⟨q1, x', q2, q3, _⟩ := e5 (off + j) v' h3
                  have : x = x' := by
                    simp [hj, cellOf, e3, q2] at hx
                    exact hx.symm
                  subst this
                  exact ⟨⟨by rw [atom_strip]; exact q1, strip_strip _⟩, q3.strip⟩
              · simp [hj] at hv
    · cases hk
  · rename_i l
    cases hc : Nat.beq size 1 with
    | false => rw [hc] at hk; cases hk
    | true =>
      rw [hc] at hk; cases hk
      have hs1 : size = 1 := Nat.eq_of_beq_eq_true hc
      subst hs1
      cases hy
      have hcl : ∀ l : List UInt8, (cellsOfBytes l).length = l.length ∧ ∀ (j : Nat) v, (cellsOfBytes l)[j]? = some v → ∃ b, l[j]? = some b ∧ v = .int .u8 b.toNat := by
        intro l
        induction l with
        | nil => exact ⟨rfl, fun j v hv => by simp [cellsOfBytes] at hv⟩
        | cons b l ih =>
          refine ⟨by simp [cellsOfBytes, ih.1], fun j v hv => ?_⟩
          cases j with
          | zero => simp [cellsOfBytes] at hv; exact ⟨b, rfl, hv.symm⟩
          | succ j => simp [cellsOfBytes] at hv ⊢; exact ih.2 j v hv
      refine ⟨rfl, by simp [(hcl l).1], (((ByteArray.mk ⟨l⟩).extract 0 l.length).data.map fun b => .int .u8 b.toNat), rfl, ?_, ?_⟩
      · have : ((ByteArray.mk ⟨l⟩).extract 0 l.length).data.toList = l := by rw [Lib.extract_data]; simp
        have h2 := congrArg List.length this
        simp at h2
        simp [(hcl l).1, h2]
      · intro j v x hv hx
        obtain ⟨b, hb, rfl⟩ := (hcl l).2 j v hv
        have : ((ByteArray.mk ⟨l⟩).extract 0 l.length).data.toList = l := by rw [Lib.extract_data]; simp
        have h2 : ((ByteArray.mk ⟨l⟩).extract 0 l.length).data[j]? = some b := by rw [← Array.getElem?_toList, this]; exact hb
        rw [Array.getElem?_map, h2] at hx
        simp at hx
        subst hx
        exact ⟨⟨rfl, rfl⟩, .int _ _⟩
  · cases hk
end Go.Den
namespace Go.Den
open Go
variable {E : Emb} {β : Nat → Option Nat} {X : Ctx} {w : World} {s : FS} {h : Heap} {a : Act} {f : FuncId}
theorem appElem_some {P : Program} {ts : Array TypeId} {ti : TypeInfo} (h : appElem P ts = some ti) :
    ∃ t0 t1 e z, ts[0]? = some t0 ∧ ts[1]? = some t1 ∧ P.underlying t0 = some (.slice e) ∧ (∃ d, P.underlying t1 = some d ∧ ∀ k, d ≠ .int k) ∧ P.info? e = some ti ∧ tyZero P e = some z ∧
      1 ≤ ti.size ∧ ti.bytes ≤ 4096 ∧ z.cells.length = ti.size ∧ z.isLoc = false := by
  unfold appElem at h
  split at h
  · rename_i e u he hu
    split at h
    · cases h
    · rename_i hni
      split at h
      · rename_i ti' z hti hz
        cases hc : (Nat.ble 1 ti'.size && Nat.ble ti'.bytes 4096 && Nat.beq z.cells.length ti'.size && !z.isLoc) with
        | false => rw [hc] at h; cases h
        | true =>
          rw [hc] at h; cases h
          simp only [Bool.and_eq_true, Nat.ble_eq, Nat.beq_eq, Bool.not_eq_true'] at hc
          obtain ⟨⟨⟨c1, c2⟩, c3⟩, c4⟩ := hc
          cases h0 : ts[0]? with
          | none => rw [h0] at he; cases he
          | some t0 =>
            cases h1 : ts[1]? with
            | none => rw [h1] at hu; cases hu
            | some t1 =>
              rw [h0] at he; rw [h1] at hu
              exact ⟨t0, t1, e, z, rfl, rfl, tyElem_underlying he, ⟨u, hu, fun k e => hni k e⟩, hti, hz, c1, c2, c3, c4⟩
      · cases h
  · cases h
theorem Ext.drew (E : Emb) (w : World) : Ext E w E w.drew := ⟨rfl, rfl, rfl, Nat.le_refl _, Mono.refl _ _, fun _ _ h => ⟨h, rfl⟩, fun _ _ h => h, fun _ _ _ _ h => ⟨h, rfl⟩⟩
section
variable {P : Program} {ts : Array TypeId} {ty t0 t1 e : TypeId} {d : TypeDesc} {ti : TypeInfo} {zc : Value} {base : Option Addr} {n cap k : Nat} {Y : Value} {old new : Array Value}
theorem run_append_in (h0 : ts[0]? = some t0) (h1 : ts[1]? = some t1) (hu0 : P.underlying t0 = some (.slice e)) (hu1 : P.underlying t1 = some d) (hd : ∀ k, d ≠ .int k) (hti : P.info? e = some ti)
    (hk : (Builtin.lenOf Y).run P w = .ok k w) (hfit : n + k ≤ cap) (hnew : (Builtin.firstCells ti.size k Y).run P w = .ok new w) {w' : World}
    (hst : (match base with | some a => storeCells (a.add (n * ti.size)) new.toList | none => pure ()).run P w = .ok () w') :
    (Builtin.append_ ts ty #[.slice base n cap, Y]).run P w = .ok (.slice base (n + k) cap) w' := by
  have hs : tySize P e = some ti.size := by simp [tySize, hti]
  have hdm : (d matches .int _) = false := by cases d <;> first | rfl | exact absurd rfl (hd _)
  unfold Builtin.append_
  simp only [h0, h1]
  simp [Sem.run_bind, run_underlying' hu0, run_underlying' hu1, run_sizeOf' hs]
  cases d <;> first | exact absurd rfl (hd _) | skip
  all_goals
    simp [hk, hfit, hnew]
    cases base <;> simp at hst ⊢ <;> simp [hst]
  done
theorem run_append_grow (h0 : ts[0]? = some t0) (h1 : ts[1]? = some t1) (hu0 : P.underlying t0 = some (.slice e)) (hu1 : P.underlying t1 = some d) (hd : ∀ k, d ≠ .int k) (hti : P.info? e = some ti)
    (hk : (Builtin.lenOf Y).run P w = .ok k w) (hgrow : cap < n + k) (hmost : n + k ≤ most) (hby : ti.bytes ≤ 4096) (hold : (Builtin.firstCells ti.size n (.slice base n cap)).run P w.drew = .ok old w.drew)
    (hnew : (Builtin.firstCells ti.size k Y).run P w.drew = .ok new w.drew) (hz : ∀ w', (zeroValue e).run P w' = .ok zc w') :
    ∃ newCap, n + k ≤ newCap ∧ (Builtin.append_ ts ty #[.slice base n cap, Y]).run P w =
      .ok (.slice (some ⟨w.heap.size, 0, none⟩) (n + k) newCap) (pushed w.drew (.cells (old ++ new ++ Builtin.zeroCells zc.cells (newCap - (n + k))) e)) := by
  have hs : tySize P e = some ti.size := by simp [tySize, hti]
  have hle := nextslicecap_le hgrow
  have hbytes : Builtin.nextslicecap (n + k) cap * ti.bytes ≤ (2 * 1048576) * 4096 := Nat.mul_le_mul (by unfold most at hmost; omega) hby
  have hcap : ¬ Builtin.nextslicecap (n + k) cap * ti.bytes > 2 ^ 48 := by omega
  have hfit : ¬ n + k ≤ cap := by omega
  have hint : ¬ (((n + k : Nat) : Int) > IntKind.i64.max ∧ ((false = true) ∨ ti.bytes = 0)) := by
    rintro ⟨h1, _⟩
    have : IntKind.i64.max = 9223372036854775807 := by decide
    rw [this] at h1
    unfold most at hmost; omega
  refine ⟨(Question.appendCap (n + k) cap e).cut (w.tape w.drawn (.appendCap (n + k) cap e)), by simp [Question.cut], ?_⟩
  have hroom : ∀ b w', (askRoom b).run P w' = .ok () w' := fun b w' => by unfold askRoom; split <;> rfl
  unfold Builtin.append_
  simp only [h0, h1]
  simp [Sem.run_bind, run_underlying' hu0, run_underlying' hu1, run_sizeOf' hs]
  cases d <;> first | exact absurd rfl (hd _) | skip
  all_goals
    simp [hk, hfit, run_typeInfo' hti]
    rw [if_neg (by simpa using hint), if_neg hcap]
    simp [hroom, hold, hnew, hz, run_newRow, Question.forced]
    try rfl
end
theorem store_room {hp : HP} {B lo : Nat} {c : Array Value} {e : TypeId} {vs : List Value} (hH : HRel E hp h) (hF : FRel E β hp s a) (hk : E.kind B = .store) (hb : hp[B]? = some (Obj.cells c e (0, 0)))
    (hfit : lo + vs.length ≤ c.size) (ht : ∀ k, lo ≤ k → k < lo + vs.length → E.tag B k = .spareR 0) {w w' : World} (hw : w.heap = hp) (hw' : w' = w.setRow B (c.toList.take lo ++ vs ++ c.toList.drop (lo + vs.length)).toArray) :
    ∃ E' : Emb, HRel E' w'.heap h ∧ FRel E' β w'.heap s a ∧ Ext E w E' w' ∧ (∀ k x, vs[k]? = some x → Imm E' w'.heap B (lo + k) x) ∧
      (∀ k, ¬ (lo ≤ k ∧ k < lo + vs.length) → Spare E hp B k (.spareR 0) → Spare E' w'.heap B k (.spareR 0)) := by
  subst hw
  subst hw'
  have htouch := touch_setRow (w := w) hb (seg_size c vs lo hfit)
  have hrow := setRow_heap w B c (c.toList.take lo ++ vs ++ c.toList.drop (lo + vs.length)).toArray e (0, 0) hb
  generalize hw2 : w.setRow B (c.toList.take lo ++ vs ++ c.toList.drop (lo + vs.length)).toArray = w2 at *
  have hcell : ∀ k, ¬ (lo ≤ k ∧ k < lo + vs.length) → cellOf w2.heap B k = cellOf w.heap B k := by
    intro k hk'
    simp only [cellOf, hrow, hb]
    rw [seg_get c vs lo k hfit, if_neg hk']
  let E' : Emb := { E with tag := fun B' k => if B' = B ∧ lo ≤ k ∧ k < lo + vs.length then .imm else E.tag B' k }
  have htag : ∀ B' k g, E.tag B' k = g → g ≠ .spareR 0 → E'.tag B' k = g := by
    intro B' k g hg hne
    show (if B' = B ∧ lo ≤ k ∧ k < lo + vs.length then _ else _) = _
    split
    · rename_i hc
      obtain ⟨rfl, h1, h2⟩ := hc
      rw [ht k h1 h2] at hg; exact absurd hg.symm hne
    · exact hg
  have hin : ∀ B' k g, E.tag B' k = g → g ≠ .spareR 0 → ¬ (B' = B ∧ lo ≤ k ∧ k < lo + vs.length) := by
    rintro B' k g hg hne ⟨rfl, h1, h2⟩
    rw [ht k h1 h2] at hg; exact hne hg.symm
  have hcell' : ∀ B' k g, E.tag B' k = g → g ≠ .spareR 0 → cellOf w2.heap B' k = cellOf w.heap B' k := by
    intro B' k g hg hne
    by_cases hB : B' = B
    · subst hB; exact hcell k fun hc => hin _ k g hg hne ⟨rfl, hc⟩
    · exact htouch.cell hB
  have hm : Mono E w.heap E' w2.heap := by
    refine ⟨fun _ _ h => h, fun B' k x hi => ⟨hi.1, htag _ _ _ hi.2.1 (fun e => by cases e), (hcell' _ _ _ hi.2.1 (fun e => by cases e)).trans hi.2.2⟩, fun B' c' e' z' h' => ?_⟩
    by_cases hB : B' = B
    · subst hB; exact htouch.row c' e' z' h'
    · exact ⟨c', (htouch.blk B' hB).trans h', rfl⟩
  have hsp : ∀ B' k g, g ≠ .spareR 0 → Spare E w.heap B' k g → Spare E' w2.heap B' k g := by
    rintro B' k g hne ⟨h1, h2, c', e', h3, h4⟩
    refine ⟨h1, htag _ _ _ h2 hne, ?_⟩
    by_cases hB : B' = B
    · subst hB
      obtain ⟨c'', h5, h6⟩ := htouch.row c' e' (0, 0) h3
      exact ⟨c'', e', h5, by omega⟩
    · exact ⟨c', e', (htouch.blk B' hB).trans h3, h4⟩
  refine ⟨E', ⟨?_, fun b o ho => ?_, fun b B' hB' => ?_⟩, ⟨hF.size, fun t => ⟨(hF.tmp t).1.mono hm, (hF.tmp t).2.mono fun B' k j => hsp B' k _ (fun e => by cases e)⟩, fun i l hi => ?_, hF.brng, hF.defs.mono hm⟩,
    ⟨?_, ?_, ?_, Nat.le_of_eq htouch.size.symm, hm, ?_, fun _ _ h => h, ?_⟩, ?_, ?_⟩
  · exact hH.tab.touch htouch (by rw [hk]; exact fun e => by cases e)
  · have ho' := hH.obj b o ho
    cases o with
    | gone => trivial
    | cells l =>
      refine ho'.mono hm (fun B' hB' => ⟨htouch.blk B' ?_, rfl⟩) fun B' k j => hsp B' k _ (fun e => by cases e)
      obtain ⟨B'', _, _, e1, e2, _⟩ := ho'
      rw [hB'] at e1; cases e1
      rintro rfl; rw [hk] at e2; cases e2
    | amap es =>
      refine ho'.mono hm (fun B' hB' => ⟨htouch.blk B' ?_, rfl⟩) fun B' k j => hsp B' k _ (fun e => by cases e)
      obtain ⟨B'', _, _, e1, e2, _⟩ := ho'
      rw [hB'] at e1; cases e1
      rintro rfl; rw [hk] at e2; cases e2
  · have := hH.rng b B' hB'
    rw [htouch.size]; exact this
  · obtain ⟨B', h1, h2⟩ := hF.box i l hi
    refine ⟨B', h1, h2.mono hm ⟨htouch.blk B' ?_, rfl⟩ fun B' k j => hsp B' k _ (fun e => by cases e)⟩
    rintro rfl
    obtain ⟨_, _, e2, _⟩ := h2
    rw [hk] at e2; cases e2
  · subst hw2; rfl
  · subst hw2; rfl
  · subst hw2; rfl
  · intro B' _ hf
    refine ⟨hf, htouch.blk B' ?_⟩
    rintro rfl; rw [hk] at hf; cases hf
  · intro B' k _ _ hj
    exact ⟨htag _ _ _ hj (fun e => by cases e), hcell' _ _ _ hj (fun e => by cases e)⟩
  · intro k x hx
    have hkl : k < vs.length := (List.getElem?_eq_some_iff.1 hx).1
    refine ⟨hk, ?_, ?_⟩
    · show (if B = B ∧ lo ≤ lo + k ∧ lo + k < lo + vs.length then Tag.imm else _) = _
      rw [if_pos ⟨rfl, by omega, by omega⟩]
    · simp only [cellOf, hrow]
      rw [seg_get c vs lo (lo + k) hfit, if_pos (by omega), show lo + k - lo = k by omega]
      exact hx
  · rintro k hk' ⟨h1, h2, c', e', h3, h4⟩
    refine ⟨h1, ?_, ?_⟩
    · show (if B = B ∧ lo ≤ k ∧ k < lo + vs.length then Tag.imm else _) = _
      rw [if_neg (fun hc => hk' hc.2)]; exact h2
    · obtain ⟨c'', h5, h6⟩ := htouch.row c' e' (0, 0) h3
      exact ⟨c'', e', h5, by omega⟩
theorem grown_block {own : Bool} {e : TypeId} {c : Array Value} {need size newCap : Nat} {l : List AVal} (hH : HRel E w.heap h) (hF : FRel E β w.heap s a) (T : Nat → Tag)
    (hn0 : l = [] ↔ need = 0) (h1 : 1 ≤ size) (hl : l.length = need * size) (hcap : need ≤ newCap) (hc : c.size = newCap * size)
    (hrel : ∀ (j : Nat) v, l[j]? = some v → (v.atom = true ∧ v.strip = v) ∧ ∃ x, c[j]? = some x ∧ VRel E w.heap v x) (hne : need ≠ 0) :
    ∃ E', HRel E' (pushed w (.cells c e)).heap h ∧ FRel E' β (pushed w (.cells c e)).heap s a ∧ Ext E w E' (pushed w (.cells c e)) ∧
      VRel E' (pushed w (.cells c e)).heap (.isl own need l) (.slice (some ⟨w.heap.size, 0, none⟩) need newCap) ∧
      SpareV E' (pushed w (.cells c e)).heap T (.isl own need l) (.slice (some ⟨w.heap.size, 0, none⟩) need newCap) := by
  obtain ⟨k1, k2, k3⟩ := new_store hH hF c e (fun k => if k < l.length then .imm else T 0)
  refine ⟨_, k1, k2, k3, new_isl hcap hn0 (fun j hj => by simp [hj]) hrel, ?_⟩
  intro j vj xj hvj hxj
  cases j with
  | succ j => simp [AVal.cells] at hvj
  | zero =>
    simp [AVal.cells] at hvj
    simp [Value.cells] at hxj
    subst hvj; subst hxj
    intro n' cs' e'
    injection e' with _ e2 e3
    subst e2; subst e3
    refine ⟨_, _, rfl, fun h0 => absurd h0 hne, fun _ => ⟨_, 0, size, rfl, h1, hl, fun k hk1 hk2 => ⟨by simp [Emb.addStore], ?_, c, e, by simp, by omega⟩⟩⟩
    simp [Emb.addStore, Nat.not_lt.2 hk1]
theorem append_rel {c1 c2 : List AVal} {a1 a2 a3 : Array Value} {hp : HP} (h1 : a1.size = c1.length) (h2 : a2.size = c2.length)
    (r1 : ∀ (j : Nat) v x, c1[j]? = some v → a1[j]? = some x → (v.atom = true ∧ v.strip = v) ∧ VRel E hp v x)
    (r2 : ∀ (j : Nat) v x, c2[j]? = some v → a2[j]? = some x → (v.atom = true ∧ v.strip = v) ∧ VRel E hp v x) :
    ∀ (j : Nat) v, (c1 ++ c2)[j]? = some v → (v.atom = true ∧ v.strip = v) ∧ ∃ x, (a1 ++ a2 ++ a3)[j]? = some x ∧ VRel E hp v x := by
  intro j v hj
  rw [List.getElem?_append] at hj
  split at hj
  · rename_i hlt
    have hx : a1[j]? = some (a1[j]'(by omega)) := Array.getElem?_eq_getElem (by omega)
    obtain ⟨q1, q2⟩ := r1 j v _ hj hx
    refine ⟨q1, _, ?_, q2⟩
    rw [Array.append_assoc, Array.getElem?_append_left (by omega)]; exact hx
  · rename_i hge
    have hlt : j - c1.length < c2.length := (List.getElem?_eq_some_iff.1 hj).1
    have hx : a2[j - c1.length]? = some (a2[j - c1.length]'(by omega)) := Array.getElem?_eq_getElem (by omega)
    obtain ⟨q1, q2⟩ := r2 _ v _ hj hx
    refine ⟨q1, _, ?_, q2⟩
    rw [Array.append_assoc, Array.getElem?_append_right (by omega), Array.getElem?_append_left (by omega), h1]
    exact hx
end Go.Den
namespace Go.Den
open Go
variable {E : Emb} {β : Nat → Option Nat} {X : Ctx} {w : World} {s : FS} {h : Heap} {a : Act} {f : FuncId}
theorem exec_append {P : Program} {o : Oper} {x y : Operand} {ts : Array TypeId} (ho : o.op = .call { callee := .builtin .append, args := #[x, y], argTypes := ts }) {v : Value} {w' : World}
    (hr : (Builtin.append_ ts o.type #[a.eval x, a.eval y]).run P w = .ok v w') : (execOp a.eval o).run P w = .ok (.value v) w' := by
  simp [execOp, ho, resolve, invoke, builtin, hr]
theorem zeroCells_size (zero : Array Value) (n : Nat) : (Builtin.zeroCells zero n).size = n * zero.size := by simp [Builtin.zeroCells]
theorem step_append {o : Oper} {x y : Operand} {ts : Array TypeId} {va vb v : AVal} {out : Out} (hH : HRel E w.heap h) (hF : FRel E β w.heap s a)
    (ho : o.op = .call { callee := .builtin .append, args := #[x, y], argTypes := ts }) (hx : opnd s.env x = some va) (hy : opnd s.env y = some vb)
    (happ : aappend X.P h ts va vb = some v) (hc : cont? ((s.drop x).put o.dst v) h = some out) : o.wp X.P a w (NextOK E w out) (PanicOK E w out) := by
  obtain ⟨s', hs, rfl⟩ := cont_some hc
  unfold aappend at happ
  split at happ
  · rename_i ti hti
    obtain ⟨t0, t1, e, z, q0, q1, u0, ⟨d, u1, hd⟩, hinfo, hz, z1, z2, z3, z4⟩ := appElem_some hti
    obtain ⟨zc, hzr, hzc⟩ := run_zeroValue' hz
    obtain ⟨zr1, zr2⟩ := constOf_rel (E := E) (hp := w.heap) hzc
    have hzsz : zc.cells.size = ti.size := by rw [(cellsOf_rel (keep := true) (T := fun _ => .junk) zr1 z4 fun _ => .of_strip zr2).1, z3]
    split at happ
    · rename_i k cs hadd
      have hnl : ∀ i off, vb ≠ .loc i off := by rintro i off rfl; simp [addedCells] at hadd
      have hyr := (opnd_rel hF hy).val' hnl
      obtain ⟨l1, l2, new, l3, l4, l5⟩ := added_rel (X := X) hH hyr z1 hadd
      obtain ⟨_, _, new', l3', l4', l5'⟩ := added_rel (X := X) (w := w.drew) hH hyr z1 hadd
      split at happ
      · -- onto nil
        have hxr := (opnd_rel hF hx).val rfl
        generalize hzx : a.eval x = zx at hxr
        cases hxr
        cases k with
        | zero =>
          cases happ
          have hrun := run_append_in (P := X.P) (w := w) (w' := w) (ty := o.type) (base := none) (n := 0) (cap := 0) q0 q1 u0 u1 hd hinfo l1 (Nat.le_refl _) l3 rfl
          refine wp_value (exec_append ho (by rw [hzx]; exact hrun)) ⟨s', h, E, β, rfl, hH, (hF.drop x).put hs (.inl ?_) fun t _ => .of_strip rfl, Ext.refl _ _⟩
          exact .nils
        | succ k =>
          dsimp only at happ
          cases hle : Nat.ble (k + 1) most with
          | false => rw [hle] at happ; cases happ
          | true =>
            rw [hle] at happ; cases happ
            have hle' : k + 1 ≤ most := Nat.le_of_ble_eq_true hle
            obtain ⟨nc, g1, hrun⟩ := run_append_grow (P := X.P) (w := w) (ty := o.type) (base := none) (n := 0) (cap := 0) (old := #[]) q0 q1 u0 u1 hd hinfo l1 (by omega) (by omega) z2 (by rfl) l3' hzr
            have hn0 : cs = [] ↔ k + 1 = 0 := by
              rw [← List.length_eq_zero_iff, l2, Nat.mul_eq_zero]; omega
            obtain ⟨E', k1, k2, k3, k4, k5⟩ := grown_block (own := true) (w := w.drew) (e := e) (c := #[] ++ new' ++ Builtin.zeroCells zc.cells (nc - (0 + (k + 1)))) (newCap := nc) hH (hF.drop x) (dstTag o.dst) hn0 z1 l2 (by omega)
              (by simp [zeroCells_size, hzsz]; rw [l4', l2, ← Nat.add_mul]; congr 1; omega)
              (by
                have := append_rel (E := E) (hp := w.drew.heap) (c1 := []) (c2 := cs) (a1 := #[]) (a2 := new') (a3 := Builtin.zeroCells zc.cells (nc - (0 + (k + 1)))) rfl l4' (fun j v x hv => by simp at hv) l5'
                simpa using this) (by omega)
            refine wp_value (exec_append ho (by rw [hzx]; exact hrun)) ⟨s', h, E', β, rfl, k1, k2.put hs (.inl ?_) fun t ht => ?_, (Ext.drew E w).trans k3⟩
            · simpa using k4
            · rw [← dstTag_some ht]; simpa using k5
      · rename_i own n l
        have hxr := (opnd_rel hF hx).val rfl
        cases k with
        | zero =>
          cases happ
          obtain ⟨E', t1', t2', t3', t4', _⟩ := take_out hH hF hx (dstTag o.dst)
          obtain ⟨a', cap, B, o', u, hzx, hcap, hn0, hat, hab, hcc, hv⟩ := isl_cells hxr
          have hnew : new.toList = [] := by
            have : new.size = 0 := by rw [l4, l2]; simp
            rw [Array.toList_eq_nil_iff]; exact Array.eq_empty_of_size_eq_zero this
          have hrun := run_append_in (P := X.P) (w := w) (w' := w) (ty := o.type) (base := a') (n := n) (cap := cap) q0 q1 u0 u1 hd hinfo l1 (by omega) l3 (by cases a' <;> simp [hnew, storeCells])
          simp only [Nat.add_zero] at hrun
          refine wp_value (exec_append ho (by rw [hzx]; exact hrun)) ⟨s', h, E', β, rfl, t1', t2'.put hs (.inl (hxr.mono t3'.mono |> fun q => hzx ▸ q)) fun t ht => ?_, t3'⟩
          rw [← dstTag_some ht]; exact hzx ▸ t4'
        | succ k =>
          dsimp only at happ
          cases hcond : (own && Nat.beq l.length (n * ti.size) && Nat.ble (n + (k + 1)) most) with
          | false => rw [hcond] at happ; cases happ
          | true =>
            rw [hcond] at happ; cases happ
            simp only [Bool.and_eq_true, Nat.beq_eq, Nat.ble_eq] at hcond
            obtain ⟨⟨rfl, hlen⟩, hmost⟩ := hcond
            have hadd2 : addedCells h ti.size (.isl true n l) = some (n, l) := by simp [addedCells, hlen]
            obtain ⟨a', cap, B, o', u, hzx, hcap, hn0, hat, hab, hcc, hv⟩ := isl_cells hxr
            have hn0' : l ++ cs = [] ↔ n + (k + 1) = 0 := by
              rw [← List.length_eq_zero_iff, List.length_append, l2, hlen, ← Nat.add_mul, Nat.mul_eq_zero]; omega
            have hlen' : (l ++ cs).length = (n + (k + 1)) * ti.size := by rw [List.length_append, l2, hlen, ← Nat.add_mul]
            by_cases hfit : n + (k + 1) ≤ cap
            · -- there is room
              obtain ⟨E1, t1', t2', t3', t4', _⟩ := take_out hH hF hx .spareR
              have hsp := t4' 0 (.isl true n l) (a.eval x) rfl (by rw [hzx]; rfl)
              obtain ⟨a'', cap'', e1, e2, e3⟩ := hsp n l rfl
              rw [hzx] at e1
              cases e1
              have hn : n ≠ 0 := fun e => by have := e2 e; omega
              obtain ⟨B', o'', sz, rfl, s1, s2, s3⟩ := e3 hn
              have hsz : sz = ti.size := Nat.eq_of_mul_eq_mul_left (Nat.pos_of_ne_zero hn) (s2.symm.trans hlen)
              subst hsz
              have hbo := hab (fun e => hn (hn0.1 e))
              cases hbo
              have hstep : (n + (k + 1)) * ti.size ≤ cap * ti.size := Nat.mul_le_mul_right _ hfit
              have hpos : 0 < (k + 1) * ti.size := Nat.mul_pos (by omega) (by omega)
              have hsum : (n + (k + 1)) * ti.size = n * ti.size + (k + 1) * ti.size := Nat.add_mul _ _ _
              obtain ⟨p1, _, c, e', p3, p4⟩ := s3 (n * ti.size) (by omega) (by omega)
              have hroom : o' + cap * ti.size ≤ c.size := by
                obtain ⟨_, _, c2, e2', p5, p6⟩ := s3 (cap * ti.size - 1) (by omega) (by omega)
                rw [p3] at p5; cases p5
                omega
              have h1c : ∀ q ∈ new.toList, q.oneCell' = true := by
                intro q hq
                obtain ⟨j, hj⟩ := List.getElem?_of_mem hq
                have hj' : new[j]? = some q := by simpa using hj
                have hlt : j < cs.length := by rw [← l4]; exact (Array.getElem?_eq_some_iff.1 hj').1
                obtain ⟨r1, r2⟩ := l5 j cs[j] q (List.getElem?_eq_getElem hlt) hj'
                exact oneCell_of r2 r1.1
              have hnl : new.toList.length = (k + 1) * ti.size := by simp [l4, l2]
              have hst := run_storeCells_at X.P B (o' + n * ti.size) e' new.toList 0 c w p3 (by omega) h1c
              simp only [Nat.add_zero] at hst
              have hrun := run_append_in (P := X.P) (w := w) (ty := o.type) (base := some ⟨B, o', none⟩) (n := n) (cap := cap) q0 q1 u0 u1 hd hinfo l1 hfit l3 (by simp only [addr_add]; exact hst)
              obtain ⟨E2, m1, m2, m3, m4, m5⟩ := store_room (vs := new.toList) (lo := o' + n * ti.size) (e := e') t1' t2' p1 p3 (by omega) (fun q hq1 hq2 => by
                obtain ⟨_, g2, _⟩ := s3 (q - o') (by omega) (by omega)
                rwa [show o' + (q - o') = q by omega] at g2) rfl rfl
              obtain ⟨E3, r1, r2, r3, r4⟩ := retagR m1 m2 (dstTag o.dst)
              refine wp_value (exec_append ho (by rw [hzx]; exact hrun)) ⟨s', h, E3, β, rfl, r1, r2.put hs (.inl ?_) fun t ht => ?_, t3'.trans (m3.trans r3)⟩
              · have mm := t3'.mono.trans (m3.mono.trans r3.mono)
                refine .isl true _ _ _ _ B o' (fun j => if j < l.length then u j else new.getD (j - l.length) undef) hfit hn0' ?_ (fun _ => rfl) ?_ ?_
                · intro q hq
                  rcases List.mem_append.1 hq with hq | hq
                  · exact hat q hq
                  · obtain ⟨j, hj⟩ := List.getElem?_of_mem hq
                    have hlt : j < new.size := by rw [l4]; exact (List.getElem?_eq_some_iff.1 hj).1
                    exact (l5 j q new[j] hj (Array.getElem?_eq_getElem hlt)).1
                · intro j hj
                  by_cases hjl : j < l.length
                  · simp only [hjl, if_true]
                    exact mm.imm _ _ _ (hcc j hjl)
                  · simp only [hjl, if_false]
                    rw [List.length_append] at hj
                    have hlt : j - l.length < new.size := by rw [l4]; omega
                    have := r3.mono.imm _ _ _ (m4 (j - l.length) (new.getD (j - l.length) undef) (by simp [Array.getD_eq_getD_getElem?, hlt]))
                    rwa [show o' + n * ti.size + (j - l.length) = o' + j by omega] at this
                · intro j q hj
                  rw [List.getElem?_append] at hj
                  by_cases hjl : j < l.length
                  · simp only [hjl, if_true] at hj ⊢
                    exact (hv j q hj).mono mm
                  · simp only [hjl, if_false] at hj ⊢
                    have hlt : j - l.length < new.size := by rw [l4]; exact (List.getElem?_eq_some_iff.1 hj).1
                    have := (l5 (j - l.length) q new[j - l.length] hj (Array.getElem?_eq_getElem hlt)).2
                    have hg : new.getD (j - l.length) undef = new[j - l.length] := by simp [Array.getD_eq_getD_getElem?, hlt]
                    rw [hg]
                    exact this.mono mm
              · intro j vj xj hvj hxj
                cases j with
                | succ j => simp [AVal.cells] at hvj
                | zero =>
                  simp [AVal.cells] at hvj
                  simp [Value.cells] at hxj
                  subst hvj; subst hxj
                  intro n' cs' e''
                  cases e''
                  refine ⟨_, _, rfl, fun h0 => by omega, fun _ => ⟨B, o', ti.size, rfl, s1, hlen', fun q hq1 hq2 => ?_⟩⟩
                  rw [← dstTag_some ht]
                  exact r4 _ _ _ (m5 _ (by omega) (s3 q (by rw [hlen'] at hq1; omega) hq2))
            · -- a new block
              obtain ⟨_, _, old, o3, o4, o5⟩ := added_rel (X := X) (w := w.drew) hH hxr z1 hadd2
              rw [hzx] at o3
              obtain ⟨nc, g1, hrun⟩ := run_append_grow (P := X.P) (w := w) (ty := o.type) (base := a') (n := n) (cap := cap) (old := old) q0 q1 u0 u1 hd hinfo l1 (by omega) hmost z2 o3 l3' hzr
              obtain ⟨E', k1, k2, k3, k4, k5⟩ := grown_block (own := true) (w := w.drew) (e := e) (c := old ++ new' ++ Builtin.zeroCells zc.cells (nc - (n + (k + 1)))) (newCap := nc) hH (hF.drop x) (dstTag o.dst) hn0' z1 hlen' g1
                (by simp only [Array.size_append, zeroCells_size, hzsz]; rw [o4, l4', l2, hlen, ← Nat.add_mul, ← Nat.add_mul]; congr 1; omega)
                (append_rel o4 l4' o5 l5') (by omega)
              refine wp_value (exec_append ho (by rw [hzx]; exact hrun)) ⟨s', h, E', β, rfl, k1, k2.put hs (.inl k4) fun t ht => ?_, (Ext.drew E w).trans k3⟩
              rw [← dstTag_some ht]; exact k5
      · cases happ
    · cases happ
  · cases happ
end Go.Den
namespace Go.Den
open Go
variable {E : Emb} {β : Nat → Option Nat} {X : Ctx} {w : World} {s : FS} {h : Heap} {a : Act} {f : FuncId}
theorem HRel.gone {hp : HP} (hH : HRel E hp h) (b : Nat) : HRel E hp { h with objs := h.objs.set b .gone } where
  tab := hH.tab
  obj b' o ho := by
    rw [List.getElem?_set] at ho
    split at ho
    · split at ho
      · cases ho; trivial
      · cases ho
    · exact hH.obj b' o ho
  rng b' B hb := by simpa using hH.rng b' B hb
theorem rename_row {hp hp' : HP} {b B : Nat} {c c' : Array Value} {e : TypeId} {l : List AVal} (hH : HRel E hp h) (hF : FRel E β hp s a) (hB : E.ρ b = some B) (hk : E.kind B = .obj b)
    (h1 : hp[B]? = some (Obj.cells c e (0, 0))) (ht : Touch hp hp' B) (h2 : hp'[B]? = some (Obj.cells c' e (0, 0))) (hl : l.length ≤ c'.size)
    (hc : ∀ (j : Nat) v, l[j]? = some v → (v.atom = true ∧ v.strip = v) ∧ ∃ x, c'[j]? = some x ∧ VRel E hp v x) :
    HRel (E.addObj h.objs.length B) hp' { h with objs := h.objs.set b .gone ++ [.cells l] } ∧ FRel (E.addObj h.objs.length B) β hp' s a ∧ Mono E hp (E.addObj h.objs.length B) hp' := by
  have hns : E.kind B ≠ .store := by rw [hk]; exact fun e => by cases e
  have hm1 := ht.mono hns
  have hm2 : Mono E hp' (E.addObj h.objs.length B) hp' := by
    refine ⟨fun b' B' hb => ?_, fun B' k x hi => ⟨?_, hi.2.1, hi.2.2⟩, fun _ c _ _ h => ⟨c, h, rfl⟩⟩
    · have := (hH.rng b' B' hb).1
      simp [Emb.addObj, Nat.ne_of_lt this, hb]
    · have : B' ≠ B := fun e => hns (e ▸ hi.1)
      simp [Emb.addObj, this, hi.1]
  have hm := hm1.trans hm2
  have hsp : ∀ B' k g, Spare E hp B' k g → Spare (E.addObj h.objs.length B) hp' B' k g := by
    rintro B' k g hs
    have hne : B' ≠ B := fun e => hns (e ▸ hs.1)
    obtain ⟨q1, q2, q3⟩ := ht.spare hns hs
    exact ⟨by simp [Emb.addObj, hne, q1], q2, q3⟩
  refine ⟨⟨?_, fun b' o ho => ?_, fun b' B' hb => ?_⟩, ⟨hF.size, fun t => ⟨(hF.tmp t).1.mono hm, (hF.tmp t).2.mono fun B' k j => hsp B' k _⟩, fun i l' hi => ?_, hF.brng, hF.defs.mono hm⟩, hm⟩
  · obtain ⟨t1, t2⟩ := hH.tab.touch ht (by rw [hk]; exact fun e => by cases e)
    have tn : tabG ≠ B := by intro q; rw [q, hk] at t1; cases t1
    exact ⟨by simp [Emb.addObj, tn, t1], t2⟩
  · rw [List.getElem?_append, List.length_set] at ho
    split at ho
    · rename_i hlt
      rw [List.getElem?_set] at ho
      split at ho
      · split at ho
        · cases ho; trivial
        · cases ho
      · rename_i hne
        have ho' := hH.obj b' o ho
        have hneB : ∀ B', E.ρ b' = some B' → (∃ B'', E.ρ b' = some B'' ∧ E.kind B'' = .obj b') → hp'[B']? = hp[B']? ∧ (E.addObj h.objs.length B).kind B' = E.kind B' := by
          rintro B' hB' ⟨B'', e1, e2⟩
          rw [hB'] at e1; cases e1
          have : B' ≠ B := by rintro rfl; rw [hk] at e2; cases e2; exact hne rfl
          exact ⟨ht.blk B' this, by simp [Emb.addObj, this]⟩
        cases o with
        | gone => trivial
        | cells l =>
          refine ho'.mono hm (fun B' hB' => hneB B' hB' ?_) fun B' k j => hsp B' k _
          obtain ⟨B'', _, _, e1, e2, _⟩ := ho'
          exact ⟨B'', e1, e2⟩
        | amap es =>
          refine ho'.mono hm (fun B' hB' => hneB B' hB' ?_) fun B' k j => hsp B' k _
          obtain ⟨B'', _, _, e1, e2, _⟩ := ho'
          exact ⟨B'', e1, e2⟩
    · rename_i hge
      have hb' : b' = h.objs.length := by
        have := (List.getElem?_eq_some_iff.1 ho).1
        simp at this; omega
      subst hb'
      simp at ho; subst ho
      refine ⟨B, c', e, by simp [Emb.addObj], by simp [Emb.addObj], h2, hl, fun j v hj => ?_⟩
      obtain ⟨q1, x, q2, q3⟩ := hc j v hj
      exact ⟨q1.1, x, q2, q3.mono hm, .of_strip q1.2⟩
  · simp only [Emb.addObj] at hb
    split at hb
    · rename_i e'; subst e'; cases hb
      have := (hH.rng b _ hB).2
      simp [ht.size, this]
    · have := hH.rng b' B' hb
      simp [ht.size]; omega
  · obtain ⟨B', q1, q2⟩ := hF.box i l' hi
    have hne : B' ≠ B := by rintro rfl; obtain ⟨_, _, e2, _⟩ := q2; rw [hk] at e2; cases e2
    exact ⟨B', q1, q2.mono hm ⟨ht.blk B' hne, by simp [Emb.addObj, hne]⟩ fun B'' k j => hsp B'' k _⟩
theorem Ext.rename {w w' : World} {b B : Nat} (hk : E.kind B = .obj b) (ht : Touch w.heap w'.heap B) (hm : Mono E w.heap (E.addObj h.objs.length B) w'.heap) (h1 : w'.os = w.os) (h2 : w'.tape = w.tape) (h3 : w'.output = w.output) :
    Ext E w (E.addObj h.objs.length B) w' where
  os := h1
  tape := h2
  output := h3
  size := Nat.le_of_eq ht.size.symm
  mono := hm
  foreign B' _ hf := by
    have : B' ≠ B := by rintro rfl; rw [hk] at hf; cases hf
    exact ⟨by simp [Emb.addObj, this, hf], ht.blk B' this⟩
  store B' _ hf := by
    have : B' ≠ B := by rintro rfl; rw [hk] at hf; cases hf
    simp [Emb.addObj, this, hf]
  junk B' k _ hf hj := by
    have : B' ≠ B := by rintro rfl; rw [hk] at hf; cases hf
    exact ⟨hj, ht.cell this⟩
theorem step_appendM {o : Oper} {x y : Operand} {ts : Array TypeId} {va vb v : AVal} {h₁ : Heap} {out : Out} (hH : HRel E w.heap h) (hF : FRel E β w.heap s a)
    (ho : o.op = .call { callee := .builtin .append, args := #[x, y], argTypes := ts }) (hx : opnd s.env x = some va) (hy : opnd s.env y = some vb)
    (happ : aappendM X.P h ts va vb = some (v, h₁)) (hc : cont? (s.put o.dst v) h₁ = some out) : o.wp X.P a w (NextOK E w out) (PanicOK E w out) := by
  obtain ⟨s', hs, rfl⟩ := cont_some hc
  unfold aappendM at happ
  split at happ
  · rename_i ti hti
    obtain ⟨t0, t1, e, z, q0, q1, u0, ⟨d, u1, hd⟩, hinfo, hz, z1, z2, z3, z4⟩ := appElem_some hti
    obtain ⟨zc, hzr, hzc⟩ := run_zeroValue' hz
    obtain ⟨zr1, zr2⟩ := constOf_rel (E := E) (hp := w.heap) hzc
    have hzsz : zc.cells.size = ti.size := by rw [(cellsOf_rel (keep := true) (T := fun _ => .junk) zr1 z4 fun _ => .of_strip zr2).1, z3]
    split at happ
    · rename_i k cs hadd
      have hnl : ∀ i off, vb ≠ .loc i off := by rintro i off rfl; simp [addedCells] at hadd
      have hyr := (opnd_rel hF hy).val' hnl
      obtain ⟨l1, l2, new, l3, l4, l5⟩ := added_rel (X := X) hH hyr z1 hadd
      obtain ⟨_, _, new', l3', l4', l5'⟩ := added_rel (X := X) (w := w.drew) hH hyr z1 hadd
      split at happ
      · have hxr := (opnd_rel hF hx).val rfl
        generalize hzx : a.eval x = zx at hxr
        cases hxr
        cases hle : Nat.ble (k + 1) most with
        | false => rw [hle] at happ; cases happ
        | true =>
          rw [hle] at happ; cases happ
          have hle' : k + 1 ≤ most := Nat.le_of_ble_eq_true hle
          obtain ⟨nc, g1, hrun⟩ := run_append_grow (P := X.P) (w := w) (ty := o.type) (base := none) (n := 0) (cap := 0) (old := #[]) q0 q1 u0 u1 hd hinfo l1 (by omega) (by omega) z2 (by rfl) l3' hzr
          have hrel := append_rel (E := E) (hp := w.drew.heap) (c1 := []) (c2 := cs) (a1 := #[]) (a2 := new') (a3 := Builtin.zeroCells zc.cells (nc - (0 + (k + 1)))) rfl l4' (fun j v x hv => by simp at hv) l5'
          have hcs : (#[] ++ new' ++ Builtin.zeroCells zc.cells (nc - (0 + (k + 1)))).size = nc * ti.size := by
            simp [zeroCells_size, hzsz]; rw [l4', l2, ← Nat.add_mul]; congr 1; omega
          have hle2 : (k + 1) * ti.size ≤ nc * ti.size := Nat.mul_le_mul_right _ (by omega)
          obtain ⟨k1, k2, k3⟩ := new_row (w := w.drew) hH hF (#[] ++ new' ++ Builtin.zeroCells zc.cells (nc - (0 + (k + 1)))) e cs (by rw [hcs, l2]; exact hle2) (fun j v y hv hy => by
            obtain ⟨r1, x', r2, r3⟩ := hrel j v (by simpa using hv)
            rw [hy] at r2; cases r2
            exact ⟨r1.1, r3, .of_strip r1.2⟩)
          have hlt := lt_ρ (w := w.drew) (h := h) (E := E) hH
          refine wp_value (exec_append ho (by rw [hzx]; exact hrun)) ⟨s', _, _, β, rfl, k1, k2.put hs (.inl ?_) fun t ht => .of_strip rfl, (Ext.drew E w).trans k3⟩
          have : VRel (E.addObj h.objs.length w.drew.heap.size) (pushed w.drew (.cells (#[] ++ new' ++ Builtin.zeroCells zc.cells (nc - (0 + (k + 1)))) e)).heap (.msl h.objs.length 0 (k + 1) ti.size) (.slice (some ⟨w.drew.heap.size, 0, none⟩) (k + 1) nc) :=
            .msl _ _ _ _ _ _ w.drew.heap.size _ e (0, 0) (by omega) fun _ => ⟨hlt, rfl, push_new, by rw [hcs]; omega⟩
          simpa using this
      · rename_i b off n sz
        split at happ
        · rename_i l hob
          cases hcond : (Nat.beq off 0 && Nat.beq ti.size sz && Nat.beq l.length (n * ti.size) && Nat.ble h.ro b && Nat.ble (n + (k + 1)) most && Nat.ble 1 n) with
          | false => rw [hcond] at happ; cases happ
          | true =>
            rw [hcond] at happ; cases happ
            simp only [Bool.and_eq_true, Nat.beq_eq, Nat.ble_eq] at hcond
            obtain ⟨⟨⟨⟨⟨rfl, rfl⟩, hlen⟩, _⟩, hmost⟩, hn1⟩ := hcond
            have hxr := (opnd_rel hF hx).val rfl
            have hadd2 : addedCells h ti.size (.msl b 0 n ti.size) = some (n, ((l.drop 0).take (n * ti.size)).map AVal.strip) := by
              unfold addedCells
              simp only [hob]
              rw [show (Nat.ble (0 + n * ti.size) l.length && Nat.beq ti.size ti.size) = true by simp [hlen]]
              rfl
            obtain ⟨_, _, old, o3, o4, o5⟩ := added_rel (X := X) (w := w.drew) hH hxr z1 hadd2
            generalize hzx : a.eval x = zx at hxr o3
            cases hxr with
            | msl _ _ _ _ a' cap B c e' z' hn hb =>
            obtain ⟨b1, rfl, b3, b4⟩ := hb (by omega)
            obtain ⟨B', c', e'', e1, e2, e3, e4, e5⟩ := hH.obj b _ hob
            obtain rfl : B' = B := by rw [b1] at e1; exact (Option.some.inj e1).symm
            rw [e3] at b3; cases b3
            have hlen' : (l.map AVal.strip ++ cs).length = (n + (k + 1)) * ti.size := by rw [List.length_append, List.length_map, l2, hlen, ← Nat.add_mul]
            have hl' : ((l.drop 0).take (n * ti.size)).map AVal.strip = l.map AVal.strip := by simp [← hlen]
            rw [hl'] at o4 o5
            by_cases hfit : n + (k + 1) ≤ cap
            · have hstep : (n + (k + 1)) * ti.size ≤ cap * ti.size := Nat.mul_le_mul_right _ hfit
              have hsum : (n + (k + 1)) * ti.size = n * ti.size + (k + 1) * ti.size := Nat.add_mul _ _ _
              have hnl' : new.toList.length = (k + 1) * ti.size := by simp [l4, l2]
              have h1c : ∀ q ∈ new.toList, q.oneCell' = true := by
                intro q hq
                obtain ⟨j, hj⟩ := List.getElem?_of_mem hq
                have hj' : new[j]? = some q := by simpa using hj
                have hlt : j < cs.length := by rw [← l4]; exact (Array.getElem?_eq_some_iff.1 hj').1
                obtain ⟨r1, r2⟩ := l5 j cs[j] q (List.getElem?_eq_getElem hlt) hj'
                exact oneCell_of r2 r1.1
              have hst := run_storeCells_at X.P B' (n * ti.size) e' new.toList 0 c w e3 (by omega) h1c
              simp only [Nat.add_zero] at hst
              have hrun := run_append_in (P := X.P) (w := w) (ty := o.type) (base := some ⟨B', 0, none⟩) (n := n) (cap := cap) q0 q1 u0 u1 hd hinfo l1 hfit l3 (by simp only [addr_add, Nat.zero_add]; exact hst)
              have hfit2 : n * ti.size + new.toList.length ≤ c.size := by omega
              have htouch := touch_setRow (w := w) e3 (seg_size c new.toList (n * ti.size) hfit2)
              have hrow := setRow_heap w B' c (c.toList.take (n * ti.size) ++ new.toList ++ c.toList.drop (n * ti.size + new.toList.length)).toArray e' (0, 0) e3
              have hsz2 := seg_size c new.toList (n * ti.size) hfit2
              have hold : ∀ (j : Nat) v, (l.map AVal.strip)[j]? = some v → (v.atom = true ∧ v.strip = v) ∧ ∃ x, c[j]? = some x ∧ VRel E w.heap v x := by
                intro j v hj
                rw [List.getElem?_map] at hj
                cases h3 : l[j]? with
                | none => rw [h3] at hj; cases hj
                | some v' =>
                  rw [h3] at hj; cases hj
                  obtain ⟨r1, x', r2, r3, _⟩ := e5 j v' h3
                  exact ⟨⟨by rw [atom_strip]; exact r1, strip_strip _⟩, x', r2, r3.strip⟩
              obtain ⟨m1, m2, m3⟩ := rename_row (l := l.map AVal.strip ++ cs) hH hF b1 e2 e3 htouch hrow (by rw [hlen', hsz2]; omega) (fun j v hj => by
                rw [List.getElem?_append, List.length_map] at hj
                rw [seg_get c new.toList (n * ti.size) j hfit2]
                split at hj
                · rename_i hlt
                  rw [if_neg (by omega)]
                  exact hold j v hj
                · rename_i hge
                  have hlt : j - l.length < new.size := by rw [l4]; exact (List.getElem?_eq_some_iff.1 hj).1
                  rw [if_pos (by rw [hnl']; have l2' : cs.length = (k + 1) * ti.size := l2; rw [l4, l2'] at hlt; omega)]
                  obtain ⟨r1, r2⟩ := l5 (j - l.length) v new[j - l.length] hj (Array.getElem?_eq_getElem hlt)
                  refine ⟨r1, _, ?_, r2⟩
                  rw [← hlen]; simp)
              refine wp_value (exec_append ho (by rw [hzx]; exact hrun)) ⟨s', _, _, β, rfl, m1, m2.put hs (.inl ?_) fun t ht => .of_strip rfl, Ext.rename e2 htouch m3 rfl rfl rfl⟩
              exact .msl _ _ _ _ _ _ B' _ e' (0, 0) hfit fun _ => ⟨by simp [Emb.addObj], rfl, hrow, by rw [hsz2]; exact b4⟩
            · obtain ⟨nc, g1, hrun⟩ := run_append_grow (P := X.P) (w := w) (ty := o.type) (base := some ⟨B', 0, none⟩) (n := n) (cap := cap) (old := old) q0 q1 u0 u1 hd hinfo l1 (by omega) hmost z2 o3 l3' hzr
              have hrel := append_rel (E := E) (hp := w.drew.heap) (a3 := Builtin.zeroCells zc.cells (nc - (n + (k + 1)))) o4 l4' o5 l5'
              have hcs : (old ++ new' ++ Builtin.zeroCells zc.cells (nc - (n + (k + 1)))).size = nc * ti.size := by
                simp only [Array.size_append, zeroCells_size, hzsz]
                rw [o4, l4', l2, List.length_map, hlen, ← Nat.add_mul, ← Nat.add_mul]; congr 1; omega
              have hle2 : (n + (k + 1)) * ti.size ≤ nc * ti.size := Nat.mul_le_mul_right _ g1
              obtain ⟨k1, k2, k3⟩ := new_row (w := w.drew) (hH.gone b) hF (old ++ new' ++ Builtin.zeroCells zc.cells (nc - (n + (k + 1)))) e (l.map AVal.strip ++ cs) (by rw [hcs, hlen']; exact hle2) (fun j v y hv hy => by
                obtain ⟨r1, x', r2, r3⟩ := hrel j v hv
                rw [hy] at r2; cases r2
                exact ⟨r1.1, r3, .of_strip r1.2⟩)
              have hlt := lt_ρ (w := w.drew) (E := E) (hH.gone b)
              simp only [List.length_set] at hlt k1 k2 k3
              refine wp_value (exec_append ho (by rw [hzx]; exact hrun)) ⟨s', _, _, β, rfl, k1, k2.put hs (.inl ?_) fun t ht => .of_strip rfl, (Ext.drew E w).trans k3⟩
              exact .msl _ _ _ _ _ _ w.drew.heap.size _ e (0, 0) g1 fun _ => ⟨hlt, rfl, push_new, by rw [hcs]; omega⟩
        · cases happ
      · cases happ
    · rename_i cs hadd
      have hnl : ∀ i off, vb ≠ .loc i off := by rintro i off rfl; simp [addedCells] at hadd
      have hyr := (opnd_rel hF hy).val' hnl
      obtain ⟨l1, l2, new, l3, l4, l5⟩ := added_rel (X := X) hH hyr z1 hadd
      have hnew : new.toList = [] := by
        have : new.size = 0 := by rw [l4, l2]; simp
        rw [Array.toList_eq_nil_iff]; exact Array.eq_empty_of_size_eq_zero this
      split at happ
      · have hxr := (opnd_rel hF hx).val rfl
        generalize hzx : a.eval x = zx at hxr
        cases hxr
        cases happ
        have hrun := run_append_in (P := X.P) (w := w) (w' := w) (ty := o.type) (base := none) (n := 0) (cap := 0) q0 q1 u0 u1 hd hinfo l1 (Nat.le_refl _) l3 rfl
        exact wp_value (exec_append ho (by rw [hzx]; exact hrun)) ⟨s', _, E, β, rfl, hH, hF.put hs (.inl .nils) fun t _ => .of_strip rfl, Ext.refl _ _⟩
      · rename_i b off n sz
        cases hcond : Nat.beq ti.size sz with
        | false => rw [hcond] at happ; cases happ
        | true =>
          rw [hcond] at happ; cases happ
          have hxr := (opnd_rel hF hx).val rfl
          generalize hzx : a.eval x = zx at hxr
          have hxr' := hxr
          cases hxr with
          | msl _ _ _ _ a' cap B c e' z' hn hb =>
          have hrun := run_append_in (P := X.P) (w := w) (w' := w) (ty := o.type) (base := a') (n := n) (cap := cap) q0 q1 u0 u1 hd hinfo l1 (by omega) l3 (by cases a' <;> simp [hnew, storeCells])
          simp only [Nat.add_zero] at hrun
          exact wp_value (exec_append ho (by rw [hzx]; exact hrun)) ⟨s', _, E, β, rfl, hH, hF.put hs (.inl hxr') fun t _ => .of_strip rfl, Ext.refl _ _⟩
      · cases happ
    · cases happ
  · cases happ
end Go.Den
namespace Go.Den
open Go
variable {E : Emb} {β : Nat → Option Nat} {X : Ctx} {w : World} {s : FS} {h : Heap} {a : Act} {f : FuncId}
theorem row_cells {P : Program} (hH : HRel E w.heap h) {b off n sz m cap : Nat} {a' : Option Addr} {l : List AVal} (hv : VRel E w.heap (.msl b off n sz) (.slice a' n cap)) (ho : h.objs[b]? = some (.cells l))
    (hm : m ≤ n) (hm0 : m ≠ 0) (hl : off + m * sz ≤ l.length) :
    ∃ arr : Array Value, (Builtin.firstCells sz m (.slice a' n cap)).run P w = .ok arr w ∧ arr.size = m * sz ∧
      ∀ (j : Nat) v x, (((l.drop off).take (m * sz)).map AVal.strip)[j]? = some v → arr[j]? = some x → (v.atom = true ∧ v.strip = v) ∧ VRel E w.heap v x := by
  cases hv with
  | msl _ _ _ _ _ _ B c e z hn hb =>
    obtain ⟨b1, rfl, b3, b4⟩ := hb (by omega)
    obtain ⟨B', c', e', e1, e2, e3, e4, e5⟩ := hH.obj b _ ho
    obtain rfl : B' = B := by rw [b1] at e1; exact (Option.some.inj e1).symm
    refine ⟨((List.range (m * sz)).map fun j => (cellOf w.heap B' (off + j)).getD undef).toArray, ?_, by simp, ?_⟩
    · simp only [Builtin.firstCells]
      refine run_loadCells w _ _ _ fun j hj => ?_
      rw [addr_add, cell_eq]
      obtain ⟨_, x, hx, _⟩ := e5 (off + j) _ (List.getElem?_eq_getElem (by omega))
      simp [cellOf, e3, hx]
    · intro j v x hv hx
      rw [List.getElem?_map, List.getElem?_take] at hv
      by_cases hj : j < m * sz
      · simp only [hj, if_true, List.getElem?_drop] at hv
        cases h3 : l[off + j]? with
        | none => rw [h3] at hv; cases hv
        | some v' =>
          rw [h3] at hv; cases hv
          obtain ⟨q1, x', q2, q3, _⟩ := e5 (off + j) v' h3
          have : x = x' := by
            simp [hj, cellOf, e3, q2] at hx
            exact hx.symm
          subst this
          exact ⟨⟨by rw [atom_strip]; exact q1, strip_strip _⟩, q3.strip⟩
      · simp [hj] at hv
theorem step_copy {o : Oper} {x y : Operand} {ts : Array TypeId} {t0 e : TypeId} {b off n sz b' off' n' sz' size : Nat} {l : List AVal} {out : Out} (hH : HRel E w.heap h) (hF : FRel E β w.heap s a)
    (ho : o.op = .call { callee := .builtin .copy, args := #[x, y], argTypes := ts }) (hts : ts[0]? = some t0) (hE : tyElem X.P t0 = some e) (hx : opnd s.env x = some (.msl b off n sz)) (hy : opnd s.env y = some (.msl b' off' n' sz'))
    (hsz : tySize X.P e = some size) (hob : h.objs[b']? = some (.cells l)) (hle : off' + min n' n * size ≤ l.length) (h1 : size = sz) (h2 : size = sz')
    (hc : (cond (Nat.beq (min n' n) 0) (cont? (s.put o.dst (.int .i64 0)) h)
              (match astore s h (.ptr b off) (((l.drop off').take (min n' n * size)).map AVal.strip) with
               | some (s₁, h') => cont? (s₁.put o.dst (.int .i64 (min n' n : Nat))) h'
               | none => none)) = some out) : o.wp X.P a w (NextOK E w out) (PanicOK E w out) := by
  subst h1
  subst h2
  have hu := tyElem_underlying hE
  have vx := (opnd_rel hF hx).val rfl
  have vy := (opnd_rel hF hy).val rfl
  have exec : ∀ {v w'}, (Builtin.copy_ ts o.type #[a.eval x, a.eval y]).run X.P w = .ok v w' → (execOp a.eval o).run X.P w = .ok (.value v) w' := by
    intro v w' hr
    simp [execOp, ho, resolve, invoke, builtin, hr]
  generalize hzx : a.eval x = zx at vx exec
  generalize hzy : a.eval y = zy at vy exec
  cases hm : Nat.beq (min n' n) 0 with
  | true =>
    rw [hm] at hc
    obtain ⟨s', hs, rfl⟩ := cont_some hc
    have hm0 : Nat.min n' n = 0 := Nat.eq_of_beq_eq_true hm
    cases vx with
    | msl _ _ _ _ ax capx Bx cx ex zzx hnx hbx =>
      cases vy with
      | msl _ _ _ _ ay capy By cy ey zzy hny hby =>
        refine wp_value (exec (v := .int .i64 0) (w' := w) ?_) ⟨s', h, E, β, rfl, hH, hF.put hs (.inl (.int _ _)) fun t _ => .of_strip rfl, Ext.refl _ _⟩
        have hf : (Builtin.firstCells size 0 (.slice ay n' capy)).run X.P w = .ok #[] w := by
          cases ay <;> simp [Builtin.firstCells, loadCells, loadCellsFrom]
        cases ax <;> simp [Builtin.copy_, hts, run_underlying' hu, Builtin.lenOf, hm0, run_sizeOf' hsz, hf, storeCells, goInt]
  | false =>
    rw [hm] at hc
    have hm0 : min n' n ≠ 0 := fun e => by rw [e] at hm; cases hm
    simp only [cond_false] at hc
    split at hc
    · rename_i s₁ h₁ hst
      obtain ⟨s', hs, rfl⟩ := cont_some hc
      have vx' := vx
      cases vx' with
      | msl _ _ _ _ ax capx Bx cx ex zzx hnx hbx =>
        obtain ⟨b1, rfl, _⟩ := hbx (by omega)
        have vy' := vy
        cases vy' with
        | msl _ _ _ _ ay capy By cy ey zzy hny hby =>
          obtain ⟨arr, r1, r2, r3⟩ := row_cells (P := X.P) hH vy hob (Nat.min_le_left n' n) hm0 hle
          obtain ⟨B, o', w', e1, e2, e3, e4, e5⟩ := astore_rel (P := X.P) hH hF (.inl (.ptr b off Bx b1)) (vs := arr.toList) (by simp [r2]; omega) (fun j v y hv hy => by
            obtain ⟨q1, q2⟩ := r3 j v y hv (by simpa using hy)
            exact ⟨q1.1, q2, .of_strip q1.2⟩) hst
          cases e1
          refine wp_value (exec (v := .int .i64 ((min n' n : Nat))) (w' := w') ?_) ⟨s', h₁, E, β, rfl, e3, e4.put hs (.inl (.int _ _)) fun t _ => .of_strip rfl, e5⟩
          have hmm : Nat.min n' n = min n' n := rfl
          simp [Builtin.copy_, hts, run_underlying' hu, Builtin.lenOf, hmm, run_sizeOf' hsz, r1, e2, goInt]
    · cases hc
def CallPost (E : Emb) (w : World) (h' : Heap) (r : ARes) (e : Ending) (w' : World) : Prop :=
  ∃ E', Ext E w E' w' ∧ HRel E' w'.heap h' ∧
    match r, e with
    | .ret v, .returned x => VRel E' w'.heap v x ∧ SpareV E' w'.heap .spareR v x
    | .panic v, .panicked chain => ∃ x, chain = [{ v := x, recovered := false }] ∧ VRel E' w'.heap v x
    | _, _ => False
def ArgsRel (E : Emb) (hp : HP) (args : List AVal) (cargs : Array Value) : Prop :=
  cargs.size = args.length ∧ ∀ (j : Nat) v x, args[j]? = some v → cargs[j]? = some x → VRel E hp v x ∧ SpareV E hp (.spareT j) v x
def CallSim (P : Program) (call : Call) : Prop :=
  ∀ f args h r h', call f args h = some (r, h') → ∀ (E : Emb) (w : World) (cargs : Array Value), HRel E w.heap h → ArgsRel E w.heap args cargs → Calls P f cargs w (CallPost E w h' r)
def Emb.inner (E : Emb) : Emb where
  ρ := E.ρ
  kind B := match E.kind B with
    | .box _ => .foreign
    | k => k
  tag B k := match E.tag B k with
    | .spareT _ _ => .junk
    | .spareB _ _ => .junk
    | .spareR j => .spareT 0 j
    | g => g
def Emb.outer (E : Emb) (n : Nat) (E' : Emb) : Emb where
  ρ := E'.ρ
  kind B := match E.kind B with
    | .box i => if B < n then .box i else E'.kind B
    | _ => E'.kind B
  tag B k := match E.kind B, E.tag B k with
    | .store, .spareT t j => if B < n then .spareT t j else E'.tag B k
    | .store, .spareB i j => if B < n then .spareB i j else E'.tag B k
    | _, _ => E'.tag B k
theorem inner_mono {hp : HP} : Mono E hp E.inner hp :=
  ⟨fun _ _ h => h, fun B k x h => ⟨by simp [Emb.inner, h.1], by simp [Emb.inner, h.2.1], h.2.2⟩, fun _ c _ _ h => ⟨c, h, rfl⟩⟩
theorem inner_heap {hp : HP} (hH : HRel E hp h) : HRel E.inner hp h where
  tab := ⟨by simp [Emb.inner, hH.tab.1], hH.tab.2⟩
  obj b o ho := by
    have ho' := hH.obj b o ho
    cases o with
    | gone => trivial
    | cells l =>
      obtain ⟨B, c, e, e1, e2, e3, e4, e5⟩ := ho'
      exact ⟨B, c, e, e1, by simp [Emb.inner, e2], e3, e4, e5.mono inner_mono fun B k j hs => ⟨by simp [Emb.inner, hs.1], by simp [Emb.inner, hs.2.1], hs.2.2⟩⟩
    | amap es =>
      obtain ⟨B, c, e, e1, e2, e3, e4⟩ := ho'
      exact ⟨B, c, e, e1, by simp [Emb.inner, e2], e3, MRelL.mono inner_mono e4⟩
  rng := hH.rng
section
variable {E' : Emb} {w' : World}
theorem outer_kind_store (x : Ext E.inner w E' w') {B : Nat} (h : E'.kind B = .store) : (E.outer w.heap.size E').kind B = .store := by
  simp only [Emb.outer]
  split
  · rename_i i hk
    split
    · rename_i hlt
      have := (x.foreign B hlt (by simp [Emb.inner, hk])).1
      rw [h] at this; cases this
    · exact h
  · exact h
theorem outer_kind_obj (x : Ext E.inner w E' w') {B b : Nat} (h : E'.kind B = .obj b) : (E.outer w.heap.size E').kind B = .obj b := by
  simp only [Emb.outer]
  split
  · rename_i i hk
    split
    · rename_i hlt
      have := (x.foreign B hlt (by simp [Emb.inner, hk])).1
      rw [h] at this; cases this
    · exact h
  · exact h
theorem outer_tag (x : Ext E.inner w E' w') {B k : Nat} {g : Tag} (h : E'.tag B k = g) (hg : g ≠ .junk) : (E.outer w.heap.size E').tag B k = g := by
  simp only [Emb.outer]
  split
  · rename_i t j hk ht
    split
    · rename_i hlt
      have := (x.junk B k hlt (by simp [Emb.inner, hk]) (by simp [Emb.inner, ht])).1
      rw [h] at this; exact absurd this hg
    · exact h
  · rename_i i j hk ht
    split
    · rename_i hlt
      have := (x.junk B k hlt (by simp [Emb.inner, hk]) (by simp [Emb.inner, ht])).1
      rw [h] at this; exact absurd this hg
    · exact h
  · exact h
theorem outer_mono' (x : Ext E.inner w E' w') : Mono E' w'.heap (E.outer w.heap.size E') w'.heap :=
  ⟨fun _ _ h => h, fun B k y h => ⟨outer_kind_store x h.1, outer_tag x h.2.1 (fun e => by cases e), h.2.2⟩, fun _ c _ _ h => ⟨c, h, rfl⟩⟩
theorem outer_spare (x : Ext E.inner w E' w') {B k : Nat} {g : Tag} (hg : g ≠ .junk) (h : Spare E' w'.heap B k g) : Spare (E.outer w.heap.size E') w'.heap B k g :=
  ⟨outer_kind_store x h.1, outer_tag x h.2.1 hg, h.2.2⟩
theorem outer_heap (x : Ext E.inner w E' w') (ht : E.kind tabG = .foreign) {h' : Heap} (hH : HRel E' w'.heap h') : HRel (E.outer w.heap.size E') w'.heap h' where
  tab := ⟨by simp only [Emb.outer, ht]; exact hH.tab.1, hH.tab.2⟩
  obj b o ho := by
    have ho' := hH.obj b o ho
    cases o with
    | gone => trivial
    | cells l =>
      obtain ⟨B, c, e, e1, e2, e3, e4, e5⟩ := ho'
      exact ⟨B, c, e, e1, outer_kind_obj x e2, e3, e4, e5.mono (outer_mono' x) fun B k j => outer_spare x (fun e => by cases e)⟩
    | amap es =>
      obtain ⟨B, c, e, e1, e2, e3, e4⟩ := ho'
      exact ⟨B, c, e, e1, outer_kind_obj x e2, e3, MRelL.mono (outer_mono' x) e4⟩
  rng := hH.rng
theorem outer_mono (x : Ext E.inner w E' w') : Mono E w.heap (E.outer w.heap.size E') w'.heap := (inner_mono.trans x.mono).trans (outer_mono' x)
theorem outer_spareT (x : Ext E.inner w E' w') {B k : Nat} {g : Tag} (hg : (∃ t j, g = .spareT t j) ∨ ∃ i j, g = .spareB i j) (h : Spare E w.heap B k g) : Spare (E.outer w.heap.size E') w'.heap B k g := by
  have hlt := h.lt
  obtain ⟨h1, h2, c, e, h3, h4⟩ := h
  have hs : E'.kind B = .store := x.store B hlt (by simp [Emb.inner, h1])
  obtain ⟨c', h5, h6⟩ := x.mono.row B c e (0, 0) h3
  refine ⟨outer_kind_store x hs, ?_, c', e, h5, by omega⟩
  rcases hg with ⟨t, j, rfl⟩ | ⟨i, j, rfl⟩ <;> simp [Emb.outer, h1, h2, hlt]
theorem outer_frame (x : Ext E.inner w E' w') (hF : FRel E β w.heap s a) : FRel (E.outer w.heap.size E') β w'.heap s a where
  size := hF.size
  tmp t := ⟨(hF.tmp t).1.mono (outer_mono x), (hF.tmp t).2.mono fun B k j => outer_spareT x (.inl ⟨t, j, rfl⟩)⟩
  box i l hi := by
    obtain ⟨B, h1, h2⟩ := hF.box i l hi
    have hB : B < w.heap.size := by obtain ⟨c, e, _, h3, _⟩ := h2; exact (Array.getElem?_eq_some_iff.1 h3).1
    have hk : E.kind B = .box i := by obtain ⟨c, e, h2, _⟩ := h2; exact h2
    have hf := x.foreign B hB (by simp [Emb.inner, hk])
    exact ⟨B, h1, h2.mono (outer_mono x) ⟨hf.2, by simp [Emb.outer, hk, hB]⟩ fun B k j => outer_spareT x (.inr ⟨i, j, rfl⟩)⟩
  brng := hF.brng
  defs := hF.defs.mono (outer_mono x)
theorem outer_ext (x : Ext E.inner w E' w') : Ext E w (E.outer w.heap.size E') w' where
  os := x.os
  tape := x.tape
  output := x.output
  size := x.size
  mono := outer_mono x
  foreign B hB hk := by
    obtain ⟨h1, h2⟩ := x.foreign B hB (by simp [Emb.inner, hk])
    exact ⟨by simp [Emb.outer, hk, h1], h2⟩
  store B hB hk := outer_kind_store x (x.store B hB (by simp [Emb.inner, hk]))
  junk B k hB hk ht := by
    obtain ⟨h1, h2⟩ := x.junk B k hB (by simp [Emb.inner, hk]) (by simp [Emb.inner, ht])
    exact ⟨by simp [Emb.outer, hk, ht, h1], h2⟩
end
end Go.Den
namespace Go.Den
open Go
variable {E : Emb} {β : Nat → Option Nat} {X : Ctx} {w : World} {s : FS} {h : Heap} {a : Act} {f : FuncId}
def PlainNames (P : Program) : Prop := ∀ (g : Nat) (fn : Func), P.funcs[g]? = some fn → (fn.name == "runtime.NumGoroutine") = false
theorem run_callFunc {P : Program} (hP : PlainNames P) {g : FuncId} {args : Array Value} (hb : hasBody P g = true) : (callFunc g args).run P w = .ok (.enter g args) w := by
  unfold hasBody at hb
  split at hb
  · rename_i fn hfn
    have hn := hP g fn hfn
    cases hbody : fn.body with
    | none => rw [hbody] at hb; cases hb
    | some c =>
      have hn' : ¬ fn.name = "runtime.NumGoroutine" := by simpa using hn
      simp [callFunc, hfn, hbody, hn']
  · cases hb
theorem step_call {call : Call} (hP : PlainNames X.P) (hcall : CallSim X.P call) {o : Oper} {x : Operand} {args : Array Operand} {ts : Array TypeId} {g : FuncId} {caps vs : List AVal} {s₁ : FS} {out : Out}
    (hH : HRel E w.heap h) (hF : FRel E β w.heap s a) (ho : o.op = .call { callee := .value x, args := args, argTypes := ts }) (hx : opnd s.env x = some (.fn g caps)) (ha : argVals X f s args.toList = some (vs, s₁))
    (hnl : noLocs vs = true) (hb : hasBody X.P g = true) (hc : callOut s₁ o.dst (call g (vs ++ caps) h) = some out) : o.wp X.P a w (NextOK E w out) (PanicOK E w out) := by
  -- the arguments
  have key : ∃ E1, HRel E1 w.heap h ∧ FRel E1 β w.heap s₁ a ∧ Ext E w E1 w ∧ vs.length = args.size ∧
      ∀ (j : Nat) v y, vs[j]? = some v → (args.map a.eval)[j]? = some y → VRel E1 w.heap v y ∧ (j = 0 → SpareV E1 w.heap .spareR v y) ∧ (j ≠ 0 → v.stripA = v) := by
    have hlocs : ∀ (j : Nat) v, vs[j]? = some v → v.isLoc = false := fun j v hv => by
      have := List.all_eq_true.1 hnl v (List.mem_of_getElem? hv)
      simpa using this
    unfold argVals at ha
    split at ha
    · rename_i he
      cases ha
      have : args = #[] := by apply Array.ext'; simpa using he
      subst this
      exact ⟨E, hH, hF, Ext.refl _ _, rfl, fun j v y hv => by simp at hv⟩
    · rename_i x0 xs he
      split at ha
      · rename_i v0 us hx0 hus
        cases ha
        obtain ⟨u1, u2⟩ := mapO_some hus
        have hargs : args = (x0 :: xs).toArray := by rw [← he]
        have rest : ∀ {E1 : Emb}, Mono E w.heap E1 w.heap → ∀ (j : Nat) v y, (us.map AVal.stripA)[j]? = some v → (xs.map a.eval)[j]? = some y → v.isLoc = false → VRel E1 w.heap v y ∧ v.stripA = v := by
          intro E1 m j v y hv hy hl
          rw [List.getElem?_map] at hv
          cases h3 : us[j]? with
          | none => rw [h3] at hv; cases hv
          | some u =>
            rw [h3] at hv; cases hv
            obtain ⟨z, hz1, hz2⟩ := mapO_some' hus j u h3
            rw [List.getElem?_map, hz1] at hy
            cases hy
            rw [isLoc_stripA] at hl
            exact ⟨(((opnd_rel hF hz2).mono m).val hl).stripA, stripA_stripA _⟩
        have hl0 := hlocs 0 _ rfl
        cases hlin : isLin X f x0 with
        | true =>
          rw [hlin] at hl0
          obtain ⟨E1, t1, t2, t3, t4, _⟩ := take_out hH hF hx0 .spareR
          refine ⟨E1, t1, t2, t3, by rw [hargs]; simp [u1], fun j v y hv hy => ?_⟩
          rw [hargs] at hy
          cases j with
          | zero =>
            simp at hv hy
            subst hv; subst hy
            exact ⟨((opnd_rel hF hx0).mono t3.mono).val hl0, fun _ => t4, fun h => absurd rfl h⟩
          | succ j =>
            have hv' := hlocs (j + 1) v (by rw [hlin]; exact hv)
            simp at hv hy
            obtain ⟨q1, q2⟩ := rest t3.mono j v y (by simpa using hv) (by simpa using hy) hv'
            exact ⟨q1, fun h => (by omega), fun _ => q2⟩
        | false =>
          rw [hlin] at hl0
          refine ⟨E, hH, hF, Ext.refl _ _, by rw [hargs]; simp [u1], fun j v y hv hy => ?_⟩
          rw [hargs] at hy
          cases j with
          | zero =>
            simp at hv hy
            subst hv; subst hy
            have : v0.isLoc = false := by rw [← isLoc_stripA]; exact hl0
            exact ⟨((opnd_rel hF hx0).val this).stripA, fun _ => .of_strip (stripA_stripA _), fun h => absurd rfl h⟩
          | succ j =>
            have hv' := hlocs (j + 1) v (by rw [hlin]; exact hv)
            simp at hv hy
            obtain ⟨q1, q2⟩ := rest (Mono.refl _ _) j v y (by simpa using hv) (by simpa using hy) hv'
            exact ⟨q1, fun h => (by omega), fun _ => q2⟩
      · cases ha
  obtain ⟨E1, h1, h2, h3, hlen, hargs⟩ := key
  have hfx := ((opnd_rel hF hx).mono h3.mono).val rfl
  generalize hzx : a.eval x = zx at hfx
  cases hfx with
  | fn _ _ us hl hvv hau =>
    have hrun : (execOp a.eval o).run X.P w = .ok (.enter g (args.map a.eval ++ us)) w := by
      simp [execOp, ho, resolve, hzx, Deferred.ofValue, invoke, run_callFunc hP hb]
    have harel : ArgsRel E1.inner w.heap (vs ++ caps) (args.map a.eval ++ us) := by
      refine ⟨by simp [hlen, hl], fun j v y hv hy => ?_⟩
      rw [List.getElem?_append] at hv
      split at hv
      · rename_i hlt
        rw [Array.getElem?_append_left (by simp; omega)] at hy
        obtain ⟨q1, q2, q3⟩ := hargs j v y hv hy
        refine ⟨q1.mono inner_mono, ?_⟩
        by_cases hj : j = 0
        · subst hj
          exact (q2 rfl).mono fun B k j hs => ⟨by simp [Emb.inner, hs.1], by simp [Emb.inner, hs.2.1], hs.2.2⟩
        · exact .of_strip (q3 hj)
      · rename_i hge
        rw [Array.getElem?_append_right (by simp; omega)] at hy
        have hy' : us[j - vs.length]? = some y := by simpa [hlen] using hy
        exact ⟨(hvv _ v y hv hy').mono inner_mono, .of_strip (hau v (List.mem_of_getElem? hv)).2⟩
    unfold Oper.wp
    rw [hrun, Oper.upon_enter]
    unfold callOut at hc
    split at hc
    · rename_i v h' hcl
      obtain ⟨s', hs, rfl⟩ := cont_some hc
      refine (hcall g _ h _ _ hcl E1.inner w _ (inner_heap h1) harel).mono ?_
      rintro e w' ⟨E', x1, x2, x3⟩
      cases e with
      | returned y =>
        obtain ⟨x4, x5⟩ := x3
        have f1 := outer_heap x1 h1.tab.1 x2
        have f2 := outer_frame x1 h2
        obtain ⟨E3, r1, r2, r3, r4⟩ := retagR f1 f2 (dstTag o.dst)
        refine ⟨s', h', E3, β, rfl, r1, r2.put hs (.inl ((x4.mono (outer_mono' x1)).mono r3.mono)) fun t ht => ?_, h3.trans ((outer_ext x1).trans r3)⟩
        rw [← dstTag_some ht]
        exact (x5.mono fun B k j => outer_spare x1 (fun e => by cases e)).mono r4
      | panicked chain => exact x3.elim
      | outgrown => exact x3.elim
    · rename_i v h' hcl
      cases hc
      refine (hcall g _ h _ _ hcl E1.inner w _ (inner_heap h1) harel).mono ?_
      rintro e w' ⟨E', x1, x2, x3⟩
      cases e with
      | returned y => exact x3.elim
      | panicked chain =>
        obtain ⟨y, rfl, x4⟩ := x3
        exact ⟨v, s₁, h', E1.outer w.heap.size E', β, y, rfl, rfl, outer_heap x1 h1.tab.1 x2, outer_frame x1 h2, h3.trans (outer_ext x1), x4.mono (outer_mono' x1)⟩
      | outgrown => exact x3.elim
    · cases hc
theorem arr1 {α : Type} {l : Array α} {x : α} (h : l.toList = [x]) : l = #[x] := by apply Array.ext'; simpa using h
theorem arr2 {α : Type} {l : Array α} {x y : α} (h : l.toList = [x, y]) : l = #[x, y] := by apply Array.ext'; simpa using h
theorem step_take {o : Oper} {t : TypeId} {p : Operand} {q v : AVal} {l : List AVal} {off : Nat} {s₁ : FS} {h₁ : Heap} {out : Out} (hH : HRel E w.heap h) (hF : FRel E β w.heap s a) (ho : o.op = .load t p)
    (hp : opnd s.env p = some q) (hn : tySize X.P t = some 1) (hg : tyAgg X.P t = some false) (hr : rowAt s h q = some (l, off)) (hv : l[off]? = some v)
    (hst : astore s h q [v.strip] = some (s₁, h₁)) (hc : cont? (s₁.put o.dst v) h₁ = some out) : o.wp X.P a w (NextOK E w out) (PanicOK E w out) := by
  obtain ⟨s', hs, rfl⟩ := cont_some hc
  let g : Tag → Tag := fun t => match placeTag q 0, t with
    | .spareH b j, .spareH b' j' => if b = b' ∧ j = j' then dstTag o.dst 0 else .spareH b' j'
    | .spareB b j, .spareB b' j' => if b = b' ∧ j = j' then dstTag o.dst 0 else .spareB b' j'
    | _, t => t
  have gi : g .imm = .imm := by simp only [g]; split <;> first | rfl | simp_all
  have gj : g .junk = .junk := by simp only [g]; split <;> first | rfl | simp_all
  have gt : ∀ t j, g (.spareT t j) = .spareT t j := by intro t j; simp only [g]; split <;> first | rfl | simp_all
  have hqr := opnd_rel hF hp
  obtain ⟨B, o', hx, hl⟩ := rowAt_rel hH hF hqr hr
  obtain ⟨hat, y, hy, hvy⟩ := hl off v hv
  have hrun : (execOp a.eval o).run X.P w = .ok (.value y) w := by
    simp [execOp, ho, Instr.loadAt, hx, Instr.sureAddr, loadVar, run_isAgg' hg, run_load, cell_eq, hy]
  have hm : Mono E w.heap (E.retag g) w.heap := .retag gi
  unfold astore at hst
  split at hst
  · rename_i b off'
    split at hst
    · rename_i l' hob
      cases hcond : (Nat.ble h.ro b && Nat.ble (off' + [v.strip].length) l'.length) with
      | false => rw [hcond] at hst; cases hst
      | true =>
        rw [hcond] at hst; cases hst
        simp only [Bool.and_eq_true, Nat.ble_eq] at hcond
        have e : rowAt s h (.ptr b off') = some (l', off') := by simp [rowAt, hob]
        rw [e] at hr; cases hr
        have hgo : g (.spareH b off) = dstTag o.dst 0 := by simp [g, placeTag]
        have hgn : ∀ b' j, ¬ (b = b' ∧ off = j) → g (.spareH b' j) = .spareH b' j := by intro b' j hne; simp [g, placeTag]; intro h1 h2; exact absurd ⟨h1, h2⟩ hne
        have hgb : ∀ i j, g (.spareB i j) = .spareB i j := by intro i j; simp [g, placeTag]
        obtain ⟨B', c, e', e1, e2, e3, e4, e5⟩ := hH.obj b _ hob
        have hB : B' = B ∧ o' = 0 := by
          have hq2 := hqr.val rfl
          rw [hx] at hq2
          generalize hz : (Value.pointer (some ⟨B, o' + off, none⟩)) = z at hq2
          cases hq2 with
          | ptr _ _ B2 hB2 => rw [hB2] at e1; cases e1; injection hz with hz; injection hz with hz; injection hz with h5 h6; exact ⟨h5.symm, by omega⟩
        obtain ⟨rfl, rfl⟩ := hB
        have hcr : CellsRel (E.retag g) w.heap (.spareH b) (putAt l off [v.strip]) c := by
          intro j u hj
          rw [putAt_get [v.strip] l off j hcond.2] at hj
          by_cases hjo : off ≤ j ∧ j < off + [v.strip].length
          · rw [if_pos hjo] at hj
            have : j = off := by simp at hjo; omega
            subst this
            simp at hj
            subst hj
            obtain ⟨q1, x', q2, q3, _⟩ := e5 j v hv
            exact ⟨by rw [atom_strip]; exact q1, x', q2, (q3.mono hm).strip, .of_strip (strip_strip _)⟩
          · rw [if_neg hjo] at hj
            obtain ⟨q1, x', q2, q3, q4⟩ := e5 j u hj
            refine ⟨q1, x', q2, q3.mono hm, q4.mono fun B k hs => hs.retag (hgn b j ?_)⟩
            rintro ⟨_, rfl⟩; exact hjo ⟨Nat.le_refl _, by simp⟩
        have hsv : SpareV (E.retag g) w.heap (dstTag o.dst) v y := by
          intro j vj yj h1 h2
          rw [atom_cells hat] at h1
          rw [(hvy.one hat).2.2] at h2
          cases j with
          | succ j => simp at h1
          | zero =>
            simp at h1 h2
            subst h1; subst h2
            obtain ⟨_, x', q2, _, q4⟩ := e5 off v hv
            have hcy : cellOf w.heap B' (0 + off) = some y := hy
            have : x' = y := by simp [cellOf, e3, q2] at hcy; exact hcy
            subst this
            exact q4.mono fun B k hs => hs.retag hgo
        refine wp_value hrun ⟨s', _, E.retag g, β, rfl, ?_, FRel.put (s := s) ?_ hs (.inl (hvy.mono hm)) fun t ht => by rw [← dstTag_some ht]; exact hsv, .retag gi gj⟩
        · refine ⟨hH.tab, fun b' o2 ho2 => ?_, fun b' B2 hb2 => by simpa using hH.rng b' B2 hb2⟩
          rw [List.getElem?_set] at ho2
          split at ho2
          · rename_i hbb; subst hbb
            split at ho2
            · cases ho2
              exact ⟨B', c, e', e1, e2, e3, by rw [putAt_length]; exact e4, hcr⟩
            · cases ho2
          · rename_i hne
            exact (hH.obj b' o2 ho2).mono hm (fun _ _ => ⟨rfl, rfl⟩) fun B k j hs => hs.retag (hgn b' j fun hc => hne hc.1)
        · refine ⟨hF.size, fun t' => ⟨(hF.tmp t').1.mono hm, (hF.tmp t').2.mono fun B k j hs => hs.retag (gt t' j)⟩, fun i l2 hi => ?_, hF.brng, hF.defs.mono hm⟩
          obtain ⟨B2, q1, q2⟩ := hF.box i l2 hi
          exact ⟨B2, q1, q2.mono hm ⟨rfl, rfl⟩ fun B k j hs => hs.retag (hgb i j)⟩
    · cases hst
  · rename_i i off'
    split at hst
    · rename_i l' hob
      cases hcond : Nat.ble (off' + [v.strip].length) l'.length with
      | false => rw [hcond] at hst; cases hst
      | true =>
        rw [hcond] at hst; cases hst
        have hcond := Nat.le_of_ble_eq_true hcond
        have e : rowAt s h (.loc i off') = some (l', off') := by simp [rowAt, hob]
        rw [e] at hr; cases hr
        have hgo : g (.spareB i off) = dstTag o.dst 0 := by simp [g, placeTag]
        have hgn : ∀ b' j, ¬ (i = b' ∧ off = j) → g (.spareB b' j) = .spareB b' j := by intro b' j hne; simp [g, placeTag]; intro h1 h2; exact absurd ⟨h1, h2⟩ hne
        have hgb : ∀ i j, g (.spareH i j) = .spareH i j := by intro i j; simp [g, placeTag]
        obtain ⟨B', e1, c, e', e2, e3, e4, e5⟩ := hF.box i _ hob
        have hB : B' = B ∧ o' = 0 := by
          rcases hqr with hq2 | ⟨i2, off2, B2, h5, h6, h7⟩
          · cases hq2
          · cases h5
            rw [e1] at h6; cases h6
            rw [hx] at h7
            injection h7 with h7; injection h7 with h7; injection h7 with h8 h9
            exact ⟨h8.symm, by omega⟩
        obtain ⟨rfl, rfl⟩ := hB
        have hcr : CellsRel (E.retag g) w.heap (.spareB i) (putAt l off [v.strip]) c := by
          intro j u hj
          rw [putAt_get [v.strip] l off j hcond] at hj
          by_cases hjo : off ≤ j ∧ j < off + [v.strip].length
          · rw [if_pos hjo] at hj
            have : j = off := by simp at hjo; omega
            subst this
            simp at hj
            subst hj
            obtain ⟨q1, x', q2, q3, _⟩ := e5 j v hv
            exact ⟨by rw [atom_strip]; exact q1, x', q2, (q3.mono hm).strip, .of_strip (strip_strip _)⟩
          · rw [if_neg hjo] at hj
            obtain ⟨q1, x', q2, q3, q4⟩ := e5 j u hj
            refine ⟨q1, x', q2, q3.mono hm, q4.mono fun B k hs => hs.retag (hgn i j ?_)⟩
            rintro ⟨_, rfl⟩; exact hjo ⟨Nat.le_refl _, by simp⟩
        have hsv : SpareV (E.retag g) w.heap (dstTag o.dst) v y := by
          intro j vj yj h1 h2
          rw [atom_cells hat] at h1
          rw [(hvy.one hat).2.2] at h2
          cases j with
          | succ j => simp at h1
          | zero =>
            simp at h1 h2
            subst h1; subst h2
            obtain ⟨_, x', q2, _, q4⟩ := e5 off v hv
            have hcy : cellOf w.heap B' (0 + off) = some y := hy
            have : x' = y := by simp [cellOf, e3, q2] at hcy; exact hcy
            subst this
            exact q4.mono fun B k hs => hs.retag hgo
        refine wp_value hrun ⟨s', h, E.retag g, β, rfl, hH.retag gi hgb, FRel.put (s := { s with boxes := s.boxes.set i (putAt l off [v.strip]) }) ?_ hs (.inl (hvy.mono hm)) fun t ht => by rw [← dstTag_some ht]; exact hsv, .retag gi gj⟩
        refine ⟨hF.size, fun t' => ⟨(hF.tmp t').1.mono hm, (hF.tmp t').2.mono fun B k j hs => hs.retag (gt t' j)⟩, fun i2 l2 hi => ?_, fun i2 B2 hi => by simpa using hF.brng i2 B2 hi, hF.defs.mono hm⟩
        rw [List.getElem?_set] at hi
        split at hi
        · rename_i hii; subst hii
          have : l2 = putAt l off [v.strip] := by
            have hlt := (List.getElem?_eq_some_iff.1 hob).1
            simp [hlt] at hi; exact hi.symm
          subst this
          exact ⟨B', e1, c, e', e2, e3, by rw [putAt_length]; exact e4, hcr⟩
        · rename_i hne
          obtain ⟨B2, q1, q2⟩ := hF.box i2 l2 hi
          exact ⟨B2, q1, q2.mono hm ⟨rfl, rfl⟩ fun B k j hs => hs.retag (hgn i2 j fun hc => hne hc.1)⟩
    · cases hst
  · cases hst
end Go.Den
namespace Go.Den
open Go
variable {E : Emb} {β : Nat → Option Nat} {X : Ctx} {w : World} {s : FS} {h : Heap} {a : Act} {f : FuncId}
theorem wp_mono2 {P : Program} {o : Oper} {K K' : Act → World → Prop} {Q Q' : Exit → Act → World → Prop} (hK : ∀ a w, K a w → K' a w) (hQ : ∀ e a w, Q e a w → Q' e a w)
    (hh : o.wp P a w K Q) : o.wp P a w K' Q' := by
  unfold Oper.wp at *
  generalize (execOp a.eval o).run P w = r at *
  cases r with
  | ok n w' =>
    cases n <;> simp only [Oper.upon] at hh ⊢ <;>
      first
        | exact hK _ _ hh
        | exact Calls.mono hh (fun e w'' he => by cases e <;> first | exact hK _ _ he | exact hQ _ _ _ he | exact he.elim fun a he => he.elim fun w he => ⟨a, w, hQ _ _ _ he⟩)
        | exact Rows.mono hh (fun _ _ he => hK _ _ he)
        | exact hh.elim
  | halt x w' =>
    cases x <;> simp only [Oper.upon] at hh ⊢ <;> first | exact hQ _ _ _ hh | exact hh.elim
theorem step_sound {call : Call} (hP : PlainNames X.P) (hcall : CallSim X.P call) {o : Oper} {out : Out} (hH : HRel E w.heap h) (hF : FRel E β w.heap s a)
    (hs : stepOp X call f s h o = some out) : o.wp X.P a w (NextOK E w out) (PanicOK E w out) := by
  unfold stepOp at hs
  split at hs
  · rename_i x ho
    split at hs
    · rename_i v hx; exact step_move hH hF (.inl ho) hx hs
    · cases hs
  · rename_i x ho
    split at hs
    · rename_i v hx; exact step_move hH hF (.inr ho) hx hs
    · cases hs
  · rename_i t p ho
    cases hl : linDst X f o.dst with
    | true =>
      rw [hl] at hs
      simp only [cond_true] at hs
      split at hs
      · rename_i q hp hn hg
        split at hs
        · rename_i l off hr
          split at hs
          · rename_i v cs' off' hv
            refine step_val (v := v.strip) hH hF ?_ hs
            rw [ho]
            simp only [valOp, hp, hn, hg, aload, hr, readRow, hv]
          · rename_i v hv hne
            split at hs
            · rename_i s₁ h₁ hst
              exact step_take hH hF ho hp hn hg hr hv hst hs
            · cases hs
          · cases hs
        · cases hs
      · cases hs
    | false =>
      rw [hl] at hs
      simp only [cond_false] at hs
      split at hs
      · rename_i v hv; exact step_val hH hF hv hs
      · cases hs
  · rename_i t p x ho
    split at hs
    · rename_i q v n hp hx hn
      cases hc : (Nat.beq v.cells.length n && !v.isLoc) with
      | false => rw [hc] at hs; cases hs
      | true =>
        rw [hc] at hs
        simp only [Bool.and_eq_true, Nat.beq_eq, Bool.not_eq_true'] at hc
        simp only [cond_true] at hs
        split at hs
        · rename_i s₁ h₁ hst
          exact step_store hH hF ho hp hx hn hc.1 hc.2 hst hs
        · cases hs
    · cases hs
  · rename_i t parts ho
    split at hs
    · rename_i v s₁ hb; exact step_build hH hF ho hb hs
    · cases hs
  · rename_i t ho
    split at hs
    · rename_i z d hz hd
      cases hzl : z.isLoc with
      | true => rw [hzl] at hs; cases hs
      | false =>
        rw [hzl] at hs
        simp only [cond_false] at hs
        exact step_alloc hH hF ho hz hd hzl hs
    · cases hs
  · rename_i t x ho
    split at hs
    · rename_i v d hx hd
      cases hvl : v.isLoc with
      | true => rw [hvl] at hs; cases hs
      | false =>
        rw [hvl] at hs
        simp only [cond_false] at hs
        exact step_box hH hF ho hx hd hvl hs
    · cases hs
  · rename_i x args ts ho
    split at hs
    · rename_i g caps hx hargs
      have : args = #[] := by apply Array.ext'; simpa using hargs
      subst this
      exact step_defer hH hF ho hx hs
    · cases hs
  · rename_i t len parts ho
    split at hs
    · rename_i cs size hb hsz; exact step_buildSlice hH hF ho hb hsz hs
    · cases hs
  · rename_i t ho
    split at hs
    · rename_i kt et hu; exact step_makeMap hH hF ho hu hs
    · cases hs
  · rename_i t l c ho
    split at hs
    · rename_i e k n k' m hE hl hc
      split at hs
      · rename_i ti z hti hz
        cases hcond : (decide (0 ≤ n) && decide (n = m) && Nat.ble n.toNat most && !z.isLoc && Nat.beq z.cells.length ti.size && Nat.ble 1 ti.size && Nat.ble ti.bytes 4096) with
        | false => rw [hcond] at hs; cases hs
        | true =>
          rw [hcond] at hs
          simp only [Bool.and_eq_true, decide_eq_true_eq, Nat.ble_eq, Nat.beq_eq, Bool.not_eq_true'] at hcond
          obtain ⟨⟨⟨⟨⟨⟨c1, c2⟩, c3⟩, c4⟩, c5⟩, c6⟩, c7⟩ := hcond
          exact step_makeSlice hH hF ho hE hl hc hti hz c1 c2 c3 c4 c5 c6 c7 hs
      · cases hs
    · cases hs
  · rename_i t m k v ho
    split at hs
    · rename_i qa qb qc hm hk hv
      split at hs
      · rename_i h₁ hu; exact step_mapUpdate hH hF (.inl ho) hm hk hv hu hs
      · cases hs
    · cases hs
  · rename_i t m k v ho
    split at hs
    · rename_i qa qb qc hm hk hv
      split at hs
      · rename_i h₁ hu; exact step_mapUpdate hH hF (.inr ho) hm hk hv hu hs
      · cases hs
    · cases hs
  · rename_i x ho
    split at hs
    · rename_i t v hx
      cases hs
      exact step_panic hH hF ho hx rfl
    · cases hs
  · rename_i args ts ho
    split at hs
    · rename_i x y hargs
      have := arr2 hargs
      subst this
      split at hs
      · rename_i va vb hx hy
        cases hm : atDst X.cfg.mutA f o.dst with
        | true =>
          rw [hm] at hs
          simp only [cond_true] at hs
          split at hs
          · rename_i v h₁ happ; exact step_appendM hH hF ho hx hy happ hs
          · cases hs
        | false =>
          rw [hm] at hs
          simp only [cond_false] at hs
          split at hs
          · rename_i v happ; exact step_append hH hF ho hx hy happ hs
          · cases hs
      · cases hs
    · cases hs
  · rename_i args ts ho
    split at hs
    · rename_i x y e hargs hE
      have := arr2 hargs
      subst this
      cases h0 : ts[0]? with
      | none => rw [h0] at hE; cases hE
      | some t0 =>
        rw [h0] at hE
        split at hs
        · rename_i b off n sz b' off' n' sz' size hx hy hsz
          split at hs
          · rename_i l hob
            cases hcond : (Nat.ble (off' + min n' n * size) l.length && Nat.beq size sz && Nat.beq size sz') with
            | false => rw [hcond] at hs; cases hs
            | true =>
              rw [hcond] at hs
              simp only [Bool.and_eq_true, Nat.ble_eq, Nat.beq_eq] at hcond
              exact step_copy hH hF ho h0 hE hx hy hsz hob hcond.1.1 hcond.1.2 hcond.2 hs
          · cases hs
        · cases hs
    · cases hs
  · rename_i x args ts ho
    split at hs
    · rename_i g caps vs s₁ hx ha
      cases hcond : (noLocs vs && hasBody X.P g) with
      | false => rw [hcond] at hs; cases hs
      | true =>
        rw [hcond] at hs
        simp only [Bool.and_eq_true] at hcond
        exact step_call hP hcall hH hF ho hx ha hcond.1 hcond.2 hs
    · cases hs
  · split at hs
    · rename_i v hv; exact step_val hH hF hv hs
    · cases hs
theorem wanted_rel (hF : FRel E β w.heap s a) {ops : Array Oper} {o : Oper} {b : Bool} (h : wantedA ops s.env o = some b) : Region.wanted o (yielded ops a.tmps) = b := by
  unfold wantedA at h
  unfold Region.wanted
  split at h
  · rename_i hg; cases h; rw [hg]
  · rename_i j want hg
    rw [hg]
    split at h
    · rename_i t ht
      simp only [yielded, ht, Option.bind_some]
      have hr := (hF.tmp t).1
      have hgd : a.tmps.getD t undef = (a.tmps[t]?).getD undef := by simp [Array.getD_eq_getD_getElem?]
      rw [hgd] at hr
      split at h
      · rename_i b' hb
        cases h
        rw [hb] at hr
        have := (hr.val rfl).bool_eq
        cases hx : a.tmps[t]? with
        | none => rw [hx] at this; cases this
        | some y =>
          rw [hx] at this
          simp at this
          subst this
          cases b' <;> cases want <;> rfl
      · rename_i vs hb
        cases h
        rw [hb] at hr
        cases hx : a.tmps[t]? with
        | none => rfl
        | some y =>
          rw [hx] at hr
          rcases hr with hr | ⟨_, _, _, e, _⟩
          · simp at hr
            cases hr; rfl
          · cases e
      · cases h
    · cases h
def OpsOK (E : Emb) (w : World) (out : Out) (e : Exit) (a' : Act) (w' : World) : Prop :=
  (e = .normal ∧ NextOK E w out a' w') ∨ PanicOK E w out e a' w'
theorem NextOK.trans {E' : Emb} {w₁ w₂ : World} {a' : Act} {out : Out} (x : Ext E w E' w₁) (n : NextOK E' w₁ out a' w₂) : NextOK E w out a' w₂ := by
  obtain ⟨s', h', E2, β2, h1, h2, h3, h4⟩ := n
  exact ⟨s', h', E2, β2, h1, h2, h3, x.trans h4⟩
theorem PanicOK.trans {E' : Emb} {w₁ w₂ : World} {a' : Act} {out : Out} {e : Exit} (x : Ext E w E' w₁) (n : PanicOK E' w₁ out e a' w₂) : PanicOK E w out e a' w₂ := by
  obtain ⟨v, s', h', E2, β2, y, h1, h2, h3, h4, h5, h6⟩ := n
  exact ⟨v, s', h', E2, β2, y, h1, h2, h3, h4, x.trans h5, h6⟩
theorem op_sound {call : Call} (hP : PlainNames X.P) (hcall : CallSim X.P call) {ops : Array Oper} {i : Nat} {o : Oper} {out : Out} (hi : ops[i]? = some o) (hH : HRel E w.heap h) (hF : FRel E β w.heap s a)
    (hs : stepG X call f ops s h o = some out) {K : Act → World → Prop} {Q : Exit → Act → World → Prop} (hK : ∀ a' w', NextOK E w out a' w' → K a' w') (hQ : ∀ e a' w', PanicOK E w out e a' w' → Q e a' w') :
    wpOp X.P ops Q i K a w := by
  unfold stepG at hs
  unfold wpOp
  rw [hi]
  split at hs
  · rename_i hw
    simp only [wanted_rel hF hw, if_true]
    exact .inl (wp_mono2 hK hQ (step_sound hP hcall hH hF hs))
  · rename_i hw
    have := wanted_rel hF hw
    obtain ⟨s', hs', rfl⟩ := cont_some hs
    simp only [this, Bool.false_eq_true, if_false]
    exact hK _ _ ⟨s', h, E, β, rfl, hH, hF.put hs' (.inl .undef) fun t _ => .of_strip rfl, Ext.refl _ _⟩
  · cases hs
end Go.Den
namespace Go.Den
open Go
variable {X : Ctx} {f : FuncId}
theorem runOps_sound {call : Call} (hP : PlainNames X.P) (hcall : CallSim X.P call) {ops : Array Oper} {Q : Exit → Act → World → Prop} :
    ∀ (l : List Oper) (k : Nat) (E : Emb) (β : Nat → Option Nat) (s : FS) (h : Heap) (a : Act) (w : World) (out : Out), (∀ (j : Nat) o, l[j]? = some o → ops[k + j]? = some o) →
      HRel E w.heap h → FRel E β w.heap s a → runOps X call f ops l s h = some out → (∀ e a' w', OpsOK E w out e a' w' → Q e a' w') → wpOps X.P ops Q (List.range' k l.length) a w
  | [], k, E, β, s, h, a, w, out, hl, hH, hF, hr, hQ => by
    simp [runOps] at hr
    subst hr
    exact hQ _ _ _ (.inl ⟨rfl, s, h, E, β, rfl, hH, hF, Ext.refl _ _⟩)
  | o :: rest, k, E, β, s, h, a, w, out, hl, hH, hF, hr, hQ => by
    have hk : ops[k]? = some o := by simpa using hl 0 o rfl
    rw [List.length_cons, List.range'_succ, wpOps_cons]
    unfold runOps at hr
    split at hr
    · rename_i s' h' hs
      refine op_sound hP hcall hk hH hF hs ?_ ?_
      · rintro a' w' ⟨s2, h2, E2, β2, e1, h3, h4, h5⟩
        cases e1
        refine runOps_sound hP hcall rest (k + 1) E2 β2 s' h' a' w' out (fun j o' hj => ?_) h3 h4 hr ?_
        · have := hl (j + 1) o' (by simpa using hj)
          rwa [show k + 1 + j = k + (j + 1) by omega]
        · rintro e a'' w'' (⟨rfl, n⟩ | p)
          · exact hQ _ _ _ (.inl ⟨rfl, n.trans h5⟩)
          · exact hQ _ _ _ (.inr (p.trans h5))
      · rintro e a' w' ⟨v, s2, h2, E2, β2, y, e1, _⟩
        cases e1
    · rename_i r hne
      refine op_sound hP hcall hk hH hF hr ?_ ?_
      · rintro a' w' ⟨s2, h2, E2, β2, rfl, _⟩
        exact (hne s2 h2 hr).elim
      · intro e a' w' p
        exact hQ _ _ _ (.inr p)
def CodeOK (E : Emb) (w : World) (r : Res) (e : Exit) (a' : Act) (w' : World) : Prop :=
  ∃ E' β', HRel E' w'.heap r.2.2 ∧ Ext E w E' w' ∧
    match r.1, e with
    | .normal, .normal => FRel E' β' w'.heap r.2.1 a'
    | .exit i, .exit j => i = j ∧ FRel E' β' w'.heap r.2.1 a'
    | .ret, .ret => FRel E' β' w'.heap r.2.1 a'
    | .panic v, .panic chain => ∃ x, chain = [{ v := x, recovered := false }] ∧ VRel E' w'.heap v x ∧ (r.2.1.defs = [] → a'.defers = []) ∧ (r.2.1.defs ≠ [] → FRel E' β' w'.heap r.2.1 a')
    | _, _ => False
theorem CodeOK.trans {E E' : Emb} {w w₁ w₂ : World} {r : Res} {e : Exit} {a' : Act} (x : Ext E w E' w₁) (c : CodeOK E' w₁ r e a' w₂) : CodeOK E w r e a' w₂ := by
  obtain ⟨E2, β2, h1, h2, h3⟩ := c
  exact ⟨E2, β2, h1, x.trans h2, h3⟩
theorem FRel.noDefs {E : Emb} {β : Nat → Option Nat} {hp : HP} {s : FS} {a : Act} (hF : FRel E β hp s a) (hd : s.defs = []) : a.defers = [] := by
  have := hF.defs
  rw [hd] at this
  cases hx : a.defers with
  | nil => rfl
  | cons d ds => rw [hx] at this; exact this.elim
theorem ops_code {E : Emb} {w : World} {out : Out} {r : Res} {e : Exit} {a' : Act} {w' : World} (h : ofOut (some out) = some r) (x : OpsOK E w out e a' w') : CodeOK E w r e a' w' := by
  rcases x with ⟨rfl, s', h', E', β', rfl, h1, h2, h3⟩ | ⟨v, s', h', E', β', y, rfl, rfl, h1, h2, h3, h4⟩
  · simp [ofOut] at h; subst h
    exact ⟨E', β', h1, h3, h2⟩
  · simp [ofOut] at h; subst h
    exact ⟨E', β', h1, h3, y, rfl, h4, h2.noDefs, fun _ => h2⟩
theorem tab_get (env : Env) : ∀ (n : Nat) (acc : List AVal) (t : Nat), (tab env n acc)[t]? = if t < n then some (env t) else acc[t - n]?
  | 0, acc, t => by simp [tab]
  | n + 1, acc, t => by
    rw [tab, tab_get env n _ t]
    by_cases h1 : t < n
    · rw [if_pos h1, if_pos (by omega)]
    · rw [if_neg h1]
      by_cases h2 : t = n
      · subst h2; simp
      · rw [if_neg (by omega), show t - n = (t - (n + 1)) + 1 by omega, List.getElem?_cons_succ]
theorem compact_rel {E : Emb} {β : Nat → Option Nat} {hp : HP} {s : FS} {a : Act} (hF : FRel E β hp s a) : FRel E β hp s.compact a := by
  refine ⟨hF.size, fun t => ?_, hF.box, hF.brng, hF.defs⟩
  simp only [FS.compact, tab_get]
  by_cases ht : t < s.n
  · simp only [ht, if_true, Option.getD_some]
    exact hF.tmp t
  · simp only [ht, if_false, List.getElem?_nil, Option.getD_none]
    have : a.tmps.getD t undef = undef := by
      have hs : ¬ t < a.tmps.size := by rw [hF.size]; exact ht
      simp [Array.getD_eq_getD_getElem?, hs]
    rw [this]
    exact ⟨.inl .undef, .of_strip rfl⟩
def DrawSim (X : Ctx) (call : Call) : Prop :=
  ∀ (f : FuncId) (id : Nat) (ops : Array Oper) (s : FS) (h : Heap) (out : Out), statOK X f ops = true → runDraw X call f ops s h = some out → ∀ (E : Emb) (β : Nat → Option Nat) (a : Act) (w : World), HRel E w.heap h → FRel E β w.heap s a →
    (Code.region id ops true).wp X.P (CodeOK E w ((match out with | .cont s' h' => (.normal, s', h') | .panic v s' h' => (.panic v, s', h')) : Res)) a w
theorem loop_rounds {E : Emb} {w : World} {c : Code} {b : FS → Heap → Option Res} {r : Res}
    (hb : ∀ (s : FS) (h : Heap) (q : Res), b s h = some q → ∀ (E : Emb) (β : Nat → Option Nat) (a : Act) (w : World), HRel E w.heap h → FRel E β w.heap s a → c.wp X.P (CodeOK E w q) a w) :
    ∀ (n : Nat) (E1 : Emb) (β : Nat → Option Nat) (s : FS) (h : Heap) (a : Act) (w1 : World), HRel E1 w1.heap h → FRel E1 β w1.heap s a → Ext E w E1 w1 → loopN n b s h = some r → Code.rounds X.P c (CodeOK E w r) n a w1
  | 0, E1, β, s, h, a, w1, hH, hF, hx, hr => by simp [loopN] at hr
  | n + 1, E1, β, s, h, a, w1, hH, hF, hx, hr => by
    rw [rounds_succ]
    unfold loopN at hr
    split at hr
    · rename_i s' h' hbs
      refine wp_mono (hb s h _ hbs E1 β a w1 hH hF) ?_
      rintro e a' w' ⟨E2, β2, h1, h2, h3⟩
      cases e with
      | normal => exact loop_rounds hb n E2 β2 _ h' a' w' h1 (compact_rel h3) (hx.trans h2) hr
      | _ => exact h3.elim
    · rename_i q hne
      refine wp_mono (hb s h _ hr E1 β a w1 hH hF) ?_
      intro e a' w' hc
      have hc' := CodeOK.trans hx hc
      cases e with
      | normal =>
        obtain ⟨E2, β2, h1, h2, h3⟩ := hc
        obtain ⟨r1, s2, h2'⟩ := r
        cases r1 with
        | normal => exact (hne s2 h2' hr).elim
        | _ => exact h3.elim
      | _ => exact hc'
theorem run_sound {call : Call} (hP : PlainNames X.P) (hcall : CallSim X.P call) (hdraw : DrawSim X call) (fuel : Nat) :
    ∀ (c : Code) (s : FS) (h : Heap) (r : Res), drawsOK X f c = true → run X call f fuel c s h = some r → ∀ (E : Emb) (β : Nat → Option Nat) (a : Act) (w : World), HRel E w.heap h → FRel E β w.heap s a → c.wp X.P (CodeOK E w r) a w
  | .skip, s, h, r, hd, hr, E, β, a, w, hH, hF => by
    simp [run] at hr; subst hr
    exact wp_skip ⟨E, β, hH, Ext.refl _ _, hF⟩
  | .exit id, s, h, r, hd, hr, E, β, a, w, hH, hF => by
    simp [run] at hr; subst hr
    exact wp_exit ⟨E, β, hH, Ext.refl _ _, rfl, hF⟩
  | .ret, s, h, r, hd, hr, E, β, a, w, hH, hF => by
    simp [run] at hr; subst hr
    exact wp_ret ⟨E, β, hH, Ext.refl _ _, hF⟩
  | .region id ops draw, s, h, r, hd, hr, E, β, a, w, hH, hF => by
    unfold run at hr
    cases draw with
    | false =>
      simp only [cond_false] at hr
      cases ho : runOps X call f ops ops.toList s h with
      | none => rw [ho] at hr; simp [ofOut] at hr
      | some out =>
        rw [ho] at hr
        refine wp_region ?_
        have := runOps_sound (Q := CodeOK E w r) hP hcall ops.toList 0 E β s h a w out (fun j o hj => by simpa using hj) hH hF ho (fun e a' w' hx => ops_code hr hx)
        rwa [Array.length_toList, ← List.range_eq_range'] at this
    | true =>
      simp only [cond_true] at hr
      cases ho : runDraw X call f ops s h with
      | none => rw [ho] at hr; simp [ofOut] at hr
      | some out =>
        rw [ho] at hr
        have := hdraw f id ops s h out hd ho E β a w hH hF
        cases out <;> (simp [ofOut] at hr; subst hr; exact this)
  | .seq c d, s, h, r, hd, hr, E, β, a, w, hH, hF => by
    simp only [drawsOK, Bool.and_eq_true] at hd
    unfold run at hr
    split at hr
    · rename_i s' h' hc
      refine wp_seq (wp_mono (run_sound hP hcall hdraw fuel c s h _ hd.1 hc E β a w hH hF) ?_)
      rintro e a' w' ⟨E2, β2, h1, h2, h3⟩
      cases e with
      | normal => exact wp_mono (run_sound hP hcall hdraw fuel d s' h' r hd.2 hr E2 β2 a' w' h1 h3) fun _ _ _ hc => hc.trans h2
      | _ => exact h3.elim
    · rename_i q hne
      refine wp_seq (wp_mono (run_sound hP hcall hdraw fuel c s h _ hd.1 hr E β a w hH hF) ?_)
      intro e a' w' hk
      cases e with
      | normal =>
        obtain ⟨E2, β2, h1, h2, h3⟩ := hk
        obtain ⟨r1, s2, h2'⟩ := r
        cases r1 with
        | normal => exact (hne s2 h2' hr).elim
        | _ => exact h3.elim
      | _ => exact hk
  | .cond c d e, s, h, r, hd, hr, E, β, a, w, hH, hF => by
    simp only [drawsOK, Bool.and_eq_true] at hd
    unfold run at hr
    split at hr
    · rename_i hc
      exact wp_cond_true (opnd_bool hF hc) (run_sound hP hcall hdraw fuel d s h r hd.1 hr E β a w hH hF)
    · rename_i hc
      exact wp_cond_false (opnd_bool hF hc) (run_sound hP hcall hdraw fuel e s h r hd.2 hr E β a w hH hF)
    · cases hr
  | .block id c, s, h, r, hd, hr, E, β, a, w, hH, hF => by
    simp only [drawsOK] at hd
    unfold run at hr
    refine wp_block ?_
    split at hr
    · rename_i j s' h' hc
      refine wp_mono (run_sound hP hcall hdraw fuel c s h _ hd hc E β a w hH hF) ?_
      rintro e a' w' ⟨E2, β2, h1, h2, h3⟩
      cases e with
      | exit i =>
        obtain ⟨rfl, h3⟩ := h3
        cases hb : Nat.beq j id with
        | true =>
          rw [hb] at hr; cases hr
          have : j = id := Nat.eq_of_beq_eq_true hb
          subst this
          simp only [Exit.inBlock, if_true]
          exact ⟨E2, β2, h1, h2, h3⟩
        | false =>
          rw [hb] at hr; cases hr
          have : j ≠ id := fun e => by subst e; simp at hb
          simp only [Exit.inBlock, if_neg this]
          exact ⟨E2, β2, h1, h2, rfl, h3⟩
      | _ => exact h3.elim
    · rename_i q hne
      refine wp_mono (run_sound hP hcall hdraw fuel c s h _ hd hr E β a w hH hF) ?_
      intro e a' w' hk
      cases e with
      | exit i =>
        obtain ⟨E2, β2, h1, h2, h3⟩ := hk
        obtain ⟨r1, s2, h2'⟩ := r
        cases r1 with
        | exit j => exact (hne j s2 h2' hr).elim
        | _ => exact h3.elim
      | _ => exact hk
  | .loop c, s, h, r, hd, hr, E, β, a, w, hH, hF => by
    simp only [drawsOK] at hd
    unfold run at hr
    exact wp_loop_rounds fuel (loop_rounds (fun s h q hq E β a w hH hF => run_sound hP hcall hdraw fuel c s h q hd hq E β a w hH hF) fuel E β s h a w hH hF (Ext.refl _ _) hr)
  | .rangeFunc .., s, h, r, hd, hr, E, β, a, w, hH, hF => by simp [run] at hr
  | .scope _, s, h, r, hd, hr, E, β, a, w, hH, hF => by simp [run] at hr
  | .label _, s, h, r, hd, hr, E, β, a, w, hH, hF => by simp [run] at hr
  | .goto _, s, h, r, hd, hr, E, β, a, w, hH, hF => by simp [run] at hr
  | .refuse _, s, h, r, hd, hr, E, β, a, w, hH, hF => by simp [run] at hr
end Go.Den
namespace Go.Den
open Go
variable {X : Ctx} {f : FuncId} {E : Emb} {β : Nat → Option Nat} {w : World} {s : FS} {h : Heap} {a : Act}
def resSem (tmps : Array Value) : ResultVar → Sem Value
  | .tmp t => pure (tmps.getD t undef)
  | .cell a t => do loadVar t (← asAddr (tmps.getD a undef))
theorem resultOf_rel (hH : HRel E w.heap h) (hF : FRel E β w.heap s a) {rv : ResultVar} {v : AVal} (hr : resultOf X s h rv = some v) :
    ∃ x, (resSem a.tmps rv).run X.P w = .ok x w ∧ VRel E w.heap v x ∧ v.stripA = v := by
  unfold resultOf at hr
  split at hr
  · rename_i t
    cases hl : (s.env t).isLoc with
    | true => rw [hl] at hr; cases hr
    | false =>
      rw [hl] at hr; cases hr
      exact ⟨_, rfl, ((hF.tmp t).1.val hl).stripA, stripA_stripA _⟩
  · rename_i b t
    split at hr
    · rename_i n g hn hg
      unfold aload at hr
      split at hr
      · rename_i l off hro
        obtain ⟨B, o, hx, hl⟩ := rowAt_rel hH hF (hF.tmp b).1 hro
        obtain ⟨y, h1, h2, h3, _⟩ := readRow_rel (P := X.P) rfl hl hg hn hr
        exact ⟨y, by simp [resSem, hx, asAddr, h1], h2, h3⟩
      · cases hr
    · cases hr
theorem mapM_results (hH : HRel E w.heap h) (hF : FRel E β w.heap s a) : ∀ (rs : List ResultVar) (vs : List AVal), mapO (resultOf X s h) rs = some vs →
    ∃ xs : List Value, (rs.mapM (resSem a.tmps)).run X.P w = .ok xs w ∧ xs.length = vs.length ∧
      ∀ (j : Nat) v x, vs[j]? = some v → xs[j]? = some x → VRel E w.heap v x ∧ v.stripA = v
  | [], vs, h => by
    simp [mapO] at h; subst h
    exact ⟨[], by simp, rfl, fun j v x hv => by simp at hv⟩
  | rv :: rs, vs, h => by
    simp only [mapO] at h
    split at h
    · cases h
    · rename_i v hv
      split at h
      · cases h
      · rename_i vs' hvs
        cases h
        obtain ⟨x, h1, h2, h3⟩ := resultOf_rel hH hF hv
        obtain ⟨xs, h4, h5, h6⟩ := mapM_results hH hF rs vs' hvs
        refine ⟨x :: xs, ?_, by simp [h5], fun j v' x' hv' hx' => ?_⟩
        · rw [List.mapM_cons]
          simp only [Sem.run_bind, h1, Result.andThen_ok, h4, Sem.run_pure]
        · cases j with
          | zero => simp at hv' hx'; subst hv'; subst hx'; exact ⟨h2, h3⟩
          | succ j => simp at hv' hx'; exact h6 j v' x' hv' hx'
theorem freezeV_rel {v v' : AVal} {x : Value} {h' : Heap} (hH : HRel E w.heap h) (hv : VRel E w.heap v x) (hs : v.strip = v) (hf : freezeV h v = some (v', h')) :
    ∃ E', HRel E' w.heap h' ∧ Ext E w E' w ∧ VRel E' w.heap v' x ∧ v'.strip = v' ∧ v'.atom = v.atom := by
  unfold freezeV at hf
  split at hf
  · rename_i b off n sz
    split at hf
    · rename_i l ho
      cases hc : (Nat.beq off 0 && Nat.ble h.ro b && Nat.ble 1 n && Nat.ble 1 sz && Nat.beq (n * sz) l.length) with
      | false => rw [hc] at hf; cases hf
      | true =>
        rw [hc] at hf; cases hf
        simp only [Bool.and_eq_true, Nat.beq_eq, Nat.ble_eq] at hc
        obtain ⟨⟨⟨⟨rfl, _⟩, c1⟩, c2⟩, c3⟩ := hc
        cases hv with
        | msl _ _ _ _ a' cap B c e z hn hb =>
          obtain ⟨b1, rfl, b3, b4⟩ := hb (by omega)
          obtain ⟨B', c', e', e1, e2, e3, e4, e5⟩ := hH.obj b _ ho
          obtain rfl : B' = B := by rw [b1] at e1; exact (Option.some.inj e1).symm
          let E' : Emb := { ρ := E.ρ, kind := fun x => if x = B' then .store else E.kind x, tag := fun x k => if x = B' then (if k < l.length then .imm else .junk) else E.tag x k }
          have hne : ∀ {B k}, E.kind B = k → k ≠ .obj b → B ≠ B' := by
            rintro B k hk hk' rfl
            rw [hk] at e2; exact hk' e2
          have hm : Mono E w.heap E' w.heap := by
            refine ⟨fun _ _ h => h, fun B k y hi => ?_, fun _ c _ _ h => ⟨c, h, rfl⟩⟩
            have := hne hi.1 (fun e => by cases e)
            exact ⟨by simp [E', this, hi.1], by simp [E', this, hi.2.1], hi.2.2⟩
          have hsp : ∀ B k g, Spare E w.heap B k g → Spare E' w.heap B k g := by
            rintro B k g ⟨q1, q2, q3⟩
            have := hne q1 (fun e => by cases e)
            exact ⟨by simp [E', this, q1], by simp [E', this, q2], q3⟩
          refine ⟨E', ⟨⟨by have := hne hH.tab.1 (fun e => by cases e); simp [E', this, hH.tab.1], hH.tab.2⟩, fun b' o ho' => ?_, fun b' B hb' => by simpa using hH.rng b' B hb'⟩, ⟨rfl, rfl, rfl, Nat.le_refl _, hm, ?_, ?_, ?_⟩, ?_, rfl, rfl⟩
          · rw [List.getElem?_set] at ho'
            split at ho'
            · split at ho'
              · cases ho'; trivial
              · cases ho'
            · rename_i hbb
              have hob := hH.obj b' o ho'
              cases o with
              | gone => trivial
              | cells l' =>
                refine hob.mono hm (fun B hB => ⟨rfl, ?_⟩) fun B k j => hsp B k _
                obtain ⟨B2, _, _, q1, q2, _⟩ := hob
                rw [hB] at q1; cases q1
                have := hne q2 (fun e => by injection e with e; exact hbb e.symm)
                simp [E', this]
              | amap es =>
                refine hob.mono hm (fun B hB => ⟨rfl, ?_⟩) fun B k j => hsp B k _
                obtain ⟨B2, _, _, q1, q2, _⟩ := hob
                rw [hB] at q1; cases q1
                have := hne q2 (fun e => by injection e with e; exact hbb e.symm)
                simp [E', this]
          · intro B _ hk
            have := hne hk (fun e => by cases e)
            exact ⟨by simp [E', this, hk], rfl⟩
          · intro B _ hk
            have := hne hk (fun e => by cases e)
            simp [E', this, hk]
          · intro B k _ hk ht
            have := hne hk (fun e => by cases e)
            exact ⟨by simp [E', this, ht], rfl⟩
          · refine .isl false n _ _ cap B' 0 (fun j => c'.getD j undef) hn ?_ ?_ (fun _ => rfl) ?_ ?_
            · rw [← List.length_eq_zero_iff, List.length_map, ← c3, Nat.mul_eq_zero]; omega
            · intro u hu
              obtain ⟨u', hu', rfl⟩ := List.mem_map.1 hu
              obtain ⟨j, hj⟩ := List.getElem?_of_mem hu'
              exact ⟨by rw [atom_strip]; exact (e5 j u' hj).1, strip_strip _⟩
            · intro j hj
              rw [List.length_map] at hj
              refine ⟨by simp [E'], by simp [E', hj], ?_⟩
              have hlt : j < c'.size := by omega
              simp [cellOf, e3, Array.getD_eq_getD_getElem?, hlt]
            · intro j u hj
              rw [List.getElem?_map] at hj
              cases h3 : l[j]? with
              | none => rw [h3] at hj; cases hj
              | some u' =>
                rw [h3] at hj; cases hj
                obtain ⟨_, y, q1, q2, _⟩ := e5 j u' h3
                have : c'.getD j undef = y := by simp [Array.getD_eq_getD_getElem?, q1]
                rw [this]
                exact (q2.mono hm).strip
    · cases hf
  · cases hf
    exact ⟨E, hH, Ext.refl _ _, hv, hs, rfl⟩
theorem freezeL_rel : ∀ {E : Emb} {h : Heap} (cs cs' : List AVal) (us : List Value) (h' : Heap), HRel E w.heap h → us.length = cs.length →
    (∀ (j : Nat) v x, cs[j]? = some v → us[j]? = some x → (v.atom = true ∧ v.strip = v) ∧ VRel E w.heap v x) → freezeL h cs = some (cs', h') →
    ∃ E', HRel E' w.heap h' ∧ Ext E w E' w ∧ cs'.length = cs.length ∧ ∀ (j : Nat) v x, cs'[j]? = some v → us[j]? = some x → (v.atom = true ∧ v.strip = v) ∧ VRel E' w.heap v x
  | E, h, [], cs', us, h', hH, hl, hc, hf => by
    simp [freezeL] at hf
    obtain ⟨rfl, rfl⟩ := hf
    exact ⟨E, hH, Ext.refl _ _, rfl, fun j v x hv => by simp at hv⟩
  | E, h, v :: vs, cs', us, h', hH, hl, hc, hf => by
    cases us with
    | nil => simp at hl
    | cons u us =>
      simp only [freezeL] at hf
      split at hf
      · rename_i v1 h1 hv1
        split at hf
        · rename_i vs1 h2 hvs1
          cases hf
          obtain ⟨q1, q2⟩ := hc 0 v u rfl rfl
          obtain ⟨E1, a1, a2, a3, a4, a5⟩ := freezeV_rel hH q2 q1.2 hv1
          obtain ⟨E2, b1, b2, b3, b4⟩ := freezeL_rel vs vs1 us h' a1 (by simpa using hl) (fun j v' x hv hx => by
            obtain ⟨r1, r2⟩ := hc (j + 1) v' x (by simpa using hv) (by simpa using hx)
            exact ⟨r1, r2.mono a2.mono⟩) hvs1
          refine ⟨E2, b1, a2.trans b2, by simp [b3], fun j v' x hv hx => ?_⟩
          cases j with
          | zero =>
            simp at hv hx
            subst hv; subst hx
            exact ⟨⟨by rw [a5]; exact q1.1, a4⟩, a3.mono b2.mono⟩
          | succ j => simp at hv hx; exact b4 j v' x hv hx
        · cases hf
      · cases hf
def Emb.give (E : Emb) (t : Nat) : Emb := { ρ := E.ρ, kind := E.kind, tag := fun B k => match E.tag B k with | .spareT t' j => if t' = t then .spareR j else .spareT t' j | g => g }
theorem give_tag {t B k : Nat} {g : Tag} (h : E.tag B k = g) (hg : ∀ j, g ≠ .spareT t j) : (E.give t).tag B k = g := by
  simp only [Emb.give, h]
  split
  · rename_i t' j
    by_cases e : t' = t
    · subst e; exact (hg j rfl).elim
    · rw [if_neg e]
  · rfl
theorem give_mono {hp : HP} (t : Nat) : Mono E hp (E.give t) hp := ⟨fun _ _ h => h, fun B k x h => ⟨h.1, give_tag h.2.1 (fun j e => by cases e), h.2.2⟩, fun _ c _ _ h => ⟨c, h, rfl⟩⟩
theorem give_heap {hp : HP} (t : Nat) (hH : HRel E hp h) : HRel (E.give t) hp h where
  tab := hH.tab
  obj b o ho := by
    have hob := hH.obj b o ho
    cases o with
    | gone => trivial
    | cells l => exact hob.mono (give_mono t) (fun B hB => ⟨rfl, rfl⟩) fun B k j hs => ⟨hs.1, give_tag hs.2.1 (fun j e => by cases e), hs.2.2⟩
    | amap es => exact hob.mono (give_mono t) (fun B hB => ⟨rfl, rfl⟩) fun B k j hs => ⟨hs.1, give_tag hs.2.1 (fun j e => by cases e), hs.2.2⟩
  rng := hH.rng
theorem give_ext (t : Nat) : Ext E w (E.give t) w := ⟨rfl, rfl, rfl, Nat.le_refl _, give_mono t, fun _ _ h => ⟨h, rfl⟩, fun _ _ h => h, fun B k _ _ h => ⟨give_tag h (fun j e => by cases e), rfl⟩⟩
theorem results_own {fn : Func} {r : ARes} {h' : Heap} (hH : HRel E w.heap h) (hF : FRel E β w.heap s a) (hr : ownRes s h fn.results.toList = some (r, h')) :
    ∃ x, (Go.results fn a.tmps).run X.P w = .ok x w ∧ CallPost E w h' r (.returned x) w := by
  unfold ownRes at hr
  split at hr
  · rename_i t hres
    cases hl : (s.env t).isLoc with
    | true => rw [hl] at hr; cases hr
    | false =>
      rw [hl] at hr; cases hr
      obtain ⟨h1, h2⟩ := hF.tmp t
      refine ⟨a.tmps.getD t undef, ?_, E.give t, give_ext t, give_heap t hH, (h1.val hl).mono (give_mono t), ?_⟩
      · have he : Go.results fn a.tmps = (do let vs ← fn.results.mapM (resSem a.tmps); pure (if h : vs.size = 1 then vs[0] else .tuple vs)) := rfl
        rw [he, Array.mapM_eq_mapM_toList, hres]
        simp [resSem]
      · intro j vj xj a1 a2 n cs e
        obtain ⟨a', cap, b1, b2, b3⟩ := h2 j vj xj a1 a2 n cs e
        refine ⟨a', cap, b1, b2, fun hn => ?_⟩
        obtain ⟨B, o, sz, c1, c2, c3, c4⟩ := b3 hn
        refine ⟨B, o, sz, c1, c2, c3, fun k k1 k2 => ?_⟩
        obtain ⟨d1, d2, d3⟩ := c4 k k1 k2
        exact ⟨d1, by simp [Emb.give, d2], d3⟩
  · cases hr
theorem results_sound {fn : Func} {r : ARes} {h' : Heap} (hH : HRel E w.heap h) (hF : FRel E β w.heap s a) (hr : results X fn f s h = some (r, h')) :
    ∃ x, (Go.results fn a.tmps).run X.P w = .ok x w ∧ CallPost E w h' r (.returned x) w := by
  unfold results at hr
  cases hpf : X.cfg.pureF f with
  | true => rw [hpf] at hr; exact results_own hH hF hr
  | false =>
  rw [hpf, cond_false] at hr
  split at hr
  · rename_i vs hvs
    obtain ⟨xs, h1, h2, h3⟩ := mapM_results hH hF fn.results.toList vs hvs
    have hrun : ∀ y, y = (if hh : xs.toArray.size = 1 then xs.toArray[0] else .tuple xs.toArray) → (Go.results fn a.tmps).run X.P w = .ok y w := by
      intro y hy
      have he : Go.results fn a.tmps = (do let vs ← fn.results.mapM (resSem a.tmps); pure (if h : vs.size = 1 then vs[0] else .tuple vs)) := rfl
      rw [he, Array.mapM_eq_mapM_toList]
      simp only [Sem.run_bind, Sem.run_map, h1, Result.andThen_ok, Sem.run_pure]
      rw [hy]
    unfold handBack at hr
    split at hr
    · rename_i v
      have hxs : ∃ x, xs = [x] := by
        cases xs with
        | nil => simp at h2
        | cons x xs => cases xs with
          | nil => exact ⟨x, rfl⟩
          | cons _ _ => simp at h2
      obtain ⟨x, rfl⟩ := hxs
      obtain ⟨q1, q2⟩ := h3 0 v x rfl rfl
      refine ⟨x, hrun x (by simp), ?_⟩
      cases hfr : X.cfg.freeze f with
      | false =>
        rw [hfr] at hr
        cases hr
        exact ⟨E, Ext.refl _ _, hH, q1, .of_strip q2⟩
      | true =>
        rw [hfr] at hr
        simp only [cond_true] at hr
        split at hr
        · rename_i cs
          split at hr
          · rename_i cs' h'' hfz
            cases hr
            cases q1 with
            | agg _ us hl ha hvv =>
              obtain ⟨E2, b1, b2, b3, b4⟩ := freezeL_rel cs cs' us.toList h' hH (by simpa using hl) (fun j v x hv hx => ⟨⟨ha v (List.mem_of_getElem? hv), strip_of_stripA q2 (List.mem_of_getElem? hv)⟩, hvv j v x hv (by simpa using hx)⟩) hfz
              refine ⟨E2, b2, b1, .agg cs' us (by rw [b3, hl]) ?_ fun j v x hv hx => (b4 j v x hv (by simpa using hx)).2, .of_strip ?_⟩
              · intro v hv
                obtain ⟨j, hj⟩ := List.getElem?_of_mem hv
                have hlt : j < us.toList.length := by have := (List.getElem?_eq_some_iff.1 hj).1; simp; omega
                exact (b4 j v _ hj (List.getElem?_eq_getElem hlt)).1.1
              · simp only [AVal.stripA]
                congr 1
                apply List.ext_getElem?
                intro j
                rw [List.getElem?_map]
                cases hj : cs'[j]? with
                | none => rfl
                | some v =>
                  have hlt : j < us.toList.length := by have := (List.getElem?_eq_some_iff.1 hj).1; simp; omega
                  simp [(b4 j v _ hj (List.getElem?_eq_getElem hlt)).1.2]
          · cases hr
        · rename_i hnagg
          split at hr
          · rename_i v' h'' hfz
            cases hr
            have hst : v.strip = v := by
              cases hv : v <;> first | (rw [hv] at q2; exact q2) | exact (hnagg _ hv).elim
            obtain ⟨E2, b1, b2, b3, b4, b5⟩ := freezeV_rel hH q1 hst hfz
            refine ⟨E2, b2, b1, b3, .of_strip ?_⟩
            cases v' with
            | agg cs =>
              exfalso
              unfold freezeV at hfz
              split at hfz
              · split at hfz
                · rename_i hl _
                  revert hfz
                  generalize (_ && _ : Bool) = cnd
                  cases cnd <;> intro hfz <;> cases hfz
                · cases hfz
              · cases hfz; exact (hnagg _ rfl).elim
            | _ => exact b4
          · cases hr
    · rename_i hne
      cases hr
      have hsz : xs.toArray.size ≠ 1 := by
        intro hh
        have hh' : xs.length = 1 := by simpa using hh
        cases vs with
        | nil => simp only [List.length_nil] at h2; omega
        | cons v vs => cases vs with
          | nil => exact hne v rfl
          | cons _ _ => simp only [List.length_cons] at h2; omega
      refine ⟨.tuple xs.toArray, hrun _ (by rw [dif_neg hsz]), E, Ext.refl _ _, hH, .tup vs _ (by simp [h2]) fun j v x hv hx => (h3 j v x hv (by simpa using hx)).1, .of_strip rfl⟩
  · cases hr
end Go.Den
namespace Go.Den
open Go
variable {X : Ctx} {f : FuncId} {E : Emb} {β : Nat → Option Nat} {w : World} {s : FS} {h : Heap} {a : Act}
theorem envOf_get : ∀ (l : List AVal) (t : Nat), envOf l t = (l[t]?).getD undefA
  | [], t => by simp [envOf]
  | v :: vs, 0 => by simp [envOf]
  | v :: vs, t + 1 => by simp [envOf, envOf_get vs t]
theorem spareV_undef {hp : HP} {T : Nat → Tag} : SpareV E hp T undefA undef := .of_strip rfl
theorem enter_rel {hp : HP} {args : List AVal} {cargs : Array Value} {n : Nat} (ha : ArgsRel E hp args cargs) (hn : args.length ≤ n) :
    FRel E (fun _ => none) hp { env := envOf args, boxes := [], n := n, defs := [] } { tmps := cargs ++ Array.replicate (n - cargs.size) undef, defers := [] } where
  size := by simp [ha.1]; omega
  tmp t := by
    rw [show ({ env := envOf args, boxes := [], n := n, defs := [] } : FS).env t = envOf args t from rfl, envOf_get]
    simp only [Array.getD_eq_getD_getElem?]
    rw [Array.getElem?_append]
    split
    · rename_i hlt
      have h1 : t < args.length := by rw [← ha.1]; exact hlt
      rw [List.getElem?_eq_getElem h1, Array.getElem?_eq_getElem hlt]
      obtain ⟨q1, q2⟩ := ha.2 t _ _ (List.getElem?_eq_getElem h1) (Array.getElem?_eq_getElem hlt)
      exact ⟨.inl q1, q2⟩
    · rename_i hge
      have h1 : args[t]? = none := List.getElem?_eq_none (by rw [← ha.1]; omega)
      rw [h1]
      have : ((Array.replicate (n - cargs.size) undef)[t - cargs.size]?).getD undef = undef := by
        rw [Array.getElem?_replicate]
        split <;> rfl
      rw [this]
      exact ⟨.inl .undef, spareV_undef⟩
  box i l hi := by simp at hi
  brng i B hB := by cases hB
  defs := trivial
def RecOK (E : Emb) (w : World) (h' : Heap) (w' : World) : Prop := ∃ E', Ext E.inner w E' w' ∧ HRel E' w'.heap h'
def modeOf : Option Value → FrameMode
  | none => .returning
  | some x => .panicking [{ v := x, recovered := false }]
def PanRel (E : Emb) (hp : HP) (v : AVal) : Option Value → Prop
  | none => v = .nili
  | some x => VRel E hp v x
theorem recovered_sound {call : Call} (hP : PlainNames X.P) (hcall : CallSim X.P call) (hdraw : DrawSim X call) {fuel : Nat} {g : FuncId} {caps : List AVal} {v : AVal} {h' : Heap} {p : Option Value} {us : Array Value}
    (hds : ∀ fn c, X.P.funcs[g]? = some fn → fn.body = some c → drawsOK X g c = true)
    (hH : HRel E w.heap h) (hc : VRel E w.heap (.fn g caps) (.func (.func g) #[] us)) (hv : PanRel E w.heap v p)
    (hr : recovered X call fuel g caps v h = some h') : CallsD X.P g us (modeOf p) w fun e u' w' => (∃ y, e = .returned y) ∧ settle u' = .returning ∧ RecOK E w h' w' := by
  unfold recovered at hr
  split at hr
  · rename_i fn hfn
    split at hr
    · rename_i id ops c hbody
      split at hr
      · rename_i o o' hops
        split at hr
        · rename_i args ts t d d' ho ho' hd hd' hg hg'
          cases hcnd : (Nat.beq t d && Nat.ble caps.length fn.ntmps && Nat.blt d fn.ntmps && Nat.blt d' fn.ntmps) with
          | false => rw [hcnd] at hr; cases hr
          | true =>
            rw [hcnd, cond_true] at hr
            simp only [Bool.and_eq_true] at hcnd
            obtain ⟨⟨⟨c1, c2⟩, b3⟩, b4⟩ := hcnd
            have c1 : t = d := Nat.eq_of_beq_eq_true c1
            have c2 : caps.length ≤ fn.ntmps := Nat.le_of_ble_eq_true c2
            have c3 : d < fn.ntmps := Nat.le_of_ble_eq_true b3
            have c4 : d' < fn.ntmps := Nat.le_of_ble_eq_true b4
            have hopsA : ops = #[o, o'] := by apply Array.ext'; simpa using hops
            cases hc with
            | fn _ _ _ hl hvv hau =>
            -- the frame behind recover
            have hargs : ArgsRel E.inner w.heap caps us := ⟨hl, fun j v x h1 h2 => ⟨(hvv j v x h1 h2).mono inner_mono, .of_strip (hau v (List.mem_of_getElem? h1)).2⟩⟩
            have hF0 := enter_rel (n := fn.ntmps) hargs c2
            have key : ∀ y, VRel E w.heap v.stripA y → FRel E.inner (fun _ => none) w.heap { env := setE (setE (envOf caps) d v.stripA) d' v.stripA, boxes := [], n := fn.ntmps, defs := [] }
                (({ tmps := us ++ Array.replicate (fn.ntmps - us.size) undef, defers := [] } : Act).put (some d) y |>.put (some d') y) := by
              intro y hy
              have hs : ∀ t, SpareV E.inner w.heap (.spareT t) v.stripA y := fun t => .of_strip (stripA_stripA _)
              refine (hF0.put (dst := some d) (v := v.stripA) (x := y) (s' := { env := setE (envOf caps) d v.stripA, boxes := [], n := fn.ntmps, defs := [] }) (by simp only [FS.put, b3, cond_true]) (.inl (hy.mono inner_mono)) fun t _ => hs t).put
                (dst := some d') (v := v.stripA) (x := y) (by simp only [FS.put, b4, cond_true]) (.inl (hy.mono inner_mono)) fun t _ => hs t
            refine callsD_of_wpS hfn hbody fun c₀ cs hc₀ => wpS_seq (wpS_region ?_)
            have hrun : ∀ (y : Value) (cs' : List Frame) (u' : FrameMode), VRel E w.heap v.stripA y → cs' = { c₀ with mode := u' } :: cs → settle u' = .returning →
                (c.wpS X.P (bodyPostS X.P fn c₀ cs fun e u' w' => (∃ y, e = .returned y) ∧ settle u' = .returning ∧ RecOK E w h' w')
                (({ tmps := us ++ Array.replicate (fn.ntmps - us.size) undef, defers := [] } : Act).put (some d) y |>.put (some d') y) cs' w) := by
              intro y cs' u' hy hcs hu
              subst hcs
              have hdc : drawsOK X g c = true := by
                have := hds fn _ hfn hbody
                simp only [drawsOK, Bool.and_eq_true] at this
                exact this.2
              split at hr
              · rename_i s' h1 hrn
                split at hr
                · rename_i hdf hres
                  cases hr
                  refine wpS_of_wp (wp_mono (run_sound hP hcall hdraw fuel c _ h _ hdc hrn E.inner _ _ w (inner_heap hH) (key y hy)) ?_)
                  rintro e a' w' ⟨E2, β2, k1, k2, k3⟩
                  cases e with
                  | normal => exact ⟨k3.noDefs hdf, u', rfl, .tuple #[], results_none (Array.ext' (by simpa using hres)) _ _ _, ⟨_, rfl⟩, hu, E2, k2, k1⟩
                  | _ => exact k3.elim
                · cases hr
              · rename_i s' h1 hrn
                split at hr
                · rename_i hdf hres
                  cases hr
                  refine wpS_of_wp (wp_mono (run_sound hP hcall hdraw fuel c _ h _ hdc hrn E.inner _ _ w (inner_heap hH) (key y hy)) ?_)
                  rintro e a' w' ⟨E2, β2, k1, k2, k3⟩
                  cases e with
                  | ret => exact ⟨k3.noDefs hdf, u', rfl, .tuple #[], results_none (Array.ext' (by simpa using hres)) _ _ _, ⟨_, rfl⟩, hu, E2, k2, k1⟩
                  | _ => exact k3.elim
                · cases hr
              · cases hr
            have hw : ∀ (l : Array Value) (o : Oper), o.guard = none → Region.wanted o (yielded ops l) = true := fun b o hb => by simp [Region.wanted, hb]
            have hsz : List.range ops.size = [0, 1] := by rw [hopsA]; rfl
            have h0 : ops[0]? = some o := by rw [hopsA]; rfl
            have h1 : ops[1]? = some o' := by rw [hopsA]; rfl
            rw [hsz]
            have hex : (execOp ({ tmps := us ++ Array.replicate (fn.ntmps - us.size) undef, defers := [] } : Act).eval o).run X.P w = .ok .recover w := by
              simp [execOp, ho, resolve, invoke, builtin]
            have hex' : ∀ y, (execOp (({ tmps := us ++ Array.replicate (fn.ntmps - us.size) undef, defers := [] } : Act).put (some d) y).eval o').run X.P w = .ok (.value y) w := by
              intro y
              have : d < us.size + (fn.ntmps - us.size) := Nat.lt_of_lt_of_le c3 (by omega)
              simp [execOp, ho', c1, Act.eval, Act.put, Array.getElem?_setIfInBounds, this]
            cases p with
            | none =>
              have hv : v = .nili := hv
              subst hv
              have hrec : recoverD (c₀ :: cs) = none := by simp [recoverD, hc₀, modeOf]
              have := hrun .nilIface (c₀ :: cs) .returning .nili (by rw [show ({ c₀ with mode := FrameMode.returning } : Frame) = c₀ by rw [← (show c₀.mode = FrameMode.returning from hc₀)]]) rfl
              simp only [wpOpsS, h0, h1, hw _ o hg, hw _ o' hg', if_true, hex, hrec, hd, hd', hex', Oper.upon]
              exact this
            | some x =>
              have hrec : recoverD (c₀ :: cs) = some (x, { c₀ with mode := .panicking [{ v := x, recovered := true }] } :: cs) := by simp [recoverD, hc₀, modeOf]
              have := hrun x _ (.panicking [{ v := x, recovered := true }]) (VRel.stripA hv) rfl rfl
              simp only [wpOpsS, h0, h1, hw _ o hg, hw _ o' hg', if_true, hex, hrec, hd, hd', hex', Oper.upon]
              exact this
        · cases hr
      · cases hr
    · cases hr
  · cases hr
theorem CallPost.trans {E' : Emb} {w₁ w₂ : World} {h' : Heap} {r : ARes} {e : Ending} (x : Ext E w E' w₁) (c : CallPost E' w₁ h' r e w₂) : CallPost E w h' r e w₂ := by
  obtain ⟨E2, h1, h2, h3⟩ := c
  exact ⟨E2, x.trans h1, h2, h3⟩
theorem recovered_body {call : Call} {fuel : Nat} {g : FuncId} {caps : List AVal} {v : AVal} {h' : Heap} (hr : recovered X call fuel g caps v h = some h') : hasBody X.P g = true := by
  unfold recovered at hr
  split at hr
  · rename_i fn hfn
    split at hr
    · rename_i hbody
      simp [hasBody, hfn, hbody]
    · cases hr
  · cases hr
theorem leaves_rec {call : Call} (hP : PlainNames X.P) (hcall : CallSim X.P call) (hdraw : DrawSim X call) {fuel : Nat} {g : FuncId} {caps : List AVal} {v : AVal} {h₁ h₂ : Heap} {p : Option Value}
    (hds : ∀ g fn c, X.P.funcs[g]? = some fn → fn.body = some c → drawsOK X g c = true) {fn : Func} {E₀ : Emb} {w₀ : World} {r : ARes} {h' : Heap}
    (hH : HRel E w.heap h₁) (hF : FRel E β w.heap s a) (hd : s.defs = [(g, caps)]) (hv : PanRel E w.heap v p)
    (hr : recovered X call fuel g caps v h₁ = some h₂) (hres : results X fn f s h₂ = some (r, h')) (hx : Ext E₀ w₀ E w) :
    Leaves X.P fn a.tmps (CallPost E₀ w₀ h' r) a.defers (modeOf p) w := by
  have hD := hF.defs
  rw [hd] at hD
  cases hds' : a.defers with
  | nil => rw [hds'] at hD; exact hD.elim
  | cons d ds =>
    rw [hds'] at hD
    obtain ⟨⟨us, d1, d2, d3⟩, d4⟩ := hD
    cases ds with
    | cons _ _ => exact d4.elim
    | nil =>
      obtain ⟨t, as⟩ := d
      simp only at d1 d2
      subst d1; subst d2
      refine leaves_cons (f := g) (args := us) (by cases p <;> simp [modeOf]) (by simp [invoke, run_callFunc hP (recovered_body hr)]) ?_
      refine (recovered_sound hP hcall hdraw (fun fn c h1 h2 => hds g fn c h1 h2) hH d3 hv hr).mono ?_
      rintro e u' w' ⟨⟨y, rfl⟩, hu, E', x1, x2⟩
      simp only [hu]
      obtain ⟨y', r1, r2⟩ := results_sound (X := X) (f := f) (outer_heap x1 hH.tab.1 x2) (outer_frame x1 hF) hres
      exact ⟨y', r1, (r2.trans (outer_ext x1)).trans hx⟩
theorem body_sound {call : Call} (hP : PlainNames X.P) (hcall : CallSim X.P call) (hdraw : DrawSim X call) (hds : ∀ g fn c, X.P.funcs[g]? = some fn → fn.body = some c → drawsOK X g c = true) (fuel : Nat) :
    CallSim X.P (body X call fuel) := by
  intro f args h r h' hb E w cargs hH ha
  unfold body at hb
  split at hb
  · rename_i fn hfn
    split at hb
    · rename_i c hbody
      cases hle : Nat.ble args.length fn.ntmps with
      | false => rw [hle] at hb; cases hb
      | true =>
        rw [hle, cond_true] at hb
        have hF0 := enter_rel ha (Nat.le_of_ble_eq_true hle)
        refine calls_of_wp_defers hfn hbody ?_
        have go : ∀ q, run X call f fuel c { env := envOf args, boxes := [], n := fn.ntmps, defs := [] } h = some q → c.wp X.P (CodeOK E w q) { tmps := cargs ++ Array.replicate (fn.ntmps - cargs.size) undef, defers := [] } w :=
          fun q hq => run_sound hP hcall hdraw fuel c _ h q (hds f fn c hfn hbody) hq E _ _ w hH hF0
        split at hb
        · rename_i s h1 hrn
          refine wp_mono (go _ hrn) ?_
          rintro e a' w' ⟨E2, β2, k1, k2, k3⟩
          cases e with
          | normal =>
            split at hb
            · rename_i hdf
              simp only [bodyPostD, k3.noDefs hdf]
              obtain ⟨y, r1, r2⟩ := results_sound (X := X) (f := f) k1 k3 hb
              exact ⟨y, r1, r2.trans k2⟩
            · rename_i g caps hdf
              split at hb
              · rename_i h2 hrec
                exact leaves_rec (p := none) hP hcall hdraw hds k1 k3 hdf rfl hrec hb k2
              · cases hb
            · cases hb
          | _ => exact k3.elim
        · rename_i s h1 hrn
          refine wp_mono (go _ hrn) ?_
          rintro e a' w' ⟨E2, β2, k1, k2, k3⟩
          cases e with
          | ret =>
            split at hb
            · rename_i hdf
              simp only [bodyPostD, k3.noDefs hdf]
              obtain ⟨y, r1, r2⟩ := results_sound (X := X) (f := f) k1 k3 hb
              exact ⟨y, r1, r2.trans k2⟩
            · rename_i g caps hdf
              split at hb
              · rename_i h2 hrec
                exact leaves_rec (p := none) hP hcall hdraw hds k1 k3 hdf rfl hrec hb k2
              · cases hb
            · cases hb
          | _ => exact k3.elim
        · rename_i v s h1 hrn
          refine wp_mono (go _ hrn) ?_
          rintro e a' w' ⟨E2, β2, k1, k2, k3⟩
          cases e with
          | panic chain =>
            obtain ⟨x, rfl, k4, k5, k6⟩ := k3
            split at hb
            · rename_i hdf
              cases hb
              simp only [bodyPostD, k5 hdf]
              exact ⟨E2, k2, k1, x, rfl, k4⟩
            · rename_i g caps hdf
              split at hb
              · rename_i h2 hrec
                exact leaves_rec (p := some x) hP hcall hdraw hds k1 (k6 (by rw [hdf]; simp)) hdf k4 hrec hb k2
              · cases hb
            · cases hb
          | _ => exact k3.elim
        · cases hb
    · cases hb
  · cases hb
end Go.Den
namespace Go.Den
open Go
variable {X : Ctx} {call : Call} {f : FuncId} {s s' : FS} {h h' : Heap} {o : Oper}
def trS (ft : Foot) (W : List Nat) (s' : FS) (s₁ : FS) : FS :=
  { env := fun t => if t ∈ W then s₁.env t else s'.env t, boxes := if ft.b = true then s₁.boxes else s'.boxes, n := s'.n, defs := s'.defs }
def trH (ft : Foot) (h' : Heap) (h₁ : Heap) : Heap := if ft.h = true then h₁ else h'
def tr (ft : Foot) (W L : List Nat) (s' : FS) (h' : Heap) : Out → Out
  | .cont s₁ h₁ => .cont (trS ft W s' s₁) (trH ft h' h₁)
  | .panic v s₁ h₁ => .panic v (trS ft (W.filter fun t => decide (t ∈ L)) s' s₁) (trH ft h' h₁)
structure Alike (ft : Foot) (L : List Nat) (s s' : FS) (h h' : Heap) : Prop where
  env : ∀ t, t ∈ L → s'.env t = s.env t
  n : s'.n = s.n
  b : ft.b = true → s'.boxes = s.boxes
  h : ft.h = true → h' = h
theorem FS.ext' {a b : FS} (h1 : ∀ t, a.env t = b.env t) (h2 : a.boxes = b.boxes) (h3 : a.n = b.n) (h4 : a.defs = b.defs) : a = b := by
  obtain ⟨e, bx, n, d⟩ := a
  obtain ⟨e', bx', n', d'⟩ := b
  simp only at h1 h2 h3 h4
  have : e = e' := funext h1
  subst this; subst h2; subst h3; subst h4; rfl
structure Along (ft : Foot) (W L : List Nat) (s' : FS) (h' : Heap) (S S' : FS) (H H' : Heap) : Prop where
  look : ∀ t, t ∈ L → S'.env t = S.env t
  keep : ∀ t, ¬ (t ∈ W ∧ t ∈ L) → S'.env t = s'.env t
  n : S'.n = s'.n
  sn : S.n = s'.n
  defs : S'.defs = s'.defs
  b : ft.b = true → S'.boxes = S.boxes
  nb : ft.b = false → S'.boxes = s'.boxes
  h : ft.h = true → H' = H
  nh : ft.h = false → H' = h'
theorem Alike.along {ft : Foot} {W L : List Nat} (a : Alike ft L s s' h h') : Along ft W L s' h' s s' h h' :=
  ⟨a.env, fun _ _ => rfl, rfl, a.n.symm, rfl, a.b, fun _ => rfl, a.h, fun _ => rfl⟩
variable {ft : Foot} {W L : List Nat} {S S' : FS} {H H' : Heap}
theorem Along.drop (a : Along ft W L s' h' S S' H H') {x : Operand} (hx : ∀ t, tmpOf x = some t → t ∈ W ∧ t ∈ L) : Along ft W L s' h' (S.drop x) (S'.drop x) H H' := by
  cases x with
  | tmp t =>
    obtain ⟨h1, h2⟩ := hx t rfl
    refine ⟨fun u hu => ?_, fun u hu => ?_, a.n, a.sn, a.defs, a.b, a.nb, a.h, a.nh⟩
    · simp only [FS.drop, setE]
      rw [a.look t h2]
      cases hut : Nat.beq u t
      · exact a.look u hu
      · rfl
    · simp only [FS.drop, setE]
      have : Nat.beq u t = false := by
        cases hut : Nat.beq u t with
        | false => rfl
        | true => exact (hu (Nat.eq_of_beq_eq_true hut ▸ ⟨h1, h2⟩)).elim
      rw [this]; exact a.keep u hu
  | _ => exact a
theorem Along.dropIf (a : Along ft W L s' h' S S' H H') {c : Bool} {x : Operand} (hx : c = true → ∀ t, tmpOf x = some t → t ∈ W ∧ t ∈ L) : Along ft W L s' h' (cond c (S.drop x) S) (cond c (S'.drop x) S') H H' := by
  cases c with
  | false => exact a
  | true => exact a.drop (hx rfl)
theorem Along.boxes (a : Along ft W L s' h' S S' H H') (hb : ft.b = true) (B : List (List AVal)) : Along ft W L s' h' { S with boxes := B } { S' with boxes := B } H H' :=
  ⟨a.look, a.keep, a.n, a.sn, a.defs, fun _ => rfl, fun e => (by rw [hb] at e; cases e), a.h, a.nh⟩
theorem Along.heap (a : Along ft W L s' h' S S' H H') (hh : ft.h = true) (K : Heap) : Along ft W L s' h' S S' K K :=
  ⟨a.look, a.keep, a.n, a.sn, a.defs, a.b, a.nb, fun _ => rfl, fun e => (by rw [hh] at e; cases e)⟩
theorem Along.leaf (a : Along ft W L s' h' S S' H H') {dst : Option Tmp} {v : AVal} (hW : ∀ t, t ∈ W → dst = some t ∨ t ∈ L) (hd : ∀ t, dst = some t → t ∈ W) :
    cont? (S'.put dst v) H' = (cont? (S.put dst v) H).map (tr ft W L s' h') := by
  have hbx : S'.boxes = if ft.b = true then S.boxes else s'.boxes := by
    cases hb : ft.b with
    | true => simp [a.b hb]
    | false => simp [a.nb hb]
  have hhp : H' = if ft.h = true then H else h' := by
    cases hb : ft.h with
    | true => simp [a.h hb]
    | false => simp [a.nh hb]
  cases dst with
  | none =>
    simp only [FS.put, cont?, Option.map_some, tr, trH, ← hhp]
    congr 2
    refine FS.ext' (fun t => ?_) hbx a.n a.defs
    simp only [trS]
    split
    · rename_i ht
      rcases hW t ht with h1 | h1
      · cases h1
      · exact a.look t h1
    · rename_i ht; exact a.keep t (fun e => ht e.1)
  | some d =>
    simp only [FS.put, a.n, a.sn]
    cases Nat.blt d s'.n with
    | false => rfl
    | true =>
      simp only [cond_true, cont?, Option.map_some, tr, trH, ← hhp]
      congr 2
      refine FS.ext' (fun t => ?_) hbx rfl a.defs
      simp only [trS, setE]
      by_cases htd : t = d
      · subst htd
        simp [hd t rfl]
      · have hne : Nat.beq t d = false := by
          cases hut : Nat.beq t d with
          | false => rfl
          | true => exact (htd (Nat.eq_of_beq_eq_true hut)).elim
        simp only [hne, cond_false]
        split
        · rename_i ht
          rcases hW t ht with h1 | h1
          · cases h1; exact (htd rfl).elim
          · exact a.look t h1
        · rename_i ht; exact a.keep t (fun e => ht e.1)
theorem Along.panic (a : Along ft W L s' h' S S' H H') {v : AVal} : some (Out.panic v S' H') = (some (Out.panic v S H)).map (tr ft W L s' h') := by
  have hbx : S'.boxes = if ft.b = true then S.boxes else s'.boxes := by
    cases hb : ft.b with
    | true => simp [a.b hb]
    | false => simp [a.nb hb]
  have hhp : H' = if ft.h = true then H else h' := by
    cases hb : ft.h with
    | true => simp [a.h hb]
    | false => simp [a.nh hb]
  simp only [Option.map_some, tr, trH, ← hhp]
  congr 2
  refine FS.ext' (fun t => ?_) hbx a.n a.defs
  simp only [trS, List.mem_filter, decide_eq_true_eq]
  split
  · rename_i ht; exact a.look t ht.2
  · rename_i ht; exact a.keep t ht
theorem opnd_look {env env' : Env} {x : Operand} (hx : ∀ t, tmpOf x = some t → env' t = env t) : opnd env' x = opnd env x := by
  cases x with
  | tmp t => simp only [opnd]; rw [hx t rfl]
  | _ => rfl
theorem mapO_congr {α β : Type} {p q : α → Option β} : ∀ {l : List α}, (∀ x, x ∈ l → p x = q x) → mapO p l = mapO q l
  | [], _ => rfl
  | x :: xs, hx => by
    simp only [mapO]
    rw [hx x (by simp), mapO_congr (l := xs) fun y hy => hx y (by simp [hy])]
end Go.Den

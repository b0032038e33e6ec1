/-
  DEN, PART EA: an operation's step is carried over to a state that is alike.
-/
import Derived.Test.YthbcdilmfgfndaaGreatDoorZb
set_option linter.unusedSimpArgs false
set_option linter.unusedVariables false
namespace Go.Den
open Go
variable {X : Ctx} {call : Call} {f : FuncId} {s s' : FS} {h h' : Heap} {o : Oper} {ft : Foot}
def opsT (o : Oper) : List Nat := o.op.operands.toList.filterMap tmpOf
theorem opsT_of {x : Operand} (hx : x ∈ o.op.operands.toList) {t : Nat} (ht : tmpOf x = some t) : t ∈ opsT o := List.mem_filterMap.2 ⟨x, hx, ht⟩
theorem aload_congr {g : Bool} {n : Nat} {a : AVal} (hb : (∃ i off, a = .loc i off) → s'.boxes = s.boxes) (hh : (∃ b off, a = .ptr b off) → h' = h) : aload s' h' g n a = aload s h g n a := by
  unfold aload rowAt
  cases a with
  | loc i off => simp only [hb ⟨_, _, rfl⟩]
  | ptr b off => simp only [hh ⟨_, _, rfl⟩]
  | _ => rfl
theorem bound_congr {env env' : Env} {d : Nat} {x : Option Operand} (hx : ∀ y, x = some y → opnd env' y = opnd env y) : bound env' d x = bound env d x := by
  cases x with
  | none => rfl
  | some y => simp only [bound, hx y rfl]
theorem asub_congr {P : Program} {env env' : Env} {t : TypeId} {a : AVal} {lo hi mx : Option Operand} (h1 : ∀ y, lo = some y → opnd env' y = opnd env y) (h2 : ∀ y, hi = some y → opnd env' y = opnd env y)
    (h3 : ∀ y, mx = some y → opnd env' y = opnd env y) (ha : arrT P t = false) : asub P h' env' t a lo hi mx = asub P h env t a lo hi mx := by
  have hb1 : ∀ d, bound env' d lo = bound env d lo := fun d => bound_congr h1
  have hb2 : ∀ d, bound env' d hi = bound env d hi := fun d => bound_congr h2
  have hb3 : ∀ d, bound env' d mx = bound env d mx := fun d => bound_congr h3
  cases a with
  | ptr b off =>
    have : ∀ (h : Heap) env, asub P h env t (.ptr b off) lo hi mx = none := by
      intro h env
      unfold asub
      unfold arrT at ha
      simp only
      cases hP : P.underlying t with
      | none => rfl
      | some d => cases d <;> first | rfl | (rw [hP] at ha; cases ha)
    rw [this, this]
  | _ => unfold asub; simp only [hb1, hb2, hb3]
theorem alen_congr {P : Program} {t : TypeId} {a : AVal} (hh : ∀ b, a = .map b → h' = h) : alen P h' t a = alen P h t a := by
  cases a with
  | map b => rw [hh b rfl]
  | _ =>
    unfold alen
    cases P.underlying t with
    | none => rfl
    | some d => cases d <;> rfl
theorem valOp_congr (hx : ∀ x, x ∈ o.op.operands.toList → opnd s'.env x = opnd s.env x) (hft : foot X f s.env o = some ft) (hb : ft.b = true → s'.boxes = s.boxes) (hh : ft.h = true → h' = h) :
    valOp X s' h' o.op = valOp X s h o.op := by
  obtain ⟨dst, op, type, pos, after, guard⟩ := o
  cases op with
  | pick c a b =>
    simp only [Op.operands, List.mem_cons, List.not_mem_nil, or_false, forall_eq_or_imp, forall_eq] at hx
    simp only [valOp]
    rw [hx.1]
    split
    · rename_i b' _
      cases b' <;> simp only [cond_true, cond_false, hx.2.1, hx.2.2]
    · rfl
  | load t p =>
    simp only [Op.operands, List.mem_cons, List.not_mem_nil, or_false, forall_eq] at hx
    simp only [foot] at hft
    simp only [valOp, hx]
    cases hp : opnd s.env p with
    | none => rfl
    | some a =>
      have hft : addrFoot (linDst X f dst) a = some ft := by simpa [hp] using hft
      have : ∀ g n, aload s' h' g n a = aload s h g n a := fun g n => aload_congr (fun ⟨i, off, e⟩ => hb (by subst e; cases hft; rfl)) (fun ⟨i, off, e⟩ => hh (by subst e; cases hft; rfl))
      cases tySize X.P t with
      | none => rfl
      | some n => cases tyAgg X.P t with
        | none => rfl
        | some g => exact this g n
  | lookup t m k ok =>
    simp only [Op.operands, List.mem_cons, List.not_mem_nil, or_false, forall_eq_or_imp, forall_eq] at hx
    simp only [foot] at hft
    cases hft
    simp only [valOp, hx.1, hx.2, hh rfl]
  | slice t x lo hi mx =>
    simp only [Op.operands] at hx
    have h0 := hx x (by simp)
    simp only [valOp, h0]
    have ha : arrT X.P t = false := by
      simp only [foot] at hft
      cases hc : arrT X.P t with
      | false => rfl
      | true => rw [hc] at hft; cases hft
    split
    · exact asub_congr (fun y e => hx y (by simp [e])) (fun y e => hx y (by simp [e])) (fun y e => hx y (by simp [e])) ha
    · rfl
  | makeFunc fn first caps =>
    cases fn with
    | func g =>
      simp only [Op.operands] at hx
      simp only [valOp]
      rw [mapO_congr (p := opnd s'.env) (q := opnd s.env) (l := caps.toList) fun x h => hx x (by simp at h; simp [h])]
    | _ => rfl
  | call c =>
    obtain ⟨callee, args, ts⟩ := c
    cases callee with
    | builtin b =>
      simp only [Op.operands, Call.operands] at hx
      have ha : ∀ x, x ∈ args.toList → opnd s'.env x = opnd s.env x := fun x h => hx x (by simpa using h)
      cases b with
      | len =>
        have h0 : (args[0]?).bind (opnd s'.env) = (args[0]?).bind (opnd s.env) := by
          cases he : args[0]? with
          | none => rfl
          | some x => exact ha x (by simpa using Array.mem_of_getElem? he)
        simp only [valOp, h0]
        simp only [foot] at hft
        split
        · rename_i t a _ ha
          rw [ha] at hft
          refine alen_congr fun b e => ?_
          subst e; cases hft; exact hh rfl
        · rfl
      | max =>
        simp only [valOp]
        split
        · rename_i x y hl
          rw [ha x (by simp [hl]), ha y (by simp [hl])]
        · rfl
      | min =>
        simp only [valOp]
        split
        · rename_i x y hl
          rw [ha x (by simp [hl]), ha y (by simp [hl])]
        · rfl
      | _ => rfl
    | _ => rfl
  | typeAssert x xt t ok =>
    simp only [Op.operands, List.mem_cons, List.not_mem_nil, or_false, forall_eq] at hx
    cases ok with
    | true => simp only [valOp, hx]
    | false => rfl
  | nilCheck x =>
    simp only [Op.operands, List.mem_cons, List.not_mem_nil, or_false, forall_eq] at hx
    simp only [valOp, hx]
  | unOp op' t x =>
    simp only [Op.operands, List.mem_cons, List.not_mem_nil, or_false, forall_eq] at hx
    simp only [valOp, hx]
  | convert a b x =>
    simp only [Op.operands, List.mem_cons, List.not_mem_nil, or_false, forall_eq] at hx
    simp only [valOp, hx]
  | makeInterface t x =>
    simp only [Op.operands, List.mem_cons, List.not_mem_nil, or_false, forall_eq] at hx
    simp only [valOp, hx]
  | fieldAddr t x i =>
    simp only [Op.operands, List.mem_cons, List.not_mem_nil, or_false, forall_eq] at hx
    simp only [valOp, hx]
  | field t x i =>
    simp only [Op.operands, List.mem_cons, List.not_mem_nil, or_false, forall_eq] at hx
    simp only [valOp, hx]
  | extract x i =>
    simp only [Op.operands, List.mem_cons, List.not_mem_nil, or_false, forall_eq] at hx
    simp only [valOp, hx]
  | binOp op' t x y ty =>
    simp only [Op.operands, List.mem_cons, List.not_mem_nil, or_false, forall_eq_or_imp, forall_eq] at hx
    simp only [valOp, hx.1, hx.2]
  | indexAddr t x i =>
    simp only [Op.operands, List.mem_cons, List.not_mem_nil, or_false, forall_eq_or_imp, forall_eq] at hx
    simp only [valOp, hx.1, hx.2]
  | index t x i =>
    simp only [Op.operands, List.mem_cons, List.not_mem_nil, or_false, forall_eq_or_imp, forall_eq] at hx
    simp only [valOp, hx.1, hx.2]
  | _ => rfl
end Go.Den
namespace Go.Den
open Go
variable {X : Ctx} {call : Call} {f : FuncId} {s s' : FS} {h h' : Heap} {o : Oper} {ft : Foot} {W L : List Nat} {S S' : FS} {H H' : Heap}
def AlongO (ft : Foot) (W L : List Nat) (s' : FS) (h' : Heap) : Option (FS × Heap) → Option (FS × Heap) → Prop
  | none, none => True
  | some (S, H), some (S', H') => Along ft W L s' h' S S' H H'
  | _, _ => False
theorem astore_along (a : Along ft W L s' h' S S' H H') {p : AVal} {cs : List AVal} (hb : (∃ i off, p = .loc i off) → ft.b = true) (hh : (∃ b off, p = .ptr b off) → ft.h = true) :
    AlongO ft W L s' h' (astore S H p cs) (astore S' H' p cs) := by
  cases p with
  | loc i off =>
    have hb := hb ⟨_, _, rfl⟩
    simp only [astore, a.b hb]
    cases S.boxes[i]? with
    | none => trivial
    | some l =>
      simp only
      generalize Nat.ble (off + cs.length) l.length = c
      cases c with
      | false => trivial
      | true => exact a.boxes hb _
  | ptr b off =>
    have hh := hh ⟨_, _, rfl⟩
    simp only [astore, a.h hh]
    split
    · rename_i l _
      generalize (Nat.ble H.ro b && Nat.ble (off + cs.length) l.length) = c
      cases c with
      | false => trivial
      | true => exact a.heap hh _
    · trivial
  | _ => trivial
theorem fillS_along {P : Program} {lin : Operand → Bool} {fields : Array Field} : ∀ {parts : List (Nat × Operand)} {zs : List AVal} {S S' : FS}, Along ft W L s' h' S S' H H' →
    (∀ p, p ∈ parts → (∀ t, tmpOf p.2 = some t → t ∈ L) ∧ (lin p.2 = true → ∀ t, tmpOf p.2 = some t → t ∈ W ∧ t ∈ L)) →
    match fillS P lin fields S zs parts, fillS P lin fields S' zs parts with
    | none, none => True
    | some (cs, S1), some (cs', S1') => cs = cs' ∧ Along ft W L s' h' S1 S1' H H'
    | _, _ => False
  | [], zs, S, S', a, _ => ⟨rfl, a⟩
  | (i, x) :: rest, zs, S, S', a, hp => by
    obtain ⟨h1, h2⟩ := hp (i, x) (by simp)
    simp only [fillS]
    rw [opnd_look (env := S.env) (env' := S'.env) fun t ht => a.look t (h1 t ht)]
    cases fields[i]? with
    | none => trivial
    | some fd =>
      cases opnd S.env x with
      | none => trivial
      | some v =>
        simp only
        cases tySize P fd.type with
        | none => trivial
        | some n =>
          simp only
          generalize (Nat.beq v.cells.length n && Nat.ble (fd.offset + n) zs.length && !v.isLoc) = c
          cases c with
          | false => trivial
          | true => exact fillS_along (a.dropIf h2) fun p hm => hp p (by simp [hm])
theorem abuild_along {P : Program} {lin : Operand → Bool} {t : TypeId} {parts : Array (Nat × Operand)} (a : Along ft W L s' h' S S' H H')
    (hp : ∀ p, p ∈ parts.toList → (∀ t, tmpOf p.2 = some t → t ∈ L) ∧ (lin p.2 = true → ∀ t, tmpOf p.2 = some t → t ∈ W ∧ t ∈ L)) :
    match abuild P lin S t parts, abuild P lin S' t parts with
    | none, none => True
    | some (v, S1), some (v', S1') => v = v' ∧ Along ft W L s' h' S1 S1' H H'
    | _, _ => False := by
  unfold abuild
  cases P.underlying t with
  | none => trivial
  | some d =>
    cases d with
    | struct fields =>
      cases tyZero P t with
      | none => trivial
      | some z =>
        cases z with
        | agg zs =>
          have := fillS_along (P := P) (lin := lin) (fields := fields) (parts := parts.toList) (zs := zs) a hp
          simp only
          cases mapO (fun f => tySize P f.type) fields.toList with
          | none => trivial
          | some _ =>
            revert this
            cases fillS P lin fields S zs parts.toList with
            | none => cases fillS P lin fields S' zs parts.toList with
              | none => intro _; trivial
              | some _ => intro e; exact e.elim
            | some q => cases fillS P lin fields S' zs parts.toList with
              | none => intro e; exact e.elim
              | some q' => intro e; exact ⟨congrArg AVal.agg e.1, e.2⟩
        | _ => trivial
    | _ => trivial
theorem fillR_congr {env env' : Env} {size : Nat} : ∀ {parts : List (Nat × Operand)} {zs : List AVal}, (∀ p, p ∈ parts → opnd env' p.2 = opnd env p.2) → fillR env' size zs parts = fillR env size zs parts
  | [], _, _ => rfl
  | (i, x) :: rest, zs, hp => by
    simp only [fillR]
    rw [show opnd env' x = opnd env x from hp (i, x) (by simp)]
    cases opnd env x with
    | none => rfl
    | some v =>
      simp only
      rw [fillR_congr fun p hm => hp p (by simp [hm])]
theorem argVals_along (a : Along ft W L s' h' S S' H H') {args : List Operand} (hx : ∀ x, x ∈ args → opnd S'.env x = opnd S.env x) (hd : ∀ x, x ∈ args.take 1 → isLin X f x = true → ∀ t, tmpOf x = some t → t ∈ W ∧ t ∈ L) :
    match argVals X f S args, argVals X f S' args with
    | none, none => True
    | some (vs, S1), some (vs', S1') => vs = vs' ∧ Along ft W L s' h' S1 S1' H H'
    | _, _ => False := by
  cases args with
  | nil => exact ⟨rfl, a⟩
  | cons x xs =>
    simp only [argVals]
    rw [hx x (by simp), mapO_congr (p := opnd S'.env) (q := opnd S.env) fun y hy => hx y (by simp [hy])]
    cases opnd S.env x with
    | none => trivial
    | some v =>
      cases mapO (opnd S.env) xs with
      | none => trivial
      | some vs => exact ⟨rfl, a.dropIf fun hl => hd x (by simp) hl⟩
theorem callOut_along (a : Along ft W L s' h' S S' H H') (hh : ft.h = true) {dst : Option Tmp} {r : Option (ARes × Heap)} (hW : ∀ t, t ∈ W → dst = some t ∨ t ∈ L) (hd : ∀ t, dst = some t → t ∈ W) :
    callOut S' dst r = (callOut S dst r).map (tr ft W L s' h') := by
  cases r with
  | none => rfl
  | some q =>
    obtain ⟨r, K⟩ := q
    cases r with
    | ret v => exact (a.heap hh K).leaf hW hd
    | panic v => exact (a.heap hh K).panic
theorem drops_sub : ∀ x, x ∈ drops X f o → x ∈ o.op.operands.toList := by
  obtain ⟨dst, op, type, pos, after, guard⟩ := o
  intro x hx
  cases op with
  | move y =>
    simp only [drops] at hx
    revert hx; generalize (isLin X f y || linDst X f dst) = c; cases c <;> simp [Op.operands]
  | assign y =>
    simp only [drops] at hx
    revert hx; generalize (isLin X f y || linDst X f dst) = c; cases c <;> simp [Op.operands]
  | store t p y =>
    simp only [drops] at hx
    revert hx; generalize (isLin X f y) = c; cases c <;> simp [Op.operands]
    intro h; exact .inr h
  | box t y =>
    simp only [drops] at hx
    revert hx; generalize (isLin X f y) = c; cases c <;> simp [Op.operands]
  | build t ps =>
    simp only [drops, List.mem_filter] at hx
    simpa [Op.operands] using hx.1
  | call c =>
    obtain ⟨callee, args, ts⟩ := c
    cases callee with
    | builtin b =>
      cases b with
      | append =>
        simp only [drops] at hx
        revert hx; generalize (atDst X.cfg.mutA f dst) = c
        cases c with
        | true => intro h; simp at h
        | false => intro h; simp only [cond_false] at h; simpa [Op.operands, Call.operands] using List.mem_of_mem_take h
      | _ => simp [drops] at hx
    | value g =>
      simp only [drops, List.mem_filter] at hx
      simp [Op.operands, Call.operands]
      exact .inr (by simpa using List.mem_of_mem_take hx.1)
    | _ => simp [drops] at hx
  | _ => simp [drops] at hx
end Go.Den
namespace Go.Den
open Go
variable {X : Ctx} {call : Call} {f : FuncId} {s s' : FS} {h h' : Heap} {o : Oper} {ft : Foot}
theorem writes_of : ∀ t, t ∈ writesT X f o → o.dst = some t ∨ t ∈ opsT o := by
  intro t ht
  simp only [writesT, List.mem_append, Option.mem_toList] at ht
  rcases ht with h1 | h1
  · exact .inl h1
  · obtain ⟨x, h2, h3⟩ := List.mem_filterMap.1 h1
    exact .inr (opsT_of (drops_sub x h2) h3)
theorem dst_writes : ∀ t, o.dst = some t → t ∈ writesT X f o := fun t ht => by simp [writesT, ht]
theorem drop_writes {x : Operand} (hx : x ∈ drops X f o) : ∀ t, tmpOf x = some t → t ∈ writesT X f o ∧ t ∈ opsT o := fun t ht =>
  ⟨List.mem_append_right _ (List.mem_filterMap.2 ⟨x, hx, ht⟩), opsT_of (drops_sub x hx) ht⟩
theorem stepOp_congr (hft : foot X f s.env o = some ft) (al : Alike ft (opsT o) s s' h h') :
    stepOp X call f s' h' o = (stepOp X call f s h o).map (tr ft (writesT X f o) (opsT o) s' h') := by
  have A : Along ft (writesT X f o) (opsT o) s' h' s s' h h' := al.along
  have hx : ∀ x, x ∈ o.op.operands.toList → opnd s'.env x = opnd s.env x := fun x hm => opnd_look fun t ht => al.env t (opsT_of hm ht)
  have hW := writes_of (X := X) (f := f) (o := o)
  have hd := dst_writes (X := X) (f := f) (o := o)
  have hdr := fun x (hm : x ∈ drops X f o) => drop_writes (X := X) (f := f) hm
  have hv := valOp_congr (s' := s') (h' := h') hx hft al.b al.h
  have dflt : (match valOp X s' h' o.op with | some v => cont? (s'.put o.dst v) h' | none => none) = (match valOp X s h o.op with | some v => cont? (s.put o.dst v) h | none => none).map (tr ft (writesT X f o) (opsT o) s' h') := by
    rw [hv]
    cases valOp X s h o.op with
    | none => rfl
    | some v => exact A.leaf hW hd
  obtain ⟨dst, op, type, pos, after, guard⟩ := o
  cases op with
  | move x =>
    have h0 := hx x (by simp [Op.operands])
    simp only [stepOp, h0]
    cases opnd s.env x with
    | none => rfl
    | some v => exact (A.dropIf fun hc t ht => hdr x (by simp only [drops]; rw [hc]; simp) t ht).leaf hW hd
  | assign x =>
    have h0 := hx x (by simp [Op.operands])
    simp only [stepOp, h0]
    cases opnd s.env x with
    | none => rfl
    | some v => exact (A.dropIf fun hc t ht => hdr x (by simp only [drops]; rw [hc]; simp) t ht).leaf hW hd
  | load t p =>
    have h0 := hx p (by simp [Op.operands])
    simp only [stepOp]
    cases hl : linDst X f dst with
    | false => exact dflt
    | true =>
      simp only [cond_true, h0]
      simp only [foot] at hft
      cases hp : opnd s.env p with
      | none => rfl
      | some a =>
        rw [hp] at hft
        try simp only at hft
        have hb : (∃ i off, a = .loc i off) → ft.b = true := fun ⟨i, off, e⟩ => by subst e; cases hft; rfl
        have hh : (∃ i off, a = .ptr i off) → ft.h = true := fun ⟨i, off, e⟩ => by subst e; cases hft; rfl
        have hrow : rowAt s' h' a = rowAt s h a := by
          cases a with
          | loc i off => simp only [rowAt, al.b (hb ⟨_, _, rfl⟩)]
          | ptr b off => simp only [rowAt, al.h (hh ⟨_, _, rfl⟩)]
          | _ => rfl
        cases tySize X.P t with
        | none => rfl
        | some n =>
          cases tyAgg X.P t with
          | none => cases n with
            | zero => rfl
            | succ n => cases n <;> rfl
          | some g =>
            cases n with
            | zero => rfl
            | succ n =>
              cases n with
              | succ n => rfl
              | zero =>
                cases g with
                | true => rfl
                | false =>
                  simp only [Nat.zero_add, hrow]
                  cases rowAt s h a with
                  | none => rfl
                  | some q =>
                    obtain ⟨l, off⟩ := q
                    simp only
                    cases l[off]? with
                    | none => rfl
                    | some v =>
                      have main : (match astore s' h' a [v.strip] with | some (s', h') => cont? (s'.put dst v) h' | none => none) =
                          (match astore s h a [v.strip] with | some (s', h') => cont? (s'.put dst v) h' | none => none).map (tr ft (writesT X f { dst := dst, op := .load t p, type := type, pos := pos, after := after, guard := guard }) (opsT { dst := dst, op := .load t p, type := type, pos := pos, after := after, guard := guard }) s' h') := by
                        have := astore_along A (p := a) (cs := [v.strip]) hb hh
                        revert this
                        cases astore s h a [v.strip] with
                        | none => cases astore s' h' a [v.strip] with
                          | none => intro _; rfl
                          | some _ => intro e; exact e.elim
                        | some q => cases astore s' h' a [v.strip] with
                          | none => intro e; exact e.elim
                          | some q' => intro e; exact Along.leaf e hW hd
                      cases a with
                      | ept cs o => exact A.leaf hW hd
                      | _ => exact main
  | store t p x =>
    have h0 := hx p (by simp [Op.operands])
    have h1 := hx x (by simp [Op.operands])
    simp only [stepOp, h0, h1]
    simp only [foot] at hft
    cases hp : opnd s.env p with
    | none => rfl
    | some a =>
      rw [hp] at hft
      try simp only at hft
      have hb : (∃ i off, a = .loc i off) → ft.b = true := fun ⟨i, off, e⟩ => by subst e; cases hft; rfl
      have hh : (∃ i off, a = .ptr i off) → ft.h = true := fun ⟨i, off, e⟩ => by subst e; cases hft; rfl
      cases opnd s.env x with
      | none => rfl
      | some v =>
        cases tySize X.P t with
        | none => rfl
        | some n =>
          simp only
          generalize (Nat.beq v.cells.length n && !v.isLoc) = c
          cases c with
          | false => rfl
          | true =>
            simp only [cond_true]
            have A1 := A.dropIf (c := isLin X f x) (x := x) fun hc t ht => hdr x (by simp only [drops]; rw [hc]; simp) t ht
            have := astore_along A1 (p := a) (cs := cellsOf (isLin X f x) v) hb hh
            revert this
            cases astore (cond (isLin X f x) (s.drop x) s) h a (cellsOf (isLin X f x) v) with
            | none => cases astore (cond (isLin X f x) (s'.drop x) s') h' a (cellsOf (isLin X f x) v) with
              | none => intro _; rfl
              | some _ => intro e; exact e.elim
            | some q => cases astore (cond (isLin X f x) (s'.drop x) s') h' a (cellsOf (isLin X f x) v) with
              | none => intro e; exact e.elim
              | some q' => intro e; exact Along.leaf e hW hd
  | build t parts =>
    have := abuild_along (P := X.P) (lin := isLin X f) (t := t) (parts := parts) A fun p hm =>
      ⟨fun t ht => opsT_of (by simp only [Op.operands]; exact List.mem_map.2 ⟨p, hm, rfl⟩) ht, fun hl t ht => hdr p.2 (by simp only [drops, List.mem_filter]; exact ⟨List.mem_map.2 ⟨p, hm, rfl⟩, hl⟩) t ht⟩
    simp only [stepOp]
    revert this
    cases abuild X.P (isLin X f) s t parts with
    | none => cases abuild X.P (isLin X f) s' t parts with
      | none => intro _; rfl
      | some _ => intro e; exact e.elim
    | some q => cases abuild X.P (isLin X f) s' t parts with
      | none => intro e; exact e.elim
      | some q' =>
        intro e
        obtain ⟨v, S1⟩ := q
        obtain ⟨v', S1'⟩ := q'
        obtain ⟨e1, e2⟩ := e
        subst e1
        exact Along.leaf e2 hW hd
  | alloc t =>
    simp only [foot] at hft
    simp only [stepOp]
    cases tyZero X.P t with
    | none => rfl
    | some z =>
      cases dst with
      | none => rfl
      | some d =>
        simp only
        cases z.isLoc with
        | true => rfl
        | false =>
          simp only [cond_false]
          simp only [atDst] at hft
          cases hy : X.cfg.heapy f d with
          | true =>
            rw [hy] at hft; cases hft
            simp only [cond_true, al.h rfl]
            exact (A.heap rfl _).leaf hW hd
          | false =>
            rw [hy] at hft; cases hft
            simp only [cond_false, al.b rfl]
            exact (A.boxes rfl _).leaf hW hd
  | box t x =>
    have h0 := hx x (by simp [Op.operands])
    simp only [foot] at hft
    simp only [stepOp, h0]
    cases opnd s.env x with
    | none => rfl
    | some v =>
      cases dst with
      | none => rfl
      | some d =>
        simp only
        cases v.isLoc with
        | true => rfl
        | false =>
          simp only [cond_false]
          simp only [atDst] at hft
          cases hy : X.cfg.heapy f d with
          | true =>
            rw [hy] at hft; cases hft
            simp only [cond_true, al.h rfl]
            exact ((A.dropIf (c := isLin X f x) (x := x) fun hc t ht => hdr x (by simp only [drops]; rw [hc]; simp) t ht).heap rfl _).leaf hW hd
          | false =>
            rw [hy] at hft; cases hft
            simp only [cond_false, al.b rfl]
            exact (A.boxes rfl _).leaf hW hd
  | defer c => simp [foot] at hft
  | panic x => simp [foot] at hft
  | buildSlice t len parts =>
    simp only [foot] at hft
    have : aslice X.P s'.env t len parts = aslice X.P s.env t len parts := by
      unfold aslice
      have hf : ∀ size zs, fillR s'.env size zs parts.toList = fillR s.env size zs parts.toList := fun size zs => fillR_congr fun p hm => hx p.2 (by simp only [Op.operands]; exact List.mem_map.2 ⟨p, hm, rfl⟩)
      simp only [hf]
    simp only [stepOp, this]
    cases aslice X.P s.env t len parts with
    | none => rfl
    | some cs =>
      cases (tyElem X.P t).bind (tySize X.P) with
      | none => rfl
      | some size =>
        simp only
        cases hm : atDst X.cfg.mutB f dst with
        | true =>
          rw [hm] at hft; cases hft
          simp only [cond_true, al.h rfl]
          exact (A.heap rfl _).leaf hW hd
        | false => exact A.leaf hW hd
  | makeMap t r =>
    cases r with
    | some r => exact dflt
    | none =>
      simp only [foot] at hft; cases hft
      simp only [stepOp, al.h rfl]
      split
      · exact (A.heap rfl _).leaf hW hd
      · rfl
  | makeSlice t l c =>
    have h0 := hx l (by simp [Op.operands])
    have h1 := hx c (by simp [Op.operands])
    simp only [foot] at hft; cases hft
    simp only [stepOp, h0, h1, al.h rfl]
    split
    · split
      · rename_i ti z _ _
        generalize (_ && _ : Bool) = c
        cases c with
        | false => rfl
        | true => exact (A.heap rfl _).leaf hW hd
      · rfl
    · rfl
  | mapUpdate t m k v =>
    have h0 := hx m (by simp [Op.operands])
    have h1 := hx k (by simp [Op.operands])
    have h2 := hx v (by simp [Op.operands])
    simp only [foot] at hft; cases hft
    simp only [stepOp, h0, h1, h2, al.h rfl]
    split
    · split
      · exact (A.heap rfl _).leaf hW hd
      · rfl
    · rfl
  | insert t m k v =>
    have h0 := hx m (by simp [Op.operands])
    have h1 := hx k (by simp [Op.operands])
    have h2 := hx v (by simp [Op.operands])
    simp only [foot] at hft; cases hft
    simp only [stepOp, h0, h1, h2, al.h rfl]
    split
    · split
      · exact (A.heap rfl _).leaf hW hd
      · rfl
    · rfl
  | call c =>
    obtain ⟨callee, args, ts⟩ := c
    cases callee with
    | invoke r m => exact dflt
    | value g =>
      have h0 := hx g (by simp [Op.operands, Call.operands])
      simp only [foot] at hft; cases hft
      have := argVals_along (X := X) (f := f) A (args := args.toList) (fun x hm => hx x (by simp [Op.operands, Call.operands]; exact .inr (by simpa using hm))) fun x hm hl => hdr x (by simp only [drops, List.mem_filter]; exact ⟨hm, hl⟩)
      simp only [stepOp, h0, al.h rfl]
      revert this
      cases argVals X f s args.toList with
      | none => cases argVals X f s' args.toList with
        | none =>
          intro _
          cases opnd s.env g with
          | none => rfl
          | some gv => cases gv <;> rfl
        | some _ => intro e; exact e.elim
      | some q => cases argVals X f s' args.toList with
        | none => intro e; exact e.elim
        | some q' =>
          intro e
          obtain ⟨e1, e2⟩ := e
          obtain ⟨vs, S1⟩ := q
          obtain ⟨vs', S1'⟩ := q'
          simp only at e1 e2
          subst e1
          cases opnd s.env g with
          | none => rfl
          | some gv =>
            cases gv with
            | fn gg caps =>
              simp only
              generalize (noLocs vs && hasBody X.P gg) = c
              cases c with
              | false => rfl
              | true => exact callOut_along (e2.heap rfl h) rfl hW hd
            | _ => rfl
    | builtin b =>
      cases b with
      | append =>
        simp only [foot] at hft
        simp only [stepOp]
        split
        · rename_i x y hl
          have h0 := hx x (by simp [Op.operands, Call.operands, hl])
          have h1 := hx y (by simp [Op.operands, Call.operands, hl])
          rw [h0, h1]
          cases opnd s.env x with
          | none => rfl
          | some a =>
            cases hy : opnd s.env y with
            | none => rfl
            | some b =>
              simp only
              cases hm : atDst X.cfg.mutA f dst with
              | true =>
                rw [hm] at hft; cases hft
                simp only [cond_true, al.h rfl]
                cases aappendM X.P h ts a b with
                | none => rfl
                | some q => exact (A.heap rfl _).leaf hW hd
              | false =>
                rw [hm] at hft
                simp only [cond_false] at hft ⊢
                have hy1 : (args[1]?).bind (opnd s.env) = some b := by
                  have : args[1]? = some y := by rw [← Array.getElem?_toList, hl]; rfl
                  rw [this]; exact hy
                have : aappend X.P h' ts a b = aappend X.P h ts a b := by
                  cases b with
                  | msl b off n sz =>
                    rw [hy1] at hft; cases hft
                    rw [al.h rfl]
                  | _ => rfl
                rw [this]
                cases aappend X.P h ts a b with
                | none => rfl
                | some v => exact (A.drop fun t ht => hdr x (by simp only [drops]; rw [hm]; simp [hl]) t ht).leaf hW hd
        · rfl
      | copy =>
        simp only [foot] at hft; cases hft
        simp only [stepOp, al.h rfl]
        split
        · rename_i x y e hl _
          have h0 := hx x (by simp [Op.operands, Call.operands, hl])
          have h1 := hx y (by simp [Op.operands, Call.operands, hl])
          rw [h0, h1]
          split
          · split
            · generalize (_ && _ : Bool) = c
              cases c with
              | false => rfl
              | true =>
                simp only [cond_true]
                rename_i b off n sz b' off' n' sz' size _ _ _ _ l _
                cases Nat.beq (min n' n) 0 with
                | true => exact (A.heap rfl h).leaf hW hd
                | false =>
                  simp only [cond_false]
                  have := astore_along (A.heap rfl h) (p := .ptr b off) (cs := ((l.drop off').take (min n' n * size)).map AVal.strip) (fun ⟨i, off, e⟩ => by cases e) (fun _ => rfl)
                  revert this
                  cases astore s h (.ptr b off) (((l.drop off').take (min n' n * size)).map AVal.strip) with
                  | none => cases astore s' h (.ptr b off) (((l.drop off').take (min n' n * size)).map AVal.strip) with
                    | none => intro _; rfl
                    | some _ => intro e; exact e.elim
                  | some q => cases astore s' h (.ptr b off) (((l.drop off').take (min n' n * size)).map AVal.strip) with
                    | none => intro e; exact e.elim
                    | some q' => intro e; exact Along.leaf e hW hd
            · rfl
          · rfl
        · rfl
      | _ => exact dflt
  | _ => exact dflt
end Go.Den
namespace Go.Den
open Go
variable {X : Ctx} {call : Call} {f : FuncId} {ops : Array Oper} {s s' : FS} {h h' : Heap} {o : Oper} {ft : Foot}
theorem wantedA_congr {env env' : Env} (hl : ∀ t, t ∈ looksT ops o → env' t = env t) : wantedA ops env' o = wantedA ops env o := by
  unfold wantedA
  cases hg : o.guard with
  | none => rfl
  | some q =>
    obtain ⟨j, want⟩ := q
    simp only
    cases hd : (ops[j]?).bind (·.dst) with
    | none => rfl
    | some t =>
      have : env' t = env t := hl t (by simp [looksT, hg, hd])
      simp only [this]
theorem stepG_congr (hft : wantedA ops s.env o = some true → foot X f s.env o = some ft) (al : Alike ft (looksT ops o) s s' h h') :
    stepG X call f ops s' h' o = (stepG X call f ops s h o).map (tr ft (writesT X f o) (opsT o) s' h') := by
  have al' : Alike ft (opsT o) s s' h h' := ⟨fun t ht => al.env t (List.mem_append_left _ ht), al.n, al.b, al.h⟩
  unfold stepG
  rw [wantedA_congr al.env]
  split
  · rename_i hw
    exact stepOp_congr (hft hw) al'
  · exact al'.along.leaf writes_of dst_writes
  · rfl
theorem stepG_frame {s₁ : FS} {h₁ : Heap} (hft : wantedA ops s.env o = some true → foot X f s.env o = some ft) (hs : stepG X call f ops s h o = some (.cont s₁ h₁)) :
    (∀ t, t ∉ writesT X f o → s₁.env t = s.env t) ∧ s₁.n = s.n ∧ s₁.defs = s.defs ∧ (ft.b = false → s₁.boxes = s.boxes) ∧ (ft.h = false → h₁ = h) := by
  have := stepG_congr (call := call) (s' := s) (h' := h) hft ⟨fun _ _ => rfl, rfl, fun _ => rfl, fun _ => rfl⟩
  rw [hs] at this
  simp only [Option.map_some, tr, Option.some.injEq, Out.cont.injEq] at this
  obtain ⟨e1, e2⟩ := this
  refine ⟨fun t ht => ?_, ?_, ?_, fun hb => ?_, fun hh => ?_⟩
  · rw [e1]; simp [trS, ht]
  · rw [e1]; rfl
  · rw [e1]; rfl
  · rw [e1]; simp [trS, hb]
  · rw [e2]; simp [trH, hh]
theorem valOp_keeps {v : AVal} {s₁ : FS} {h₁ : Heap} (hs : cont? (s.put o.dst v) h = some (.cont s₁ h₁)) : s₁.boxes = s.boxes ∧ h₁ = h := by
  unfold FS.put at hs
  split at hs
  · cases hs; exact ⟨rfl, rfl⟩
  · revert hs
    generalize Nat.blt _ _ = c
    cases c <;> intro hs <;> cases hs
    exact ⟨rfl, rfl⟩
theorem val_keeps {s₁ : FS} {h₁ : Heap} (hs : (match valOp X s h o.op with | some v => cont? (s.put o.dst v) h | none => none) = some (.cont s₁ h₁)) : s₁.boxes = s.boxes ∧ h₁ = h := by
  split at hs
  · exact valOp_keeps hs
  · cases hs
theorem reader_spec (hft : foot X f s.env o = some ft) (hw : ft.w = false) (hr : ft.b = true ∨ ft.h = true) {s₁ : FS} {h₁ : Heap} (hs : stepOp X call f s h o = some (.cont s₁ h₁)) :
    s₁.boxes = s.boxes ∧ h₁ = h ∧ drops X f o = [] := by
  obtain ⟨dst, op, type, pos, after, guard⟩ := o
  cases op with
  | load t p =>
    simp only [foot] at hft
    cases hp : opnd s.env p with
    | none => rw [hp] at hft; cases hft
    | some a =>
      have hft : addrFoot (linDst X f dst) a = some ft := by simpa [hp] using hft
      have hl : linDst X f dst = false := by
        cases a <;> simp [addrFoot] at hft <;> subst hft <;> first | exact hw | (simp at hr)
      simp only [stepOp, hl, cond_false] at hs
      obtain ⟨h1, h2⟩ := val_keeps (o := ⟨dst, .load t p, type, pos, after, guard⟩) hs
      exact ⟨h1, h2, rfl⟩
  | lookup t m k ok =>
    obtain ⟨h1, h2⟩ := val_keeps (o := ⟨dst, .lookup t m k ok, type, pos, after, guard⟩) hs
    exact ⟨h1, h2, rfl⟩
  | store t p x =>
    simp only [foot] at hft
    cases hp : opnd s.env p with
    | none => rw [hp] at hft; cases hft
    | some a =>
      have hft : addrFoot true a = some ft := by simpa [hp] using hft
      cases a <;> simp [addrFoot] at hft <;> subst hft <;> first | (cases hw; done) | (simp at hr)
  | call c =>
    obtain ⟨callee, args, ts⟩ := c
    cases callee with
    | builtin b =>
      cases b with
      | len =>
        obtain ⟨h1, h2⟩ := val_keeps (o := ⟨dst, .call ⟨.builtin .len, args, ts⟩, type, pos, after, guard⟩) hs
        exact ⟨h1, h2, rfl⟩
      | append =>
        simp only [foot, Option.some.injEq] at hft
        cases hm : atDst X.cfg.mutA f dst with
        | true => rw [hm] at hft; subst hft; cases hw
        | false =>
          rw [hm, cond_false] at hft
          split at hft <;> subst hft
          · cases hw
          · simp at hr
      | copy => simp only [foot, Option.some.injEq] at hft; subst hft; cases hw
      | _ => simp only [foot, Option.some.injEq] at hft; subst hft; simp at hr
    | value g => simp only [foot, Option.some.injEq] at hft; subst hft; cases hw
    | invoke r m => simp only [foot, Option.some.injEq] at hft; subst hft; simp at hr
  | alloc t =>
    simp only [foot, Option.some.injEq] at hft
    cases hm : atDst X.cfg.heapy f dst <;> rw [hm] at hft <;> subst hft <;> cases hw
  | box t x =>
    simp only [foot, Option.some.injEq] at hft
    cases hm : atDst X.cfg.heapy f dst <;> rw [hm] at hft <;> subst hft <;> cases hw
  | buildSlice t l ps =>
    simp only [foot, Option.some.injEq] at hft
    cases hm : atDst X.cfg.mutB f dst <;> rw [hm] at hft <;> subst hft
    · simp at hr
    · cases hw
  | slice t x lo hi mx =>
    simp only [foot] at hft
    cases hc : arrT X.P t <;> rw [hc] at hft <;> cases hft
    simp at hr
  | defer c => simp [foot] at hft
  | panic c => simp [foot] at hft
  | _ => simp only [foot, Option.some.injEq] at hft; subst hft; first | (cases hw; done) | (simp at hr)
structure Tr (X : Ctx) (call : Call) (f : FuncId) (ops : Array Oper) (s : FS) (h : Heap) (A : Ent) : Prop where
  s : A.s = s
  h : A.h = h
  ft : wantedA ops A.s.env A.o = some true → foot X f A.s.env A.o = some A.ft
  nw : wantedA ops A.s.env A.o ≠ some true → A.ft = ⟨false, false, false⟩
def TrL (X : Ctx) (call : Call) (f : FuncId) (ops : Array Oper) : List Oper → FS → Heap → List Ent → Out → Prop
  | os, s, h, [], out => os = [] ∧ out = .cont s h
  | os, s, h, A :: l, out => ∃ rest, os = A.o :: rest ∧ Tr X call f ops s h A ∧
      ((stepG X call f ops A.s A.h A.o = some (.cont A.s' A.h') ∧ TrL X call f ops rest A.s' A.h' l out) ∨
       (l = [] ∧ (∃ v s' h', out = .panic v s' h') ∧ stepG X call f ops A.s A.h A.o = some out))
theorem trace_spec : ∀ {os : List Oper} {s : FS} {h : Heap} {l : List Ent} {out : Out}, trace X call f ops os s h = some (l, out) → TrL X call f ops os s h l out
  | [], s, h, l, out, ht => by
    simp only [trace, Option.some.injEq, Prod.mk.injEq] at ht
    obtain ⟨rfl, rfl⟩ := ht
    exact ⟨rfl, rfl⟩
  | o :: rest, s, h, l, out, ht => by
    unfold trace at ht
    split at ht
    · rename_i hw
      split at ht
      · rename_i s₁ hs₁
        split at ht
        · rename_i l' out' ht'
          cases ht
          exact ⟨rest, rfl, ⟨rfl, rfl, fun e => (by simp only at e; rw [hw] at e; cases e), fun _ => rfl⟩, .inl ⟨by simp only [stepG, hw, hs₁, cont?], trace_spec ht'⟩⟩
        · cases ht
      · cases ht
    · rename_i hw
      split at ht
      · rename_i ft' hft
        split at ht
        · rename_i s₁ h₁ hs
          split at ht
          · rename_i l' out' ht'
            cases ht
            exact ⟨rest, rfl, ⟨rfl, rfl, fun _ => hft, fun e => (e hw).elim⟩, .inl ⟨by simp only [stepG, hw, hs], trace_spec ht'⟩⟩
          · cases ht
        · rename_i v s₁ h₁ hs
          cases ht
          exact ⟨rest, rfl, ⟨rfl, rfl, fun _ => hft, fun e => (e hw).elim⟩, .inr ⟨rfl, ⟨_, _, _, rfl⟩, by simp only [stepG, hw, hs]⟩⟩
        · cases ht
      · cases ht
    · cases ht
end Go.Den
namespace Go.Den
open Go
def stS (s : FS) (l : List Ent) : Nat → FS
  | 0 => s
  | i + 1 => match l[i]? with
    | some A => A.s'
    | none => s
def stH (h : Heap) (l : List Ent) : Nat → Heap
  | 0 => h
  | i + 1 => match l[i]? with
    | some A => A.h'
    | none => h
def Cut {α : Type} (L : Nat → Prop) (m : Nat) (Wr : Nat → Prop) (val : Nat → α) (x : α) : Prop :=
  ∃ p, p ≤ m ∧ x = val p ∧ ∀ j, j < m → Wr j → (j < p ↔ L j)
variable {α : Type} {L : Nat → Prop} {m : Nat} {Wr : Nat → Prop} {val : Nat → α} {x : α}
theorem seg (hv : ∀ j, j < m → ¬ Wr j → val (j + 1) = val j) : ∀ (k a : Nat), a + k ≤ m → (∀ j, a ≤ j → j < a + k → ¬ Wr j) → val (a + k) = val a
  | 0, a, _, _ => rfl
  | k + 1, a, hk, hn => by
    rw [← Nat.add_assoc, hv (a + k) (by omega) (hn _ (by omega) (by omega))]
    exact seg hv k a (by omega) fun j h1 h2 => hn j h1 (by omega)
theorem least (P : Nat → Prop) : ∀ (k a : Nat), (∀ j, a ≤ j → j < a + k → ¬ P j) ∨ ∃ j, a ≤ j ∧ j < a + k ∧ P j ∧ ∀ i, a ≤ i → i < j → ¬ P i
  | 0, a => .inl fun j h1 h2 => by omega
  | k + 1, a => by
    rcases least P k a with h | ⟨j, h1, h2, h3, h4⟩
    · by_cases hp : P (a + k)
      · exact .inr ⟨a + k, by omega, by omega, hp, fun i h1 h2 => h i h1 h2⟩
      · refine .inl fun j h1 h2 => ?_
        by_cases e : j = a + k
        · subst e; exact hp
        · exact h j h1 (by omega)
    · exact .inr ⟨j, h1, by omega, h3, h4⟩
theorem greatest (P : Nat → Prop) : ∀ (k a : Nat), (∀ j, a ≤ j → j < a + k → ¬ P j) ∨ ∃ j, a ≤ j ∧ j < a + k ∧ P j ∧ ∀ i, j < i → i < a + k → ¬ P i
  | 0, a => .inl fun j h1 h2 => by omega
  | k + 1, a => by
    by_cases hp : P (a + k)
    · exact .inr ⟨a + k, by omega, by omega, hp, fun i h1 h2 => by omega⟩
    · rcases greatest P k a with h | ⟨j, h1, h2, h3, h4⟩
      · refine .inl fun j h1 h2 => ?_
        by_cases e : j = a + k
        · subst e; exact hp
        · exact h j h1 (by omega)
      · refine .inr ⟨j, h1, by omega, h3, fun i h5 h6 => ?_⟩
        by_cases e : i = a + k
        · subst e; exact hp
        · exact h4 i h5 (by omega)
variable {masks : List Nat}
def Closed (masks : List Nat) (L : Nat → Prop) : Prop := ∀ j k, L j → ((masks[j]?).getD 0).testBit k = true → L k
def Before (masks : List Nat) (L : Nat → Prop) (i : Nat) : Prop := ∀ k, ((masks[i]?).getD 0).testBit k = true → L k
theorem ordered_listed (hc : Closed masks L) {i : Nat} (hi : ¬ L i) (hb : Before masks L i) {j : Nat} (hji : j ≠ i) (ho : ordered masks i j = true) : j < i ↔ L j := by
  unfold ordered at ho
  cases hlt : Nat.blt i j with
  | true =>
    rw [hlt, cond_true] at ho
    have : i < j := Nat.le_of_ble_eq_true hlt
    exact ⟨fun h => by omega, fun h => (hi (hc j i h ho)).elim⟩
  | false =>
    rw [hlt, cond_false] at ho
    have : ¬ i < j := fun h => by rw [show Nat.blt i j = true from Nat.ble_eq_true_of_le h] at hlt; cases hlt
    exact ⟨fun _ => hb j ho, fun _ => by omega⟩
theorem Cut.sees (c : Cut L m Wr val x) (hv : ∀ j, j < m → ¬ Wr j → val (j + 1) = val j) (hc : Closed masks L) {i : Nat} (him : i ≤ m) (hi : ¬ L i) (hb : Before masks L i) :
    x = val i ∨ ∃ j, j < m ∧ Wr j ∧ j ≠ i ∧ ordered masks i j = false ∧ (x = val j ∨ x = val (j + 1)) := by
  obtain ⟨p, hp, rfl, hL⟩ := c
  have un : ∀ j, j < m → Wr j → j ≠ i → (j < p ↔ ¬ j < i) → ordered masks i j = false := by
    intro j h1 h2 h3 h4
    cases ho : ordered masks i j with
    | false => rfl
    | true =>
      have := ordered_listed hc hi hb h3 ho
      have := hL j h1 h2
      by_cases j < p <;> by_cases j < i <;> simp_all
  by_cases hpi : p ≤ i
  · rcases least Wr (i - p) p with h | ⟨j, h1, h2, h3, h4⟩
    · left
      have := seg hv (i - p) p (by omega) h
      rw [← this]; congr 1; omega
    · right
      refine ⟨j, by omega, h3, by omega, un j (by omega) h3 (by omega) (by omega), .inl ?_⟩
      have := seg hv (j - p) p (by omega) fun k h5 h6 => h4 k h5 (by omega)
      rw [← this]; congr 1; omega
  · rcases greatest Wr (p - i) i with h | ⟨j, h1, h2, h3, h4⟩
    · left
      have := seg hv (p - i) i (by omega) h
      rw [← this]; congr 1; omega
    · right
      have hji : j ≠ i := by
        intro e; subst e
        exact hi ((hL j (by omega) h3).1 (by omega))
      refine ⟨j, by omega, h3, hji, un j (by omega) h3 hji (by omega), .inr ?_⟩
      have := seg hv (p - (j + 1)) (j + 1) (by omega) fun k h5 h6 => h4 k (by omega) (by omega)
      rw [← this]; congr 1; omega
theorem Cut.write (hc : Closed masks L) {i : Nat} (him : i < m) (hi : ¬ L i) (hb : Before masks L i) (ho : ∀ j, j < m → Wr j → j ≠ i → ordered masks i j = true) :
    Cut (fun j => j = i ∨ L j) m Wr val (val (i + 1)) := by
  refine ⟨i + 1, by omega, rfl, fun j hj hw => ?_⟩
  by_cases e : j = i
  · subst e; simp
  · have := ordered_listed hc hi hb e (ho j hj hw e)
    constructor
    · intro h; exact .inr (this.1 (by omega))
    · rintro (h | h)
      · exact (e h).elim
      · have := this.2 h; omega
theorem Cut.keep (c : Cut L m Wr val x) {i : Nat} (hi : ¬ Wr i) : Cut (fun j => j = i ∨ L j) m Wr val x := by
  obtain ⟨p, hp, hx, hL⟩ := c
  refine ⟨p, hp, hx, fun j hj hw => ?_⟩
  have e : j ≠ i := fun e => hi (e ▸ hw)
  rw [hL j hj hw]
  exact ⟨.inr, fun h => h.resolve_left e⟩
end Go.Den
namespace Go.Den
open Go
mutual
theorem beqA_eq : ∀ {a b : AVal}, beqA a b = true → a = b := by
  intro a b h
  cases a with
  | bool x => cases b <;> simp [beqA] at h; rw [h]
  | int k n => cases b <;> simp [beqA] at h; rw [h.1, h.2]
  | str s => cases b <;> simp [beqA, beqB_eq] at h; rw [h]
  | nilp => cases b <;> simp [beqA] at h; rfl
  | ptr x y => cases b <;> simp [beqA] at h; rw [h.1, h.2]
  | loc x y => cases b <;> simp [beqA] at h; rw [h.1, h.2]
  | ept cs y => cases b <;> simp [beqA] at h
  | nils => cases b <;> simp [beqA] at h; rfl
  | isl o n cs => cases b <;> simp [beqA] at h; rw [h.1.1, h.1.2, beqAs_eq h.2]
  | msl x y n z => cases b <;> simp [beqA] at h; rw [h.1.1.1, h.1.1.2, h.1.2, h.2]
  | nilm => cases b <;> simp [beqA] at h; rfl
  | map x => cases b <;> simp [beqA] at h; rw [h]
  | nilf => cases b <;> simp [beqA] at h; rfl
  | fn g cs => cases b <;> simp [beqA] at h
  | nili => cases b <;> simp [beqA] at h; rfl
  | iface t v => cases b <;> simp [beqA] at h; rw [h.1, beqA_eq h.2]
  | agg cs => cases b <;> simp [beqA] at h; rw [beqAs_eq h]
  | tup cs => cases b <;> simp [beqA] at h; rw [beqAs_eq h]
theorem beqAs_eq : ∀ {a b : List AVal}, beqAs a b = true → a = b := by
  intro a b h
  cases a with
  | nil => cases b <;> simp [beqAs] at h; rfl
  | cons x xs => cases b <;> simp [beqAs] at h; rw [beqA_eq h.1, beqAs_eq h.2]
end
theorem fold_bit {acc : List Nat} {k : Nat} : ∀ {es : List Edge} {m : Nat}, (es.foldl (fun m e => cond (Region.binds .any e) (m ||| (2 ^ e.on ||| (acc[e.on]?).getD 0)) m) m).testBit k = true →
    m.testBit k = true ∨ ∃ e, e ∈ es ∧ Region.binds .any e = true ∧ (k = e.on ∨ ((acc[e.on]?).getD 0).testBit k = true)
  | [], m, h => .inl h
  | e :: es, m, h => by
    rcases fold_bit (es := es) h with h1 | ⟨e', h1, h2, h3⟩
    · cases hb : Region.binds .any e with
      | false => simp only [hb, cond_false] at h1; exact .inl h1
      | true =>
        simp only [hb, cond_true] at h1
        rw [Nat.testBit_or, Nat.testBit_or] at h1
        simp only [Bool.or_eq_true] at h1
        rcases h1 with h1 | h1 | h1
        · exact .inl h1
        · rw [Nat.testBit_two_pow] at h1
          exact .inr ⟨e, by simp, hb, .inl (by simp at h1; exact h1.symm)⟩
        · exact .inr ⟨e, by simp, hb, .inr h1⟩
    · exact .inr ⟨e', by simp [h1], h2, h3⟩
theorem masks_len : ∀ (os : List Oper) (acc : List Nat), ∃ t, masksOf os acc = acc ++ t
  | [], acc => ⟨[], by simp [masksOf]⟩
  | o :: os, acc => by
    obtain ⟨t, h⟩ := masks_len os (acc ++ [maskOf acc o])
    exact ⟨maskOf acc o :: t, by simp [masksOf, h]⟩
theorem masks_bit : ∀ (os : List Oper) (acc : List Nat) (i : Nat) (o : Oper), os[i]? = some o → ∀ k, (((masksOf os acc)[acc.length + i]?).getD 0).testBit k = true →
    ∃ e, e ∈ o.after.toList ∧ Region.binds .any e = true ∧ (k = e.on ∨ (((masksOf os acc)[e.on]?).getD 0).testBit k = true)
  | [], acc, i, o, hi, k, hk => by simp at hi
  | o' :: os, acc, 0, o, hi, k, hk => by
    simp at hi; subst hi
    obtain ⟨t, ht⟩ := masks_len os (acc ++ [maskOf acc o'])
    simp only [masksOf] at hk ⊢
    rw [ht] at hk ⊢
    have h0 : (acc ++ [maskOf acc o'] ++ t)[acc.length + 0]? = some (maskOf acc o') := by simp
    rw [h0] at hk
    rcases fold_bit hk with h1 | ⟨e, h1, h2, h3⟩
    · simp at h1
    · refine ⟨e, h1, h2, h3.imp id fun h4 => ?_⟩
      cases hx : acc[e.on]? with
      | none => rw [hx] at h4; simp at h4
      | some m =>
        have hlt := (List.getElem?_eq_some_iff.1 hx).1
        rw [List.append_assoc, List.getElem?_append_left hlt]; exact h4
  | o' :: os, acc, i + 1, o, hi, k, hk => by
    simp only [masksOf] at hk ⊢
    have := masks_bit os (acc ++ [maskOf acc o']) i o (by simpa using hi) k (by rw [← hk]; congr 3; simp; omega)
    exact this
def unl (listed : Array Bool) : Nat → Nat
  | 0 => 0
  | n + 1 => unl listed n + (if listed.getD n false = true then 0 else 1)
theorem unl_set {listed : Array Bool} {i : Nat} (hi : listed.getD i false = false) (his : i < listed.size) : ∀ n, unl (listed.setIfInBounds i true) n + (if i < n then 1 else 0) = unl listed n
  | 0 => by simp [unl]
  | n + 1 => by
    have ih := unl_set hi his n
    simp only [unl]
    by_cases e : i = n
    · subst e
      have h1 : (listed.setIfInBounds i true).getD i false = true := by simp [his]
      rw [h1, hi]
      simp at ih ⊢
      omega
    · rw [getD_set_ne false e]
      have : (i < n + 1) = (i < n) := by simp; omega
      simp only [this]
      omega
theorem unl_zero {listed : Array Bool} : ∀ {n : Nat}, unl listed n = 0 → ∀ j, j < n → listed.getD j false = true
  | 0, _, j, hj => by omega
  | n + 1, h, j, hj => by
    simp only [unl] at h
    by_cases e : j = n
    · subst e
      cases hb : listed.getD j false with
      | true => rfl
      | false => rw [hb] at h; simp at h
    · exact unl_zero (n := n) (by omega) j (by omega)
theorem allI_get {α : Type} {p : Nat → α → Bool} : ∀ {l : List α} {k : Nat}, allI p l k = true → ∀ i x, l[i]? = some x → p (k + i) x = true
  | [], _, _, i, x, hi => by simp at hi
  | y :: ys, k, h, 0, x, hi => by
    simp only [allI, Bool.and_eq_true] at h
    simp at hi; subst hi; simpa using h.1
  | y :: ys, k, h, i + 1, x, hi => by
    simp only [allI, Bool.and_eq_true] at h
    have := allI_get h.2 i x (by simpa using hi)
    rw [← this]; congr 1; omega
end Go.Den
namespace Go.Den
open Go
variable {X : Ctx} {call : Call} {f : FuncId} {ops : Array Oper} {s : FS} {h : Heap} {l : List Ent} {out : Out}
theorem stS_cons {A : Ent} {i : Nat} (hi : i ≤ l.length) : stS s (A :: l) (i + 1) = stS A.s' l i ∧ stH h (A :: l) (i + 1) = stH A.h' l i := by
  cases i with
  | zero => exact ⟨rfl, rfl⟩
  | succ i =>
    have hlt : i < l.length := by omega
    simp [stS, stH, List.getElem?_eq_getElem hlt]
theorem tr_get : ∀ {l : List Ent} {os : List Oper} {s : FS} {h : Heap}, TrL X call f ops os s h l out → ∀ i A, l[i]? = some A →
    os[i]? = some A.o ∧ Tr X call f ops (stS s l i) (stH h l i) A ∧ (stepG X call f ops A.s A.h A.o = some (.cont A.s' A.h') ∨ (i + 1 = l.length ∧ (∃ v s' h', out = .panic v s' h') ∧ stepG X call f ops A.s A.h A.o = some out))
  | [], os, s, h, _, i, A, hi => by simp at hi
  | B :: l, os, s, h, ht, 0, A, hi => by
    simp at hi; subst hi
    obtain ⟨rest, rfl, h1, h2⟩ := ht
    refine ⟨rfl, h1, ?_⟩
    rcases h2 with h2 | ⟨h2, h3, h4⟩
    · exact .inl h2.1
    · exact .inr ⟨by simp [h2], h3, h4⟩
  | B :: l, os, s, h, ht, i + 1, A, hi => by
    obtain ⟨rest, rfl, h1, h2⟩ := ht
    have hi' : l[i]? = some A := by simpa using hi
    have hlt : i < l.length := (List.getElem?_eq_some_iff.1 hi').1
    rcases h2 with ⟨_, h2⟩ | ⟨h2, _⟩
    · obtain ⟨q1, q2, q3⟩ := tr_get h2 i A hi'
      obtain ⟨e1, e2⟩ := stS_cons (s := s) (h := h) (A := B) (l := l) (i := i) (by omega)
      refine ⟨by simpa using q1, by rw [e1, e2]; exact q2, q3.imp id fun ⟨h4, h5⟩ => ⟨by simp [h4], h5⟩⟩
    · subst h2; simp at hlt
theorem tr_end : ∀ {l : List Ent} {os : List Oper} {s : FS} {h : Heap}, TrL X call f ops os s h l out →
    (out = .cont (stS s l l.length) (stH h l l.length) ∧ l.length = os.length) ∨ ((∃ v s' h', out = .panic v s' h') ∧ 0 < l.length)
  | [], os, s, h, ht => by
    obtain ⟨rfl, rfl⟩ := ht
    exact .inl ⟨rfl, rfl⟩
  | B :: l, os, s, h, ht => by
    obtain ⟨rest, rfl, h1, h2⟩ := ht
    rcases h2 with ⟨_, h2⟩ | ⟨h2, h3, _⟩
    · rcases tr_end h2 with ⟨q1, q2⟩ | ⟨q1, q2⟩
      · obtain ⟨e1, e2⟩ := stS_cons (s := s) (h := h) (A := B) (l := l) (i := l.length) (by omega)
        exact .inl ⟨by rw [List.length_cons, e1, e2]; exact q1, by simp [q2]⟩
      · exact .inr ⟨q1, by simp⟩
    · exact .inr ⟨h3, by simp⟩
def good (l : List Ent) (out : Out) : Nat := match out with
  | .cont _ _ => l.length
  | .panic _ _ _ => l.length - 1
def WrT (X : Ctx) (f : FuncId) (l : List Ent) (t : Nat) (j : Nat) : Prop := ∃ A, l[j]? = some A ∧ t ∈ writesT X f A.o
def WrB (l : List Ent) (j : Nat) : Prop := ∃ A, l[j]? = some A ∧ A.ft.b = true ∧ A.ft.w = true
def WrH (l : List Ent) (j : Nat) : Prop := ∃ A, l[j]? = some A ∧ A.ft.h = true ∧ A.ft.w = true
structure DInv (X : Ctx) (f : FuncId) (s : FS) (h : Heap) (l : List Ent) (m : Nat) (masks : List Nat) (L : Nat → Prop) (sL : FS) (hL : Heap) : Prop where
  n : sL.n = s.n
  defs : sL.defs = s.defs
  env : ∀ t, Cut L m (WrT X f l t) (fun i => (stS s l i).env t) (sL.env t)
  boxes : Cut L m (WrB l) (fun i => (stS s l i).boxes) sL.boxes
  heap : Cut L m (WrH l) (fun i => stH h l i) hL
  closed : Closed masks L
  sub : ∀ j, L j → j < m
theorem foot_one {env : Env} {o : Oper} {ft : Foot} (hft : foot X f env o = some ft) : ¬ (ft.b = true ∧ ft.h = true) := by
  rintro ⟨hb, hh⟩
  unfold foot at hft
  split at hft
  · split at hft
    · rename_i a _; cases a <;> simp [addrFoot] at hft <;> subst hft <;> simp at hb hh
    · cases hft
  · split at hft
    · rename_i a _; cases a <;> simp [addrFoot] at hft <;> subst hft <;> simp at hb hh
    · cases hft
  · cases hc : atDst X.cfg.heapy f o.dst <;> rw [hc] at hft <;> cases hft <;> simp at hb hh
  · cases hc : atDst X.cfg.heapy f o.dst <;> rw [hc] at hft <;> cases hft <;> simp at hb hh
  · cases hc : atDst X.cfg.mutB f o.dst <;> rw [hc] at hft <;> cases hft <;> simp at hb hh
  all_goals first
    | (cases hft; simp at hb hh; done)
    | (cases hft; done)
    | skip
  · split at hft <;> cases hft <;> simp at hb hh
  · cases hc : atDst X.cfg.mutA f o.dst <;> rw [hc] at hft
    · simp only [cond_false, Option.some.injEq] at hft
      split at hft <;> subst hft <;> simp at hb hh
    · cases hft; simp at hb hh
  · rename_i t _ _ _ _ _
    cases hc : arrT X.P t <;> rw [hc] at hft <;> cases hft
    simp at hb hh
end Go.Den
namespace Go.Den
open Go
variable {X : Ctx} {call : Call} {f : FuncId} {ops : Array Oper} {s : FS} {h : Heap} {l : List Ent} {out : Out}
theorem ent_tr (hT : TrL X call f ops ops.toList s h l out) {j : Nat} {A : Ent} (hA : l[j]? = some A) :
    ops[j]? = some A.o ∧ Tr X call f ops (stS s l j) (stH h l j) A ∧ ((j < good l out ∧ stepG X call f ops A.s A.h A.o = some (.cont A.s' A.h')) ∨
      (j = good l out ∧ j + 1 = l.length ∧ (∃ v s' h', out = .panic v s' h') ∧ stepG X call f ops A.s A.h A.o = some out)) := by
  obtain ⟨h1, h2, h3⟩ := tr_get hT j A hA
  have hlt : j < l.length := (List.getElem?_eq_some_iff.1 hA).1
  refine ⟨by rw [← Array.getElem?_toList]; exact h1, h2, ?_⟩
  rcases h3 with h3 | ⟨h3, ⟨v, s', h', rfl⟩, h5⟩
  · rcases tr_end hT with ⟨rfl, _⟩ | ⟨⟨v, s', h', rfl⟩, _⟩
    · exact .inl ⟨hlt, h3⟩
    · by_cases e : j + 1 = l.length
      · exfalso
        obtain ⟨_, h6⟩ : ∃ A, l[j]? = some A := ⟨A, hA⟩
        -- the last entry of a panic's trace is the one that panics
        have last : ∀ {l : List Ent} {os : List Oper} {s : FS} {h : Heap}, TrL X call f ops os s h l (.panic v s' h') → ∀ B, l[l.length - 1]? = some B → stepG X call f ops B.s B.h B.o = some (.panic v s' h') := by
          intro l
          induction l with
          | nil => intro os s h _ B hB; simp at hB
          | cons C l ih =>
            intro os s h ht B hB
            obtain ⟨rest, rfl, g1, g2⟩ := ht
            rcases g2 with ⟨_, g2⟩ | ⟨rfl, _, g4⟩
            · cases l with
              | nil => obtain ⟨_, g3⟩ := g2; cases g3
              | cons D l => exact ih g2 B (by simpa using hB)
            · simp at hB; subst hB; exact g4
        have := last hT A (by rw [← e]; simpa using hA)
        rw [h3] at this; cases this
      · exact .inl ⟨by simp only [good]; omega, h3⟩
  · exact .inr ⟨by simp only [good]; omega, h3, ⟨v, s', h', rfl⟩, h5⟩
theorem ent_at (hT : TrL X call f ops ops.toList s h l out) {j : Nat} (hj : j < good l out) :
    ∃ A, l[j]? = some A ∧ ops[j]? = some A.o ∧ Tr X call f ops (stS s l j) (stH h l j) A ∧ stepG X call f ops A.s A.h A.o = some (.cont A.s' A.h') ∧ stS s l (j + 1) = A.s' ∧ stH h l (j + 1) = A.h' := by
  have hlt : j < l.length := by
    cases out <;> simp only [good] at hj <;> omega
  obtain ⟨h1, h2, h3⟩ := ent_tr hT (List.getElem?_eq_getElem hlt)
  rcases h3 with ⟨_, h3⟩ | ⟨h3, _⟩
  · exact ⟨l[j], List.getElem?_eq_getElem hlt, h1, h2, h3, by simp [stS, List.getElem?_eq_getElem hlt], by simp [stH, List.getElem?_eq_getElem hlt]⟩
  · omega
theorem ent_keeps {A : Ent} {s₀ : FS} {h₀ : Heap} (t : Tr X call f ops s₀ h₀ A) {s₁ : FS} {h₁ : Heap} (hs : stepG X call f ops A.s A.h A.o = some (.cont s₁ h₁)) :
    (∀ t, t ∉ writesT X f A.o → s₁.env t = A.s.env t) ∧ s₁.n = A.s.n ∧ s₁.defs = A.s.defs ∧ (¬ (A.ft.b = true ∧ A.ft.w = true) → s₁.boxes = A.s.boxes) ∧ (¬ (A.ft.h = true ∧ A.ft.w = true) → h₁ = A.h) := by
  obtain ⟨h1, h2, h3, h4, h5⟩ := stepG_frame t.ft hs
  have rd : A.ft.w = false → A.ft.b = true ∨ A.ft.h = true → s₁.boxes = A.s.boxes ∧ h₁ = A.h := by
    intro hw hr
    have hwt : wantedA ops A.s.env A.o = some true := by
      by_cases e : wantedA ops A.s.env A.o = some true
      · exact e
      · rw [t.nw e] at hr; simp at hr
    have hso : stepOp X call f A.s A.h A.o = some (.cont s₁ h₁) := by simpa only [stepG, hwt] using hs
    obtain ⟨q1, q2, _⟩ := reader_spec (t.ft hwt) hw hr hso
    exact ⟨q1, q2⟩
  refine ⟨h1, h2, h3, fun hb => ?_, fun hh => ?_⟩
  · cases e : A.ft.b with
    | false => exact h4 e
    | true => exact (rd (by cases e2 : A.ft.w with | false => rfl | true => exact (hb ⟨e, e2⟩).elim) (.inl e)).1
  · cases e : A.ft.h with
    | false => exact h5 e
    | true => exact (rd (by cases e2 : A.ft.w with | false => rfl | true => exact (hh ⟨e, e2⟩).elim) (.inr e)).2
theorem still_env (hT : TrL X call f ops ops.toList s h l out) (t : Nat) : ∀ j, j < good l out → ¬ WrT X f l t j → (stS s l (j + 1)).env t = (stS s l j).env t := by
  intro j hj hn
  obtain ⟨A, h1, h2, h3, h4, h5, h6⟩ := ent_at hT hj
  rw [h5, ← h3.s]
  exact (ent_keeps h3 h4).1 t fun hm => hn ⟨A, h1, hm⟩
theorem still_boxes (hT : TrL X call f ops ops.toList s h l out) : ∀ j, j < good l out → ¬ WrB l j → (stS s l (j + 1)).boxes = (stS s l j).boxes := by
  intro j hj hn
  obtain ⟨A, h1, h2, h3, h4, h5, h6⟩ := ent_at hT hj
  rw [h5, ← h3.s]
  exact (ent_keeps h3 h4).2.2.2.1 fun hm => hn ⟨A, h1, hm⟩
theorem still_heap (hT : TrL X call f ops ops.toList s h l out) : ∀ j, j < good l out → ¬ WrH l j → stH h l (j + 1) = stH h l j := by
  intro j hj hn
  obtain ⟨A, h1, h2, h3, h4, h5, h6⟩ := ent_at hT hj
  rw [h6, ← h3.h]
  exact (ent_keeps h3 h4).2.2.2.2 fun hm => hn ⟨A, h1, hm⟩
theorem st_keeps (hT : TrL X call f ops ops.toList s h l out) : ∀ j, j ≤ good l out → (stS s l j).n = s.n ∧ (stS s l j).defs = s.defs
  | 0, _ => ⟨rfl, rfl⟩
  | j + 1, hj => by
    obtain ⟨A, h1, h2, h3, h4, h5, h6⟩ := ent_at hT (show j < good l out by omega)
    obtain ⟨q1, q2⟩ := st_keeps hT j (by omega)
    obtain ⟨_, k2, k3, _⟩ := ent_keeps h3 h4
    rw [h5, k2, k3, h3.s]
    exact ⟨q1, q2⟩
end Go.Den
namespace Go.Den
open Go
variable {X : Ctx} {call : Call} {f : FuncId} {ops : Array Oper} {s : FS} {h : Heap} {l : List Ent} {out : Out}
theorem stat_apart (hst : statOK X f ops = true) {i j : Nat} {x y : Oper} (hi : ops[i]? = some x) (hj : ops[j]? = some y) (hne : i ≠ j) (ho : ordered (masksOf ops.toList []) i j = false) : apartT X f ops x y = true := by
  unfold statOK at hst
  have h1 := allI_get hst i x (by simpa using hi)
  simp only [Nat.zero_add, Bool.and_eq_true] at h1
  have h2 := allI_get h1.2 j y (by simpa using hj)
  simp only [Nat.zero_add, ho, Bool.or_false, Bool.or_eq_true] at h2
  rcases h2 with h2 | h2
  · exact (hne (Nat.eq_of_beq_eq_true h2)).elim
  · exact h2
theorem stat_down (hst : statOK X f ops = true) {i : Nat} {x : Oper} (hi : ops[i]? = some x) : ∀ e, e ∈ x.after → Region.binds .any e = true → e.on < i := by
  unfold statOK at hst
  have h1 := allI_get hst i x (by simpa using hi)
  simp only [Nat.zero_add, Bool.and_eq_true] at h1
  intro e he hb
  have := Array.all_eq_true_iff_forall_mem.1 h1.1 e he
  simp only [hb, Bool.not_true, Bool.false_or] at this
  exact Nat.le_of_ble_eq_true this
theorem pair_get {masks : List Nat} (hp : allI (fun i A => allI (fun j B => pairOK X call f masks i A j B) l 0) l 0 = true) {i j : Nat} {A B : Ent} (hi : l[i]? = some A) (hj : l[j]? = some B) : pairOK X call f masks i A j B = true := by
  have h1 := allI_get hp i A hi
  have h2 := allI_get h1 j B hj
  simpa using h2
theorem apart_spec' {x y : Oper} (ha : apartT X f ops x y = true) : (∀ t, t ∈ writesT X f x → t ∉ writesT X f y ∧ t ∉ looksT ops y) ∧ ∀ t, t ∈ writesT X f y → t ∉ looksT ops x := by
  simp only [apartT, Bool.and_eq_true, List.all_eq_true, Bool.not_eq_true', List.contains_eq_mem, decide_eq_false_iff_not] at ha
  exact ⟨ha.1, ha.2⟩
structure StepAt (X : Ctx) (call : Call) (f : FuncId) (ops : Array Oper) (A : Ent) (sL : FS) (hL : Heap) (s₂ : FS) (h₂ : Heap) : Prop where
  step : stepG X call f ops sL hL A.o = some (.cont s₂ h₂)
  n : s₂.n = sL.n
  defs : s₂.defs = sL.defs
  wr : ∀ t, t ∈ writesT X f A.o → s₂.env t = A.s'.env t
  nw : ∀ t, t ∉ writesT X f A.o → s₂.env t = sL.env t
  bw : A.ft.b = true → A.ft.w = true → s₂.boxes = A.s'.boxes
  bn : ¬ (A.ft.b = true ∧ A.ft.w = true) → s₂.boxes = sL.boxes
  hw : A.ft.h = true → A.ft.w = true → h₂ = A.h'
  hn : ¬ (A.ft.h = true ∧ A.ft.w = true) → h₂ = hL
theorem step_same {A : Ent} {s₀ : FS} {h₀ : Heap} {sL : FS} {hL : Heap} (t : Tr X call f ops s₀ h₀ A) (hs : stepG X call f ops A.s A.h A.o = some (.cont A.s' A.h')) (al : Alike A.ft (looksT ops A.o) A.s sL A.h hL) :
    ∃ s₂ h₂, StepAt X call f ops A sL hL s₂ h₂ := by
  have hc := stepG_congr (call := call) t.ft al
  rw [hs] at hc
  simp only [Option.map_some, tr] at hc
  obtain ⟨k1, k2, k3, k4, k5⟩ := ent_keeps t hs
  refine ⟨_, _, hc, rfl, rfl, fun u hu => by simp [trS, hu], fun u hu => by simp [trS, hu], fun hb _ => by simp [trS, hb], fun hb => ?_, fun hh _ => by simp [trH, hh], fun hh => ?_⟩
  · simp only [trS]
    split
    · rename_i e; rw [k4 hb, al.b e]
    · rfl
  · simp only [trH]
    split
    · rename_i e; rw [k5 hh, al.h e]
    · rfl
theorem step_reader {A : Ent} {s₀ : FS} {h₀ : Heap} {sL : FS} {hL : Heap} (t : Tr X call f ops s₀ h₀ A) (hs : stepG X call f ops A.s A.h A.o = some (.cont A.s' A.h')) (hw : A.ft.w = false) (hr : A.ft.b = true ∨ A.ft.h = true)
    {bx : List (List AVal)} {hB : Heap} (hsame : sameAt X call f A bx hB = true)
    (he : ∀ u, u ∈ looksT ops A.o → sL.env u = A.s.env u) (hn : sL.n = A.s.n) (hb : A.ft.b = true → sL.boxes = bx) (hh : A.ft.h = true → hL = hB) : ∃ s₂ h₂, StepAt X call f ops A sL hL s₂ h₂ := by
  have hwt : wantedA ops A.s.env A.o = some true := by
    by_cases e : wantedA ops A.s.env A.o = some true
    · exact e
    · rw [t.nw e] at hr; simp at hr
  have hso : stepOp X call f A.s A.h A.o = some (.cont A.s' A.h') := by simpa only [stepG, hwt] using hs
  obtain ⟨_, _, hdr⟩ := reader_spec (t.ft hwt) hw hr hso
  unfold sameAt at hsame
  split at hsame
  · rename_i d s₁ h₁ hd hs₁
    have heq := beqA_eq hsame
    have hft' : foot X f ({ A.s with boxes := bx } : FS).env A.o = some A.ft := t.ft hwt
    obtain ⟨b1, b2, _⟩ := reader_spec hft' hw hr hs₁
    have hwt' : wantedA ops ({ A.s with boxes := bx } : FS).env A.o = some true := hwt
    have hs₁' : stepG X call f ops { A.s with boxes := bx } hB A.o = some (.cont s₁ h₁) := by simp only [stepG, hwt', hs₁]
    have hc := stepG_congr (call := call) (s := { A.s with boxes := bx }) (h := hB) (s' := sL) (h' := hL) (fun _ => hft') ⟨he, hn, hb, hh⟩
    rw [hs₁'] at hc
    simp only [Option.map_some, tr] at hc
    have hW : ∀ u, u ∈ writesT X f A.o → u = d := fun u hu => by simpa [writesT, hdr, hd] using hu
    refine ⟨_, _, hc, rfl, rfl, fun u hu => ?_, fun u hu => by simp [trS, hu], fun _ e => (by rw [hw] at e; cases e), fun _ => ?_, fun _ e => (by rw [hw] at e; cases e), fun _ => ?_⟩
    · have := hW u hu; subst this
      simp only [trS, hu, if_true, heq]
    · simp only [trS]
      split
      · rename_i e; rw [b1, hb e]
      · rfl
    · simp only [trH]
      split
      · rename_i e; rw [b2, hh e]
      · rfl
  · cases hsame
end Go.Den
namespace Go.Den
open Go
variable {X : Ctx} {call : Call} {f : FuncId} {ops : Array Oper} {s : FS} {h : Heap} {l : List Ent} {out : Out} {L : Nat → Prop} {sL : FS} {hL : Heap}
theorem sees_env (hT : TrL X call f ops ops.toList s h l out) (hst : statOK X f ops = true) (hI : DInv X f s h l (good l out) (masksOf ops.toList []) L sL hL) {i : Nat} (him : i ≤ good l out) (hi : ¬ L i)
    (hb : Before (masksOf ops.toList []) L i) {o : Oper} (hoi : ops[i]? = some o) : ∀ t, t ∈ looksT ops o → sL.env t = (stS s l i).env t := by
  intro t ht
  rcases (hI.env t).sees (still_env hT t) hI.closed him hi hb with h1 | ⟨j, h1, ⟨B, h2, h3⟩, h4, h5, _⟩
  · exact h1
  · exfalso
    have := stat_apart hst hoi (ent_tr hT h2).1 (Ne.symm h4) h5
    exact (apart_spec' this).2 t h3 ht
theorem step_at (hT : TrL X call f ops ops.toList s h l out) (hst : statOK X f ops = true) (hp : allI (fun i A => allI (fun j B => pairOK X call f (masksOf ops.toList []) i A j B) l 0) l 0 = true)
    (hI : DInv X f s h l (good l out) (masksOf ops.toList []) L sL hL) {i : Nat} (him : i < good l out) (hi : ¬ L i) (hb : Before (masksOf ops.toList []) L i) :
    ∃ A s₂ h₂, l[i]? = some A ∧ ops[i]? = some A.o ∧ StepAt X call f ops A sL hL s₂ h₂ := by
  obtain ⟨A, h1, h2, h3, h4, h5, h6⟩ := ent_at hT him
  have hle : i ≤ good l out := Nat.le_of_lt him
  have he : ∀ t, t ∈ looksT ops A.o → sL.env t = A.s.env t := fun t ht => by rw [h3.s]; exact sees_env hT hst hI hle hi hb h2 t ht
  have hn : sL.n = A.s.n := by rw [hI.n, h3.s, (st_keeps hT i hle).1]
  have one : ¬ (A.ft.b = true ∧ A.ft.h = true) := by
    by_cases e : wantedA ops A.s.env A.o = some true
    · exact foot_one (h3.ft e)
    · rw [h3.nw e]; simp
  refine ⟨A, ?_⟩
  by_cases hbt : A.ft.b = true
  · have hnh : ¬ A.ft.h = true := fun e => one ⟨hbt, e⟩
    rcases hI.boxes.sees (still_boxes hT) hI.closed hle hi hb with q | ⟨j, q1, ⟨B, q2, q3, q4⟩, q5, q6, q7⟩
    · obtain ⟨s₂, h₂, hS⟩ := step_same (sL := sL) (hL := hL) h3 h4 ⟨he, hn, fun _ => by rw [h3.s]; exact q, fun e => (hnh e).elim⟩
      exact ⟨s₂, h₂, h1, h2, hS⟩
    · have hpk := pair_get hp h1 q2
      have hcl : clash A.ft B.ft = true := by simp [clash, q4, hbt, q3]
      have hij : Nat.beq i j = false := by cases e : Nat.beq i j with | false => rfl | true => exact (q5 (Nat.eq_of_beq_eq_true e).symm).elim
      simp only [pairOK, hcl, cond_true, hij, q6, Bool.false_or, Bool.and_eq_true, Bool.not_eq_true'] at hpk
      obtain ⟨⟨w1, w2⟩, w3⟩ := hpk
      obtain ⟨B', b1, _, b3, _, b5, _⟩ := ent_at hT q1
      have : B' = B := by rw [b1] at q2; exact Option.some.inj q2
      subst this
      rcases q7 with q7 | q7
      · obtain ⟨s₂, h₂, hS⟩ := step_reader (sL := sL) (hL := hL) h3 h4 w1 (.inl hbt) w2 he hn (fun _ => by rw [b3.s]; exact q7) (fun e => (hnh e).elim)
        exact ⟨s₂, h₂, h1, h2, hS⟩
      · obtain ⟨s₂, h₂, hS⟩ := step_reader (sL := sL) (hL := hL) h3 h4 w1 (.inl hbt) w3 he hn (fun _ => by rw [← b5]; exact q7) (fun e => (hnh e).elim)
        exact ⟨s₂, h₂, h1, h2, hS⟩
  · by_cases hht : A.ft.h = true
    · rcases hI.heap.sees (still_heap hT) hI.closed hle hi hb with q | ⟨j, q1, ⟨B, q2, q3, q4⟩, q5, q6, q7⟩
      · obtain ⟨s₂, h₂, hS⟩ := step_same (sL := sL) (hL := hL) h3 h4 ⟨he, hn, fun e => (hbt e).elim, fun _ => by rw [h3.h]; exact q⟩
        exact ⟨s₂, h₂, h1, h2, hS⟩
      · have hpk := pair_get hp h1 q2
        have hcl : clash A.ft B.ft = true := by simp [clash, q4, hht, q3]
        have hij : Nat.beq i j = false := by cases e : Nat.beq i j with | false => rfl | true => exact (q5 (Nat.eq_of_beq_eq_true e).symm).elim
        simp only [pairOK, hcl, cond_true, hij, q6, Bool.false_or, Bool.and_eq_true, Bool.not_eq_true'] at hpk
        obtain ⟨⟨w1, w2⟩, w3⟩ := hpk
        obtain ⟨B', b1, _, b3, _, _, b6⟩ := ent_at hT q1
        have : B' = B := by rw [b1] at q2; exact Option.some.inj q2
        subst this
        rcases q7 with q7 | q7
        · obtain ⟨s₂, h₂, hS⟩ := step_reader (sL := sL) (hL := hL) h3 h4 w1 (.inr hht) w2 he hn (fun e => (hbt e).elim) (fun _ => by rw [b3.h]; exact q7)
          exact ⟨s₂, h₂, h1, h2, hS⟩
        · obtain ⟨s₂, h₂, hS⟩ := step_reader (sL := sL) (hL := hL) h3 h4 w1 (.inr hht) w3 he hn (fun e => (hbt e).elim) (fun _ => by rw [← b6]; exact q7)
          exact ⟨s₂, h₂, h1, h2, hS⟩
    · obtain ⟨s₂, h₂, hS⟩ := step_same (sL := sL) (hL := hL) h3 h4 ⟨he, hn, fun e => (hbt e).elim, fun e => (hht e).elim⟩
      exact ⟨s₂, h₂, h1, h2, hS⟩
theorem pair_writers {masks : List Nat} (hp : allI (fun i A => allI (fun j B => pairOK X call f masks i A j B) l 0) l 0 = true) {i j : Nat} {A B : Ent} (hi : l[i]? = some A) (hj : l[j]? = some B) (hne : j ≠ i)
    (hc : clash A.ft B.ft = true) (hw : A.ft.w = true) : ordered masks i j = true := by
  have hpk := pair_get hp hi hj
  have hij : Nat.beq i j = false := by cases e : Nat.beq i j with | false => rfl | true => exact (hne (Nat.eq_of_beq_eq_true e).symm).elim
  simpa only [pairOK, hc, cond_true, hij, hw, Bool.false_or, Bool.not_true, Bool.false_and, Bool.or_false] using hpk
theorem inv_step (hT : TrL X call f ops ops.toList s h l out) (hst : statOK X f ops = true) (hp : allI (fun i A => allI (fun j B => pairOK X call f (masksOf ops.toList []) i A j B) l 0) l 0 = true)
    (hI : DInv X f s h l (good l out) (masksOf ops.toList []) L sL hL) {i : Nat} (him : i < good l out) (hi : ¬ L i) (hb : Before (masksOf ops.toList []) L i) {A : Ent} {s₂ : FS} {h₂ : Heap}
    (hA : l[i]? = some A) (hS : StepAt X call f ops A sL hL s₂ h₂) : DInv X f s h l (good l out) (masksOf ops.toList []) (fun j => j = i ∨ L j) s₂ h₂ := by
  obtain ⟨A', a1, a2, a3, a4, a5, a6⟩ := ent_at hT him
  have : A' = A := by rw [a1] at hA; exact Option.some.inj hA
  subst this
  refine ⟨by rw [hS.n, hI.n], by rw [hS.defs, hI.defs], fun t => ?_, ?_, ?_, ?_, ?_⟩
  · by_cases ht : t ∈ writesT X f A'.o
    · have e : s₂.env t = (stS s l (i + 1)).env t := by rw [hS.wr t ht, a5]
      rw [e]
      refine Cut.write (val := fun i => (stS s l i).env t) hI.closed him hi hb fun j hj ⟨B, b1, b2⟩ hne => ?_
      cases ho : ordered (masksOf ops.toList []) i j with
      | true => rfl
      | false =>
        have := stat_apart hst a2 (ent_tr hT b1).1 (Ne.symm hne) ho
        exact (((apart_spec' this).1 t ht).1 b2).elim
    · rw [hS.nw t ht]
      exact (hI.env t).keep fun ⟨B, b1, b2⟩ => ht (by rw [a1] at b1; cases b1; exact b2)
  · by_cases hw : A'.ft.b = true ∧ A'.ft.w = true
    · rw [hS.bw hw.1 hw.2, ← a5]
      exact Cut.write (val := fun i => (stS s l i).boxes) hI.closed him hi hb fun j hj ⟨B, b1, b2, b3⟩ hne => pair_writers hp a1 b1 hne (by simp [clash, b3, hw.1, b2]) hw.2
    · rw [hS.bn hw]
      exact hI.boxes.keep fun ⟨B, b1, b2⟩ => hw (by rw [a1] at b1; cases b1; exact b2)
  · by_cases hw : A'.ft.h = true ∧ A'.ft.w = true
    · rw [hS.hw hw.1 hw.2, ← a6]
      exact Cut.write (val := fun i => stH h l i) hI.closed him hi hb fun j hj ⟨B, b1, b2, b3⟩ hne => pair_writers hp a1 b1 hne (by simp [clash, b3, hw.1, b2]) hw.2
    · rw [hS.hn hw]
      exact hI.heap.keep fun ⟨B, b1, b2⟩ => hw (by rw [a1] at b1; cases b1; exact b2)
  · rintro j k (rfl | hj) hk
    · exact .inr (hb k hk)
    · exact .inr (hI.closed j k hj hk)
  · rintro j (rfl | hj)
    · exact him
    · exact hI.sub j hj
end Go.Den
namespace Go.Den
open Go
variable {X : Ctx} {call : Call} {f : FuncId} {ops : Array Oper} {s : FS} {h : Heap} {l : List Ent} {out : Out} {sL : FS} {hL : Heap}
def Lst (listed : Array Bool) (j : Nat) : Prop := listed.getD j false = true
theorem ready_before {listed : Array Bool} {i : Nat} (hr : i ∈ Region.ready .any ops listed) (hsz : listed.size = ops.size) (hc : Closed (masksOf ops.toList []) (Lst listed)) : ¬ Lst listed i ∧ Before (masksOf ops.toList []) (Lst listed) i ∧ i < ops.size := by
  obtain ⟨h1, o, h2, h3⟩ := mem_ready.1 hr
  have hlt : i < ops.size := (Array.getElem?_eq_some_iff.1 h2).1
  refine ⟨?_, fun k hk => ?_, hlt⟩
  · unfold Lst
    have : i < listed.size := by omega
    simp [Array.getD, this] at h1 ⊢
    exact h1
  · have := masks_bit ops.toList [] i o (by simpa using h2) k (by simpa using hk)
    obtain ⟨e, e1, e2, e3⟩ := this
    have hl := h3 e (by simpa using e1) e2
    rcases e3 with rfl | e3
    · exact hl
    · exact hc _ _ hl e3
theorem all_listed {listed : Array Bool} (hst : statOK X f ops = true) (hsz : listed.size = ops.size) (hr : Region.ready .any ops listed = []) : ∀ j, j < ops.size → Lst listed j := by
  intro j
  induction j using Nat.strongRecOn with
  | _ j ih =>
    intro hj
    cases hl : listed.getD j false with
    | true => exact hl
    | false =>
      exfalso
      have hm : j ∈ Region.ready .any ops listed := by
        refine mem_ready.2 ⟨?_, ops[j], Array.getElem?_eq_getElem hj, fun e he hb => ?_⟩
        · have : j < listed.size := by omega
          simp [Array.getD, this] at hl ⊢; exact hl
        · have hd := stat_down hst (Array.getElem?_eq_getElem hj) e he hb
          exact ih e.on hd (by omega)
      rw [hr] at hm; cases hm
end Go.Den
namespace Go.Den
open Go
variable {X : Ctx} {call : Call} {f : FuncId} {ops : Array Oper} {s : FS} {h : Heap} {l : List Ent} {out : Out} {sL : FS} {hL : Heap}
theorem lst_set {listed : Array Bool} {i : Nat} (his : i < listed.size) : Lst (listed.setIfInBounds i true) = fun j => j = i ∨ Lst listed j := by
  funext j
  apply propext
  unfold Lst
  by_cases e : j = i
  · subst e; simp [his]
  · rw [getD_set_ne false (Ne.symm e)]; simp [e]
theorem inv_end (hT : TrL X call f ops ops.toList s h l out) {L : Nat → Prop} (hI : DInv X f s h l (good l out) (masksOf ops.toList []) L sL hL) (hall : ∀ j, j < good l out → L j) :
    sL = stS s l (good l out) ∧ hL = stH h l (good l out) := by
  have fin : ∀ {α : Type} {Wr : Nat → Prop} {val : Nat → α} {x : α}, Cut L (good l out) Wr val x → (∀ j, j < good l out → ¬ Wr j → val (j + 1) = val j) → x = val (good l out) := by
    rintro α Wr val x ⟨p, hp, rfl, hL⟩ hv
    have := seg hv (good l out - p) p (by omega) fun j h1 h2 hw => by
      have := (hL j (by omega) hw).2 (hall j (by omega))
      omega
    rw [← this]; congr 1; omega
  obtain ⟨q1, q2⟩ := st_keeps hT (good l out) (Nat.le_refl _)
  exact ⟨FS.ext' (fun t => fin (hI.env t) (still_env hT t)) (fin hI.boxes (still_boxes hT)) (by rw [hI.n, q1]) (by rw [hI.defs, q2]), fin hI.heap (still_heap hT)⟩
end Go.Den
namespace Go.Den
open Go
variable {X : Ctx} {call : Call} {f : FuncId} {ops : Array Oper} {s : FS} {h : Heap} {l : List Ent} {out : Out} {sL : FS} {hL : Heap}
theorem any_cont (hP : PlainNames X.P) (hcall : CallSim X.P call) {sF : FS} {hF : Heap} (hT : TrL X call f ops ops.toList s h l (.cont sF hF)) (hst : statOK X f ops = true)
    (hp : allI (fun i A => allI (fun j B => pairOK X call f (masksOf ops.toList []) i A j B) l 0) l 0 = true) {E₀ : Emb} {w₀ : World} {Q : Exit → Act → World → Prop}
    (hQ : ∀ E β a w, HRel E w.heap hF → FRel E β w.heap sF a → Ext E₀ w₀ E w → Q .normal a w) (hQp : ∀ E w e a w', Ext E₀ w₀ E w → False → Q e a w') :
    ∀ (fuel : Nat) (listed : Array Bool) (E : Emb) (β : Nat → Option Nat) (a : Act) (w : World) (sL : FS) (hL : Heap), listed.size = ops.size → unl listed ops.size ≤ fuel →
      DInv X f s h l (good l (.cont sF hF)) (masksOf ops.toList []) (Lst listed) sL hL → HRel E w.heap hL → FRel E β w.heap sL a → Ext E₀ w₀ E w → wpAny X.P .any ops Q fuel listed a w := by
  have hlen : good l (.cont sF hF) = ops.size ∧ sF = stS s l l.length ∧ hF = stH h l l.length := by
    rcases tr_end hT with ⟨h1, h2⟩ | ⟨⟨v, s', h', h1⟩, _⟩
    · cases h1; exact ⟨by simpa [good] using h2, rfl, rfl⟩
    · cases h1
  have fin : ∀ (listed : Array Bool) (E : Emb) (β : Nat → Option Nat) (a : Act) (w : World) (sL : FS) (hL : Heap), listed.size = ops.size →
      DInv X f s h l (good l (.cont sF hF)) (masksOf ops.toList []) (Lst listed) sL hL → HRel E w.heap hL → FRel E β w.heap sL a → Ext E₀ w₀ E w → Region.ready .any ops listed = [] → Q .normal a w := by
    intro listed E β a w sL hL hsz hI hH hFr hx hr
    obtain ⟨e1, e2⟩ := inv_end hT hI fun j hj => all_listed hst hsz hr j (by rw [← hlen.1]; exact hj)
    refine hQ E β a w ?_ ?_ hx
    · rw [hlen.2.2]; rw [e2] at hH; simpa [good] using hH
    · rw [hlen.2.1]; rw [e1] at hFr; simpa [good] using hFr
  intro fuel
  induction fuel with
  | zero =>
    intro listed E β a w sL hL hsz hu hI hH hFr hx
    have hr : Region.ready .any ops listed = [] := by
      apply List.eq_nil_iff_forall_not_mem.2
      intro i hi
      obtain ⟨h1, _, h3⟩ := ready_before hi hsz hI.closed
      exact h1 (unl_zero (by omega) i h3)
    exact ⟨hr, fin listed E β a w sL hL hsz hI hH hFr hx hr⟩
  | succ fuel ih =>
    intro listed E β a w sL hL hsz hu hI hH hFr hx
    refine ⟨fin listed E β a w sL hL hsz hI hH hFr hx, fun i hi => ?_⟩
    obtain ⟨h1, h2, h3⟩ := ready_before hi hsz hI.closed
    have him : i < good l (.cont sF hF) := by rw [hlen.1]; exact h3
    obtain ⟨A, s₂, h₂, a1, a2, a3⟩ := step_at hT hst hp hI him h1 h2
    have his : i < listed.size := by omega
    have hI' := inv_step hT hst hp hI him h1 h2 a1 a3
    rw [← lst_set his] at hI'
    refine op_sound hP hcall a2 hH hFr a3.step ?_ ?_
    · rintro a' w' ⟨s', h', E', β', he, k1, k2, k3⟩
      cases he
      refine ih _ E' β' a' w' s₂ h₂ (by simpa using hsz) ?_ hI' k1 k2 (hx.trans k3)
      have hlf : listed.getD i false = false := by cases e : listed.getD i false with | false => rfl | true => exact (h1 e).elim
      have := unl_set hlf his ops.size
      rw [if_pos h3] at this
      omega
    · rintro e a' w' ⟨v, s', h', E', β', y, he, _⟩
      cases he
end Go.Den
namespace Go.Den
open Go
variable {X : Ctx} {call : Call} {f : FuncId} {ops : Array Oper} {s : FS} {h : Heap} {l : List Ent} {out : Out} {sL : FS} {hL : Heap}
theorem any_panic (hP : PlainNames X.P) (hcall : CallSim X.P call) {v : AVal} {sP : FS} {hp' : Heap} (hT : TrL X call f ops ops.toList s h l (.panic v sP hp')) (hst : statOK X f ops = true)
    (hp : allI (fun i A => allI (fun j B => pairOK X call f (masksOf ops.toList []) i A j B) l 0) l 0 = true)
    (hlast : ∀ A, l[l.length - 1]? = some A → A.ft.h = true ∧ A.ft.w = true) (hm : ∀ i, l.length ≤ i → i < ops.size → (((masksOf ops.toList [])[i]?).getD 0).testBit (l.length - 1) = true) {E₀ : Emb} {w₀ : World} {Q : Exit → Act → World → Prop}
    (hQ : ∀ E β a w x s', HRel E w.heap hp' → FRel E β w.heap s' a → s'.defs = s.defs → VRel E w.heap v x → Ext E₀ w₀ E w → Q (.panic [{ v := x, recovered := false }]) a w) :
    ∀ (fuel : Nat) (listed : Array Bool) (E : Emb) (β : Nat → Option Nat) (a : Act) (w : World) (sL : FS) (hL : Heap), listed.size = ops.size → unl listed ops.size ≤ fuel →
      DInv X f s h l (good l (.panic v sP hp')) (masksOf ops.toList []) (Lst listed) sL hL → HRel E w.heap hL → FRel E β w.heap sL a → Ext E₀ w₀ E w → wpAny X.P .any ops Q fuel listed a w := by
  have hpos : 0 < l.length := by
    rcases tr_end hT with ⟨h1, _⟩ | ⟨_, h2⟩
    · cases h1
    · exact h2
  have hg : good l (.panic v sP hp') = l.length - 1 := rfl
  obtain ⟨A, hA⟩ : ∃ A, l[l.length - 1]? = some A := ⟨_, List.getElem?_eq_getElem (by omega)⟩
  obtain ⟨hAo, hAt, hAs⟩ := ent_tr hT hA
  have hAp : stepG X call f ops A.s A.h A.o = some (.panic v sP hp') := by
    rcases hAs with ⟨h1, _⟩ | ⟨_, _, _, h1⟩
    · rw [hg] at h1; omega
    · exact h1
  have hle : l.length - 1 < ops.size := (Array.getElem?_eq_some_iff.1 hAo).1
  have fin : ∀ (listed : Array Bool) (sL : FS) (hL : Heap), listed.size = ops.size →
      DInv X f s h l (good l (.panic v sP hp')) (masksOf ops.toList []) (Lst listed) sL hL → Region.ready .any ops listed ≠ [] := by
    intro listed sL hL hsz hI hr
    have := hI.sub _ (all_listed hst hsz hr _ hle)
    rw [hg] at this; omega
  intro fuel
  induction fuel with
  | zero =>
    intro listed E β a w sL hL hsz hu hI hH hFr hx
    have := hI.sub _ (unl_zero (by omega) _ hle)
    rw [hg] at this; omega
  | succ fuel ih =>
    intro listed E β a w sL hL hsz hu hI hH hFr hx
    refine ⟨fun hr => (fin listed sL hL hsz hI hr).elim, fun i hi => ?_⟩
    obtain ⟨h1, h2, h3⟩ := ready_before hi hsz hI.closed
    by_cases him : i < good l (.panic v sP hp')
    · obtain ⟨A, s₂, h₂, a1, a2, a3⟩ := step_at hT hst hp hI him h1 h2
      have his : i < listed.size := by omega
      have hI' := inv_step hT hst hp hI him h1 h2 a1 a3
      rw [← lst_set his] at hI'
      refine op_sound hP hcall a2 hH hFr a3.step ?_ ?_
      · rintro a' w' ⟨s', h', E', β', he, k1, k2, k3⟩
        cases he
        refine ih _ E' β' a' w' s₂ h₂ (by simpa using hsz) ?_ hI' k1 k2 (hx.trans k3)
        have hlf : listed.getD i false = false := by cases e : listed.getD i false with | false => rfl | true => exact (h1 e).elim
        have := unl_set hlf his ops.size
        rw [if_pos h3] at this
        omega
      · rintro e a' w' ⟨v, s', h', E', β', y, he, _⟩
        cases he
    · by_cases hie : i = l.length - 1
      · subst hie
        obtain ⟨hfh, hfw⟩ := hlast A hA
        have hwt : wantedA ops A.s.env A.o = some true := by
          by_cases e : wantedA ops A.s.env A.o = some true
          · exact e
          · rw [hAt.nw e] at hfh; cases hfh
        have hnb : A.ft.b = true → False := fun e => foot_one (hAt.ft hwt) ⟨e, hfh⟩
        have he : ∀ t, t ∈ looksT ops A.o → sL.env t = A.s.env t := fun t ht => by rw [hAt.s]; exact sees_env hT hst hI (by rw [hg]; omega) h1 h2 hAo t ht
        have hn : sL.n = A.s.n := by rw [hI.n, hAt.s, (st_keeps hT (l.length - 1) (by rw [hg]; omega)).1]
        have hhs : hL = A.h := by
          rcases hI.heap.sees (still_heap hT) hI.closed (by rw [hg]; omega) h1 h2 with q | ⟨j, q1, ⟨B, q2, q3, q4⟩, q5, q6, _⟩
          · rw [hAt.h]; exact q
          · have := pair_writers hp hA q2 q5 (by simp [clash, q4, hfh, q3]) hfw
            rw [q6] at this; cases this
        have hc := stepG_congr (call := call) hAt.ft (⟨he, hn, fun e => (hnb e).elim, fun _ => hhs⟩ : Alike A.ft (looksT ops A.o) A.s sL A.h hL)
        rw [hAp] at hc
        simp only [Option.map_some, tr] at hc
        refine op_sound hP hcall hAo hH hFr hc ?_ ?_
        · rintro a' w' ⟨s', h', E', β', he, _⟩
          cases he
        · rintro e a' w' ⟨v', s', h', E', β', y, he, rfl, k1, k2, k3, k4⟩
          cases he
          exact hQ E' β' a' w' y _ (by simpa [trH, hfh] using k1) k2 hI.defs k4 (hx.trans k3)
      · have := h2 (l.length - 1) (hm i (by rw [hg] at him; omega) h3)
        have := hI.sub _ this
        rw [hg] at this; omega
end Go.Den
namespace Go.Den
open Go
variable {X : Ctx} {call : Call} {f : FuncId} {ops : Array Oper} {s : FS} {h : Heap} {l : List Ent} {out : Out} {sL : FS} {hL : Heap}
theorem unl_start : ∀ n m, n ≤ m → unl (Array.replicate m false) n ≤ n
  | 0, m, _ => by simp [unl]
  | n + 1, m, hm => by
    have := unl_start n m (by omega)
    have h1 : (Array.replicate m false).getD n false = false := by
      have : n < m := by omega
      simp [Array.getD, this]
    simp only [unl, h1]
    simp; omega
theorem inv_start {m : Nat} {n : Nat} : DInv X f s h l m (masksOf ops.toList []) (Lst (Array.replicate n false)) s h where
  n := rfl
  defs := rfl
  env t := ⟨0, by omega, rfl, fun j _ _ => ⟨fun h => by omega, fun h => by simp [Lst, Array.getD] at h⟩⟩
  boxes := ⟨0, by omega, rfl, fun j _ _ => ⟨fun h => by omega, fun h => by simp [Lst, Array.getD] at h⟩⟩
  heap := ⟨0, by omega, rfl, fun j _ _ => ⟨fun h => by omega, fun h => by simp [Lst, Array.getD] at h⟩⟩
  closed j k h := by simp [Lst, Array.getD] at h
  sub j h := by simp [Lst, Array.getD] at h
theorem panic_defs {o : Oper} {ft : Foot} {v : AVal} {s₁ : FS} {h₁ : Heap} (hft : wantedA ops s.env o = some true → foot X f s.env o = some ft) (hs : stepG X call f ops s h o = some (.panic v s₁ h₁)) : s₁.defs = s.defs := by
  have := stepG_congr (call := call) (s' := s) (h' := h) hft ⟨fun _ _ => rfl, rfl, fun _ => rfl, fun _ => rfl⟩
  rw [hs] at this
  simp only [Option.map_some, tr, Option.some.injEq, Out.panic.injEq] at this
  obtain ⟨_, e1, _⟩ := this
  rw [e1]; rfl
theorem draw_sim (hm : X.P.follows .mixedOrders = true) (hP : PlainNames X.P) (hcall : CallSim X.P call) : DrawSim X call := by
  intro f id ops s h out hst hr E β a w hH hF
  refine wp_region_any hm ?_
  unfold runDraw at hr
  split at hr
  · rename_i l out' htr
    have hT := trace_spec htr
    dsimp only at hr
    cases hp : allI (fun i A => allI (fun j B => pairOK X call f (masksOf ops.toList []) i A j B) l 0) l 0 with
    | false => rw [hp] at hr; cases hr
    | true =>
      rw [hp, cond_true] at hr
      have hu : unl (Array.replicate ops.size false) ops.size ≤ ops.size := unl_start _ _ (Nat.le_refl _)
      have hx : Ext E w E { w with drawn := w.drawn + 1 } := ⟨rfl, rfl, rfl, Nat.le_refl _, Mono.refl _ _, fun _ _ h => ⟨h, rfl⟩, fun _ _ h => h, fun _ _ _ _ h => ⟨h, rfl⟩⟩
      cases out' with
      | cont sF hF' =>
        cases hr
        refine any_cont (E₀ := E) (w₀ := w) hP hcall hT hst hp ?_ (fun _ _ _ _ _ _ h => h.elim) ops.size _ E β a _ s h (by simp) hu inv_start hH hF hx
        intro E2 β2 a2 w2 h1 h2 h3
        exact ⟨E2, β2, h1, h3, h2⟩
      | panic v sP hp' =>
        dsimp only at hr
        have key : ∀ (c : Bool) (o : Option Out), cond c o none = some out → c = true ∧ o = some out := fun c o h => by
          cases c with
          | true => exact ⟨rfl, h⟩
          | false => cases h
        obtain ⟨hc, ho⟩ := key _ _ hr
        cases ho
        simp only [Bool.and_eq_true] at hc
        obtain ⟨⟨c1, c2⟩, c3⟩ := hc
        have hd : s.defs = [] := by simpa using c1
        refine any_panic (E₀ := E) (w₀ := w) hP hcall hT hst hp ?_ ?_ ?_ ops.size _ E β a _ s h (by simp) hu inv_start hH hF hx
        · intro A hA
          rw [hA] at c2
          simpa using c2
        · intro i h1 h2
          have hlen : (masksOf ops.toList []).length = ops.size := by
            have : ∀ (os : List Oper) (acc : List Nat), (masksOf os acc).length = acc.length + os.length := by
              intro os
              induction os with
              | nil => intro acc; simp [masksOf]
              | cons o os ih => intro acc; simp only [masksOf, ih]; simp; omega
            rw [this]; simp
          rw [List.all_eq_true] at c3
          have hi : i < (masksOf ops.toList []).length := by omega
          have := c3 ((masksOf ops.toList [])[i]) (by
            rw [List.mem_iff_getElem]
            refine ⟨i - l.length, by simp; omega, ?_⟩
            rw [List.getElem_drop]; congr 1; omega)
          rw [List.getElem?_eq_getElem hi]
          exact this
        · intro E2 β2 a2 w2 x s2 h1 h2 h3 h4 h5
          refine ⟨E2, β2, h1, h5, x, rfl, h4, fun _ => h2.noDefs (h3.trans hd), fun hne => ?_⟩
          exfalso
          obtain ⟨A, hA⟩ : ∃ A, l[l.length - 1]? = some A := by
            rcases tr_end hT with ⟨q1, _⟩ | ⟨_, q2⟩
            · cases q1
            · exact ⟨_, List.getElem?_eq_getElem (by omega)⟩
          obtain ⟨_, hAt, hAs⟩ := ent_tr hT hA
          have hAp : stepG X call f ops A.s A.h A.o = some (.panic v sP hp') := by
            rcases hAs with ⟨q1, _⟩ | ⟨_, _, _, q1⟩
            · simp only [good] at q1; omega
            · exact q1
          refine hne ?_
          show sP.defs = []
          rw [panic_defs hAt.ft hAp, hAt.s, (st_keeps hT (l.length - 1) (by simp [good])).2, hd]
  · cases hr
def PrimSim (P : Program) (prims : Prims) : Prop :=
  ∀ f p, prims f = some p → ∀ args h r h', p args h = some (r, h') → ∀ (E : Emb) (w : World) (cargs : Array Value), HRel E w.heap h → ArgsRel E w.heap args cargs → Calls P f cargs w (CallPost E w h' r)
theorem den_sound {prims : Prims} (hm : X.P.follows .mixedOrders = true) (hP : PlainNames X.P) (hds : ∀ g fn c, X.P.funcs[g]? = some fn → fn.body = some c → drawsOK X g c = true) (hpr : PrimSim X.P prims) :
    ∀ n, CallSim X.P (den X prims n)
  | 0 => fun f args h r h' hr => by simp [den] at hr
  | n + 1 => by
    have ih := den_sound hm hP hds hpr n
    intro f args h r h' hr E w cargs hH hA
    unfold den at hr
    split at hr
    · rename_i p hp
      exact hpr f p hp args h r h' hr E w cargs hH hA
    · exact body_sound hP ih (draw_sim hm hP ih) hds n f args h r h' hr E w cargs hH hA
end Go.Den

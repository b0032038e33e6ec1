/-
  LAWS: numbers of three digits and more: numDigits and formatBase10 as primitives (the shelf's contracts).
-/
import Derived.Test.YthbcdilmfgfndaaGreatDoorZf
import Derived.Shelf.Strconv.Itoa1
import Derived.Shelf.Strconv.Itoa2
import Derived.Lib.ItoaMem
set_option linter.unusedSimpArgs false
set_option linter.unusedVariables false
namespace Go.Proofs
open Go.Shelf Go.RowKit Go.Lib
def Tryz.rn : Ren := ⟨fun x => match x with | 284 => 239 | 285 => 240 | 129 => 266 | 317 => 265 | 318 => 267 | x => x, fun x => match x with | 37 => 23 | 46 => 225 | 51 => 209 | 53 => 207 | 212 => 272 | x => x, fun _ => 1⟩
theorem Tryz.lay284 : LaysM.n284 Tryz.prog Tryz.rn := by
  constructor <;> first
    | kernel_rfl
    | (intro w; kernel_rfl)
    | (constructor <;> first | kernel_rfl | (intro w; kernel_rfl))
theorem Tryz.lay285 : Lays.n285 Tryz.prog Tryz.rn := by
  constructor <;> first | kernel_rfl | (intro w; kernel_rfl)
end Go.Proofs
namespace Go.Den
open Go Go.Proofs
theorem tabC_eq : tabC = (Lib.pow10Tab.map fun z => Value.int .u64 z).toArray := by
  unfold tabC Lib.pow10Tab
  rw [List.map_map]; rfl
theorem tab_is {E : Emb} {w : World} (h : TabOK E w.heap) : Lib.TabIs Tryz.prog w "internal/strconv.uint64pow10" .u64 Lib.pow10Tab := by
  obtain ⟨_, e, z, h2⟩ := h
  unfold Lib.TabIs World.var?
  rw [show Tryz.prog.globalNamed "internal/strconv.uint64pow10" = some tabG by kernel_rfl]
  simp only [Option.bind_some, h2, tabC_eq]
def primN : List AVal → Heap → Option (ARes × Heap) := fun args h => match args with
  | [.int .u64 n] => cond (decide (1 ≤ n) && decide (n < 18446744073709551616)) (some (.ret (.int .i64 (Lib.nDigits n.toNat : Int)), h)) none
  | _ => none
def isZ8 : AVal → Bool
  | .int k n => decide (k = .u8) && decide (n = 0)
  | _ => false
def primF : List AVal → Heap → Option (ARes × Heap) := fun args h => match args with
  | [.msl b off n 1, .int .u64 u] => match h.objs[b]? with
    | some (.cells l) => cond (decide (0 ≤ u) && decide (u < 18446744073709551616) && Nat.beq n (Lib.nDigits u.toNat) && Nat.ble (off + n) l.length && ((l.drop off).take n).all isZ8)
        (some (.ret (.tup []), { h with objs := h.objs.set b (.cells (putAt l off (cellsOfBytes (Lib.decDigits u.toNat)))) })) none
    | _ => none
  | _ => none
theorem cellsOfBytes_len : ∀ l : List UInt8, (cellsOfBytes l).length = l.length
  | [] => rfl
  | _ :: l => by simp [cellsOfBytes, cellsOfBytes_len l]
theorem cellsOfBytes_get : ∀ (l : List UInt8) (j : Nat), (cellsOfBytes l)[j]? = (l[j]?).map fun b => AVal.int .u8 b.toNat
  | [], j => by simp [cellsOfBytes]
  | b :: l, 0 => by simp [cellsOfBytes]
  | b :: l, j + 1 => by simp [cellsOfBytes, cellsOfBytes_get l j]
theorem primN_sim (args : List AVal) (h : Heap) (r : ARes) (h' : Heap) (hr : primN args h = some (r, h')) (E : Emb) (w : World) (cargs : Array Value) (hH : HRel E w.heap h) (hA : ArgsRel E w.heap args cargs) : Calls Tryz.prog 239 cargs w (CallPost E w h' r) := by
  unfold primN at hr
  split at hr
  · rename_i n
    cases hc : (decide (1 ≤ n) && decide (n < 18446744073709551616)) with
    | false => rw [hc] at hr; cases hr
    | true =>
      rw [hc] at hr
      cases hr
      simp only [Bool.and_eq_true, decide_eq_true_eq] at hc
      obtain ⟨hs, hv⟩ := hA
      obtain ⟨x, rfl⟩ : ∃ x, cargs = #[x] := by
        rcases cargs with ⟨l⟩
        match l, hs with
        | [x], _ => exact ⟨x, rfl⟩
      have h1 := (hv 0 _ x rfl rfl).1
      cases h1
      obtain ⟨u, rfl⟩ : ∃ u : Nat, n = u := ⟨n.toNat, by omega⟩
      refine (Any.internal_strconv_numDigits Tryz.lay284 u (by omega) (by omega) w (tab_is hH.tab)).mono ?_
      rintro e w' ⟨rfl, rfl⟩
      exact ⟨E, Ext.refl _ _, hH, .int _ _, .of_strip rfl⟩
  · cases hr
theorem mapB_touch {w : World} {B : Nat} {c : Array Value} {e : TypeId} {z : Nat × Nat} (f : Array Value → Array Value) (hb : w.heap[B]? = some (Obj.cells c e z)) (hf : ∀ c : Array Value, (f c).size = c.size) :
    Touch w.heap (Go.Sort.mapBlock w B f).heap B ∧ (Go.Sort.mapBlock w B f).heap[B]? = some (Obj.cells (f c) e z) := by
  have key : ∀ k : Nat, (Go.Sort.mapBlock w B f).heap[k]? = if B = k then (w.heap[k]?).map (Go.Sort.onCells f) else w.heap[k]? := fun k => by
    show (w.heap.modify B (Go.Sort.onCells f))[k]? = _
    rw [Array.getElem?_modify]
  have h2 : (Go.Sort.mapBlock w B f).heap[B]? = some (Obj.cells (f c) e z) := by
    rw [key, if_pos rfl, hb]; rfl
  refine ⟨⟨fun k hk => by rw [key, if_neg (Ne.symm hk)], fun c' e' z' h' => ?_, ?_⟩, h2⟩
  · rw [hb] at h'
    cases h'
    exact ⟨_, h2, hf _⟩
  · show (w.heap.modify B _).size = _
    simp
theorem primF_sim (args : List AVal) (h : Heap) (r : ARes) (h' : Heap) (hr : primF args h = some (r, h')) (E : Emb) (w : World) (cargs : Array Value) (hH : HRel E w.heap h) (hA : ArgsRel E w.heap args cargs) : Calls Tryz.prog 240 cargs w (CallPost E w h' r) := by
  unfold primF at hr
  split at hr
  · rename_i b off n u
    split at hr
    · rename_i l ho
      cases hc : (decide (0 ≤ u) && decide (u < 18446744073709551616) && Nat.beq n (Lib.nDigits u.toNat) && Nat.ble (off + n) l.length && ((l.drop off).take n).all isZ8) with
      | false => rw [hc] at hr; cases hr
      | true =>
        rw [hc] at hr
        cases hr
        simp only [Bool.and_eq_true, decide_eq_true_eq, Nat.ble_eq, Nat.beq_eq, List.all_eq_true] at hc
        obtain ⟨⟨⟨⟨c1, c2⟩, c3⟩, c4⟩, c5⟩ := hc
        obtain ⟨hs, hv⟩ := hA
        obtain ⟨x, y, rfl⟩ : ∃ x y, cargs = #[x, y] := by
          rcases cargs with ⟨l⟩
          match l, hs with
          | [x, y], _ => exact ⟨x, y, rfl⟩
        have h1 := (hv 0 _ x rfl rfl).1
        have h2 := (hv 1 _ y rfl rfl).1
        obtain ⟨u, rfl⟩ : ∃ v : Nat, u = v := ⟨u.toNat, by omega⟩
        rw [Int.toNat_natCast] at c3
        cases h2
        cases h1 with
        | msl _ _ _ _ a cap B c0 e0 z0 hn hb =>
          have hn1 : 1 ≤ n := by
            subst c3
            by_cases h10 : u < 10
            · rw [Lib.nDigits_small h10]; omega
            · rw [Lib.nDigits_big h10]; omega
          obtain ⟨q1, rfl, q3, q4⟩ := hb (by omega)
          obtain ⟨B', c, e, e1, e2, e3, e4, e5⟩ := hH.obj b _ ho
          rw [q1] at e1; cases e1
          have hz : ∀ j, j < n → c[off + j]? = some (.int .u8 0) := fun j hj => by
            have hl : off + j < l.length := by omega
            obtain ⟨_, x, g1, g2, _⟩ := e5 (off + j) l[off + j] (List.getElem?_eq_getElem hl)
            have hm : l[off + j] ∈ (l.drop off).take n := by
              rw [List.mem_iff_getElem?]
              exact ⟨j, by rw [List.getElem?_take, if_pos hj, List.getElem?_drop, List.getElem?_eq_getElem hl]⟩
            have := c5 _ hm
            generalize l[off + j] = v at this g2
            cases g2 <;> first | (simp [isZ8] at this; done) | skip
            rename_i k m
            simp [isZ8] at this
            rw [g1, this.1, this.2]
          have hH0 : Go.Sort.Holds (fun (b : UInt8) => Value.int .u8 (b.toNat : Int)) w B off (Array.replicate n (0 : UInt8)) := fun j hj => by
            have hj : j < n := by simpa using hj
            refine ⟨?_, ?_⟩
            · rw [cell_eq]
              simp only [cellOf, e3, hz j hj]
              rw [getElem!_pos _ j (by simpa using hj)]
              simp
            · simp [World.frozen?, e3]
          have hn20 : n ≤ 20 := by
            rw [c3]
            by_cases h0 : 1 ≤ u
            · have := Lib.numDigits_eq u h0 (by omega)
              split at this <;> omega
            · rw [Lib.nDigits_small (by omega)]; omega
          have hf := Any.internal_strconv_formatBase10 Tryz.lay285 B off cap u (Array.replicate n 0) w hH0 (by rw [Array.size_replicate, c3]; exact Lib.lt_pow_nDigits u) (by omega) (by rw [Array.size_replicate]; omega)
          rw [Array.size_replicate] at hf
          refine hf.mono ?_
          rintro ee w' ⟨rfl, k, v', dk, rfl, hF⟩
          have hsz : dk.size = n := hF.size
          obtain ⟨ht, hnew⟩ := mapB_touch (w := w) (Go.Sort.putCells (fun (b : UInt8) => Value.int .u8 (b.toNat : Int)) off dk) e3 (fun c => by simp [Go.Sort.putCells])
          have hns : E.kind B ≠ .store := by rw [e2]; exact fun e => by cases e
          have hdl : (Lib.decDigits u).length = n := by rw [Lib.decDigits_length, c3]
          refine ⟨E, ?_, ?_, .tup [] #[] rfl (fun j v x h => by simp at h), .of_strip rfl⟩
          · exact ht.ext (w' := (Go.Sort.putRow (fun (b : UInt8) => Value.int .u8 (b.toNat : Int)) w B off dk).drewN k) hns (by rw [e2]; exact fun e => by cases e) rfl rfl rfl
          · refine hH.touchObj (hp' := (Go.Sort.putRow (fun (b : UInt8) => Value.int .u8 (b.toNat : Int)) w B off dk).heap) ht e2 ⟨B, _, e, q1, e2, hnew, ?_, ?_⟩
            · rw [putAt_length]; simpa [Go.Sort.putCells] using e4
            · intro j v hj
              rw [putAt_get _ _ _ _ (by rw [cellsOfBytes_len, Int.toNat_natCast, hdl]; exact c4)] at hj
              rw [cellsOfBytes_len, Int.toNat_natCast, hdl] at hj
              have hcj : (Go.Sort.putCells (fun (b : UInt8) => Value.int .u8 (b.toNat : Int)) off dk c)[j]? = (c[j]?).map fun x => if off ≤ j ∧ j < off + n then Value.int .u8 ((dk[j - off]!).toNat : Int) else x := by
                simp [Go.Sort.putCells, hsz]
              by_cases hin : off ≤ j ∧ j < off + n
              · rw [if_pos hin, cellsOfBytes_get] at hj
                have hlt : j - off < (Lib.decDigits u).length := by omega
                rw [List.getElem?_eq_getElem hlt] at hj
                cases hj
                have hq := Lib.row_is_numeral (by rw [← c3]; exact hF) (j - off) hlt
                have hcz := hz (j - off) (by omega)
                rw [show off + (j - off) = j by omega] at hcz
                refine ⟨rfl, _, by rw [hcj, hcz, Option.map_some, if_pos hin], ?_, .of_strip rfl⟩
                rw [← hq]
                exact .int _ _
              · rw [if_neg hin] at hj
                obtain ⟨g0, x, g1, g2, g3⟩ := e5 j v hj
                refine ⟨g0, x, by rw [hcj, g1, Option.map_some, if_neg hin], g2.mono (ht.mono hns), g3.mono fun B k hs => ht.spare hns hs⟩
    · cases hr
  · cases hr
end Go.Den

/-
  Events as 27 numbers and texts; their bytes; a block that is filled with what is read (no condition).
-/
import Derived.Test.YtjkjbbmbfobdaaaDoorNum5
namespace Go.Proofs.YtjkjbbmbfobdaaaDoor
set_option linter.unusedSimpArgs false
set_option linter.unusedVariables false
open Go.ChangeShapes Go.WideShapes Go.RowKit
namespace Evt
open Num
/-- what an event holds, place by place -/
structure Ev where
  n : Nat → Int
  t : Nat → ByteArray
instance : Inhabited Ev := ⟨⟨fun _ => 0, fun _ => ⟨#[]⟩⟩⟩
def kinds : List Nat := [0, 0, 0, 0, 0, 0, 0, 0, 0, 0, 0, 0, 0, 0, 0, 0, 0, 0, 0, 0, 2, 2, 2, 2, 0, 1, 2]
def mk (k : Nat) (v : Int) (b : ByteArray) : It := if k = 0 then .n v else if k = 1 then .z v else .t b.data.toList
def Ev.items (e : Ev) : List It := [.n (e.n 0), .n (e.n 1), .n (e.n 2), .n (e.n 3), .n (e.n 4), .n (e.n 5), .n (e.n 6), .n (e.n 7), .n (e.n 8), .n (e.n 9), .n (e.n 10), .n (e.n 11), .n (e.n 12), .n (e.n 13), .n (e.n 14), .n (e.n 15), .n (e.n 16), .n (e.n 17), .n (e.n 18), .n (e.n 19),
  .t (e.t 20).data.toList, .t (e.t 21).data.toList, .t (e.t 22).data.toList, .t (e.t 23).data.toList, .n (e.n 24), .z (e.n 25), .t (e.t 26).data.toList]
def cell : It → Value
  | .n v => .int .i64 v
  | .z v => .int .i64 v
  | .t b => .string ⟨b.toArray⟩
def kind : It → Nat
  | .n _ => 0
  | .z _ => 1
  | .t _ => 2
def int : It → Int
  | .n v => v
  | .z v => v
  | .t _ => 0
def bytes : It → ByteArray
  | .n _ => ⟨#[]⟩
  | .z _ => ⟨#[]⟩
  | .t b => ⟨b.toArray⟩
theorem mk_self (x : It) : mk (kind x) (int x) (bytes x) = x := by cases x <;> rfl
def Ev.cs (e : Ev) : List Value := [.int .i64 (e.n 0), .int .i64 (e.n 1), .int .i64 (e.n 2), .int .i64 (e.n 3), .int .i64 (e.n 4), .int .i64 (e.n 5), .int .i64 (e.n 6), .int .i64 (e.n 7), .int .i64 (e.n 8), .int .i64 (e.n 9), .int .i64 (e.n 10), .int .i64 (e.n 11), .int .i64 (e.n 12), .int .i64 (e.n 13), .int .i64 (e.n 14), .int .i64 (e.n 15), .int .i64 (e.n 16), .int .i64 (e.n 17), .int .i64 (e.n 18), .int .i64 (e.n 19),
  .string (e.t 20), .string (e.t 21), .string (e.t 22), .string (e.t 23), .int .i64 (e.n 24), .int .i64 (e.n 25), .string (e.t 26)]
abbrev Ev.val (e : Ev) : Value := .agg e.cs.toArray
theorem Ev.cs_items (e : Ev) : e.items.map cell = e.cs := rfl
theorem Ev.cs_len (e : Ev) : e.cs.length = 27 := rfl
theorem cell_one (x : It) : (cell x).oneCell' = true := by cases x <;> rfl
theorem Ev.cs_one (e : Ev) : ∀ v ∈ e.cs, v.oneCell' = true := by
  rw [← e.cs_items]
  intro v hv
  obtain ⟨x, _, rfl⟩ := List.mem_map.1 hv
  exact cell_one x
theorem Ev.kinds (e : Ev) : e.items.map kind = Evt.kinds := rfl
/-- what has the kinds of an event is one -/
def evOf (ys : List It) : Ev := ⟨fun i => int (ys.getD i (.n 0)), fun i => bytes (ys.getD i (.n 0))⟩
theorem items_evOf {ys : List It} (h : ys.map kind = kinds) : (evOf ys).items = ys := by
  have hl : ys.length = 27 := by have := congrArg List.length h; simpa [kinds] using this
  have hk : ∀ i, i < 27 → ∀ k, kinds[i]? = some k → mk k (int (ys.getD i (.n 0))) (bytes (ys.getD i (.n 0))) = ys.getD i (.n 0) := fun i hi k hk => by
    rw [← h, List.getElem?_map, List.getElem?_eq_getElem (by omega)] at hk
    rw [List.getD_eq_getElem?_getD, List.getElem?_eq_getElem (by omega)]
    simp only [Option.map_some, Option.some.injEq] at hk
    rw [← hk]
    exact mk_self _
  refine List.ext_getElem? fun i => ?_
  rcases Nat.lt_or_ge i 27 with hi | hi
  · have e : ys[i]? = some (ys.getD i (.n 0)) := by rw [List.getD_eq_getElem?_getD, List.getElem?_eq_getElem (by omega)]; rfl
    rw [e]
    rcases (show i = 0 ∨ i = 1 ∨ i = 2 ∨ i = 3 ∨ i = 4 ∨ i = 5 ∨ i = 6 ∨ i = 7 ∨ i = 8 ∨ i = 9 ∨ i = 10 ∨ i = 11 ∨ i = 12 ∨ i = 13 ∨ i = 14 ∨ i = 15 ∨ i = 16 ∨ i = 17 ∨ i = 18 ∨ i = 19 ∨ i = 20 ∨ i = 21 ∨ i = 22 ∨ i = 23 ∨ i = 24 ∨ i = 25 ∨ i = 26 by omega) with rfl | rfl | rfl | rfl | rfl | rfl | rfl | rfl | rfl | rfl | rfl | rfl | rfl | rfl | rfl | rfl | rfl | rfl | rfl | rfl | rfl | rfl | rfl | rfl | rfl | rfl | rfl
    · exact congrArg some (hk 0 (by decide) 0 rfl)
    · exact congrArg some (hk 1 (by decide) 0 rfl)
    · exact congrArg some (hk 2 (by decide) 0 rfl)
    · exact congrArg some (hk 3 (by decide) 0 rfl)
    · exact congrArg some (hk 4 (by decide) 0 rfl)
    · exact congrArg some (hk 5 (by decide) 0 rfl)
    · exact congrArg some (hk 6 (by decide) 0 rfl)
    · exact congrArg some (hk 7 (by decide) 0 rfl)
    · exact congrArg some (hk 8 (by decide) 0 rfl)
    · exact congrArg some (hk 9 (by decide) 0 rfl)
    · exact congrArg some (hk 10 (by decide) 0 rfl)
    · exact congrArg some (hk 11 (by decide) 0 rfl)
    · exact congrArg some (hk 12 (by decide) 0 rfl)
    · exact congrArg some (hk 13 (by decide) 0 rfl)
    · exact congrArg some (hk 14 (by decide) 0 rfl)
    · exact congrArg some (hk 15 (by decide) 0 rfl)
    · exact congrArg some (hk 16 (by decide) 0 rfl)
    · exact congrArg some (hk 17 (by decide) 0 rfl)
    · exact congrArg some (hk 18 (by decide) 0 rfl)
    · exact congrArg some (hk 19 (by decide) 0 rfl)
    · exact congrArg some (hk 20 (by decide) 2 rfl)
    · exact congrArg some (hk 21 (by decide) 2 rfl)
    · exact congrArg some (hk 22 (by decide) 2 rfl)
    · exact congrArg some (hk 23 (by decide) 2 rfl)
    · exact congrArg some (hk 24 (by decide) 0 rfl)
    · exact congrArg some (hk 25 (by decide) 1 rfl)
    · exact congrArg some (hk 26 (by decide) 2 rfl)
  · rw [List.getElem?_eq_none (by show 27 ≤ i; exact hi), List.getElem?_eq_none (by omega)]
theorem cs_evOf {ys : List It} (h : ys.map kind = kinds) : (evOf ys).cs = ys.map cell := by rw [← Ev.cs_items, items_evOf h]
theorem read_kind (x : It) (s : Rd) : kind (x.read s).1 = kind x := by cases x <;> rfl
theorem readAll_kind : ∀ (xs : List It) (s : Rd), (readAll xs s).1.map kind = xs.map kind
  | [], _ => rfl
  | x :: xs, s => by
    unfold readAll
    simp only [List.map_cons]
    rw [read_kind, readAll_kind xs]
theorem readAll_snoc (x : It) : ∀ (xs : List It) (s : Rd), readAll (xs ++ [x]) s = ((readAll xs s).1 ++ [(x.read (readAll xs s).2).1], (x.read (readAll xs s).2).2)
  | [], s => rfl
  | y :: xs, s => by
    have := readAll_snoc x xs (y.read s).2
    rw [List.cons_append]
    unfold readAll
    rw [this]
    rfl
theorem readAll_len : ∀ (xs : List It) (s : Rd), (readAll xs s).1.length = xs.length
  | [], _ => rfl
  | x :: xs, s => by
    unfold readAll
    simp only [List.length_cons]
    rw [readAll_len xs]
/-- what an event's reading asks for -/
def zero : Ev := ⟨fun _ => 0, fun _ => ⟨#[]⟩⟩
def shape : List It := zero.items
/-- the event that is read, and what is left -/
def nextP (s : Rd) : Ev × Rd := (evOf (readAll shape s).1, (readAll shape s).2)
theorem nextP_items (s : Rd) : (nextP s).1.items = (readAll shape s).1 := items_evOf ((readAll_kind shape s).trans rfl)
/-- the reading of events asks for the same, whichever one's bytes they are -/
theorem read_like {x y : It} (h : kind x = kind y) (s : Rd) : x.read s = y.read s := by cases x <;> cases y <;> first | rfl | cases h
theorem readAll_like : ∀ {xs ys : List It}, xs.map kind = ys.map kind → ∀ s, readAll xs s = readAll ys s
  | [], [], _, _ => rfl
  | [], _ :: _, h, _ => by cases h
  | _ :: _, [], h, _ => by cases h
  | x :: xs, y :: ys, h, s => by
    simp only [List.map_cons, List.cons.injEq] at h
    unfold readAll
    rw [read_like h.1, readAll_like h.2]
theorem readAll_shape (e : Ev) (s : Rd) : readAll e.items s = readAll shape s := readAll_like (by rw [e.kinds]; rfl) s
def Ev.bytes (e : Ev) : List UInt8 := putAll e.items
/-- the cells: those that are known first, then zero's -/
def fillC (vs : List Value) : List Value := vs ++ zero.cs.drop vs.length
theorem fillC_nil : fillC [] = zero.cs := rfl
theorem fillC_full {vs : List Value} (h : vs.length = 27) : fillC vs = vs := by unfold fillC; rw [h, show zero.cs.drop 27 = [] from rfl, List.append_nil]
theorem fillC_len {vs : List Value} (h : vs.length ≤ 27) : (fillC vs).length = 27 := by
  unfold fillC
  rw [List.length_append, List.length_drop, zero.cs_len]
  omega
theorem fillC_set {vs : List Value} (u : Value) (h : vs.length < 27) : (fillC vs).set vs.length u = fillC (vs ++ [u]) := by
  unfold fillC
  rw [List.set_append_right _ _ (Nat.le_refl _), Nat.sub_self, List.drop_eq_getElem_cons (by rw [zero.cs_len]; exact h), List.set_cons_zero, List.length_append, List.append_assoc]
  rfl
/-- k of an event's 27 cells in block g are read, with reader gr -/
structure Fill (w : World) (F : Nat → Prop) (g gr : Nat) (s : Rd) (k : Nat) (wr : World) : Prop where
  blk : Blk wr g 31 (fillC ((readAll (shape.take k) s).1.map cell)).toArray
  rd : RdAt wr F gr (readAll (shape.take k) s).2
  chg : Chg (fun b => b = gr) w wr
  lo : w.heap.size ≤ g
theorem Fill.new {w wr w' : World} {F : Nat → Prop} {g gr k : Nat} {s : Rd} (h : Fill w F g gr s k wr) (hc : New wr w') : Fill w F g gr s k w' :=
  ⟨h.blk.chg hc id, h.rd.new hc, h.chg.trans hc fun _ _ => False.elim, h.lo⟩
theorem Fill.ne {w wr : World} {F : Nat → Prop} {g gr k : Nat} {s : Rd} (h : Fill w F g gr s k wr) : g ≠ gr := by
  obtain ⟨A, n, cp, h1, _⟩ := h.rd.ex
  rintro rfl
  exact Blk.ne_ h.blk h1 (by decide) rfl
/-- behind a reading and its store -/
theorem Fill.step {w wr w1 : World} {F : Nat → Prop} {g gr k : Nat} {s : Rd} (h : Fill w F g gr s k wr) (hw : g ≠ gr) (hk : k < 27) (x : It) (hx : shape[k]? = some x) (hF : ∀ b, F b → b < w.heap.size)
    (hr : RdAt w1 F gr (x.read (readAll (shape.take k) s).2).2) (hc : Chg (fun b => b = gr) wr w1) :
    Fill w F g gr s (k + 1) (w1.setCell ⟨g, k, none⟩ (cell (x.read (readAll (shape.take k) s).2).1)) ∧ w1.cell? ⟨g, k, none⟩ = zero.cs[k]? ∧ w1.frozen? ⟨g, k, none⟩ = false ∧ g < w1.heap.size := by
  have hl : ((readAll (shape.take k) s).1.map cell).length = k := by rw [List.length_map, readAll_len, List.length_take, show shape.length = 27 from rfl]; omega
  have ht : shape.take (k + 1) = shape.take k ++ [x] := by rw [List.take_add_one, hx]; rfl
  have hb := h.blk.chg hc hw
  have hs := hb.set_ k (cell (x.read (readAll (shape.take k) s).2).1)
  have c2 := (Chg.refl (fun b => b = g) w1).setCell (p := ⟨g, k, none⟩) (fun _ => rfl) (cell (x.read (readAll (shape.take k) s).2).1)
  refine ⟨⟨?_, ?_, ?_, h.lo⟩, ?_, hb.frozen k, hb.lt⟩
  · rw [ht, readAll_snoc]
    simp only [List.map_append, List.map_cons, List.map_nil]
    rw [← fillC_set _ (by rw [hl]; exact hk), hl]
    rw [List.setIfInBounds_toArray] at hs
    exact hs
  · rw [ht, readAll_snoc]
    exact hr.chg c2 (fun e => hw e.symm) fun b hb e => by have := hF b hb; have := h.lo; omega
  · exact (h.chg.trans hc fun _ _ e => e).trans c2 fun i hi e => by have := h.lo; omega
  · rw [hb.cell, List.getElem?_toArray]
    unfold fillC
    rw [List.getElem?_append_right (by rw [hl]; exact Nat.le_refl _), hl, Nat.sub_self, List.getElem?_drop, Nat.add_zero]
theorem Fill.full {w wr : World} {F : Nat → Prop} {g gr : Nat} {s : Rd} (h : Fill w F g gr s 27 wr) : Blk wr g 31 (nextP s).1.cs.toArray ∧ RdAt wr F gr (nextP s).2 := by
  have ht : shape.take 27 = shape := rfl
  have hb := h.blk
  have hr := h.rd
  rw [ht] at hb hr
  refine ⟨?_, hr⟩
  have hk : (readAll shape s).1.map kind = kinds := (readAll_kind shape s).trans rfl
  rw [fillC_full (by rw [List.length_map, readAll_len]; rfl), ← cs_evOf hk] at hb
  exact hb
end Evt
end Go.Proofs.YtjkjbbmbfobdaaaDoor

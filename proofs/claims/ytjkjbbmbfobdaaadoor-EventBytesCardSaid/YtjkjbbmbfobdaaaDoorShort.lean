/-
  Short: what it computes; which events an argument may be (no condition beyond the sizes).
-/
import Derived.Test.YtjkjbbmbfobdaaaDoorEvFix2
namespace Go.Proofs.YtjkjbbmbfobdaaaDoor
set_option linter.unusedSimpArgs false
set_option linter.unusedVariables false
open Go.ChangeShapes Go.WideShapes Go.RowKit Go.Deep
namespace Evt
open Val (JoinC)
open Vec Num
attribute [local go_sem ↓] loadDot loadVec loadRow0 storeRow0 loadOnly0 loadOnly1 loadOnly2
def total (e : Ev) : Nat := (e.t 20).size + (e.t 21).size + (e.t 22).size + (e.t 23).size + (e.t 26).size
/-- an event that may come as an argument -/
structure Came (e : Ev) : Prop where
  t : ∀ i, (e.t i).size ≤ 140737488351232
  n : -9223372036854775808 ≤ e.n 25 ∧ e.n 25 ≤ 9223372036854775807
  no : ∀ i, i ≠ 20 → i ≠ 21 → i ≠ 22 → i ≠ 23 → i ≠ 26 → (e.t i).size = 0
theorem Came.fit {e : Ev} (h : Came e) (hs : total e ≤ 300) : Fit e := by
  refine ⟨fun i => ?_, h.n⟩
  unfold total at hs
  by_cases h1 : i = 20
  · subst h1; omega
  by_cases h2 : i = 21
  · subst h2; omega
  by_cases h3 : i = 22
  · subst h3; omega
  by_cases h4 : i = 23
  · subst h4; omega
  by_cases h5 : i = 26
  · subst h5; omega
  · rw [h.no i h1 h2 h3 h4 h5]; decide
theorem short_len {e : Ev} (hs : total e ≤ 300) : e.bytes.length ≤ 600 := by
  have := items_len e
  unfold total at hs
  omega
set_option maxHeartbeats 4000000 in
set_option maxRecDepth 20000 in
theorem short (w : World) (e : Ev) (h : Came e) : Calls Tryd.prog 7 #[e.val] w fun x w' => x = .returned (.bool (decide (total e ≤ 300))) ∧ New w w' := by
  have B := Blk.new w 31 e.cs.toArray
  have c0 : (w.alloc (.cells e.cs.toArray 31)).cell? ⟨w.heap.size, 20, none⟩ = some (.string (e.t 20)) := B.cell 20
  have c1 : (w.alloc (.cells e.cs.toArray 31)).cell? ⟨w.heap.size, 21, none⟩ = some (.string (e.t 21)) := B.cell 21
  have c2 : (w.alloc (.cells e.cs.toArray 31)).cell? ⟨w.heap.size, 22, none⟩ = some (.string (e.t 22)) := B.cell 22
  have c3 : (w.alloc (.cells e.cs.toArray 31)).cell? ⟨w.heap.size, 23, none⟩ = some (.string (e.t 23)) := B.cell 23
  have c4 : (w.alloc (.cells e.cs.toArray 31)).cell? ⟨w.heap.size, 26, none⟩ = some (.string (e.t 26)) := B.cell 26
  have t0 := h.t 20
  have t1 := h.t 21
  have t2 := h.t 22
  have t3 := h.t 23
  have t4 := h.t 26
  have ht : decide (total e ≤ 300) = decide (((e.t 20).size : Int) + (e.t 21).size + (e.t 22).size + (e.t 23).size + (e.t 26).size ≤ 300) := by
    rw [decide_eq_decide]
    unfold total
    omega
  rw [ht]
  obtain ⟨a, ha⟩ : ∃ a, (e.t 20).size = a := ⟨_, rfl⟩
  obtain ⟨b, hb⟩ : ∃ a, (e.t 21).size = a := ⟨_, rfl⟩
  obtain ⟨c, hc⟩ : ∃ a, (e.t 22).size = a := ⟨_, rfl⟩
  obtain ⟨d, hd⟩ : ∃ a, (e.t 23).size = a := ⟨_, rfl⟩
  obtain ⟨f, hf⟩ : ∃ a, (e.t 26).size = a := ⟨_, rfl⟩
  rw [ha] at t0
  rw [hb] at t1
  rw [hc] at t2
  rw [hd] at t3
  rw [hf] at t4
  have w1 : IntKind.i64.wrap ((a : Int) + b) = (a : Int) + b := IntWalk.i64_in _ (by omega)
  have w2 : IntKind.i64.wrap ((a : Int) + b + c) = (a : Int) + b + c := IntWalk.i64_in _ (by omega)
  have w3 : IntKind.i64.wrap ((a : Int) + b + c + d) = (a : Int) + b + c + d := IntWalk.i64_in _ (by omega)
  have w4 : IntKind.i64.wrap ((a : Int) + b + c + d + f) = (a : Int) + b + c + d + f := IntWalk.i64_in _ (by omega)
  rw [ha, hb, hc, hd, hf]
  have g0 := B.lt
  clear B ht t0 t1 t2 t3 t4
  go_enter Tryd.func7, Tryd.ntmps7
  go_wp2_with fail
  go_ret
  exact ⟨rfl, (Chg.refl _ w).alloc _⟩
end Evt
end Go.Proofs.YtjkjbbmbfobdaaaDoor

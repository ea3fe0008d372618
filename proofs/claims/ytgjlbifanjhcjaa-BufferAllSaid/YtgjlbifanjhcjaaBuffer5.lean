/-
  What the program's buffer package computes: the test that Ack hands to slices.DeleteFunc (no condition beyond the sizes).
-/
import Derived.Test.YtgjlbifanjhcjaaBuffer4
import Derived.Test.YtgjlbifanjhcjaaIterE3
namespace Go.Proofs.Ytgjlbifanjhcjaa
open Go.ChangeShapes Go.WideShapes Go.RowKit Go.Deep
namespace Buf
open Vec
theorem test (w : World) (b bp n me : Nat) (acks : List (List Int)) (v : Value) (h : Hd w b n me acks v) (kb : w.cell? ⟨bp, 0, none⟩ = some (ptr b)) (e : Ev) :
    Calls Try.prog 20 #[e.val, ptr bp] w fun x w' => x = .returned (.bool (allF n me acks e.r e.c)) ∧ New w w' := by
  have m1 := (Chg.refl (fun _ => False) w).alloc (.cells e.cs.toArray 35)
  have hbx := Blk.new w 35 e.cs.toArray
  have c0 : (w.alloc (.cells e.cs.toArray 35)).cell? ⟨w.heap.size, 0, none⟩ = some (.int .i64 e.r) := hbx.cell 0
  have c1 : (w.alloc (.cells e.cs.toArray 35)).cell? ⟨w.heap.size, 1, none⟩ = some (.int .i64 e.c) := hbx.cell 1
  have kb1 := (m1.cell (p := ⟨bp, 0, none⟩) (block_lt_of_cell kb) id).trans kb
  have C := Lib.hid (all_hd _ _ _ _ _ _ (h.new m1) e.r e.c)
  have HM := Lib.hid m1
  obtain ⟨X, hX⟩ : ∃ X, e.cs.toArray = X := ⟨_, rfl⟩
  rw [show e.val = .agg X by rw [← hX]]
  rw [hX] at C c0 c1 HM kb1
  clear h m1 hbx hX kb
  go_enter Try.func20, Try.ntmps20
  go_wp2_with fail
  refine C.out.mono ?_
  rintro x w2 ⟨rfl, n2⟩
  have HZ := Lib.hid (HM.out.trans n2 fun _ _ => id)
  clear n2 C
  go_wp2_with fail
  go_ret
  exact ⟨rfl, HZ.out⟩
theorem flat_set (acks : List (List Int)) (hr : ∀ a ∈ acks, a.length = 16) (p : Nat) (hp : p < acks.length) (x : List Int) : (acks.set p x).flatten = acks.flatten.take (p * 16) ++ x ++ acks.flatten.drop (p * 16 + 16) := by
  induction acks generalizing p with
  | nil => simp at hp
  | cons a l ih =>
    have hal := hr a (List.mem_cons_self ..)
    cases p with
    | zero =>
      rw [List.set_cons_zero, List.flatten_cons, List.flatten_cons, Nat.zero_mul, List.take_zero, List.nil_append, Nat.zero_add, List.drop_append, hal, List.drop_of_length_le (by omega), Nat.sub_self, List.drop_zero, List.nil_append]
    | succ p =>
      have ih := ih (fun y hy => hr y (List.mem_cons_of_mem _ hy)) p (by simpa using hp)
      have t1 : a.take ((p + 1) * 16) = a := List.take_of_length_le (by omega)
      have t2 : a.drop ((p + 1) * 16 + 16) = [] := List.drop_of_length_le (by omega)
      rw [List.set_cons_succ, List.flatten_cons, List.flatten_cons, ih, List.take_append, hal, t1, List.drop_append, hal, t2, show (p + 1) * 16 - 16 = p * 16 by omega, show (p + 1) * 16 + 16 - 16 = p * 16 + 16 by omega]
      simp
/-- a buffer's own block, with what one peer is known to know set anew -/
theorem bufC_ack (n me : Int) (acks : List (List Int)) (v : Value) (hr : ∀ a ∈ acks, a.length = 16) (p : Nat) (hp : p < acks.length) (x : List Int) :
    bufC n me (acks.set p x) v = (bufC n me acks v).take (2 + p * 16) ++ ints x ++ (bufC n me acks v).drop (2 + p * 16 + 16) := by
  have hl : (ints acks.flatten).length = acks.length * 16 := by rw [ints_length, flat_len hr]
  unfold bufC
  rw [flat_set acks hr p hp x, show 2 + p * 16 = p * 16 + 1 + 1 by omega, show p * 16 + 1 + 1 + 16 = p * 16 + 16 + 1 + 1 by omega, List.take_succ_cons, List.take_succ_cons, List.drop_succ_cons, List.drop_succ_cons,
    List.take_append_of_le_length (by rw [hl]; omega), List.drop_append_of_le_length (by rw [hl]; omega)]
  simp [ints, List.map_take, List.map_drop]
end Buf
end Go.Proofs.Ytgjlbifanjhcjaa

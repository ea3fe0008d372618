/-
  What the program's vector package computes, the second part: Below, Order, Sum, Right, Dot, Knows, Next and Add (no condition beyond the rows' lengths and Go's int).
-/
import Derived.Test.YtlmdpkkodbgieaaVector
namespace Go.Proofs.Ytlmdpkkodbgieaa
open Go.ChangeShapes Go.WideShapes Go.RowKit
namespace Vec
attribute [local go_sem ↓] loadRow0 storeRow0

set_option maxHeartbeats 1000000 in
theorem below_ (w : World) (xs ys : List Int) (hx : xs.length = 16) (hy : ys.length = 16) :
    Calls Try.prog 14 #[vec xs, vec ys] w fun e w' => e = .returned (.bool (belowF xs ys)) ∧ New w w' := by
  have b1 := (Blk.new w 23 (ints xs).toArray).alloc (.cells (ints ys).toArray 23)
  have b2 := Blk.new1 w (.cells (ints xs).toArray 23) 23 (ints ys).toArray
  have l1 := ldB hx b1.drew
  have l2 := ldB hy b2.drew
  have HB := Lib.hid b2
  have HY := Lib.hid hy
  have HC := Lib.hid (fun W => join_ W xs ys hx hy)
  have eg := eqG
  have ev := fun W => eqV (join_length xs ys) hy W
  clear hx hy b1 b2
  go_enter Try.func14, Try.ntmps14
  go_wp2_with fail
  go_region_with (go_at_call 12; refine (HC.out _).mono ?_; rintro e w1 ⟨rfl, hn1⟩; have l3 := ldB HY.out (HB.out.chg ((Chg.refl (fun _ => False) _).drew.trans hn1 (fun _ _ => False.elim)) id))
  all_goals go_wp2
  all_goals go_ret
  all_goals exact ⟨rfl, ((((Chg.refl _ _).alloc _).alloc _).drew).trans hn1 (fun _ _ => False.elim)⟩

theorem order_eq {xs ys : List Int} (h : (xs == ys) = true) : order xs ys = 0 := by unfold order; rw [h]; rfl
theorem order_lt {xs ys : List Int} (h : (xs == ys) = false) (h1 : belowF xs ys = true) : order xs ys = -1 := by unfold order; rw [h, h1]; rfl
theorem order_gt {xs ys : List Int} (h : (xs == ys) = false) (h1 : belowF xs ys = false) (h2 : belowF ys xs = true) : order xs ys = 1 := by unfold order; rw [h, h1, h2]; rfl
theorem order_no {xs ys : List Int} (h : (xs == ys) = false) (h1 : belowF xs ys = false) (h2 : belowF ys xs = false) : order xs ys = 2 := by unfold order; rw [h, h1, h2]; rfl

set_option maxHeartbeats 2000000 in
theorem order_ (w : World) (xs ys : List Int) (hx : xs.length = 16) (hy : ys.length = 16) :
    Calls Try.prog 15 #[vec xs, vec ys] w fun e w' => e = .returned (.int .i64 (order xs ys)) ∧ New w w' := by
  have b1 := (Blk.new w 23 (ints xs).toArray).alloc (.cells (ints ys).toArray 23)
  have b2 := Blk.new1 w (.cells (ints xs).toArray 23) 23 (ints ys).toArray
  have l1 := ldB hx b1
  have l2 := ldB hy b2
  have eg := eqG
  have ev := fun W => eqV hx hy W
  have C1 := Lib.hid (fun W => below_ W xs ys hx hy)
  have C2 := Lib.hid (fun W => below_ W ys xs hy hx)
  have HX := Lib.hid hx
  have HY := Lib.hid hy
  have B1 := Lib.hid b1
  have B2 := Lib.hid b2
  clear hx hy b1 b2
  cases h : xs == ys with
  | true =>
    have HO := Lib.hid (order_eq h)
    go_enter Try.func15, Try.ntmps15
    go_wp2_with fail
    go_ret
    exact ⟨by rw [HO.out]; rfl, ((Chg.refl _ _).alloc _).alloc _⟩
  | false =>
    cases h1 : belowF xs ys with
    | true =>
      have HO := Lib.hid (order_lt h h1)
      rw [h1] at C1
      clear h1
      go_enter Try.func15, Try.ntmps15
      go_wp2_with fail
      refine (C1.out _).mono ?_
      rintro e w1 ⟨rfl, hn1⟩
      go_wp2
      go_ret
      exact ⟨by rw [HO.out]; rfl, (((Chg.refl _ _).alloc _).alloc _).trans hn1 (fun _ _ => False.elim)⟩
    | false =>
      rw [h1] at C1
      cases h2 : belowF ys xs with
      | true =>
        have HO := Lib.hid (order_gt h h1 h2)
        rw [h2] at C2
        clear h1 h2
        go_enter Try.func15, Try.ntmps15
        go_wp2_with fail
        refine (C1.out _).mono ?_
        rintro e w1 ⟨rfl, hn1⟩
        have l3 := ldB HX.out (B1.out.chg hn1 id)
        have l4 := ldB HY.out (B2.out.chg hn1 id)
        go_wp2_with fail
        refine (C2.out _).mono ?_
        rintro e w2 ⟨rfl, hn2⟩
        go_wp2
        go_ret
        exact ⟨by rw [HO.out]; rfl, ((((Chg.refl _ _).alloc _).alloc _).trans hn1 (fun _ _ => False.elim)).trans hn2 (fun _ _ => False.elim)⟩
      | false =>
        have HO := Lib.hid (order_no h h1 h2)
        rw [h2] at C2
        clear h1 h2
        go_enter Try.func15, Try.ntmps15
        go_wp2_with fail
        refine (C1.out _).mono ?_
        rintro e w1 ⟨rfl, hn1⟩
        have l3 := ldB HX.out (B1.out.chg hn1 id)
        have l4 := ldB HY.out (B2.out.chg hn1 id)
        go_wp2_with fail
        refine (C2.out _).mono ?_
        rintro e w2 ⟨rfl, hn2⟩
        go_wp2
        go_ret
        exact ⟨by rw [HO.out]; rfl, ((((Chg.refl _ _).alloc _).alloc _).trans hn1 (fun _ _ => False.elim)).trans hn2 (fun _ _ => False.elim)⟩

/-- numbers of Go's int -/
def I64 (xs : List Int) : Prop := ∀ x ∈ xs, -9223372036854775808 ≤ x ∧ x ≤ 9223372036854775807
theorem I64.at {xs : List Int} (h : I64 xs) (k : Nat) : -9223372036854775808 ≤ xs.getD k 0 ∧ xs.getD k 0 ≤ 9223372036854775807 := by
  by_cases hk : k < xs.length
  · have : xs.getD k 0 = xs[k] := by simp [List.getD_eq_getElem?_getD, List.getElem?_eq_getElem hk]
    rw [this]
    exact h _ (List.getElem_mem hk)
  · have : xs.getD k 0 = 0 := by simp [List.getD_eq_getElem?_getD, List.getElem?_eq_none (show xs.length ≤ k by omega)]
    rw [this]
    omega
theorem drop_cons {xs : List Int} {k : Nat} (h : k < xs.length) : xs.drop k = xs.getD k 0 :: xs.drop (k + 1) := by
  rw [List.drop_eq_getElem_cons h]
  simp [List.getD_eq_getElem?_getD, List.getElem?_eq_getElem h]
theorem sumF_stop {x n : Int} {l : List Int} (h : 4611686018427387904 - n < max x 0) : sumF (x :: l) n = 4611686018427387904 := by unfold sumF; rw [if_pos h]
theorem sumF_go {x n : Int} {l : List Int} (h : ¬ 4611686018427387904 - n < max x 0) : sumF (x :: l) n = sumF l (n + max x 0) := by
  rw [sumF]; rw [if_neg h]

set_option maxHeartbeats 1000000 in
theorem sum_ (w : World) (xs : List Int) (hx : xs.length = 16) (hi : I64 xs) : Calls Try.prog 17 #[vec xs] w fun e w' => e = .returned (.int .i64 (sumF xs 0)) ∧ New w w' := by
  have l1 := ldB hx (Blk.new w 23 (ints xs).toArray)
  have HX := Lib.hid hx
  clear hx
  go_enter Try.func17, Try.ntmps17
  go_wp2
  go_loop [3, 5, 7] (fun s _ i => ∃ (k : Nat) (n : Int), k ≤ 16 ∧ i = .int .i64 k ∧ s = .int .i64 n ∧ 0 ≤ n ∧ n ≤ 4611686018427387904 ∧ Hid (sumF xs 0 = sumF (xs.drop k) n)) (fun _ _ i => 16 - (intOf i).toNat)
  case atStart => exact ⟨0, 0, by omega, rfl, rfl, by omega, by omega, rfl⟩
  case round =>
    obtain ⟨k, n, hk, rfl, rfl, hn0, hn1, hs⟩ := hrel
    by_cases hlt : k < 16
    · have hix := ixV HX.out hlt
      have hxb := hi.at k
      have hd := drop_cons (show k < xs.length by rw [HX.out]; exact hlt)
      rw [hd] at hs
      clear hd hi
      generalize xs.getD k 0 = x at *
      by_cases h0 : x < 0
      · have hg : ¬ 4611686018427387904 - n < max x 0 := by omega
        rw [sumF_go hg, show max x 0 = 0 by omega] at hs
        go_wp2
        go_round
        case rel => exact ⟨k + 1, n + 0, by omega, by go_num, by go_num, by omega, by omega, hs⟩
        case measure => simp [intOf]; omega
      · by_cases h1 : 4611686018427387904 - n < x
        · rw [sumF_stop (by omega)] at hs
          go_wp2
          go_ret
          exact ⟨by rw [hs.out]; rfl, (Chg.refl _ _).alloc _⟩
        · rw [sumF_go (by omega), show max x 0 = x by omega] at hs
          go_wp2
          go_round
          case rel => exact ⟨k + 1, n + x, by omega, by go_num, by go_num, by omega, by omega, hs⟩
          case measure => simp [intOf]; omega
    · obtain rfl : k = 16 := by omega
      have hd : xs.drop 16 = [] := List.drop_eq_nil_of_le (by rw [HX.out]; exact Nat.le_refl _)
      rw [hd] at hs
      go_wp2
      go_ret
      exact ⟨by rw [hs.out]; rfl, (Chg.refl _ _).alloc _⟩
end Vec
end Go.Proofs.Ytlmdpkkodbgieaa

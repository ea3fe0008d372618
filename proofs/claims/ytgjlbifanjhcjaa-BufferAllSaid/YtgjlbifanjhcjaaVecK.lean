/-
  What the program's vector package computes of dots: Dot, Knows (no condition beyond the rows' lengths).
-/
import Derived.Test.YtgjlbifanjhcjaaVector
namespace Go.Proofs.Ytgjlbifanjhcjaa
open Go.ChangeShapes Go.WideShapes Go.RowKit
namespace Vec
attribute [local go_sem ↓] loadRow0 storeRow0
/-- a dot as a value -/
abbrev dotV (r n : Int) : Value := .agg #[.int .i64 r, .int .i64 n]
theorem dotF_true {r n : Int} : dotF r n = true ↔ 0 ≤ r ∧ r < 16 ∧ 1 ≤ n ∧ n ≤ 1048576 := by
  simp [dotF, and_assoc]
theorem dotF_false {r n : Int} (h : ¬ (0 ≤ r ∧ r < 16 ∧ 1 ≤ n ∧ n ≤ 1048576)) : dotF r n = false := by
  cases hd : dotF r n with
  | false => rfl
  | true => exact absurd (dotF_true.1 hd) h
set_option maxHeartbeats 1000000 in
theorem dot_ (w : World) (r n : Int) : Calls Try.prog 22 #[dotV r n] w fun e w' => e = .returned (.bool (dotF r n)) ∧ w' = w.alloc (.cells #[.int .i64 r, .int .i64 n] 29) := by
  by_cases h1 : 0 ≤ r
  · by_cases h2 : r < 16
    · by_cases h3 : 1 ≤ n
      · by_cases h4 : n ≤ 1048576
        · rw [dotF_true.2 ⟨h1, h2, h3, h4⟩]
          go_enter Try.func22, Try.ntmps22
          go_wp2
          go_ret
          exact ⟨rfl, rfl⟩
        · rw [dotF_false (by omega)]
          go_enter Try.func22, Try.ntmps22
          go_wp2
          go_ret
          exact ⟨rfl, rfl⟩
      · rw [dotF_false (by omega)]
        go_enter Try.func22, Try.ntmps22
        go_wp2
        go_ret
        exact ⟨rfl, rfl⟩
    · rw [dotF_false (by omega)]
      go_enter Try.func22, Try.ntmps22
      go_wp2
      go_ret
      exact ⟨rfl, rfl⟩
  · rw [dotF_false (by omega)]
    go_enter Try.func22, Try.ntmps22
    go_wp2
    go_ret
    exact ⟨rfl, rfl⟩

theorem dot_new (w : World) (r n : Int) : Calls Try.prog 22 #[dotV r n] w fun e w' => e = .returned (.bool (dotF r n)) ∧ New w w' :=
  (dot_ w r n).mono fun _ _ ⟨h1, h2⟩ => ⟨h1, h2 ▸ (Chg.refl _ _).alloc _⟩
set_option maxHeartbeats 1000000 in
theorem knows_ (w : World) (xs : List Int) (r n : Int) (hx : xs.length = 16) : Calls Try.prog 16 #[vec xs, dotV r n] w fun e w' => e = .returned (.bool (knowsF xs r n)) ∧ New w w' := by
  have b1 := (Blk.new w 27 (ints xs).toArray).alloc (.cells #[.int .i64 r, .int .i64 n] 29)
  have b2 := Blk.new1 w (.cells (ints xs).toArray 27) 29 #[.int .i64 r, .int .i64 n]
  have d0 := fun x : ChgW (fun _ => False) ((w.alloc (.cells (ints xs).toArray 27)).alloc (.cells #[.int .i64 r, .int .i64 n] 29)) => (b2.chg x.chg id).cell 0
  have d1 := fun x : ChgW (fun _ => False) ((w.alloc (.cells (ints xs).toArray 27)).alloc (.cells #[.int .i64 r, .int .i64 n] 29)) => (b2.chg x.chg id).cell 1
  simp only [List.getElem?_toArray, List.getElem?_cons_zero, List.getElem?_cons_succ] at d0 d1
  cases hd : dotF r n with
  | false =>
    have hk : knowsF xs r n = false := by simp [knowsF, hd]
    rw [hk]
    have HC := Lib.hid (fun W => dot_new W r n)
    rw [hd] at HC
    clear hd hk b1 b2
    go_enter Try.func16, Try.ntmps16
    go_wp2_with fail
    refine wp_region_chg (fun _ => False) (by kernel_rfl) (by kernel_rfl) ?_
    repeat (go_big_quiet_step ((go_at_call 22; exact calls_new (HC.out _))))
    refine wpQuiet_nil ?_
    rintro ⟨wq, hq⟩
    simp only []
    go_wp2
    go_ret
    exact ⟨rfl, ((Chg.refl _ _).alloc _).alloc _ |>.trans hq (fun _ _ => False.elim)⟩
  | true =>
    obtain ⟨h1, h2, h3, h4⟩ := dotF_true.1 hd
    obtain ⟨i, rfl⟩ := Int.eq_ofNat_of_zero_le h1
    have hk : knowsF xs i n = decide (n ≤ xs.getD i 0) := by simp [knowsF, hd]
    rw [hk]
    have HC := Lib.hid (fun W => dot_new W i n)
    rw [hd] at HC
    have ca := fun x : ChgW (fun _ => False) ((w.alloc (.cells (ints xs).toArray 27)).alloc (.cells #[.int .i64 i, .int .i64 n] 29)) => (b1.chg x.chg id).cell i
    rw [List.getElem?_toArray, ints_get, get_getD (by omega)] at ca
    simp only [Option.map_some] at ca
    generalize xs.getD i 0 = x at *
    clear hd hk h1 hx b1 b2
    go_enter Try.func16, Try.ntmps16
    go_wp2_with fail
    refine wp_region_chg (fun _ => False) (by kernel_rfl) (by kernel_rfl) ?_
    repeat (go_big_quiet_step ((go_at_call 22; exact calls_new (HC.out _))))
    refine wpQuiet_nil ?_
    rintro ⟨wq, hq⟩
    simp only []
    go_wp2
    go_ret
    exact ⟨rfl, ((Chg.refl _ _).alloc _).alloc _ |>.trans hq (fun _ _ => False.elim)⟩
end Vec
end Go.Proofs.Ytgjlbifanjhcjaa

/-
  What the program's vector package computes, the third part: Right, Dot, Knows, Next, Add, clamp (no condition beyond the rows' lengths and Go's int).
-/
import Derived.Test.YtlmdpkkodbgieaaVector2
namespace Go.Proofs.Ytlmdpkkodbgieaa
open Go.ChangeShapes Go.WideShapes Go.RowKit
namespace Vec
attribute [local go_sem ↓] loadRow0 storeRow0

set_option maxHeartbeats 1000000 in
theorem right_ (w : World) (xs : List Int) (hx : xs.length = 16) : Calls Try.prog 16 #[vec xs] w fun e w' => e = .returned (.bool (rightF xs)) ∧ New w w' := by
  have l1 := ldB hx (Blk.new w 23 (ints xs).toArray)
  have HX := Lib.hid hx
  clear hx
  go_enter Try.func16, Try.ntmps16
  go_wp2
  go_loop [4, 6] (fun _ i => ∃ (k : Nat), k ≤ 16 ∧ i = .int .i64 k ∧ Hid (rightF xs = rightF (xs.drop k))) (fun _ i => 16 - (intOf i).toNat)
  case atStart => exact ⟨0, by omega, rfl, rfl⟩
  case round =>
    obtain ⟨k, hk, rfl, hs⟩ := hrel
    by_cases hlt : k < 16
    · have hix := ixV HX.out hlt
      have hd := drop_cons (show k < xs.length by rw [HX.out]; exact hlt)
      rw [hd] at hs
      clear hd
      generalize xs.getD k 0 = x at *
      by_cases h0 : x < 0
      · have hf : rightF (x :: xs.drop (k + 1)) = false := by
          have : decide (0 ≤ x) = false := by simp; omega
          simp [rightF, this]
        rw [hf] at hs
        go_wp2
        go_ret
        exact ⟨by rw [hs.out]; rfl, (Chg.refl _ _).alloc _⟩
      · by_cases h1 : 1048576 < x
        · have hf : rightF (x :: xs.drop (k + 1)) = false := by
            have : decide (x ≤ 1048576) = false := by simp; omega
            simp [rightF, this]
          rw [hf] at hs
          go_wp2
          go_ret
          exact ⟨by rw [hs.out]; rfl, (Chg.refl _ _).alloc _⟩
        · have hf : rightF (x :: xs.drop (k + 1)) = rightF (xs.drop (k + 1)) := by
            have h2 : decide (0 ≤ x) = true := by simp; omega
            have h3 : decide (x ≤ 1048576) = true := by simp; omega
            simp [rightF, h2, h3]
          rw [hf] at hs
          go_wp2
          go_round
          case rel => exact ⟨k + 1, by omega, by go_num, hs⟩
          case measure => simp [intOf]; omega
    · obtain rfl : k = 16 := by omega
      have hd : xs.drop 16 = [] := List.drop_eq_nil_of_le (by rw [HX.out]; exact Nat.le_refl _)
      rw [hd] at hs
      go_wp2
      go_ret
      exact ⟨by rw [hs.out]; rfl, (Chg.refl _ _).alloc _⟩

/-- a dot as a value -/
abbrev dotV (r n : Int) : Value := .agg #[.int .i64 r, .int .i64 n]
theorem dotF_true {r n : Int} : dotF r n = true ↔ 0 ≤ r ∧ r < 16 ∧ 1 ≤ n ∧ n ≤ 1048576 := by
  simp [dotF, and_assoc]
theorem dotF_false {r n : Int} (h : ¬ (0 ≤ r ∧ r < 16 ∧ 1 ≤ n ∧ n ≤ 1048576)) : dotF r n = false := by
  cases hd : dotF r n with
  | false => rfl
  | true => exact absurd (dotF_true.1 hd) h
set_option maxHeartbeats 1000000 in
theorem dot_ (w : World) (r n : Int) : Calls Try.prog 18 #[dotV r n] w fun e w' => e = .returned (.bool (dotF r n)) ∧ w' = w.alloc (.cells #[.int .i64 r, .int .i64 n] 28) := by
  by_cases h1 : 0 ≤ r
  · by_cases h2 : r < 16
    · by_cases h3 : 1 ≤ n
      · by_cases h4 : n ≤ 1048576
        · rw [dotF_true.2 ⟨h1, h2, h3, h4⟩]
          go_enter Try.func18, Try.ntmps18
          go_wp2
          go_ret
          exact ⟨rfl, rfl⟩
        · rw [dotF_false (by omega)]
          go_enter Try.func18, Try.ntmps18
          go_wp2
          go_ret
          exact ⟨rfl, rfl⟩
      · rw [dotF_false (by omega)]
        go_enter Try.func18, Try.ntmps18
        go_wp2
        go_ret
        exact ⟨rfl, rfl⟩
    · rw [dotF_false (by omega)]
      go_enter Try.func18, Try.ntmps18
      go_wp2
      go_ret
      exact ⟨rfl, rfl⟩
  · rw [dotF_false (by omega)]
    go_enter Try.func18, Try.ntmps18
    go_wp2
    go_ret
    exact ⟨rfl, rfl⟩

theorem dot_new (w : World) (r n : Int) : Calls Try.prog 18 #[dotV r n] w fun e w' => e = .returned (.bool (dotF r n)) ∧ New w w' :=
  (dot_ w r n).mono fun _ _ ⟨h1, h2⟩ => ⟨h1, h2 ▸ (Chg.refl _ _).alloc _⟩
set_option maxHeartbeats 1000000 in
theorem knows_ (w : World) (xs : List Int) (r n : Int) (hx : xs.length = 16) : Calls Try.prog 10 #[vec xs, dotV r n] w fun e w' => e = .returned (.bool (knowsF xs r n)) ∧ New w w' := by
  have b1 := (Blk.new w 23 (ints xs).toArray).alloc (.cells #[.int .i64 r, .int .i64 n] 28)
  have b2 := Blk.new1 w (.cells (ints xs).toArray 23) 28 #[.int .i64 r, .int .i64 n]
  have d0 := fun x : ChgW (fun _ => False) ((w.alloc (.cells (ints xs).toArray 23)).alloc (.cells #[.int .i64 r, .int .i64 n] 28)) => (b2.chg x.chg id).cell 0
  have d1 := fun x : ChgW (fun _ => False) ((w.alloc (.cells (ints xs).toArray 23)).alloc (.cells #[.int .i64 r, .int .i64 n] 28)) => (b2.chg x.chg id).cell 1
  simp only [List.getElem?_toArray, List.getElem?_cons_zero, List.getElem?_cons_succ] at d0 d1
  cases hd : dotF r n with
  | false =>
    have hk : knowsF xs r n = false := by simp [knowsF, hd]
    rw [hk]
    have HC := Lib.hid (fun W => dot_new W r n)
    rw [hd] at HC
    clear hd hk b1 b2
    go_enter Try.func10, Try.ntmps10
    go_wp2_with fail
    refine wp_region_chg (fun _ => False) (by kernel_rfl) (by kernel_rfl) ?_
    repeat (go_big_quiet_step ((go_at_call 18; exact calls_new (HC.out _))))
    refine wpQuiet_nil ?_
    rintro ⟨wq, hq⟩
    simp only []
    go_wp2
    go_ret
    exact ⟨rfl, ((Chg.refl _ _).alloc _).alloc _ |>.trans hq (fun _ _ => False.elim)⟩
  | true =>
    obtain ⟨h1, h2, h3, h4⟩ := dotF_true.1 hd
    obtain ⟨i, rfl⟩ := Int.eq_ofNat_of_zero_le h1
    have hk : knowsF xs i n = decide (n ≤ xs.getD i 0) := by simp [knowsF, hd]
    rw [hk]
    have HC := Lib.hid (fun W => dot_new W i n)
    rw [hd] at HC
    have ca := fun x : ChgW (fun _ => False) ((w.alloc (.cells (ints xs).toArray 23)).alloc (.cells #[.int .i64 i, .int .i64 n] 28)) => (b1.chg x.chg id).cell i
    rw [List.getElem?_toArray, ints_get, get_getD (by omega)] at ca
    simp only [Option.map_some] at ca
    generalize xs.getD i 0 = x at *
    clear hd hk h1 hx b1 b2
    go_enter Try.func10, Try.ntmps10
    go_wp2_with fail
    refine wp_region_chg (fun _ => False) (by kernel_rfl) (by kernel_rfl) ?_
    repeat (go_big_quiet_step ((go_at_call 18; exact calls_new (HC.out _))))
    refine wpQuiet_nil ?_
    rintro ⟨wq, hq⟩
    simp only []
    go_wp2
    go_ret
    exact ⟨rfl, ((Chg.refl _ _).alloc _).alloc _ |>.trans hq (fun _ _ => False.elim)⟩
set_option maxHeartbeats 1000000 in
theorem next_ (w : World) (xs : List Int) (r n : Int) (hx : xs.length = 16) : Calls Try.prog 9 #[vec xs, dotV r n] w fun e w' => e = .returned (.bool (nextF xs r n)) ∧ New w w' := by
  have b1 := (Blk.new w 23 (ints xs).toArray).alloc (.cells #[.int .i64 r, .int .i64 n] 28)
  have b2 := Blk.new1 w (.cells (ints xs).toArray 23) 28 #[.int .i64 r, .int .i64 n]
  have d0 := fun x : ChgW (fun _ => False) ((w.alloc (.cells (ints xs).toArray 23)).alloc (.cells #[.int .i64 r, .int .i64 n] 28)) => (b2.chg x.chg id).cell 0
  have d1 := fun x : ChgW (fun _ => False) ((w.alloc (.cells (ints xs).toArray 23)).alloc (.cells #[.int .i64 r, .int .i64 n] 28)) => (b2.chg x.chg id).cell 1
  simp only [List.getElem?_toArray, List.getElem?_cons_zero, List.getElem?_cons_succ] at d0 d1
  cases hd : dotF r n with
  | false =>
    have hk : nextF xs r n = false := by simp [nextF, hd]
    rw [hk]
    have HC := Lib.hid (fun W => dot_new W r n)
    rw [hd] at HC
    clear hd hk b1 b2
    go_enter Try.func9, Try.ntmps9
    go_wp2_with fail
    refine wp_region_chg (fun _ => False) (by kernel_rfl) (by kernel_rfl) ?_
    repeat (go_big_quiet_step ((go_at_call 18; exact calls_new (HC.out _))))
    refine wpQuiet_nil ?_
    rintro ⟨wq, hq⟩
    simp only []
    go_wp2
    go_ret
    exact ⟨rfl, ((Chg.refl _ _).alloc _).alloc _ |>.trans hq (fun _ _ => False.elim)⟩
  | true =>
    obtain ⟨h1, h2, h3, h4⟩ := dotF_true.1 hd
    obtain ⟨i, rfl⟩ := Int.eq_ofNat_of_zero_le h1
    have hk : nextF xs i n = (xs.getD i 0 == n - 1) := by simp [nextF, hd]
    rw [hk]
    have HC := Lib.hid (fun W => dot_new W i n)
    rw [hd] at HC
    have ca := fun x : ChgW (fun _ => False) ((w.alloc (.cells (ints xs).toArray 23)).alloc (.cells #[.int .i64 i, .int .i64 n] 28)) => (b1.chg x.chg id).cell i
    rw [List.getElem?_toArray, ints_get, get_getD (by omega)] at ca
    simp only [Option.map_some] at ca
    generalize xs.getD i 0 = x at *
    have ew : IntKind.i64.wrap (n - 1) = n - 1 := IntWalk.i64_in _ (by omega)
    clear hd hk h1 hx b1 b2
    go_enter Try.func9, Try.ntmps9
    go_wp2_with fail
    refine wp_region_chg (fun _ => False) (by kernel_rfl) (by kernel_rfl) ?_
    repeat (go_big_quiet_step ((go_at_call 18; exact calls_new (HC.out _))))
    refine wpQuiet_nil ?_
    rintro ⟨wq, hq⟩
    simp only []
    go_wp2
    go_ret
    exact ⟨rfl, ((Chg.refl _ _).alloc _).alloc _ |>.trans hq (fun _ _ => False.elim)⟩

theorem addF_no {xs : List Int} {r n : Int} (h : dotF r n = false) : addF xs r n = xs := by simp [addF, h]
theorem addF_known {xs : List Int} {r n : Int} (h : knowsF xs r n = true) : addF xs r n = xs := by simp [addF, h]
theorem addF_yes {xs : List Int} {r n : Int} (h : dotF r n = true) (h1 : knowsF xs r n = false) : addF xs r n = xs.set r.toNat n := by simp [addF, h, h1]
set_option maxHeartbeats 2000000 in
theorem add_ (w : World) (xs : List Int) (r n : Int) (hx : xs.length = 16) : Calls Try.prog 11 #[vec xs, dotV r n] w fun e w' => e = .returned (vec (addF xs r n)) ∧ New w w' := by
  have hz := zero_vec
  have b1 := ((Blk.new w 23 (ints xs).toArray).alloc (.cells #[.int .i64 r, .int .i64 n] 28)).alloc (.cells (ints zeros).toArray 23)
  have b2 := (Blk.new1 w (.cells (ints xs).toArray 23) 28 #[.int .i64 r, .int .i64 n]).alloc (.cells (ints zeros).toArray 23)
  have b3 := Blk.new2 w (.cells (ints xs).toArray 23) (.cells #[.int .i64 r, .int .i64 n] 28) 23 (ints zeros).toArray
  have hn0 : New w (((w.alloc (.cells (ints xs).toArray 23)).alloc (.cells #[.int .i64 r, .int .i64 n] 28)).alloc (.cells (ints zeros).toArray 23)) := ((Chg.refl _ _).alloc _).alloc _ |>.alloc _
  have C1 := Lib.hid (fun W => dot_new W r n)
  have C2 := Lib.hid (fun W => knows_ W xs r n hx)
  have HX := Lib.hid hx
  have B1 := Lib.hid b1
  have B2 := Lib.hid b2
  have B3 := Lib.hid b3
  have HN := Lib.hid hn0
  clear hx b1 b2 b3 hn0
  cases hd : dotF r n with
  | false =>
    rw [addF_no hd]
    rw [hd] at C1
    clear hd
    go_enter Try.func11, Try.ntmps11
    go_wp2_with fail
    refine (C1.out _).mono ?_
    rintro e w1 ⟨rfl, hn1⟩
    have l1 := ldB HX.out (B1.out.chg hn1 id)
    obtain ⟨s1, hb2⟩ := stB zeros_length HX.out (B3.out.chg hn1 id)
    have HB2 := Lib.hid hb2
    clear hb2
    go_wp2
    exact bodyPost_ret (resV rfl _ _ (w.heap.size + 2) _ _ HX.out rfl HB2.out) rfl ⟨rfl, Chg.setCells _ _ _ (HN.out.trans hn1 (fun _ _ => False.elim)) (fun h => by omega)⟩
  | true =>
    rw [hd] at C1
    cases hk : knowsF xs r n with
    | true =>
      rw [addF_known hk]
      rw [hk] at C2
      clear hd hk
      go_enter Try.func11, Try.ntmps11
      go_wp2_with fail
      refine (C1.out _).mono ?_
      rintro e w1 ⟨rfl, hn1⟩
      have l1 := ldB HX.out (B1.out.chg hn1 id)
      have c0 := (B2.out.chg hn1 id).cell 0
      have c1 := (B2.out.chg hn1 id).cell 1
      simp only [List.getElem?_toArray, List.getElem?_cons_zero, List.getElem?_cons_succ] at c0 c1
      go_wp2_with fail
      refine (C2.out _).mono ?_
      rintro e w2 ⟨rfl, hn2⟩
      have l2 := ldB HX.out ((B1.out.chg hn1 id).chg hn2 id)
      obtain ⟨s1, hb2⟩ := stB zeros_length HX.out ((B3.out.chg hn1 id).chg hn2 id)
      have HB2 := Lib.hid hb2
      clear hb2
      go_wp2
      exact bodyPost_ret (resV rfl _ _ (w.heap.size + 2) _ _ HX.out rfl HB2.out) rfl ⟨rfl, Chg.setCells _ _ _ ((HN.out.trans hn1 (fun _ _ => False.elim)).trans hn2 (fun _ _ => False.elim)) (fun h => by omega)⟩
    | false =>
      rw [addF_yes hd hk]
      rw [hk] at C2
      obtain ⟨h1, h2, h3, h4⟩ := dotF_true.1 hd
      obtain ⟨i, rfl⟩ := Int.eq_ofNat_of_zero_le h1
      rw [Int.toNat_natCast]
      clear hd hk
      go_enter Try.func11, Try.ntmps11
      go_wp2_with fail
      refine (C1.out _).mono ?_
      rintro e w1 ⟨rfl, hn1⟩
      have l1 := ldB HX.out (B1.out.chg hn1 id)
      have c0 := (B2.out.chg hn1 id).cell 0
      have c1 := (B2.out.chg hn1 id).cell 1
      simp only [List.getElem?_toArray, List.getElem?_cons_zero, List.getElem?_cons_succ] at c0 c1
      go_wp2_with fail
      refine (C2.out _).mono ?_
      rintro e w2 ⟨rfl, hn2⟩
      have k1 := (B1.out.chg hn1 id).chg hn2 id
      have k2 := (B2.out.chg hn1 id).chg hn2 id
      have k3 := (B3.out.chg hn1 id).chg hn2 id
      have m0 := k2.cell 0
      have m1 := k2.cell 1
      simp only [List.getElem?_toArray, List.getElem?_cons_zero, List.getElem?_cons_succ] at m0 m1
      have ci := k1.cell i
      rw [List.getElem?_toArray, ints_get, get_getD (by rw [HX.out]; omega)] at ci
      simp only [Option.map_some] at ci
      have fi := k1.frozen i
      have hsl : (xs.set i n).length = 16 := by rw [List.length_set]; exact HX.out
      have k4 := k1.set_ i (.int .i64 n)
      rw [setIfInBounds_toArray, ints_set] at k4
      have l2 := ldB hsl k4
      obtain ⟨s1, hb2⟩ := stB zeros_length hsl (k3.far (p := ⟨w.heap.size, i, none⟩) (by simp) (.int .i64 n))
      have HB2 := Lib.hid hb2
      have HS := Lib.hid hsl
      have HCH := Lib.hid (((HN.out.trans hn1 (fun _ _ => False.elim)).trans hn2 (fun _ _ => False.elim)).setCell (p := ⟨w.heap.size, i, none⟩) (fun h => by simp at h) (.int .i64 n))
      clear hb2 k1 k2 k3 k4 hsl hn1 hn2
      go_wp2
      exact bodyPost_ret (resV rfl _ _ (w.heap.size + 2) _ _ HS.out rfl HB2.out) rfl ⟨rfl, Chg.setCells _ _ _ HCH.out (fun h => by omega)⟩

theorem clamp_ (w : World) (x : Int) : Calls Try.prog 19 #[.int .i64 x] w fun e w' => e = .returned (.int .i64 (clamp x)) ∧ w = w' := by
  by_cases h0 : x < 0
  · rw [show clamp x = 0 by unfold clamp; omega]
    go_enter Try.func19, Try.ntmps19
    go_wp2
    go_ret
    exact ⟨rfl, rfl⟩
  · by_cases h1 : 1048576 < x
    · rw [show clamp x = 1048576 by unfold clamp; omega]
      go_enter Try.func19, Try.ntmps19
      go_wp2
      go_ret
      exact ⟨rfl, rfl⟩
    · rw [show clamp x = x by unfold clamp; omega]
      go_enter Try.func19, Try.ntmps19
      go_wp2
      go_ret
      exact ⟨rfl, rfl⟩
end Vec
end Go.Proofs.Ytlmdpkkodbgieaa

/-
  What the program's vector package computes of events' pasts and dots: Dot, Right, Next (no condition beyond the rows' lengths).
-/
import Derived.Test.YtjkjbbmbfobdaaaDoorVectorPlain
import Derived.Test.YtjkjbbmbfobdaaaDoorArrays
namespace Go.Proofs.YtjkjbbmbfobdaaaDoor
set_option linter.unusedSimpArgs false
set_option linter.unusedVariables false
open Go.ChangeShapes Go.WideShapes Go.RowKit
namespace Vec
theorem loadRow0 (p : Value) : Instr.loadAt 25 p = LoadRowV 25 p := rfl
theorem storeRow0 (p v : Value) : Instr.storeAt 25 p v = StoreRowV 25 p v := rfl
attribute [local go_sem ↓] loadRow0 storeRow0
/-- a vector as a value -/
abbrev vec (xs : List Int) : Value := .agg (ints xs).toArray
abbrev TV : TypeId := 25
noncomputable def intI : TypeInfo := ((Tryd.prog.info? 3).getD default)
theorem intInfo : Tryd.prog.info? 3 = some intI ∧ intI.size = 1 := ⟨by kernel_rfl, by kernel_rfl⟩
theorem zero_vec (w : World) : (zeroValue 25).run Tryd.prog w = .ok (.agg (ints (zeros)).toArray) w := by kernel_rfl
theorem ldV {w : World} {b o : Nat} {xs : List Int} (hl : xs.length = 16) (h : w.rangeAt b o (ints xs)) : (LoadRow 25 ⟨b, o, none⟩).run Tryd.prog w = .ok (vec xs) w :=
  run_LoadRow (P := Tryd.prog) (t := 25) Tryd.underlying25 rfl (n := 16) (by kernel_rfl) (by rw [ints_length, hl]) h
theorem ldB {w : World} {b : Nat} {t : TypeId} {xs : List Int} (hl : xs.length = 16) (h : Blk w b t (ints xs).toArray) : (LoadRow 25 ⟨b, 0, none⟩).run Tryd.prog w = .ok (vec xs) w := ldV hl h.range_all
theorem ixV {xs : List Int} (hl : xs.length = 16) {k : Nat} (hk : k < 16) (w : World) : (Instr.index 25 (vec xs) (.int .i64 (k : Int))).run Tryd.prog w = .ok (.int .i64 (xs.getD k 0)) w :=
  run_index_ints (P := Tryd.prog) (t := 25) Tryd.underlying25 intInfo.1 intInfo.2 ⟨_, Tryd.underlying3, rfl⟩ hl hk w
theorem eqV {xs ys : List Int} (hx : xs.length = 16) (hy : ys.length = 16) (w : World) : (binOp .eql 25 (vec xs) (vec ys)).run Tryd.prog w = .ok (.bool (xs == ys)) w :=
  run_eql_ints (P := Tryd.prog) Tryd.underlying25 Tryd.underlying3 intInfo.1 intInfo.2 xs ys hx hy w
theorem eqG (x y : Operand) (a b : Array Value) (w : World) : (eqGuard .eql 25 x y (.agg a) (.agg b)).run Tryd.prog w = .ok () w := run_eqGuard_agg (by kernel_rfl) x y a b w
/-- a dot as a value -/
abbrev dotV (r n : Int) : Value := .agg #[.int .i64 r, .int .i64 n]
theorem dotF_true {r n : Int} : dotF r n = true ↔ 0 ≤ r ∧ r < 16 ∧ 1 ≤ n ∧ n ≤ 1048576 := by
  simp [dotF, and_assoc]
theorem dotF_false {r n : Int} (h : ¬ (0 ≤ r ∧ r < 16 ∧ 1 ≤ n ∧ n ≤ 1048576)) : dotF r n = false := by
  cases hd : dotF r n with
  | false => rfl
  | true => exact absurd (dotF_true.1 hd) h
set_option maxHeartbeats 1000000 in
set_option maxRecDepth 20000 in
theorem dot_ (w : World) (r n : Int) : Calls Tryd.prog 33 #[dotV r n] w fun e w' => e = .returned (.bool (dotF r n)) ∧ w' = w.alloc (.cells #[.int .i64 r, .int .i64 n] 23) := by
  by_cases h1 : 0 ≤ r
  · by_cases h2 : r < 16
    · by_cases h3 : 1 ≤ n
      · by_cases h4 : n ≤ 1048576
        · rw [dotF_true.2 ⟨h1, h2, h3, h4⟩]
          go_enter Tryd.func33, Tryd.ntmps33
          go_wp2
          go_ret
          exact ⟨rfl, rfl⟩
        · rw [dotF_false (by omega)]
          go_enter Tryd.func33, Tryd.ntmps33
          go_wp2
          go_ret
          exact ⟨rfl, rfl⟩
      · rw [dotF_false (by omega)]
        go_enter Tryd.func33, Tryd.ntmps33
        go_wp2
        go_ret
        exact ⟨rfl, rfl⟩
    · rw [dotF_false (by omega)]
      go_enter Tryd.func33, Tryd.ntmps33
      go_wp2
      go_ret
      exact ⟨rfl, rfl⟩
  · rw [dotF_false (by omega)]
    go_enter Tryd.func33, Tryd.ntmps33
    go_wp2
    go_ret
    exact ⟨rfl, rfl⟩

theorem dot_new (w : World) (r n : Int) : Calls Tryd.prog 33 #[dotV r n] w fun e w' => e = .returned (.bool (dotF r n)) ∧ New w w' :=
  (dot_ w r n).mono fun _ _ ⟨h1, h2⟩ => ⟨h1, h2 ▸ (Chg.refl _ _).alloc _⟩
theorem drop_cons {xs : List Int} {k : Nat} (h : k < xs.length) : xs.drop k = xs.getD k 0 :: xs.drop (k + 1) := by
  rw [List.drop_eq_getElem_cons h]
  simp [List.getD_eq_getElem?_getD, List.getElem?_eq_getElem h]
set_option maxHeartbeats 1000000 in
set_option maxRecDepth 20000 in
theorem right_ (w : World) (xs : List Int) (hx : xs.length = 16) : Calls Tryd.prog 20 #[vec xs] w fun e w' => e = .returned (.bool (rightF xs)) ∧ New w w' := by
  have l1 := ldB hx (Blk.new w 25 (ints xs).toArray)
  have HX := Lib.hid hx
  clear hx
  go_enter Tryd.func20, Tryd.ntmps20
  go_wp2
  go_loop [4, 6] (fun _ i => ∃ (k : Nat), k ≤ 16 ∧ i = .int .i64 k ∧ Hid (rightF xs = rightF (xs.drop k))) (fun _ i => 16 - (intOf i).toNat)
  case atStart => exact ⟨0, by omega, rfl, rfl⟩
  case round =>
    obtain ⟨k, hk, rfl, hs⟩ := hrel
    by_cases hlt : k < 16
    · have hix := ixV HX.out hlt
      have hd := drop_cons (show k < xs.length by rw [HX.out]; exact hlt)
      rw [hd] at hs
      clear hd
      generalize xs.getD k 0 = x at *
      by_cases h0 : x < 0
      · have hf : rightF (x :: xs.drop (k + 1)) = false := by
          have : decide (0 ≤ x) = false := by simp; omega
          simp [rightF, this]
        rw [hf] at hs
        go_wp2
        go_ret
        exact ⟨by rw [hs.out]; rfl, (Chg.refl _ _).alloc _⟩
      · by_cases h1 : 1048576 < x
        · have hf : rightF (x :: xs.drop (k + 1)) = false := by
            have : decide (x ≤ 1048576) = false := by simp; omega
            simp [rightF, this]
          rw [hf] at hs
          go_wp2
          go_ret
          exact ⟨by rw [hs.out]; rfl, (Chg.refl _ _).alloc _⟩
        · have hf : rightF (x :: xs.drop (k + 1)) = rightF (xs.drop (k + 1)) := by
            have h2 : decide (0 ≤ x) = true := by simp; omega
            have h3 : decide (x ≤ 1048576) = true := by simp; omega
            simp [rightF, h2, h3]
          rw [hf] at hs
          go_wp2
          go_round
          case rel => exact ⟨k + 1, by omega, by go_num, hs⟩
          case measure => simp [intOf]; omega
    · obtain rfl : k = 16 := by omega
      have hd : xs.drop 16 = [] := List.drop_eq_nil_of_le (by rw [HX.out]; exact Nat.le_refl _)
      rw [hd] at hs
      go_wp2
      go_ret
      exact ⟨by rw [hs.out]; rfl, (Chg.refl _ _).alloc _⟩

set_option maxHeartbeats 1000000 in
set_option maxRecDepth 20000 in
theorem next_ (w : World) (xs : List Int) (r n : Int) (hx : xs.length = 16) : Calls Tryd.prog 19 #[vec xs, dotV r n] w fun e w' => e = .returned (.bool (nextF xs r n)) ∧ New w w' := by
  have b1 := (Blk.new w 25 (ints xs).toArray).alloc (.cells #[.int .i64 r, .int .i64 n] 23)
  have b2 := Blk.new1 w (.cells (ints xs).toArray 25) 23 #[.int .i64 r, .int .i64 n]
  have d0 := fun x : ChgW (fun _ => False) ((w.alloc (.cells (ints xs).toArray 25)).alloc (.cells #[.int .i64 r, .int .i64 n] 23)) => (b2.chg x.chg id).cell 0
  have d1 := fun x : ChgW (fun _ => False) ((w.alloc (.cells (ints xs).toArray 25)).alloc (.cells #[.int .i64 r, .int .i64 n] 23)) => (b2.chg x.chg id).cell 1
  simp only [List.getElem?_toArray, List.getElem?_cons_zero, List.getElem?_cons_succ] at d0 d1
  cases hd : dotF r n with
  | false =>
    have hk : nextF xs r n = false := by simp [nextF, hd]
    rw [hk]
    have HC := Lib.hid (fun W => dot_new W r n)
    rw [hd] at HC
    clear hd hk b1 b2
    go_enter Tryd.func19, Tryd.ntmps19
    go_wp2_with fail
    refine wp_region_chg (fun _ => False) (by kernel_rfl) (by kernel_rfl) ?_
    repeat (go_big_quiet_step ((go_at_call 33; exact calls_new (HC.out _))))
    refine wpQuiet_nil ?_
    rintro ⟨wq, hq⟩
    simp only []
    go_wp2
    go_ret
    exact ⟨rfl, ((Chg.refl _ _).alloc _).alloc _ |>.trans hq (fun _ _ => False.elim)⟩
  | true =>
    obtain ⟨h1, h2, h3, h4⟩ := dotF_true.1 hd
    obtain ⟨i, rfl⟩ := Int.eq_ofNat_of_zero_le h1
    have hk : nextF xs i n = (xs.getD i 0 == n - 1) := by simp [nextF, hd]
    rw [hk]
    have HC := Lib.hid (fun W => dot_new W i n)
    rw [hd] at HC
    have ca := fun x : ChgW (fun _ => False) ((w.alloc (.cells (ints xs).toArray 25)).alloc (.cells #[.int .i64 i, .int .i64 n] 23)) => (b1.chg x.chg id).cell i
    rw [List.getElem?_toArray, ints_get, get_getD (by omega)] at ca
    simp only [Option.map_some] at ca
    generalize xs.getD i 0 = x at *
    have ew : IntKind.i64.wrap (n - 1) = n - 1 := IntWalk.i64_in _ (by omega)
    clear hd hk h1 hx b1 b2
    go_enter Tryd.func19, Tryd.ntmps19
    go_wp2_with fail
    refine wp_region_chg (fun _ => False) (by kernel_rfl) (by kernel_rfl) ?_
    repeat (go_big_quiet_step ((go_at_call 33; exact calls_new (HC.out _))))
    refine wpQuiet_nil ?_
    rintro ⟨wq, hq⟩
    simp only []
    go_wp2
    go_ret
    exact ⟨rfl, ((Chg.refl _ _).alloc _).alloc _ |>.trans hq (fun _ _ => False.elim)⟩

end Vec
end Go.Proofs.YtjkjbbmbfobdaaaDoor

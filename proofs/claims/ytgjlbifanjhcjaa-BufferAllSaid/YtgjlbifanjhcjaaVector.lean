/-
  What the program's vector package computes, on vectors of 16 numbers, each as one value (no condition beyond the rows' lengths; Sum and Missing for numbers of Go's int).
-/
import Derived.Test.YtgjlbifanjhcjaaMem
import Derived.Test.YtgjlbifanjhcjaaVectorPlain
namespace Go.Proofs.Ytgjlbifanjhcjaa
open Go.ChangeShapes Go.WideShapes Go.RowKit
namespace Vec
theorem loadRow0 (p : Value) : Instr.loadAt 27 p = LoadRowV 27 p := rfl
theorem storeRow0 (p v : Value) : Instr.storeAt 27 p v = StoreRowV 27 p v := rfl
attribute [local go_sem ↓] loadRow0 storeRow0

/-- a vector as a value -/
abbrev vec (xs : List Int) : Value := .agg (ints xs).toArray
abbrev TV : TypeId := 27
noncomputable def intI : TypeInfo := ((Try.prog.info? 3).getD default)
theorem intInfo : Try.prog.info? 3 = some intI ∧ intI.size = 1 := ⟨by kernel_rfl, by kernel_rfl⟩
theorem zero_vec (w : World) : (zeroValue 27).run Try.prog w = .ok (.agg (ints (zeros)).toArray) w := by kernel_rfl
theorem ldV {w : World} {b o : Nat} {xs : List Int} (hl : xs.length = 16) (h : w.rangeAt b o (ints xs)) : (LoadRow 27 ⟨b, o, none⟩).run Try.prog w = .ok (vec xs) w :=
  run_LoadRow (P := Try.prog) (t := 27) Try.underlying27 rfl (n := 16) (by kernel_rfl) (by rw [ints_length, hl]) h
theorem ldB {w : World} {b : Nat} {t : TypeId} {xs : List Int} (hl : xs.length = 16) (h : Blk w b t (ints xs).toArray) : (LoadRow 27 ⟨b, 0, none⟩).run Try.prog w = .ok (vec xs) w := ldV hl h.range_all
theorem ixV {xs : List Int} (hl : xs.length = 16) {k : Nat} (hk : k < 16) (w : World) : (Instr.index 27 (vec xs) (.int .i64 (k : Int))).run Try.prog w = .ok (.int .i64 (xs.getD k 0)) w :=
  run_index_ints (P := Try.prog) (t := 27) Try.underlying27 intInfo.1 intInfo.2 ⟨_, Try.underlying3, rfl⟩ hl hk w
theorem eqV {xs ys : List Int} (hx : xs.length = 16) (hy : ys.length = 16) (w : World) : (binOp .eql 27 (vec xs) (vec ys)).run Try.prog w = .ok (.bool (xs == ys)) w :=
  run_eql_ints (P := Try.prog) Try.underlying27 Try.underlying3 intInfo.1 intInfo.2 xs ys hx hy w
theorem eqG (x y : Operand) (a b : Array Value) (w : World) : (eqGuard .eql 27 x y (.agg a) (.agg b)).run Try.prog w = .ok () w := run_eqGuard_agg (by kernel_rfl) x y a b w
/-- a vector stored over a block of 16 cells -/
theorem stB {w : World} {b : Nat} {t : TypeId} {old xs : List Int} (ho : old.length = 16) (hl : xs.length = 16) (h : Blk w b t (ints old).toArray) :
    (StoreRow 27 ⟨b, 0, none⟩ (vec xs)).run Try.prog w = .ok () (w.setCells b 0 (ints xs)) ∧ Blk (w.setCells b 0 (ints xs)) b t (ints xs).toArray := by
  refine ⟨run_StoreRow (P := Try.prog) (t := 27) (n := 16) (by kernel_rfl) (by rw [ints_length, hl]) (ints_one _) h (by rw [ints_length, ho]; exact Nat.le_refl _), ?_⟩
  have := Blk.setCells (ints xs) 0 _ _ h (by rw [ints_length, ints_length, hl, ho]; exact Nat.le_refl _)
  have h2 : (ints old).drop (0 + (ints xs).length) = [] := List.drop_eq_nil_of_le (by rw [ints_length, ints_length]; omega)
  rw [h2] at this
  simpa using this
theorem resV {fn : Func} {p : Tmp} (h : fn.results = #[.cell p 27]) (tmps : Array Value) (w : World) (g : Nat) (t : TypeId) (xs : List Int) (hl : xs.length = 16)
    (hp : tmps.getD p undef = .pointer (some ⟨g, 0, none⟩)) (hg : Blk w g t (ints xs).toArray) : (results fn tmps).run Try.prog w = .ok (vec xs) w :=
  results_cell_row h tmps w g t _ (0, 0) _ hp hg Try.underlying27 rfl (by rw [List.size_toArray, ints_length, hl]; kernel_rfl)

theorem max_ (x y : Int) (w : World) : Calls Try.prog 24 #[.int .i64 x, .int .i64 y] w fun e w' => e = .returned (.int .i64 (max x y)) ∧ w' = w := by
  by_cases h : x < y
  · rw [show max x y = y by omega]
    go_enter Try.func24, Try.ntmps24
    go_wp2
    go_ret
    exact ⟨rfl, rfl⟩
  · rw [show max x y = x by omega]
    go_enter Try.func24, Try.ntmps24
    go_wp2
    go_ret
    exact ⟨rfl, rfl⟩
theorem min_ (x y : Int) (w : World) : Calls Try.prog 26 #[.int .i64 x, .int .i64 y] w fun e w' => e = .returned (.int .i64 (min x y)) ∧ w' = w := by
  by_cases h : y < x
  · rw [show min x y = y by omega]
    go_enter Try.func26, Try.ntmps26
    go_wp2
    go_ret
    exact ⟨rfl, rfl⟩
  · rw [show min x y = x by omega]
    go_enter Try.func26, Try.ntmps26
    go_wp2
    go_ret
    exact ⟨rfl, rfl⟩

set_option maxHeartbeats 1000000 in
theorem each_max (w : World) (xs ys : List Int) (hx : xs.length = 16) (hy : ys.length = 16) :
    Calls Try.prog 23 #[vec xs, vec ys, .func (.func 24) #[] #[]] w fun e w' => e = .returned (vec (join xs ys)) ∧ New w w' := by
  have hz := zero_vec
  have HX := Lib.hid hx
  have HY := Lib.hid hy
  go_enter Try.func23, Try.ntmps23
  go_wp2
  go_loopw [7, 8] (fun _ i wr => ∃ (k : Nat), k ≤ 16 ∧ i = .int .i64 k ∧ Blk wr w.heap.size 27 (ints (zl max xs ys k)).toArray ∧ Blk wr (w.heap.size + 1) 27 (ints ys).toArray ∧ Blk wr (w.heap.size + 2) 27 (ints zeros).toArray ∧ New w wr) (fun _ i _ => 16 - (intOf i).toNat)
  case atStart =>
    refine ⟨0, by omega, rfl, ?_, ?_, ?_, (((Chg.refl _ _).alloc _).alloc _).alloc _⟩
    · rw [zl_zero _ _ hx]
      exact ((Blk.new w _ _).alloc _).alloc _
    · exact (Blk.new1 w _ _ _).alloc _
    · exact Blk.new2 w _ _ _ _
  case round =>
    clear hz hx hy
    obtain ⟨k, hk, rfl, ha, hb, hr, hn⟩ := hrel
    by_cases hlt : k < 16
    · have hki : (k : Int) < 16 := by omega
      have ca : wr.cell? ⟨w.heap.size, k, none⟩ = some (.int .i64 (xs.getD k 0)) := by
        rw [ha.cell, List.getElem?_toArray, ints_get, zl_get _ _ _ _ _ hlt, if_neg (by omega)]; rfl
      have cb : wr.cell? ⟨w.heap.size + 1, k, none⟩ = some (.int .i64 (ys.getD k 0)) := by
        rw [hb.cell, List.getElem?_toArray, ints_get, get_getD (by rw [HY.out]; exact hlt)]; rfl
      have fa := ha.frozen k
      have HS := Lib.hid (zl_set max xs ys k hlt)
      have HA := Lib.hid ha
      have HB := Lib.hid hb
      have HR := Lib.hid hr
      clear ha hb hr
      generalize xs.getD k 0 = x at *
      generalize ys.getD k 0 = y at *
      go_wp2
      refine wp_region_tail 10 (by kernel_rfl) (by kernel_rfl) ?_
      simp only [List.take_succ_cons, List.take_zero, List.drop_succ_cons, List.drop_zero]
      repeat (first | still_step | still_call (max_ _ _ _))
      refine wpStill_nil ?_
      go_wp2
      go_roundw
      case rel =>
        refine ⟨k + 1, by omega, by go_num, ?_, (HB.out.far (p := ⟨w.heap.size, k, none⟩) (by simp) _).drew, (HR.out.far (p := ⟨w.heap.size, k, none⟩) (by simp) _).drew, (hn.setCell (p := ⟨w.heap.size, k, none⟩) (fun h => by simp at h) _).drew⟩
        have := (HA.out.set_ k (.int .i64 (max x y))).drew
        rwa [setIfInBounds_toArray, ints_set, HS.out] at this
      case measure => simp [intOf]; omega
    · obtain rfl : k = 16 := by omega
      have hl := ldB (zl_length ..) ha
      obtain ⟨hs, hb2⟩ := stB zeros_length (zl_length max xs ys 16) hr
      have HB2 := Lib.hid hb2
      clear hb2 ha hb hr
      go_wp2
      exact bodyPost_ret (resV rfl _ _ (w.heap.size + 2) _ _ (zl_length ..) rfl HB2.out) rfl ⟨rfl, Chg.setCells _ _ _ hn (fun h => by omega)⟩
set_option maxHeartbeats 1000000 in
theorem each_min (w : World) (xs ys : List Int) (hx : xs.length = 16) (hy : ys.length = 16) :
    Calls Try.prog 23 #[vec xs, vec ys, .func (.func 26) #[] #[]] w fun e w' => e = .returned (vec (meet xs ys)) ∧ New w w' := by
  have hz := zero_vec
  have HX := Lib.hid hx
  have HY := Lib.hid hy
  go_enter Try.func23, Try.ntmps23
  go_wp2
  go_loopw [7, 8] (fun _ i wr => ∃ (k : Nat), k ≤ 16 ∧ i = .int .i64 k ∧ Blk wr w.heap.size 27 (ints (zl min xs ys k)).toArray ∧ Blk wr (w.heap.size + 1) 27 (ints ys).toArray ∧ Blk wr (w.heap.size + 2) 27 (ints zeros).toArray ∧ New w wr) (fun _ i _ => 16 - (intOf i).toNat)
  case atStart =>
    refine ⟨0, by omega, rfl, ?_, ?_, ?_, (((Chg.refl _ _).alloc _).alloc _).alloc _⟩
    · rw [zl_zero _ _ hx]
      exact ((Blk.new w _ _).alloc _).alloc _
    · exact (Blk.new1 w _ _ _).alloc _
    · exact Blk.new2 w _ _ _ _
  case round =>
    clear hz hx hy
    obtain ⟨k, hk, rfl, ha, hb, hr, hn⟩ := hrel
    by_cases hlt : k < 16
    · have hki : (k : Int) < 16 := by omega
      have ca : wr.cell? ⟨w.heap.size, k, none⟩ = some (.int .i64 (xs.getD k 0)) := by
        rw [ha.cell, List.getElem?_toArray, ints_get, zl_get _ _ _ _ _ hlt, if_neg (by omega)]; rfl
      have cb : wr.cell? ⟨w.heap.size + 1, k, none⟩ = some (.int .i64 (ys.getD k 0)) := by
        rw [hb.cell, List.getElem?_toArray, ints_get, get_getD (by rw [HY.out]; exact hlt)]; rfl
      have fa := ha.frozen k
      have HS := Lib.hid (zl_set min xs ys k hlt)
      have HA := Lib.hid ha
      have HB := Lib.hid hb
      have HR := Lib.hid hr
      clear ha hb hr
      generalize xs.getD k 0 = x at *
      generalize ys.getD k 0 = y at *
      go_wp2
      refine wp_region_tail 10 (by kernel_rfl) (by kernel_rfl) ?_
      simp only [List.take_succ_cons, List.take_zero, List.drop_succ_cons, List.drop_zero]
      repeat (first | still_step | still_call (min_ _ _ _))
      refine wpStill_nil ?_
      go_wp2
      go_roundw
      case rel =>
        refine ⟨k + 1, by omega, by go_num, ?_, (HB.out.far (p := ⟨w.heap.size, k, none⟩) (by simp) _).drew, (HR.out.far (p := ⟨w.heap.size, k, none⟩) (by simp) _).drew, (hn.setCell (p := ⟨w.heap.size, k, none⟩) (fun h => by simp at h) _).drew⟩
        have := (HA.out.set_ k (.int .i64 (min x y))).drew
        rwa [setIfInBounds_toArray, ints_set, HS.out] at this
      case measure => simp [intOf]; omega
    · obtain rfl : k = 16 := by omega
      have hl := ldB (zl_length ..) ha
      obtain ⟨hs, hb2⟩ := stB zeros_length (zl_length min xs ys 16) hr
      have HB2 := Lib.hid hb2
      clear hb2 ha hb hr
      go_wp2
      exact bodyPost_ret (resV rfl _ _ (w.heap.size + 2) _ _ (zl_length ..) rfl HB2.out) rfl ⟨rfl, Chg.setCells _ _ _ hn (fun h => by omega)⟩
set_option maxHeartbeats 1000000 in
theorem join_ (w : World) (xs ys : List Int) (hx : xs.length = 16) (hy : ys.length = 16) :
    Calls Try.prog 18 #[vec xs, vec ys] w fun e w' => e = .returned (vec (join xs ys)) ∧ New w w' := by
  have hz := zero_vec
  have l1 := ldB (w := ((w.alloc (.cells (ints xs).toArray 27)).alloc (.cells (ints ys).toArray 27)).alloc (.cells (ints zeros).toArray 27)) hx (((Blk.new w _ _).alloc _).alloc _)
  have l2 := ldB (w := ((w.alloc (.cells (ints xs).toArray 27)).alloc (.cells (ints ys).toArray 27)).alloc (.cells (ints zeros).toArray 27)) hy ((Blk.new1 w _ _ _).alloc _)
  have HR := Lib.hid (Blk.new2 w (.cells (ints xs).toArray 27) (.cells (ints ys).toArray 27) 27 (ints zeros).toArray)
  have HC := Lib.hid (fun W => each_max W xs ys hx hy)
  clear hx hy
  go_enter Try.func18, Try.ntmps18
  go_wp2_with fail
  refine (HC.out _).mono ?_
  rintro e w1 ⟨rfl, hn1⟩
  obtain ⟨hs, hb2⟩ := stB zeros_length (join_length xs ys) (HR.out.chg hn1 id)
  have HB2 := Lib.hid hb2
  have hn := (((Chg.refl (fun _ => False) w).alloc _).alloc _).alloc _ |>.trans hn1 (fun _ _ => False.elim)
  clear hb2 l1 l2
  go_wp2
  exact bodyPost_ret (resV rfl _ _ (w.heap.size + 2) _ _ (join_length ..) rfl HB2.out) rfl ⟨rfl, Chg.setCells _ _ _ hn (fun h => by omega)⟩
set_option maxHeartbeats 1000000 in
theorem meet_ (w : World) (xs ys : List Int) (hx : xs.length = 16) (hy : ys.length = 16) :
    Calls Try.prog 21 #[vec xs, vec ys] w fun e w' => e = .returned (vec (meet xs ys)) ∧ New w w' := by
  have hz := zero_vec
  have l1 := ldB (w := ((w.alloc (.cells (ints xs).toArray 27)).alloc (.cells (ints ys).toArray 27)).alloc (.cells (ints zeros).toArray 27)) hx (((Blk.new w _ _).alloc _).alloc _)
  have l2 := ldB (w := ((w.alloc (.cells (ints xs).toArray 27)).alloc (.cells (ints ys).toArray 27)).alloc (.cells (ints zeros).toArray 27)) hy ((Blk.new1 w _ _ _).alloc _)
  have HR := Lib.hid (Blk.new2 w (.cells (ints xs).toArray 27) (.cells (ints ys).toArray 27) 27 (ints zeros).toArray)
  have HC := Lib.hid (fun W => each_min W xs ys hx hy)
  clear hx hy
  go_enter Try.func21, Try.ntmps21
  go_wp2_with fail
  refine (HC.out _).mono ?_
  rintro e w1 ⟨rfl, hn1⟩
  obtain ⟨hs, hb2⟩ := stB zeros_length (meet_length xs ys) (HR.out.chg hn1 id)
  have HB2 := Lib.hid hb2
  have hn := (((Chg.refl (fun _ => False) w).alloc _).alloc _).alloc _ |>.trans hn1 (fun _ _ => False.elim)
  clear hb2 l1 l2
  go_wp2
  exact bodyPost_ret (resV rfl _ _ (w.heap.size + 2) _ _ (meet_length ..) rfl HB2.out) rfl ⟨rfl, Chg.setCells _ _ _ hn (fun h => by omega)⟩
end Vec
end Go.Proofs.Ytgjlbifanjhcjaa

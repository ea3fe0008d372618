/-
  What the program's counter package computes: each call's answer and what it leaves, for a counter whose rows are known and whose numbers lie between 0 and 2^40.
-/
import Derived.Test.YtihmajdgfalhdaaMem
import Derived.Test.YtihmajdgfalhdaaCounterPlain
namespace Go.Proofs.Ytihmajdgfalhdaa
open Go.ChangeShapes Go.WideShapes Go.RowKit
namespace Counter
theorem loadRow0 (p : Value) : Instr.loadAt 41 p = LoadRowV 41 p := rfl
theorem storeRow0 (p v : Value) : Instr.storeAt 41 p v = StoreRowV 41 p v := rfl
attribute [local go_sem ↓] loadRow0 storeRow0
theorem loadRow1 (p : Value) : Instr.loadAt 43 p = LoadRowV 43 p := rfl
theorem storeRow1 (p v : Value) : Instr.storeAt 43 p v = StoreRowV 43 p v := rfl
attribute [local go_sem ↓] loadRow1 storeRow1
abbrev ptr (b : Nat) : Value := .pointer (some ⟨b, 0, none⟩)

noncomputable def intI : TypeInfo := ((Try.prog.info? 3).getD default)
theorem intInfo : Try.prog.info? 3 = some intI ∧ intI.size = 1 := ⟨by kernel_rfl, by kernel_rfl⟩
set_option maxHeartbeats 400000 in
theorem sum_ (w : World) (xs : List Int) (hl : xs.length = 16) (hb : ∀ k, k ≤ 16 → -9223372036854775808 ≤ (xs.take k).sum ∧ (xs.take k).sum ≤ 9223372036854775807) :
    Calls Try.prog 15 #[.agg (ints xs).toArray] w fun e w' => e = .returned (.int .i64 xs.sum) ∧ w.alloc (.cells (ints xs).toArray 41) = w' := by
  have hld := run_LoadRow (P := Try.prog) (t := 41) Try.underlying41 rfl (n := 16) (by kernel_rfl) (by rw [ints_length, hl]) (Blk.new w 41 (ints xs).toArray).range_all
  have HL := Lib.hid hl
  clear hl
  go_enter Try.func15, Try.ntmps15
  go_wp2
  go_loop [3, 5, 7] (fun n _ i => ∃ k : Nat, k ≤ 16 ∧ i = .int .i64 k ∧ n = .int .i64 (xs.take k).sum) (fun _ _ i => 16 - (intOf i).toNat)
  case atStart => exact ⟨0, by omega, rfl, by simp⟩
  case round =>
    obtain ⟨k, hk, rfl, rfl⟩ := hrel
    by_cases hlt : k < 16
    · have hx := run_index_ints (P := Try.prog) (t := 41) Try.underlying41 intInfo.1 intInfo.2 ⟨_, Try.underlying3, rfl⟩ HL.out hlt
      have hbk := hb (k + 1) (by omega)
      have hs : (xs.take (k + 1)).sum = (xs.take k).sum + xs.getD k 0 := by
        rw [List.take_succ_eq_append_getElem (by rw [HL.out]; omega), List.sum_append]
        simp [List.getD, List.getElem?_eq_getElem (show k < xs.length by rw [HL.out]; omega)]
      rw [hs] at hbk
      have HS := Lib.hid hs
      clear hs hb
      generalize xs.getD k 0 = x at *
      generalize (xs.take k).sum = y at *
      go_wp2
      go_round
      case rel => exact ⟨k + 1, by omega, by go_num, by rw [HS.out]⟩
      case measure => simp [intOf]; omega
    · obtain rfl : k = 16 := by omega
      go_wp2
      go_ret
      refine ⟨?_, rfl⟩
      rw [List.take_of_length_le (by rw [HL.out]; omega)]
      rfl

/-- the counter c lies at block b -/
structure At (w : World) (b : Nat) (c : Cnt) : Prop where
  ok : c.ok
  blk : Blk w b 43 (ints (c.m ++ c.l)).toArray
theorem At.lt {w : World} {b : Nat} {c : Cnt} (h : At w b c) : b < w.heap.size := h.blk.lt
theorem At.chg {w w' : World} {b : Nat} {c : Cnt} {S : Nat → Prop} (h : At w b c) (hc : Chg S w w') (hs : ¬ S b) : At w' b c := ⟨h.ok, h.blk.chg hc hs⟩
theorem At.new {w w' : World} {b : Nat} {c : Cnt} (h : At w b c) (hc : New w w') : At w' b c := h.chg hc id
theorem At.getm {w : World} {b : Nat} {c : Cnt} (h : At w b c) (i : Nat) (hi : i < 16) : (c.m ++ c.l)[i]? = some (c.m.getD i 0) := by
  have := h.ok.1.1
  rw [List.getElem?_append_left (by omega)]
  simp [List.getD_eq_getElem?_getD, List.getElem?_eq_getElem (show i < c.m.length by omega)]
theorem At.getl {w : World} {b : Nat} {c : Cnt} (h : At w b c) (i : Nat) (hi : i < 16) : (c.m ++ c.l)[16 + i]? = some (c.l.getD i 0) := by
  have := h.ok.1.1
  have := h.ok.2.1
  rw [List.getElem?_append_right (by omega)]
  simp [h.ok.1.1, List.getD_eq_getElem?_getD, List.getElem?_eq_getElem (show i < c.l.length by omega)]
theorem At.cellm {w : World} {b : Nat} {c : Cnt} (h : At w b c) (i : Nat) (hi : i < 16) : w.cell? ⟨b, i, none⟩ = some (.int .i64 (c.m.getD i 0)) := by
  rw [h.blk.cell]
  rw [List.getElem?_toArray, ints_get, h.getm i hi]
  rfl
theorem At.celll {w : World} {b : Nat} {c : Cnt} (h : At w b c) (i : Nat) (hi : i < 16) : w.cell? ⟨b, 16 + i, none⟩ = some (.int .i64 (c.l.getD i 0)) := by
  rw [h.blk.cell]
  rw [List.getElem?_toArray, ints_get, h.getl i hi]
  rfl

set_option maxHeartbeats 400000 in
theorem new_ (w : World) : Calls Try.prog 7 #[] w fun e w' => e = .returned (ptr w.heap.size) ∧ At w' w.heap.size zero ∧ New w w' := by
  have hz : ∀ W : World, (zeroValue 43).run Try.prog W = .ok (.agg (ints (zero.m ++ zero.l)).toArray) W := fun W => by kernel_rfl
  go_enter Try.func7, Try.ntmps7
  go_wp2
  go_ret
  exact ⟨rfl, ⟨ok_zero, Blk.new w _ _⟩, (Chg.refl _ _).alloc _⟩

set_option maxHeartbeats 800000 in
theorem rowadd (w : World) (b o i : Nat) (n x : Int) (xs : List Int) (hb : Blk w b 43 (ints xs).toArray) (hi : i < 16) (hx : xs[o + i]? = some x) (hx0 : 0 ≤ x) (hx1 : x ≤ 1099511627776) (hn : 0 ≤ n) (hn1 : n ≤ 9223372036854775807) :
    Calls Try.prog 14 #[.pointer (some ⟨b, o, none⟩), .int .i64 (i : Int), .int .i64 n] w fun e w' => e = .returned (.int .i64 (addE x n)) ∧ Blk w' b 43 (ints (xs.set (o + i) (addX x n))).toArray ∧ Upd b w w' := by
  have hc : w.cell? ⟨b, o + i, none⟩ = some (.int .i64 x) := by
    rw [hb.cell, List.getElem?_toArray, ints_get, hx]
    rfl
  have hf := hb.frozen (o + i)
  have hi' : (i : Int) < 16 := by omega
  by_cases hbig : 1099511627776 - x < n
  · have he : addE x n = 6 := by unfold addE; rw [if_pos hbig]
    have hX : addX x n = x := by unfold addX; rw [if_pos hbig]
    rw [he, hX]
    have hset : xs.set (o + i) x = xs := by
      apply List.ext_getElem?
      intro j
      rw [List.getElem?_set]
      by_cases hj : o + i = j
      · subst hj
        rw [if_pos rfl, hx]
        have : o + i < xs.length := (List.getElem?_eq_some_iff.1 hx).1
        simp [this]
      · rw [if_neg hj]
    have HB := Lib.hid hb
    clear hb he hX hx
    go_enter Try.func14, Try.ntmps14
    go_wp2
    go_ret
    exact ⟨rfl, by rw [hset]; exact HB.out, Chg.refl _ _⟩
  · have he : addE x n = 0 := by unfold addE; rw [if_neg hbig]
    have hX : addX x n = x + n := by unfold addX; rw [if_neg hbig]
    rw [he, hX]
    have HB := Lib.hid hb
    clear hb he hX hx
    go_enter Try.func14, Try.ntmps14
    have ew : IntKind.i64.wrap (x + n) = x + n := IntWalk.i64_in _ (by omega)
    go_wp2
    refine wp_region_tail 9 (by kernel_rfl) (by kernel_rfl) ?_
    simp only [List.take_succ_cons, List.take_zero, List.drop_succ_cons, List.drop_zero]
    repeat still_step
    refine wpStill_nil ?_
    go_wp2
    go_ret
    refine ⟨rfl, ?_, ((Chg.refl (fun k => k = b) w).setCell (p := ⟨b, o + i, none⟩) (fun _ => rfl) _).drew⟩
    have := (HB.out.set_ (o + i) (.int .i64 (x + n))).drew
    rwa [setIfInBounds_toArray, ints_set] at this

theorem set_left {a b : List Int} {i : Nat} (h : i < a.length) (x : Int) : (a ++ b).set i x = a.set i x ++ b := List.set_append_left _ _ h
theorem set_right {a b : List Int} {i : Nat} (x : Int) : (a ++ b).set (a.length + i) x = a ++ b.set i x := by
  rw [List.set_append_right _ _ (by omega)]
  congr 2
  omega

theorem add_nil (w : World) (r n : Int) : Calls Try.prog 8 #[.pointer none, .int .i64 r, .int .i64 n] w fun e w' => e = .returned (.int .i64 1) ∧ w = w' := by
  go_enter Try.func8, Try.ntmps8
  go_wp2
  go_ret
  exact ⟨rfl, rfl⟩

set_option maxHeartbeats 800000 in
theorem add (w : World) (b : Nat) (c : Cnt) (r n : Int) (h : At w b c) (hn : -9223372036854775808 ≤ n) (hn1 : n ≤ 9223372036854775807) :
    Calls Try.prog 8 #[ptr b, .int .i64 r, .int .i64 n] w fun e w' => e = .returned (.int .i64 (addF c r n).1) ∧ At w' b (addF c r n).2 ∧ Upd b w w' := by
  have hok := addF_ok h.ok r n
  unfold addF at hok ⊢
  by_cases h1 : r < 0
  · rw [if_pos (.inl h1)]
    go_enter Try.func8, Try.ntmps8
    go_wp2
    go_ret
    exact ⟨rfl, h, Chg.refl _ _⟩
  · by_cases h2 : 16 ≤ r
    · rw [if_pos (.inr h2)]
      go_enter Try.func8, Try.ntmps8
      go_wp2
      go_ret
      exact ⟨rfl, h, Chg.refl _ _⟩
    · rw [if_neg (by omega)] at hok ⊢
      obtain ⟨i, rfl⟩ := Int.eq_ofNat_of_zero_le (show 0 ≤ r by omega)
      rw [Int.toNat_natCast] at hok ⊢
      by_cases h3 : n < -1099511627776
      · rw [if_pos h3]
        go_enter Try.func8, Try.ntmps8
        go_wp2
        go_ret
        exact ⟨rfl, h, Chg.refl _ _⟩
      · rw [if_neg h3] at hok ⊢
        by_cases h4 : n < 0
        · rw [if_pos h4] at hok ⊢
          have hb := h.ok.2.at i
          have c1 := rowadd w b 16 i (-n) (c.l.getD i 0) (c.m ++ c.l) h.blk (by omega) (h.getl i (by omega)) hb.1 hb.2 (by omega) (by omega)
          rw [show 16 + i = c.m.length + i by rw [h.ok.1.1], set_right] at c1
          have C1 := Lib.hid c1
          clear c1
          go_enter Try.func8, Try.ntmps8
          go_wp2_with fail
          refine C1.out.mono ?_
          rintro e w1 ⟨rfl, hb1, hu⟩
          go_wp2
          go_ret
          exact ⟨rfl, ⟨hok, hb1⟩, hu⟩
        · rw [if_neg h4] at hok ⊢
          have hb := h.ok.1.at i
          have c1 := rowadd w b 0 i n (c.m.getD i 0) (c.m ++ c.l) h.blk (by omega) (by rw [Nat.zero_add]; exact h.getm i (by omega)) hb.1 hb.2 (by omega) (by omega)
          rw [Nat.zero_add, set_left (by rw [h.ok.1.1]; omega)] at c1
          have C1 := Lib.hid c1
          clear c1
          go_enter Try.func8, Try.ntmps8
          go_wp2_with fail
          refine C1.out.mono ?_
          rintro e w1 ⟨rfl, hb1, hu⟩
          go_wp2
          go_ret
          exact ⟨rfl, ⟨hok, hb1⟩, hu⟩

theorem At.rm {w : World} {b : Nat} {c : Cnt} (h : At w b c) : w.rangeAt b 0 (ints c.m) := h.blk.range 0 _ fun j v hv => by
  rw [Nat.zero_add, ints_append, List.getElem?_append_left]
  · exact hv
  · exact (List.getElem?_eq_some_iff.1 hv).1
theorem At.rl {w : World} {b : Nat} {c : Cnt} (h : At w b c) : w.rangeAt b 16 (ints c.l) := h.blk.range 16 _ fun j v hv => by
  have := h.ok.1.1
  rw [ints_append, List.getElem?_append_right (by rw [ints_length]; omega), ints_length, this]
  rw [show 16 + j - 16 = j by omega]
  exact hv
theorem ld {w : World} {b o : Nat} {xs : List Int} (hl : xs.length = 16) (h : w.rangeAt b o (ints xs)) : (LoadRow 41 ⟨b, o, none⟩).run Try.prog w = .ok (.agg (ints xs).toArray) w :=
  run_LoadRow (P := Try.prog) (t := 41) Try.underlying41 rfl (n := 16) (by kernel_rfl) (by rw [ints_length, hl]) h

theorem value_nil (w : World) : Calls Try.prog 10 #[.pointer none] w fun e w' => e = .returned (.int .i64 0) ∧ w = w' := by
  go_enter Try.func10, Try.ntmps10
  go_wp2
  go_ret
  exact ⟨rfl, rfl⟩
theorem okr_sums {l : List Int} (h : Okr l) : ∀ k, k ≤ 16 → -9223372036854775808 ≤ (l.take k).sum ∧ (l.take k).sum ≤ 9223372036854775807 := fun k _ => by
  have := h.take_sum k
  omega
set_option maxHeartbeats 800000 in
theorem value (w : World) (b : Nat) (c : Cnt) (h : At w b c) : Calls Try.prog 10 #[ptr b] w fun e w' => e = .returned (.int .i64 (val c)) ∧ New w w' := by
  have hs1 := h.ok.1.sum
  have hs2 := h.ok.2.sum
  have l1 := ld h.ok.1.1 (w := w.drew) (b := b) (o := 0) (by simpa using h.rm)
  have l2 := ld h.ok.2.1 (w := w.drew) (b := b) (o := 16) (by simpa using h.rl)
  have l3 := fun o => ld h.ok.2.1 (w := (w.alloc o).drew) (b := b) (o := 16) (by simpa using World.rangeAt_alloc h.rl o)
  have l4 := fun o => ld h.ok.1.1 (w := (w.alloc o).drew) (b := b) (o := 0) (by simpa using World.rangeAt_alloc h.rm o)
  have ew : IntKind.i64.wrap (c.m.sum - c.l.sum) = c.m.sum - c.l.sum := IntWalk.i64_in _ (by omega)
  have HM := Lib.hid (fun W => sum_ W c.m h.ok.1.1 (okr_sums h.ok.1))
  have HL := Lib.hid (fun W => sum_ W c.l h.ok.2.1 (okr_sums h.ok.2))
  go_enter Try.func10, Try.ntmps10
  go_wp2_with fail
  go_region_with (first
    | (go_at_call_of 15 (Value.agg (ints c.m).toArray); refine (HM.out _).mono ?_; rintro e w1 ⟨rfl, rfl⟩)
    | (go_at_call_of 15 (Value.agg (ints c.l).toArray); refine (HL.out _).mono ?_; rintro e w1 ⟨rfl, rfl⟩))
  all_goals go_wp2
  all_goals go_ret
  all_goals exact ⟨rfl, (((Chg.refl _ _).alloc _).alloc _).drew⟩
end Counter
end Go.Proofs.Ytihmajdgfalhdaa

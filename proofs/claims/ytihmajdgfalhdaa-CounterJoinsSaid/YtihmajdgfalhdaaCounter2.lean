/-
  What the program's counter package computes, the second part: Own, Twin, join, Join and Below, each for counters whose rows are known.
-/
import Derived.Test.YtihmajdgfalhdaaCounter
namespace Go.Proofs.Ytihmajdgfalhdaa
open Go.ChangeShapes Go.WideShapes Go.RowKit
namespace Counter
attribute [local go_sem ↓] loadRow0 storeRow0 loadRow1 storeRow1

theorem own_nil (w : World) (r : Int) : Calls Try.prog 9 #[.pointer none, .int .i64 r] w fun e w' => e = .returned (.tuple #[.int .i64 0, .int .i64 0]) ∧ w = w' := by
  go_enter Try.func9, Try.ntmps9
  go_wp2
  go_ret2
  exact ⟨rfl, rfl⟩
theorem own_out (w : World) (b : Nat) (r : Int) (hr : r < 0 ∨ 16 ≤ r) : Calls Try.prog 9 #[ptr b, .int .i64 r] w fun e w' => e = .returned (.tuple #[.int .i64 0, .int .i64 0]) ∧ w = w' := by
  by_cases h0 : r < 0
  · clear hr
    go_enter Try.func9, Try.ntmps9
    go_wp2
    go_ret2
    exact ⟨rfl, rfl⟩
  · have h1 : 16 ≤ r := by omega
    clear hr
    go_enter Try.func9, Try.ntmps9
    go_wp2
    go_ret2
    exact ⟨rfl, rfl⟩
set_option maxHeartbeats 400000 in
theorem own_in (w : World) (b : Nat) (c : Cnt) (h : At w b c) (i : Nat) (hi : i < 16) : Calls Try.prog 9 #[ptr b, .int .i64 (i : Int)] w fun e w' => e = .returned (.tuple #[.int .i64 (c.m.getD i 0), .int .i64 (c.l.getD i 0)]) ∧ w.drew = w' := by
  have c1 := h.cellm i hi
  have c2 := h.celll i hi
  have hi' : (i : Int) < 16 := by omega
  generalize c.m.getD i 0 = x at *
  generalize c.l.getD i 0 = y at *
  clear h
  go_enter Try.func9, Try.ntmps9
  go_wp2
  refine wp_region_quiet1 (by kernel_rfl) (by kernel_rfl) ?_
  repeat still_step
  refine wpStill_nil ?_
  go_wp2
  go_ret2
  exact ⟨rfl, rfl⟩

theorem twin_nil (w : World) : Calls Try.prog 13 #[.pointer none] w fun e w' => e = .returned (.pointer none) ∧ w = w' := by
  go_enter Try.func13, Try.ntmps13
  go_wp2
  go_ret
  exact ⟨rfl, rfl⟩
set_option maxHeartbeats 400000 in
theorem twin (w : World) (b : Nat) (c : Cnt) (h : At w b c) : Calls Try.prog 13 #[ptr b] w fun e w' => e = .returned (ptr w.heap.size) ∧ At w' w.heap.size c ∧ New w w' := by
  have hz : ∀ W : World, (zeroValue 43).run Try.prog W = .ok (.agg (ints (zero.m ++ zero.l)).toArray) W := fun W => by kernel_rfl
  have hlen : (c.m ++ c.l).length = 32 := by rw [List.length_append, h.ok.1.1, h.ok.2.1]
  have hld := run_LoadRow (P := Try.prog) (t := 43) Try.underlying43 rfl (n := 32) (by kernel_rfl) (by rw [ints_length, hlen]) h.blk.range_all
  have hst := run_StoreRow (P := Try.prog) (t := 43) (n := 32) (by kernel_rfl) (g := w.heap.size) (o := 0) (w := w.alloc (.cells (ints (zero.m ++ zero.l)).toArray 43)) (cs := ints (c.m ++ c.l)) (by rw [ints_length, hlen]) (ints_one _) (Blk.new w _ _) (by simp [ints, zero])
  have hbk := Blk.setCells (ints (c.m ++ c.l)) 0 _ _ (Blk.new w 43 (ints (zero.m ++ zero.l)).toArray) (by rw [ints_length, hlen]; simp [ints, zero])
  have hbk' : Blk ((w.alloc (.cells (ints (zero.m ++ zero.l)).toArray 43)).setCells w.heap.size 0 (ints (c.m ++ c.l))) w.heap.size 43 (ints (c.m ++ c.l)).toArray := by
    have : (ints (zero.m ++ zero.l)).drop (0 + (ints (c.m ++ c.l)).length) = [] := by rw [ints_length, hlen]; rfl
    rw [this] at hbk
    simpa using hbk
  have HB := Lib.hid hbk'
  clear hbk hbk'
  have HO := Lib.hid h.ok
  clear hlen h
  go_enter Try.func13, Try.ntmps13
  go_wp2
  go_ret
  exact ⟨rfl, ⟨HO.out, HB.out⟩, Chg.setCells _ _ _ ((Chg.refl _ _).alloc _) (fun h => by omega)⟩

set_option maxHeartbeats 800000 in
/-- the receiver's row at o of block b (xs: all the block's cells), joined with ys -/
theorem rowjoin (w : World) (b o : Nat) (xs ys : List Int) (hb : Blk w b 43 (ints xs).toArray) (ho : o + 16 ≤ xs.length) (hy : ys.length = 16) :
    Calls Try.prog 16 #[.pointer (some ⟨b, o, none⟩), .agg (ints ys).toArray] w fun e w' => e = .returned (.tuple #[]) ∧
      Blk w' b 43 (ints (JL xs ys o 16)).toArray ∧ Upd b w w' := by
  have hbl := hb.lt
  have hld := run_LoadRow (P := Try.prog) (t := 41) Try.underlying41 rfl (n := 16) (by kernel_rfl) (by rw [ints_length, hy]) (Blk.new w 41 (ints ys).toArray).range_all
  have HY := Lib.hid hy
  have HB := Lib.hid hb
  clear hy hb
  go_enter Try.func16, Try.ntmps16
  go_wp2
  go_loopw [4, 5, 7] (fun _ _ i wr => ∃ (k : Nat), k ≤ 16 ∧ i = .int .i64 k ∧ Blk wr b 43 (ints (JL xs ys o k)).toArray ∧ Upd b w wr) (fun _ _ i _ => 16 - (intOf i).toNat)
  case atStart =>
    refine ⟨0, by omega, rfl, ?_, (Chg.refl _ _).alloc _⟩
    have := HB.out.alloc (.cells (ints ys).toArray 41)
    rw [JL_zero]
    exact this
  case round =>
    obtain ⟨k, hk, rfl, hbk, hu⟩ := hrel
    by_cases hlt : k < 16
    · have hx := run_index_ints (P := Try.prog) (t := 41) Try.underlying41 intInfo.1 intInfo.2 ⟨_, Try.underlying3, rfl⟩ HY.out hlt
      have hlk : o + k < xs.length := by omega
      have hg : (JL xs ys o k)[o + k]? = some (xs.getD (o + k) 0) := by rw [JL_get _ _ _ _ _ hlk, if_neg (by omega)]
      have hc : wr.cell? ⟨b, o + k, none⟩ = some (.int .i64 (xs.getD (o + k) 0)) := by
        rw [hbk.cell, List.getElem?_toArray, ints_get, hg]
        rfl
      have hf := hbk.frozen (o + k)
      have hki : (k : Int) < 16 := by omega
      have HS := Lib.hid (JL_set xs ys o k hlk)
      have HK := Lib.hid hbk
      clear hg hbk
      generalize xs.getD (o + k) 0 = x at *
      generalize ys.getD k 0 = y at *
      go_wp2
      refine wp_region_tail 11 (by kernel_rfl) (by kernel_rfl) ?_
      simp only [List.take_succ_cons, List.take_zero, List.drop_succ_cons, List.drop_zero]
      repeat still_step
      refine wpStill_nil ?_
      go_wp2
      have hmx : (if x < y then y else x) = max x y := by
        by_cases h : x < y
        · rw [if_pos h]; omega
        · rw [if_neg h]; omega
      rw [hmx]
      go_roundw
      case rel =>
        refine ⟨k + 1, by omega, by go_num, ?_, (hu.setCell (p := ⟨b, o + k, none⟩) (fun _ => rfl) _).drew⟩
        have := (HK.out.set_ (o + k) (.int .i64 (max x y))).drew
        rwa [setIfInBounds_toArray, ints_set, HS.out] at this
      case measure => simp [intOf]; omega
    · obtain rfl : k = 16 := by omega
      go_wp2
      go_end0
      exact ⟨rfl, hbk, hu⟩

theorem join_left_nil (w : World) (v : Value) : Calls Try.prog 11 #[.pointer none, v] w fun e w' => e = .returned (.tuple #[]) ∧ w = w' := by
  go_enter Try.func11, Try.ntmps11
  go_wp2
  go_end0
  exact ⟨rfl, rfl⟩
set_option maxHeartbeats 800000 in
theorem join_ (w : World) (b b' : Nat) (c d : Cnt) (h : At w b c) (h' : At w b' d) (hne : b ≠ b') :
    Calls Try.prog 11 #[ptr b, ptr b'] w fun e w' => e = .returned (.tuple #[]) ∧ At w' b (join c d) ∧ Upd b w w' := by
  have hok := join_ok h.ok h'.ok
  have l1 := ld h'.ok.1.1 (w := w.drew) (b := b') (o := 0) (by simpa using h'.rm)
  have hc := h.ok
  have hd := h'.ok
  have J1 := rowjoin w.drew b 0 (c.m ++ c.l) d.m h.blk.drew (by rw [List.length_append, hc.1.1, hc.2.1]; omega) hd.1.1
  rw [JL_m hc.1.1 hc.2.1 hd.1.1] at J1
  have H1 := Lib.hid J1
  have HO := Lib.hid hok
  have HD := Lib.hid h'
  clear J1 hok h h'
  go_enter Try.func11, Try.ntmps11
  go_wp2
  refine wp_region_tail 7 (by kernel_rfl) (by kernel_rfl) ?_
  simp only [List.take_succ_cons, List.take_zero, List.drop_succ_cons, List.drop_zero]
  repeat still_step
  refine wpStill_nil ?_
  go_wp2_with fail
  refine H1.out.mono ?_
  rintro e w1 ⟨rfl, hb1, hu1⟩
  have hu1 : Upd b w w1 := (Chg.refl _ _).drew.trans hu1 (fun _ _ h => h)
  have h1 := HD.out.chg hu1 (fun e => hne e.symm)
  have l2 := ld hd.2.1 (w := w1.drew) (b := b') (o := 16) (by simpa using h1.rl)
  have J2 := rowjoin w1.drew b 16 (joinR c.m d.m ++ c.l) d.l hb1.drew (by rw [List.length_append, joinR_len hc.1.1 hd.1.1, hc.2.1]; omega) hd.2.1
  rw [JL_l (joinR_len hc.1.1 hd.1.1) hc.2.1 hd.2.1] at J2
  have H2 := Lib.hid J2
  have H1 := Lib.hid h1
  clear J2 h1 hb1
  go_wp2
  refine wp_region_tail 7 (by kernel_rfl) (by kernel_rfl) ?_
  simp only [List.take_succ_cons, List.take_zero, List.drop_succ_cons, List.drop_zero]
  repeat still_step
  refine wpStill_nil ?_
  go_wp2_with fail
  refine H2.out.mono ?_
  rintro e w2 ⟨rfl, hb2, hu2⟩
  go_wp2
  go_end0
  exact ⟨rfl, ⟨HO.out, hb2⟩, hu1.drew.trans hu2 (fun _ _ h => h)⟩

/-- a counter, or none: what Own tells of it -/
def AtV (w : World) (v : Value) (c : Cnt) : Prop := (∃ b, v = ptr b ∧ At w b c) ∨ (v = .pointer none ∧ c = zero)
theorem AtV.ok {w : World} {v : Value} {c : Cnt} (h : AtV w v c) : c.ok := by
  rcases h with ⟨b, rfl, h⟩ | ⟨rfl, rfl⟩
  · exact h.ok
  · exact ok_zero
theorem AtV.drewN {w : World} {v : Value} {c : Cnt} (h : AtV w v c) (n : Nat) : AtV (w.drewN n) v c := by
  rcases h with ⟨b, rfl, h⟩ | h
  · exact .inl ⟨b, rfl, h.ok, h.blk⟩
  · exact .inr h
theorem zero_getD (i : Nat) : zero.m.getD i 0 = 0 ∧ zero.l.getD i 0 = 0 := by
  have : (List.replicate 16 (0 : Int)).getD i 0 = 0 := by
    rw [List.getD_eq_getElem?_getD, List.getElem?_replicate]
    split <;> rfl
  exact ⟨this, this⟩
theorem own (w : World) (v : Value) (c : Cnt) (h : AtV w v c) (i : Nat) (hi : i < 16) : Calls Try.prog 9 #[v, .int .i64 (i : Int)] w fun e w' => e = .returned (.tuple #[.int .i64 (c.m.getD i 0), .int .i64 (c.l.getD i 0)]) ∧ ∃ n, w' = w.drewN n := by
  rcases h with ⟨b, rfl, h⟩ | ⟨rfl, rfl⟩
  · exact (own_in w b c h i hi).mono fun e w' ⟨h1, h2⟩ => ⟨h1, 1, h2.symm⟩
  · rw [(zero_getD i).1, (zero_getD i).2]
    exact (own_nil w i).mono fun e w' ⟨h1, h2⟩ => ⟨h1, 0, h2.symm⟩
set_option maxHeartbeats 800000 in
theorem below_ (w : World) (v v' : Value) (c d : Cnt) (h : AtV w v c) (h' : AtV w v' d) :
    Calls Try.prog 12 #[v, v'] w fun e w' => e = .returned (.bool (belowF c d)) ∧ New w w' := by
  go_enter Try.func12, Try.ntmps12
  go_wp2
  go_loopw [5, 6, 7, 8, 9, 10] (fun _ _ _ _ _ i wr => ∃ (k n : Nat), k ≤ 16 ∧ i = .int .i64 k ∧ (∀ j, j < k → c.m.getD j 0 ≤ d.m.getD j 0 ∧ c.l.getD j 0 ≤ d.l.getD j 0) ∧ wr = w.drewN n) (fun _ _ _ _ _ i _ => 16 - (intOf i).toNat)
  case atStart => exact ⟨0, 0, by omega, rfl, fun j hj => by omega, rfl⟩
  case round =>
    obtain ⟨k, n, hk, rfl, hall, rfl⟩ := hrel
    have HA := Lib.hid hall
    clear hall
    by_cases hlt : k < 16
    · have o1 := fun n => own (w.drewN n) v c (h.drewN n) k hlt
      have o2 := fun n => own (w.drewN n) v' d (h'.drewN n) k hlt
      obtain ⟨x, hx⟩ : ∃ x, x = c.m.getD k 0 := ⟨_, rfl⟩
      obtain ⟨y, hy⟩ : ∃ y, y = c.l.getD k 0 := ⟨_, rfl⟩
      obtain ⟨x', hx'⟩ : ∃ x, x = d.m.getD k 0 := ⟨_, rfl⟩
      obtain ⟨y', hy'⟩ : ∃ y, y = d.l.getD k 0 := ⟨_, rfl⟩
      simp only [← hx, ← hy] at o1
      simp only [← hx', ← hy'] at o2
      have O1 := Lib.hid o1
      have O2 := Lib.hid o2
      have HX := Lib.hid (And.intro (And.intro hx hy) (And.intro hx' hy'))
      clear o1 o2 hx hy hx' hy'
      by_cases h1 : x' < x
      · go_wp2_with fail
        refine (O1.out _).mono ?_
        rintro e w1 ⟨rfl, n1, rfl⟩
        go_wp2_with fail
        refine (O2.out _).mono ?_
        rintro e w2 ⟨rfl, n2, rfl⟩
        go_wp2
        go_ret
        refine ⟨?_, (Chg.refl _ _).drewN _⟩
        have : ¬ below c d := fun hb => by
          have h2 := hb.1 k hlt
          rw [← HX.out.1.1, ← HX.out.2.1] at h2
          omega
        rw [belowF_false this]; rfl
      · by_cases h2 : y' < y
        · go_wp2_with fail
          refine (O1.out _).mono ?_
          rintro e w1 ⟨rfl, n1, rfl⟩
          go_wp2_with fail
          refine (O2.out _).mono ?_
          rintro e w2 ⟨rfl, n2, rfl⟩
          go_wp2
          go_ret
          refine ⟨?_, (Chg.refl _ _).drewN _⟩
          have : ¬ below c d := fun hb => by
            have h2 := hb.2 k hlt
            rw [← HX.out.1.2, ← HX.out.2.2] at h2
            omega
          rw [belowF_false this]; rfl
        · go_wp2_with fail
          refine (O1.out _).mono ?_
          rintro e w1 ⟨rfl, n1, rfl⟩
          go_wp2_with fail
          refine (O2.out _).mono ?_
          rintro e w2 ⟨rfl, n2, rfl⟩
          go_wp2
          go_roundw
          case rel =>
            refine ⟨k + 1, n + n1 + n2, by omega, by go_num, fun j hj => ?_, rfl⟩
            by_cases e : j = k
            · subst e
              rw [← HX.out.1.1, ← HX.out.2.1, ← HX.out.1.2, ← HX.out.2.2]
              omega
            · exact HA.out j (by omega)
          case measure => simp [intOf]; omega
    · obtain rfl : k = 16 := by omega
      go_wp2
      go_ret
      refine ⟨?_, (Chg.refl _ _).drewN _⟩
      have : below c d := ⟨fun j hj => (HA.out j hj).1, fun j hj => (HA.out j hj).2⟩
      rw [(belowF_iff c d).2 this]; rfl
end Counter
end Go.Proofs.Ytihmajdgfalhdaa

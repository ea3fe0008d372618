/-
  hedgerowlaw35.CounterAdds returns true for every input: whatever is added and taken away, each answer, the value, and what each replica did, is what plain sums tell (no condition).
-/
import Derived.Test.YtihmajdgfalhdaaCounterLaw
import Derived.Test.YtihmajdgfalhdaaStructs
namespace Go.Proofs.Ytihmajdgfalhdaa
open Go.ChangeShapes Go.WideShapes Go.RowKit
namespace Counter
theorem loadOnly0 (p : Value) : Instr.loadAt 28 p = LoadRowV 28 p := rfl
attribute [local go_sem ↓] loadOnly0

set_option maxHeartbeats 20000000 in
set_option maxRecDepth 100000 in
theorem adds (w : World) (A : Option Addr) (n c : Nat) (xs : List Int) (hn : n ≤ 140737488351232) (hx : xs.length = n * 2) (hb : ∀ x ∈ xs, -9223372036854775808 ≤ x ∧ x ≤ 9223372036854775807)
    (hl : Reads w (fun b => b < w.heap.size) 2 A n (ints xs)) :
    Calls Try.prog 3 #[.slice A n c] w fun e w' => LawEnd w e w' := by
  have HX := Lib.hid hx
  have HB := Lib.hid hb
  clear hx hb
  by_cases hbig : 200 < (n : Int)
  · go_enter Try.func3, Try.ntmps3
    go_wp2_with fail
    refine (fixed _).mono ?_
    rintro e w1 ⟨rfl, hn1⟩
    go_wp2
    go_ret
    exact ⟨rfl, hn1⟩
  · have hz : ∀ W : World, (zeroValue 26).run Try.prog W = .ok (.agg (ints zero.m).toArray) W := fun W => by kernel_rfl
    go_enter Try.func3, Try.ntmps3
    go_wp2_with fail
    refine (fixed _).mono ?_
    rintro e w1 ⟨rfl, hn1⟩
    go_wp2_with fail
    refine (new_ _).mono ?_
    rintro e w2 ⟨rfl, h2, hn2⟩
    have hn2' := hn1.trans hn2 (fun _ _ => False.elim)
    have hz2 := hn2'.size
    have hlt2 := h2.lt
    obtain ⟨bc, hbc⟩ : ∃ bc, bc = w1.heap.size := ⟨_, rfl⟩
    rw [← hbc] at h2 hlt2 ⊢
    have hbcw : w.heap.size ≤ bc := by rw [hbc]; exact hn1.size
    clear hbc
    go_wp2
    go_loopw [7, 8, 23] (fun _ _ i wr => ∃ (k : Nat) (t : Cnt), k ≤ n ∧ i = .int .i64 k ∧ At wr bc t ∧ Blk wr w2.heap.size 26 (ints t.m).toArray ∧ Blk wr (w2.heap.size + 1) 26 (ints t.l).toArray ∧ New w wr) (fun _ _ i _ => n - (intOf i).toNat)
    case atStart => exact ⟨0, zero, by omega, rfl, (h2.new ((Chg.refl _ _).alloc _)).new ((Chg.refl _ _).alloc _), (Blk.new w2 _ _).alloc _, by have h16 := Blk.new (w2.alloc (.cells (ints zero.m).toArray 26)) 26 (ints zero.m).toArray; rw [World.size_alloc] at h16; exact h16, (hn2'.alloc _).alloc _⟩
    case round =>
      clear hz
      obtain ⟨k, t, hk, rfl, hat, hm, hll, hnr⟩ := hrel
      by_cases hlt : k < n
      · have hlr := hl.chg hnr (fun b hb => ⟨hb, id⟩)
        obtain ⟨ad, rfl, _, hce⟩ := hlr.elem hlt
        have hlen2 : k * 2 + 1 < xs.length := by rw [HX.out]; omega
        obtain ⟨r, hr⟩ : ∃ r, xs[k * 2]? = some r := ⟨_, List.getElem?_eq_getElem (by omega)⟩
        obtain ⟨x, hx⟩ : ∃ x, xs[k * 2 + 1]? = some x := ⟨_, List.getElem?_eq_getElem hlen2⟩
        have hrb := HB.out r (List.mem_of_getElem? hr)
        have hxb := HB.out x (List.mem_of_getElem? hx)
        have hel : ((ints xs).drop (k * 2)).take 2 = [.int .i64 r, .int .i64 x] := by
          apply List.ext_getElem?
          intro j
          rw [List.getElem?_take]
          match j with
          | 0 => simp [ints_get, hr]
          | 1 => simp [ints_get, hx]
          | j + 2 => rw [if_neg (by omega)]; rfl
        have hld := run_LoadRow_at (P := Try.prog) (t := 28) Try.underlying28 rfl (n := 2) (by kernel_rfl) (hlr.elem_len hlt) hce
        rw [hel] at hld
        clear hce hel hr hx hlen2
        have hs1 := hm.lt
        have hs2 := hll.lt
        have hok := hat.ok
        have HNR := Lib.hid hnr
        have HM := Lib.hid hm
        have HL := Lib.hid hll
        have HAT := Lib.hid hat
        by_cases h0 : r < 0
        · skip
          have HF := Lib.hid (addF_neg (c := t) (n := x) (.inl h0))
          have c1 := fun W h => add W bc t r x h hxb.1 hxb.2
          rw [HF.out] at c1
          have C1 := Lib.hid c1
          clear c1 hm hll hat hnr
          go_wp2_with fail
          refine (C1.out _ ⟨HAT.out.ok, (by repeat (first | exact HAT.out.blk | refine Blk.drew ?_ | refine Blk.drewN ?_ _ | refine Blk.alloc ?_ _ | refine Blk.far ?_ (by simp <;> omega) _))⟩).mono ?_
          rintro e w4 ⟨rfl, hat4, hu4⟩
          have hn4 := (show New w _ from (by repeat (first | exact HNR.out | refine Chg.drew ?_ | refine Chg.drewN ?_ _ | refine Chg.alloc ?_ _ | refine Chg.setCell ?_ (fun h => by (try simp at h); omega) _))).trans hu4 (fun i hi e => by omega)
          have hm4 : Blk w4 w2.heap.size 26 (ints t.m).toArray := Blk.chg (by repeat (first | exact HM.out | refine Blk.drew ?_ | refine Blk.drewN ?_ _ | refine Blk.alloc ?_ _ | refine Blk.far ?_ (by simp <;> omega) _)) hu4 (fun e => by omega)
          have hl4 : Blk w4 (w2.heap.size + 1) 26 (ints t.l).toArray := Blk.chg (by repeat (first | exact HL.out | refine Blk.drew ?_ | refine Blk.drewN ?_ _ | refine Blk.alloc ?_ _ | refine Blk.far ?_ (by simp <;> omega) _)) hu4 (fun e => by omega)
          clear hu4
          go_wp2
          go_roundw
          case rel => exact ⟨k + 1, _, by omega, by go_num, hat4, hm4, hl4, hn4⟩
          case measure => simp [intOf]; omega
        · by_cases h1 : 15 < r
          · skip
            have HF := Lib.hid (addF_neg (c := t) (n := x) (.inr (show 16 ≤ r by omega)))
            have c1 := fun W h => add W bc t r x h hxb.1 hxb.2
            rw [HF.out] at c1
            have C1 := Lib.hid c1
            clear c1 hm hll hat hnr
            go_wp2_with fail
            refine (C1.out _ ⟨HAT.out.ok, (by repeat (first | exact HAT.out.blk | refine Blk.drew ?_ | refine Blk.drewN ?_ _ | refine Blk.alloc ?_ _ | refine Blk.far ?_ (by simp <;> omega) _))⟩).mono ?_
            rintro e w4 ⟨rfl, hat4, hu4⟩
            have hn4 := (show New w _ from (by repeat (first | exact HNR.out | refine Chg.drew ?_ | refine Chg.drewN ?_ _ | refine Chg.alloc ?_ _ | refine Chg.setCell ?_ (fun h => by (try simp at h); omega) _))).trans hu4 (fun i hi e => by omega)
            have hm4 : Blk w4 w2.heap.size 26 (ints t.m).toArray := Blk.chg (by repeat (first | exact HM.out | refine Blk.drew ?_ | refine Blk.drewN ?_ _ | refine Blk.alloc ?_ _ | refine Blk.far ?_ (by simp <;> omega) _)) hu4 (fun e => by omega)
            have hl4 : Blk w4 (w2.heap.size + 1) 26 (ints t.l).toArray := Blk.chg (by repeat (first | exact HL.out | refine Blk.drew ?_ | refine Blk.drewN ?_ _ | refine Blk.alloc ?_ _ | refine Blk.far ?_ (by simp <;> omega) _)) hu4 (fun e => by omega)
            clear hu4
            go_wp2
            go_roundw
            case rel => exact ⟨k + 1, _, by omega, by go_num, hat4, hm4, hl4, hn4⟩
            case measure => simp [intOf]; omega
          · obtain ⟨i, rfl⟩ := Int.eq_ofNat_of_zero_le (show 0 ≤ r by omega)
            have hi : i < 16 := by omega
            have hii : (i : Int) < 16 := by omega
            have hyb := hok.1.at i
            have hzb := hok.2.at i
            have hcm : wr.cell? ⟨w2.heap.size, i, none⟩ = some (.int .i64 (t.m.getD i 0)) := by
              rw [hm.cell, List.getElem?_toArray, ints_get, get_getD (by rw [hok.1.1]; exact hi)]; rfl
            have hcl : wr.cell? ⟨w2.heap.size + 1, i, none⟩ = some (.int .i64 (t.l.getD i 0)) := by
              rw [hll.cell, List.getElem?_toArray, ints_get, get_getD (by rw [hok.2.1]; exact hi)]; rfl
            have hfm := hm.frozen i
            have hfl := hll.frozen i
            obtain ⟨y, hy⟩ : ∃ y, t.m.getD i 0 = y := ⟨_, rfl⟩
            obtain ⟨z, hz⟩ : ∃ z, t.l.getD i 0 = z := ⟨_, rfl⟩
            rw [hy] at hcm hyb
            rw [hz] at hcl hzb
            have HY := Lib.hid hy
            have HZ := Lib.hid hz
            clear hy hz
            have ew1 : IntKind.i64.wrap (1099511627776 - y) = 1099511627776 - y := IntWalk.i64_in _ (by omega)
            have ew2 : IntKind.i64.wrap (1099511627776 - z) = 1099511627776 - z := IntWalk.i64_in _ (by omega)
            by_cases h2 : 0 ≤ x
            · by_cases h3 : 1099511627776 - y < x
              · skip
                have HF := Lib.hid (addF_mfull (c := t) hi h2 (by rw [HY.out]; exact h3))
                have c1 := fun W h => add W bc t (i : Int) x h hxb.1 hxb.2
                rw [HF.out] at c1
                have C1 := Lib.hid c1
                clear c1 hm hll hat hnr
                go_wp2_with fail
                refine wp_region_quiet1 (by kernel_rfl) (by kernel_rfl) ?_
                repeat still_step
                refine wpStill_nil ?_
                go_wp2_with fail
                refine (C1.out _ ⟨HAT.out.ok, (by repeat (first | exact HAT.out.blk | refine Blk.drew ?_ | refine Blk.drewN ?_ _ | refine Blk.alloc ?_ _ | refine Blk.far ?_ (by simp <;> omega) _))⟩).mono ?_
                rintro e w4 ⟨rfl, hat4, hu4⟩
                have hn4 := (show New w _ from (by repeat (first | exact HNR.out | refine Chg.drew ?_ | refine Chg.drewN ?_ _ | refine Chg.alloc ?_ _ | refine Chg.setCell ?_ (fun h => by (try simp at h); omega) _))).trans hu4 (fun i hi e => by omega)
                have hm4 : Blk w4 w2.heap.size 26 (ints t.m).toArray := Blk.chg (by repeat (first | exact HM.out | refine Blk.drew ?_ | refine Blk.drewN ?_ _ | refine Blk.alloc ?_ _ | refine Blk.far ?_ (by simp <;> omega) _)) hu4 (fun e => by omega)
                have hl4 : Blk w4 (w2.heap.size + 1) 26 (ints t.l).toArray := Blk.chg (by repeat (first | exact HL.out | refine Blk.drew ?_ | refine Blk.drewN ?_ _ | refine Blk.alloc ?_ _ | refine Blk.far ?_ (by simp <;> omega) _)) hu4 (fun e => by omega)
                clear hu4
                go_wp2
                go_roundw
                case rel => exact ⟨k + 1, _, by omega, by go_num, hat4, hm4, hl4, hn4⟩
                case measure => simp [intOf]; omega
              · have ew3 : IntKind.i64.wrap (y + x) = y + x := IntWalk.i64_in _ (by omega)
                have HF := Lib.hid (addF_m (c := t) hi h2 (by rw [HY.out]; exact h3))
                have c1 := fun W h => add W bc t (i : Int) x h hxb.1 hxb.2
                rw [HF.out] at c1
                have C1 := Lib.hid c1
                clear c1 hm hll hat hnr
                rw [HY.out] at HF C1
                go_wp2_with fail
                refine wp_region_quiet1 (by kernel_rfl) (by kernel_rfl) ?_
                repeat still_step
                refine wpStill_nil ?_
                go_wp2_with fail
                refine wp_region_tail 8 (by kernel_rfl) (by kernel_rfl) ?_
                simp only [List.take_succ_cons, List.take_zero, List.drop_succ_cons, List.drop_zero]
                repeat still_step
                refine wpStill_nil ?_
                go_wp2_with fail
                refine (C1.out _ ⟨HAT.out.ok, (by repeat (first | exact HAT.out.blk | refine Blk.drew ?_ | refine Blk.drewN ?_ _ | refine Blk.alloc ?_ _ | refine Blk.far ?_ (by simp <;> omega) _))⟩).mono ?_
                rintro e w4 ⟨rfl, hat4, hu4⟩
                have hn4 := (show New w _ from (by repeat (first | exact HNR.out | refine Chg.drew ?_ | refine Chg.drewN ?_ _ | refine Chg.alloc ?_ _ | refine Chg.setCell ?_ (fun h => by (try simp at h); omega) _))).trans hu4 (fun i hi e => by omega)
                have hm4 : Blk w4 w2.heap.size 26 (ints (t.m.set i (y + x))).toArray := Blk.chg (by (repeat (first | refine Blk.drew ?_ | refine Blk.alloc ?_ _)); have := HM.out.set_ i (.int .i64 (y + x)); rwa [setIfInBounds_toArray, ints_set] at this) hu4 (fun e => by omega)
                have hl4 : Blk w4 (w2.heap.size + 1) 26 (ints t.l).toArray := Blk.chg (by repeat (first | exact HL.out | refine Blk.drew ?_ | refine Blk.drewN ?_ _ | refine Blk.alloc ?_ _ | refine Blk.far ?_ (by simp <;> omega) _)) hu4 (fun e => by omega)
                clear hu4
                go_wp2
                go_roundw
                case rel => exact ⟨k + 1, _, by omega, by go_num, hat4, hm4, hl4, hn4⟩
                case measure => simp [intOf]; omega
            · by_cases h4 : x < -1099511627776
              · skip
                have HF := Lib.hid (addF_low (c := t) hi h4)
                have c1 := fun W h => add W bc t (i : Int) x h hxb.1 hxb.2
                rw [HF.out] at c1
                have C1 := Lib.hid c1
                clear c1 hm hll hat hnr
                go_wp2_with fail
                go_quiet (fail)
                go_wp2_with fail
                refine (C1.out _ ⟨HAT.out.ok, (by repeat (first | exact HAT.out.blk | refine Blk.drew ?_ | refine Blk.drewN ?_ _ | refine Blk.alloc ?_ _ | refine Blk.far ?_ (by simp <;> omega) _))⟩).mono ?_
                rintro e w4 ⟨rfl, hat4, hu4⟩
                have hn4 := (show New w _ from (by repeat (first | exact HNR.out | refine Chg.drew ?_ | refine Chg.drewN ?_ _ | refine Chg.alloc ?_ _ | refine Chg.setCell ?_ (fun h => by (try simp at h); omega) _))).trans hu4 (fun i hi e => by omega)
                have hm4 : Blk w4 w2.heap.size 26 (ints t.m).toArray := Blk.chg (by repeat (first | exact HM.out | refine Blk.drew ?_ | refine Blk.drewN ?_ _ | refine Blk.alloc ?_ _ | refine Blk.far ?_ (by simp <;> omega) _)) hu4 (fun e => by omega)
                have hl4 : Blk w4 (w2.heap.size + 1) 26 (ints t.l).toArray := Blk.chg (by repeat (first | exact HL.out | refine Blk.drew ?_ | refine Blk.drewN ?_ _ | refine Blk.alloc ?_ _ | refine Blk.far ?_ (by simp <;> omega) _)) hu4 (fun e => by omega)
                clear hu4
                go_wp2
                go_roundw
                case rel => exact ⟨k + 1, _, by omega, by go_num, hat4, hm4, hl4, hn4⟩
                case measure => simp [intOf]; omega
              · have ew4 : IntKind.i64.wrap (-x) = -x := IntWalk.i64_in _ (by omega)
                by_cases h5 : 1099511627776 - z < -x
                · skip
                  have HF := Lib.hid (addF_lfull (c := t) hi (by omega) h4 (by rw [HZ.out]; exact h5))
                  have c1 := fun W h => add W bc t (i : Int) x h hxb.1 hxb.2
                  rw [HF.out] at c1
                  have C1 := Lib.hid c1
                  clear c1 hm hll hat hnr
                  go_wp2_with fail
                  refine wp_region_quiet1 (by kernel_rfl) (by kernel_rfl) ?_
                  repeat still_step
                  refine wpStill_nil ?_
                  go_wp2_with fail
                  refine (C1.out _ ⟨HAT.out.ok, (by repeat (first | exact HAT.out.blk | refine Blk.drew ?_ | refine Blk.drewN ?_ _ | refine Blk.alloc ?_ _ | refine Blk.far ?_ (by simp <;> omega) _))⟩).mono ?_
                  rintro e w4 ⟨rfl, hat4, hu4⟩
                  have hn4 := (show New w _ from (by repeat (first | exact HNR.out | refine Chg.drew ?_ | refine Chg.drewN ?_ _ | refine Chg.alloc ?_ _ | refine Chg.setCell ?_ (fun h => by (try simp at h); omega) _))).trans hu4 (fun i hi e => by omega)
                  have hm4 : Blk w4 w2.heap.size 26 (ints t.m).toArray := Blk.chg (by repeat (first | exact HM.out | refine Blk.drew ?_ | refine Blk.drewN ?_ _ | refine Blk.alloc ?_ _ | refine Blk.far ?_ (by simp <;> omega) _)) hu4 (fun e => by omega)
                  have hl4 : Blk w4 (w2.heap.size + 1) 26 (ints t.l).toArray := Blk.chg (by repeat (first | exact HL.out | refine Blk.drew ?_ | refine Blk.drewN ?_ _ | refine Blk.alloc ?_ _ | refine Blk.far ?_ (by simp <;> omega) _)) hu4 (fun e => by omega)
                  clear hu4
                  go_wp2
                  go_roundw
                  case rel => exact ⟨k + 1, _, by omega, by go_num, hat4, hm4, hl4, hn4⟩
                  case measure => simp [intOf]; omega
                · have ew5 : IntKind.i64.wrap (z - x) = z - x := IntWalk.i64_in _ (by omega)
                  have HF := Lib.hid (addF_l (c := t) hi (by omega) h4 (by rw [HZ.out]; exact h5))
                  have c1 := fun W h => add W bc t (i : Int) x h hxb.1 hxb.2
                  rw [HF.out] at c1
                  have C1 := Lib.hid c1
                  clear c1 hm hll hat hnr
                  rw [HZ.out] at HF C1
                  go_wp2_with fail
                  refine wp_region_quiet1 (by kernel_rfl) (by kernel_rfl) ?_
                  repeat still_step
                  refine wpStill_nil ?_
                  go_wp2_with fail
                  refine wp_region_tail 8 (by kernel_rfl) (by kernel_rfl) ?_
                  simp only [List.take_succ_cons, List.take_zero, List.drop_succ_cons, List.drop_zero]
                  repeat still_step
                  refine wpStill_nil ?_
                  go_wp2_with fail
                  refine (C1.out _ ⟨HAT.out.ok, (by repeat (first | exact HAT.out.blk | refine Blk.drew ?_ | refine Blk.drewN ?_ _ | refine Blk.alloc ?_ _ | refine Blk.far ?_ (by simp <;> omega) _))⟩).mono ?_
                  rintro e w4 ⟨rfl, hat4, hu4⟩
                  have hn4 := (show New w _ from (by repeat (first | exact HNR.out | refine Chg.drew ?_ | refine Chg.drewN ?_ _ | refine Chg.alloc ?_ _ | refine Chg.setCell ?_ (fun h => by (try simp at h); omega) _))).trans hu4 (fun i hi e => by omega)
                  have hm4 : Blk w4 w2.heap.size 26 (ints t.m).toArray := Blk.chg (by repeat (first | exact HM.out | refine Blk.drew ?_ | refine Blk.drewN ?_ _ | refine Blk.alloc ?_ _ | refine Blk.far ?_ (by simp <;> omega) _)) hu4 (fun e => by omega)
                  have hl4 : Blk w4 (w2.heap.size + 1) 26 (ints (t.l.set i (z - x))).toArray := Blk.chg (by (repeat (first | refine Blk.drew ?_ | refine Blk.alloc ?_ _)); have := HL.out.set_ i (.int .i64 (z - x)); rwa [setIfInBounds_toArray, ints_set] at this) hu4 (fun e => by omega)
                  clear hu4
                  go_wp2
                  go_roundw
                  case rel => exact ⟨k + 1, _, by omega, by go_num, hat4, hm4, hl4, hn4⟩
                  case measure => simp [intOf]; omega
      · obtain rfl : k = n := by omega
        have hok := hat.ok
        go_wp2
        go_loopw [9, 10, 11, 12, 87] (fun sm _ _ _ i ws => ∃ (j q : Nat), j ≤ 16 ∧ i = .int .i64 j ∧ sm = .int .i64 ((t.m.take j).sum - (t.l.take j).sum) ∧ ws = wr.drewN q) (fun _ _ _ _ i _ => 16 - (intOf i).toNat)
        case atStart => exact ⟨0, 0, by omega, rfl, by simp, rfl⟩
        case round =>
          obtain ⟨j, q, hj, rfl, rfl, rfl⟩ := hrel
          have hs1 := hok.1.take_sum j
          have hs2 := hok.2.take_sum j
          by_cases hlj : j < 16
          · have hji : (j : Int) < 16 := by omega
            have HT1 := Lib.hid (show (t.m.take (j + 1)).sum = (t.m.take j).sum + t.m.getD j 0 by
              rw [List.take_succ_eq_append_getElem (by rw [hok.1.1]; omega), List.sum_append]
              simp [List.getD_eq_getElem?_getD, List.getElem?_eq_getElem (show j < t.m.length by rw [hok.1.1]; omega)])
            have HT2 := Lib.hid (show (t.l.take (j + 1)).sum = (t.l.take j).sum + t.l.getD j 0 by
              rw [List.take_succ_eq_append_getElem (by rw [hok.2.1]; omega), List.sum_append]
              simp [List.getD_eq_getElem?_getD, List.getElem?_eq_getElem (show j < t.l.length by rw [hok.2.1]; omega)])
            have hyb := hok.1.at j
            have hzb := hok.2.at j
            have hcm : wr.cell? ⟨w2.heap.size, j, none⟩ = some (.int .i64 (t.m.getD j 0)) := by
              rw [hm.cell, List.getElem?_toArray, ints_get, get_getD (by rw [hok.1.1]; exact hlj)]; rfl
            have hcl : wr.cell? ⟨w2.heap.size + 1, j, none⟩ = some (.int .i64 (t.l.getD j 0)) := by
              rw [hll.cell, List.getElem?_toArray, ints_get, get_getD (by rw [hok.2.1]; exact hlj)]; rfl
            have c1 := own_in (wr.drewN q) bc t ⟨hat.ok, hat.blk⟩ j hlj
            obtain ⟨y, hy⟩ : ∃ y, t.m.getD j 0 = y := ⟨_, rfl⟩
            obtain ⟨z, hz⟩ : ∃ z, t.l.getD j 0 = z := ⟨_, rfl⟩
            rw [hy] at hcm hyb c1 HT1
            rw [hz] at hcl hzb c1 HT2
            clear hy hz
            have C1 := Lib.hid c1
            have HAT := Lib.hid hat
            clear c1 hm hll hat
            generalize (t.m.take j).sum = s1 at *
            generalize (t.l.take j).sum = s2 at *
            have ew1 : IntKind.i64.wrap (y - z) = y - z := IntWalk.i64_in _ (by omega)
            have ew2 : IntKind.i64.wrap (s1 - s2 + (y - z)) = s1 - s2 + (y - z) := IntWalk.i64_in _ (by omega)
            go_wp2_with fail
            refine C1.out.mono ?_
            rintro e w4 ⟨rfl, rfl⟩
            go_wp2
            refine wp_region_quiet1 (by kernel_rfl) (by kernel_rfl) ?_
            repeat still_step
            refine wpStill_nil ?_
            go_wp2
            go_roundw
            case rel => exact ⟨j + 1, _, by omega, by go_num, by rw [HT1.out, HT2.out]; congr 1; omega, rfl⟩
            case measure => simp [intOf]; omega
          · obtain rfl : j = 16 := by omega
            have hv : (t.m.take 16).sum - (t.l.take 16).sum = val t := by
              rw [List.take_of_length_le (by rw [hok.1.1]; omega), List.take_of_length_le (by rw [hok.2.1]; omega)]
              rfl
            rw [hv] at *
            have C1 := Lib.hid (own_out (wr.drewN q) bc 16 (by omega))
            have C2 := Lib.hid (value (wr.drewN q) bc t ⟨hat.ok, hat.blk⟩)
            clear hm hll hat hv
            go_wp2_with fail
            refine C1.out.mono ?_
            rintro e w4 ⟨rfl, rfl⟩
            go_wp2_with fail
            refine C2.out.mono ?_
            rintro e w4 ⟨rfl, hn4⟩
            go_wp2
            go_ret
            exact ⟨rfl, (hnr.drewN q).trans hn4 (fun _ _ => False.elim)⟩

theorem adds_args {H : Type} {enc : TypeId × Value → H} {W : World} {base : Nat} {args : Array Value} {ds : List (DataW H)} {ps : List MemPlace}
    (hval : ∀ (j : Nat) t v, Try.f3.params[j]? = some t → args[j]? = some v → Value.okWide Try.prog W .any base t v)
    (hw : ∀ (j : Nat) t d, Try.f3.params.toList[j]? = some t → ds[j]? = some d → ∀ n ∈ d.weights Try.prog t, n ≤ reachBytes)
    (hA : DataW.TrodAll enc Try.prog W 0 (fun _ => true) true Try.f3.params.toList args.toList ds ps) :
    Calls Try.prog 3 args W fun e w' => LawEnd W e w' := by
  rw [Try.params3] at hA hval hw
  obtain ⟨v0, d0, rfl, rfl, h0⟩ := trodAll_one hA
  have o0 := hval 0 _ v0 rfl rfl
  have q0 := hw 0 _ d0 rfl rfl
  obtain ⟨A, n, c, xs, rfl, hx, hnc, hc, hl, hb⟩ := open_struct_ints (B := 16) (s := 2) Try.underlying22 Try.underlying28 (by kernel_rfl) rfl (by omega) (by kernel_rfl)
    (fun j f hj => by match j, hj with | 0, hj => (simp at hj; subst hj; exact Try.underlying3) | 1, hj => (simp at hj; subst hj; exact Try.underlying3)) (by kernel_rfl) (cells_slice Try.underlying22 o0) q0 h0
  exact adds W A n c xs (by omega) hx hb hl
end Counter

namespace lawCounterAdds
theorem own : ownKnob Try.prog.godebug = none := by kernel_rfl
theorem laidOut : laidOutB Try.prog = true := by kernel_rfl
theorem reads : ∀ t ∈ Try.f3.params.toList, Try.prog.readableRec t = true ∧ t < Try.prog.types.size := by
  have h : (Try.f3.params.toList.all fun t => Try.prog.readableRec t && decide (t < Try.prog.types.size)) = true := by kernel_rfl
  intro t ht
  have := List.all_eq_true.1 h t ht
  simpa using this
theorem spec {H : Type} (ds : List (DataW H)) (h : ds.length = 1) : Rows.counterAddsSpec.fn H ds = { results := [.lit (.bool true)], args := ds } := by
  match ds, h with
  | [d1], _ => rfl
theorem trodAll_len {H : Type} {enc : TypeId × Value → H} {P : Program} {w : World} {base : Nat} {sp : Nat → Bool} {held : Bool} : ∀ (ts : List TypeId) (vs : List Value) (ds : List (DataW H)) (ps : List MemPlace),
    DataW.TrodAll enc P w base sp held ts vs ds ps → ds.length = ts.length
  | [], _, _, _, h => by
    obtain ⟨_, rfl, _⟩ := trodAll_nil h
    rfl
  | _ :: ts, _, _, _, h => by
    obtain ⟨_, vs, _, ds, _, _, _, rfl, _, _, hr⟩ := trodAll_cons h
    simp [trodAll_len ts vs ds _ hr]
theorem contract (H : Type) (enc : TypeId × Value → H) (W : World) (base : Nat) (args : Array Value) (ds gs : List (DataW H)) (before : List MemPlace)
    (hval : ∀ (j : Nat) t v, Try.f3.params[j]? = some t → args[j]? = some v → Value.okWide Try.prog W .any base t v)
    (hW : DataW.Whole enc Try.prog Try.f3.params.toList Rows.counterAddsSpec.vars false W args.toList ds gs before)
    (hz : (DataW.weightsEach Try.prog (Try.f3.params.toList ++ Rows.counterAddsSpec.plain.varTypes Try.prog) (ds ++ gs)).all (· ≤ reachBytes) = true) :
    Calls Try.prog 3 args W fun e W' => ∃ v, e = .returned v ∧ Rows.counterAddsSpec.post enc Try.prog Try.f3 false true false false W args v W' := by
  obtain ⟨p, q, hA, hV, _⟩ := id hW
  have hlen : ds.length = 1 := (trodAll_len _ _ _ _ hA).trans (by kernel_rfl)
  have hV1 : DataW.TrodVars enc Try.prog W (fun _ => true) [] gs q := hV
  obtain ⟨rfl, rfl⟩ := trodVars_none hV1
  have hw : ∀ (j : Nat) t d, Try.f3.params.toList[j]? = some t → ds[j]? = some d → ∀ n ∈ d.weights Try.prog t, n ≤ reachBytes := by
    intro j t d ht hd n hn
    rw [List.append_nil] at hz
    have hlt : j < Try.f3.params.toList.length := (List.getElem?_eq_some_iff.1 ht).1
    have := List.all_eq_true.1 hz n (DataW.weights_mem_each (by rw [List.getElem?_append_left hlt]; exact ht) hd n hn)
    simpa using this
  refine (Counter.adds_args hval hw hA).mono fun e W' ⟨he, hn⟩ => ?_
  exact ⟨_, he, law_post laidOut (tb := 4) rfl Try.underlying4 reads rfl hW (spec ds hlen) hn.below⟩
set_option maxRecDepth 100000 in
theorem lifted (os : Os) (started : os.Started) (H : Type) (enc : TypeId × Value → H) :
    ReturnsInHanded {} Try.checked os 3 .any (Rows.counterAddsSpec.pre6 enc Try.prog Try.f3 Rows.counterAddsRow.domain false) (Rows.counterAddsSpec.post enc Try.prog Try.f3 false true false false) := by
  refine returnsInHanded_of_change_sized (C := Try.checked) own started (by kernel_rfl) Try.func3
    (ChangeSpec.witness6 (enc := enc) (C := Try.checked) (s := Rows.counterAddsSpec) false ⟨#[], #[.slice none 0 0], []⟩ 60 (by kernel_rfl) (by kernel_rfl) (by kernel_rfl) (by kernel_rfl)) ?_
  intro W base args ds gs before hval hW _ hz _
  exact contract H enc W base args ds gs before hval hW hz
theorem proved : Rows.CounterAddsSaid :=
  OpenClaim.holds_of_wide 3 Try.f3 rfl rfl rfl rfl rfl rfl rfl ⟨rfl, rfl, rfl, rfl, rfl⟩ rfl rfl rfl rfl rfl (by kernel_rfl) Try.func3 (by kernel_rfl)
    (of_decide_eq_true (by kernel_rfl)) (by unfold Func.isWrapper; first | (rw [if_pos (by decide +kernel)]; kernel_rfl) | (rw [if_neg (by decide +kernel)]; exact ⟨rfl, rfl⟩))
    (fun os started H enc _ => lifted os started H enc)
end lawCounterAdds
end Go.Proofs.Ytihmajdgfalhdaa

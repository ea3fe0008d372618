/-
  What the program's crc package computes: the table, New, Add, Value and Bytes, each for every input that can be read (Add: bytes that lie in another block than the sum).
-/
import Derived.Test.YtoddgakhiaokaaaMem
import Derived.Test.YtoddgakhiaokaaaCrcPlain
namespace Go.Proofs.Ytoddgakhiaokaaa
open Go.ChangeShapes Go.WideShapes Go.RowKit
namespace Crc

abbrev ptr (b : Nat) : Value := .pointer (some ⟨b, 0, none⟩)
def tabC (k : Nat) : Array Value := ((List.range 256).map fun j => Value.int .u32 (if j < k then ((tbl j : Nat) : Int) else 0)).toArray
theorem zero_tab (w : World) : (zeroValue 87).run Try.prog w = .ok (.agg (tabC 0)) w := by kernel_rfl
theorem tabC_get (k j : Nat) (h : j < 256) : (tabC k)[j]? = some (.int .u32 (if j < k then ((tbl j : Nat) : Int) else 0)) := by
  simp [tabC, h]
theorem tabC_size (k : Nat) : (tabC k).size = 256 := by simp [tabC]
theorem tabC_set (k : Nat) (h : k < 256) : (tabC k).setIfInBounds k (.int .u32 ((tbl k : Nat) : Int)) = tabC (k + 1) := by
  apply Array.ext_getElem?
  intro i
  rw [Array.getElem?_setIfInBounds, tabC_size]
  by_cases hi : i < 256
  · by_cases hk : k = i
    · subst hk
      rw [if_pos rfl, if_pos h, tabC_get _ _ hi]
      simp
    · rw [if_neg hk, tabC_get _ _ hi, tabC_get _ _ hi]
      have : i < k ↔ i < k + 1 := by omega
      simp [this]
  · rw [if_neg (by omega), Array.getElem?_eq_none (by rw [tabC_size]; omega), Array.getElem?_eq_none (by rw [tabC_size]; omega)]

theorem step_eq (r : Nat) (h : r < 4294967296) : bits .xor .u32 ((r : Int) / 2) (3988292384 * bits .and .u32 (r : Int) 1 % 4294967296) = ((stp r : Nat) : Int) := by
  have h1 : bits .and .u32 (r : Int) 1 = ((r % 2 : Nat) : Int) := by
    have := u32_and_nat r 1 h (by omega)
    rw [show ((1 : Nat) : Int) = 1 from rfl] at this
    rw [this, Nat.and_one_is_mod]
  rw [h1]
  unfold stp
  have hm := Nat.mod_two_eq_zero_or_one r
  have := u32_xor_nat (r / 2) (if r % 2 = 1 then 3988292384 else 0) (by omega) (by split <;> omega)
  rw [← this]
  congr 1
  rcases hm with hm | hm <;> simp [hm]

set_option maxHeartbeats 800000 in
set_option maxRecDepth 100000 in
theorem made (w : World) : Calls Try.prog 36 #[] w fun e w' => e = .returned (ptr w.heap.size) ∧ w.alloc (.cells (tabC 256) 87) = w' := by
  have hz := zero_tab
  go_enter Try.func36, Try.ntmps36
  go_wp2
  go_loopw [7] (fun i wr => ∃ k : Nat, k ≤ 256 ∧ i = .int .i64 k ∧ wr = w.alloc (.cells (tabC k) 87)) (fun i _ => 256 - (intOf i).toNat)
  case atStart => exact ⟨0, by omega, rfl, rfl⟩
  case round =>
    clear hz
    obtain ⟨k, hk, rfl, rfl⟩ := hrel
    by_cases hlt : k < 256
    · go_wp2
      go_loop [3, 12] (fun r i => ∃ j : Nat, j ≤ 8 ∧ i = .int .i64 j ∧ r = .int .u32 ((stpN j k : Nat) : Int)) (fun _ i => 8 - (intOf i).toNat)
      case atStart => exact ⟨0, by omega, rfl, rfl⟩
      case round =>
        obtain ⟨j, hj, rfl, rfl⟩ := hrel
        have hb := stpN_lt j (show k < 4294967296 by omega)
        have HS : Hid (bits .xor .u32 (((stpN j k : Nat) : Int) / 2) (3988292384 * bits .and .u32 ((stpN j k : Nat) : Int) 1 % 4294967296) = ((stpN (j + 1) k : Nat) : Int)) := step_eq _ hb
        by_cases hlj : j < 8
        · go_wp2
          go_round
          case rel => exact ⟨j + 1, by omega, by go_num, by rw [HS.out]⟩
          case measure => simp [intOf]; omega
        · obtain rfl : j = 8 := by omega
          have hg := tabC_get k k hlt
          go_wp2
          go_roundw
          case rel => exact ⟨k + 1, by omega, by go_num, by rw [← tabC_set k hlt]; rfl⟩
          case measure => simp [intOf]; omega
    · obtain rfl : k = 256 := by omega
      go_wp2
      go_ret
      exact ⟨rfl, rfl⟩

/-- a sum at block s whose register is r -/
def SumAt (w : World) (s : Nat) (r : Nat) : Prop := ∃ t, Blk w s 72 #[.int .u32 (r : Int), ptr t] ∧ Blk w t 87 (tabC 256)
theorem SumAt.lt {w : World} {s r : Nat} (h : SumAt w s r) : s < w.heap.size := by
  obtain ⟨t, h1, _⟩ := h
  exact h1.lt
theorem SumAt.chg {w w' : World} {s r : Nat} {S : Nat → Prop} (h : SumAt w s r) (hc : Chg S w w') (hs : ¬ S s) (ht : ∀ t cs, Blk w t 87 cs → ¬ S t) : SumAt w' s r := by
  obtain ⟨t, h1, h2⟩ := h
  exact ⟨t, h1.chg hc hs, h2.chg hc (ht t _ h2)⟩
theorem SumAt.new {w w' : World} {s r : Nat} (h : SumAt w s r) (hc : New w w') : SumAt w' s r := h.chg hc id fun _ _ _ => id
theorem SumAt.other {w w' : World} {s r s' r' : Nat} (h : SumAt w s r) (h' : SumAt w s' r') (hne : s ≠ s') (hc : Upd s' w w') : SumAt w' s r := by
  obtain ⟨t', h1, h2⟩ := h'
  refine h.chg hc hne fun t cs ht => ?_
  rintro rfl
  exact ht.ne_ h1 (by decide) rfl

set_option maxHeartbeats 400000 in
theorem new_ (w : World) : Calls Try.prog 29 #[] w fun e w' => ∃ s, e = .returned (ptr s) ∧ w.heap.size ≤ s ∧ SumAt w' s 4294967295 ∧ New w w' := by
  go_enter Try.func29, Try.ntmps29
  go_wp2_with (go_at_call 36; refine (made _).mono ?_; rintro e w' ⟨rfl, rfl⟩)
  go_ret
  refine ⟨w.heap.size + 1, rfl, by omega, ⟨w.heap.size, ?_, ?_⟩, ((Chg.refl _ _).alloc _).alloc _⟩
  · have := Blk.new (w.alloc (.cells (tabC 256) 87)) 72 #[.int .u32 4294967295, ptr w.heap.size]
    simpa using this
  · exact (Blk.new w 87 (tabC 256)).alloc _

theorem not32 (r : Nat) (h : r < 4294967296) : 4294967295 ^^^ r = 4294967295 - r := by
  apply Nat.eq_of_testBit_eq
  intro i
  rw [show 4294967295 - r = 2 ^ 32 - (r + 1) by omega, Nat.testBit_two_pow_sub_succ h, Nat.testBit_xor, show 4294967295 = 2 ^ 32 - 1 by rfl, Nat.testBit_two_pow_sub_one]
  by_cases hi : i < 32
  · simp [hi]
  · have : r.testBit i = false := Nat.testBit_lt_two_pow (Nat.lt_of_lt_of_le (m := 2 ^ 32) h (Nat.pow_le_pow_right (by omega) (show 32 ≤ i from Nat.le_of_not_lt hi)))
    simp [hi, this]
theorem value_nil (w : World) : Calls Try.prog 32 #[.pointer none] w fun e w' => e = .returned (.int .u32 0) ∧ w = w' := by
  go_enter Try.func32, Try.ntmps32
  go_wp2
  go_ret
  exact ⟨rfl, rfl⟩
theorem value (w : World) (s r : Nat) (h : SumAt w s r) (hr : r < 4294967296) :
    Calls Try.prog 32 #[ptr s] w fun e w' => e = .returned (.int .u32 ((4294967295 - r : Nat) : Int)) ∧ w = w' := by
  obtain ⟨t, h1, _⟩ := h
  have c0 := h1.cell 0
  simp only [List.getElem?_toArray, List.getElem?_cons_zero] at c0
  clear h1
  go_enter Try.func32, Try.ntmps32
  have hx : bits .xor .u32 IntKind.u32.max (r : Int) = ((4294967295 - r : Nat) : Int) := by
    rw [show IntKind.u32.max = ((4294967295 : Nat) : Int) from rfl, u32_xor_nat _ _ (by omega) hr, not32 r hr]
  have HX := Lib.hid hx
  clear hx
  go_wp2
  all_goals first | (exfalso; revert ‹IntKind.u32.signed = true›; decide) | skip
  go_ret
  exact ⟨by simp [HX.out], rfl⟩

theorem add_nil (w : World) (v : Value) : Calls Try.prog 30 #[.pointer none, v] w fun e w' => e = .returned (.pointer none) ∧ w = w' := by
  go_enter Try.func30, Try.ntmps30
  go_wp2
  go_ret
  exact ⟨rfl, rfl⟩

set_option maxHeartbeats 800000 in
set_option maxRecDepth 100000 in
theorem add (w : World) (s r : Nat) (F : Nat → Prop) (A : Option Addr) (n c : Nat) (l : List UInt8) (h : SumAt w s r) (hr : r < 4294967296) (hl : Reads w F 1 A n (u8s l)) (hF : ¬ F s) (hn : n ≤ maxLen) :
    Calls Try.prog 30 #[ptr s, .slice A n c] w fun e w' => e = .returned (ptr s) ∧ SumAt w' s (updL r l) ∧ Upd s w w' := by
  unfold maxLen at hn
  have hlen : l.length = n := by have := hl.len; rw [u8s_length] at this; omega
  have HL := Lib.hid hlen
  clear hlen
  go_enter Try.func30, Try.ntmps30
  go_wp2
  go_loopw [11] (fun i wr => ∃ k : Nat, k ≤ n ∧ i = .int .i64 k ∧ SumAt wr s (updL r (l.take k)) ∧ Upd s w wr) (fun i _ => n - (intOf i).toNat)
  case atStart => exact ⟨0, by omega, rfl, by simpa [updL] using h, Chg.refl _ _⟩
  case round =>
    obtain ⟨k, hk, rfl, hs, hu⟩ := hrel
    by_cases hlt : k < n
    · have hlr := hl.chg' hu (fun b hb e => hF (e ▸ hb)) (by omega)
      obtain ⟨ad, u, rfl, hFa, hu1, hcell⟩ := hlr.at_ hlt
      obtain ⟨t, h1, h2⟩ := hs
      have hk' : k < l.length := by rw [HL.out]; exact hlt
      rw [u8s_get, List.getElem?_eq_getElem hk'] at hu1
      obtain rfl : u = .int .u8 ((l[k].toNat : Nat) : Int) := by simpa using hu1.symm
      have hrb := updL_lt (l.take k) hr
      have hts : l.take (k + 1) = l.take k ++ [l[k]] := by rw [List.take_succ_eq_append_getElem hk']
      have hup : updL r (l.take (k + 1)) = upd (updL r (l.take k)) l[k] := by rw [hts, updL_snoc]
      have HU := Lib.hid hup
      clear hts hup hu1 hlr
      have hcb := UInt8.toNat_lt l[k]
      generalize l[k] = ch at *
      generalize updL r (l.take k) = q at *
      have c0 := h1.cell 0
      have c1 := h1.cell 1
      have f0 := h1.frozen 0
      simp only [List.getElem?_toArray, List.getElem?_cons_zero, List.getElem?_cons_succ] at c0 c1
      have hi := idx_lt q ch
      have hi' : (((q % 256) ^^^ ch.toNat : Nat) : Int) < 256 := by exact_mod_cast hi
      have ct := h2.cell ((q % 256) ^^^ ch.toNat)
      rw [tabC_get _ _ hi, if_pos hi] at ct
      have e1 : bits .xor .u8 (IntKind.u8.wrap ((q : Nat) : Int)) ((ch.toNat : Nat) : Int) = (((q % 256) ^^^ ch.toNat : Nat) : Int) := by
        rw [IntKind.wrap_u8']
        have := u8_xor_nat (q % 256) ch.toNat (by omega) hcb
        rw [← this]; congr 1
      have e2 : bits .xor .u32 (((q : Nat) : Int) / 256) ((tbl ((q % 256) ^^^ ch.toNat) : Nat) : Int) = ((upd q ch : Nat) : Int) := by
        have := u32_xor_nat (q / 256) (tbl ((q % 256) ^^^ ch.toNat)) (by omega) (tbl_lt hi)
        unfold upd
        rw [← this]; congr 1
      have H1 := h1
      have H2 := h2
      go_wp2
      refine wp_region_tail 23 (by kernel_rfl) (by kernel_rfl) ?_
      simp only [List.take_succ_cons, List.take_zero, List.drop_succ_cons, List.drop_zero]
      repeat still_step
      refine wpStill_nil ?_
      go_wp2
      go_roundw
      case rel => exact ⟨k + 1, by omega, by go_num, by rw [HU.out]; exact ⟨t, (H1.set_ 0 _).drew, (H2.far (H2.ne_ H1 (by decide)) _).drew⟩, (hu.setCell (fun _ => rfl) _).drew⟩
      case measure => simp [intOf]; omega
    · obtain rfl : k = n := by omega
      go_wp2
      go_ret
      have : l.take k = l := List.take_of_length_le (by rw [HL.out]; omega)
      rw [this] at hs
      exact ⟨rfl, hs, hu⟩

/-- a sum's bytes -/
def sumBytes (s : Nat) : List UInt8 := [UInt8.ofNat s, UInt8.ofNat (s / 256), UInt8.ofNat (s / 65536), UInt8.ofNat (s / 16777216)]
def bytesC (s k : Nat) : Array Value := ((List.range 4).map fun j => Value.int .u8 (if j < k then ((s / 256 ^ j % 256 : Nat) : Int) else 0)).toArray
theorem bytesC_get (s k j : Nat) (h : j < 4) : (bytesC s k)[j]? = some (.int .u8 (if j < k then ((s / 256 ^ j % 256 : Nat) : Int) else 0)) := by
  simp [bytesC, h]
theorem bytesC_size (s k : Nat) : (bytesC s k).size = 4 := by simp [bytesC]
theorem bytesC_set (s k : Nat) (h : k < 4) (x : Int) (hx : x = ((s / 256 ^ k % 256 : Nat) : Int)) : (bytesC s k).setIfInBounds k (.int .u8 x) = bytesC s (k + 1) := by
  apply Array.ext_getElem?
  intro i
  rw [Array.getElem?_setIfInBounds, bytesC_size]
  by_cases hi : i < 4
  · by_cases hk : k = i
    · subst hk
      rw [if_pos rfl, if_pos h, bytesC_get _ _ _ hi, hx, if_pos (by omega)]
    · rw [if_neg hk, bytesC_get _ _ _ hi, bytesC_get _ _ _ hi]
      have : i < k ↔ i < k + 1 := by omega
      simp [this]
  · rw [if_neg (by omega), Array.getElem?_eq_none (by rw [bytesC_size]; omega), Array.getElem?_eq_none (by rw [bytesC_size]; omega)]
theorem bytesC_all (s : Nat) : bytesC s 4 = (u8s (sumBytes s)).toArray := by
  unfold bytesC u8s sumBytes
  simp [List.range_succ]

set_option maxHeartbeats 800000 in
theorem bytes (w : World) (s : Nat) (hs : s < 4294967296) :
    Calls Try.prog 31 #[.int .u32 (s : Int)] w fun e w' => e = .returned (.slice (some ⟨w.heap.size, 0, none⟩) 4 4) ∧ w.alloc (.cells (u8s (sumBytes s)).toArray 73) = w' := by
  go_enter Try.func31, Try.ntmps31
  go_wp2
  go_loopw [5] (fun i wr => ∃ k : Nat, k ≤ 4 ∧ i = .int .i64 k ∧ wr = w.alloc (.cells (bytesC s k) 73)) (fun i _ => 4 - (intOf i).toNat)
  case atStart => exact ⟨0, by omega, rfl, rfl⟩
  case round =>
    obtain ⟨k, hk, rfl, rfl⟩ := hrel
    have hc : k = 0 ∨ k = 1 ∨ k = 2 ∨ k = 3 ∨ k = 4 := by omega
    rcases hc with rfl | rfl | rfl | rfl | rfl
    · go_wp2
      go_roundw
      case rel => exact ⟨1, by omega, by go_num, by rw [bytesC_set s 0 (by omega) _ (by omega)]⟩
      case measure => simp [intOf]
    · go_wp2
      go_roundw
      case rel => exact ⟨2, by omega, by go_num, by rw [bytesC_set s 1 (by omega) _ (by omega)]⟩
      case measure => simp [intOf]
    · go_wp2
      go_roundw
      case rel => exact ⟨3, by omega, by go_num, by rw [bytesC_set s 2 (by omega) _ (by omega)]⟩
      case measure => simp [intOf]
    · go_wp2
      go_roundw
      case rel => exact ⟨4, by omega, by go_num, by rw [bytesC_set s 3 (by omega) _ (by omega)]⟩
      case measure => simp [intOf]
    · go_wp2
      go_ret
      exact ⟨rfl, by rw [bytesC_all s]⟩
end Crc
end Go.Proofs.Ytoddgakhiaokaaa

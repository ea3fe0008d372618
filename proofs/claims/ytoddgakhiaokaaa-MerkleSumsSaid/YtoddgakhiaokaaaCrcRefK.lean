/-
  What the reference's crc functions compute: Of, the sum bit by bit, is the same sum; Bytes are the same bytes (no condition beyond what can be read).
-/
import Derived.Test.YtoddgakhiaokaaaCrcK
namespace Go.Proofs.Ytoddgakhiaokaaa
open Go.ChangeShapes Go.WideShapes Go.RowKit
namespace Crc

theorem stp_odd (r : Nat) (h : r % 2 = 1) : stp r = (r / 2) ^^^ 3988292384 := by simp [stp, h]
theorem stp_even (r : Nat) (h : r % 2 = 0) : stp r = r / 2 := by simp [stp, h]

set_option maxHeartbeats 800000 in
set_option maxRecDepth 100000 in
theorem ref_of (w : World) (F : Nat → Prop) (A : Option Addr) (n c : Nat) (l : List UInt8) (hl : Reads w F 1 A n (u8s l)) (hn : n ≤ maxLen) :
    Calls Try.prog 21 #[.slice A n c] w fun e w' => e = .returned (.int .u32 ((sum l : Nat) : Int)) ∧ w = w' := by
  unfold maxLen at hn
  have hlen : l.length = n := by have := hl.len; rw [u8s_length] at this; omega
  have HL := Lib.hid hlen
  clear hlen
  go_enter Try.func21, Try.ntmps21
  go_wp2
  go_loop [3, 10] (fun r i => ∃ k : Nat, k ≤ n ∧ i = .int .i64 k ∧ r = .int .u32 ((updL 4294967295 (l.take k) : Nat) : Int)) (fun _ i => n - (intOf i).toNat)
  case atStart => exact ⟨0, by omega, rfl, rfl⟩
  case round =>
    obtain ⟨k, hk, rfl, rfl⟩ := hrel
    have hrb := updL_lt (l.take k) (show 4294967295 < 4294967296 by omega)
    by_cases hlt : k < n
    · obtain ⟨ad, u, rfl, hFa, hu1, hcell⟩ := hl.at_ hlt
      have hk' : k < l.length := by rw [HL.out]; exact hlt
      rw [u8s_get, List.getElem?_eq_getElem hk'] at hu1
      obtain rfl : u = .int .u8 ((l[k].toNat : Nat) : Int) := by simpa using hu1.symm
      have hts : l.take (k + 1) = l.take k ++ [l[k]] := by rw [List.take_succ_eq_append_getElem hk']
      have hup : updL 4294967295 (l.take (k + 1)) = stpN 8 (updL 4294967295 (l.take k) ^^^ l[k].toNat) := by rw [hts, updL_snoc, upd_bits]
      have HU := Lib.hid hup
      clear hts hup hu1
      have hcb := UInt8.toNat_lt l[k]
      generalize l[k] = ch at *
      generalize updL 4294967295 (l.take k) = q at *
      have e1 : bits .xor .u32 ((q : Nat) : Int) ((ch.toNat : Nat) : Int) = ((q ^^^ ch.toNat : Nat) : Int) := u32_xor_nat _ _ hrb (by omega)
      have hx : q ^^^ ch.toNat < 4294967296 := Nat.xor_lt_two_pow (n := 32) hrb (by omega)
      go_wp2
      go_loop [3, 6, 7] (fun r i _ => ∃ j : Nat, j ≤ 8 ∧ i = .int .i64 j ∧ r = .int .u32 ((stpN j (q ^^^ ch.toNat) : Nat) : Int)) (fun _ i _ => 8 - (intOf i).toNat)
      case atStart => exact ⟨0, by omega, rfl, rfl⟩
      case round =>
        obtain ⟨j, hj, rfl, rfl⟩ := hrel
        have hb := stpN_lt j hx
        have HS := Lib.hid (show stpN (j + 1) (q ^^^ ch.toNat) = stp (stpN j (q ^^^ ch.toNat)) from rfl)
        clear e1
        generalize hgr : stpN j (q ^^^ ch.toNat) = r at *
        have HG := Lib.hid hgr
        clear hgr
        by_cases hlj : j < 8
        · rcases Nat.mod_two_eq_zero_or_one r with hm | hm
          · have HE := Lib.hid (stp_even r hm)
            have hm' : (((r : Nat) : Int) % 2 == 1) = false := by simp; omega
            clear hm
            go_wp2
            go_round
            case rel => exact ⟨j + 1, by omega, by go_num, by rw [HS.out, HE.out]; rfl⟩
            case measure => simp [intOf]; omega
          · have HE := Lib.hid (stp_odd r hm)
            have hm' : (((r : Nat) : Int) % 2 == 1) = true := by simp; omega
            clear hm
            have e2 : bits .xor .u32 (((r : Nat) : Int) / 2) 3988292384 = ((r / 2 ^^^ 3988292384 : Nat) : Int) := by
              rw [← u32_xor_nat _ _ (by omega) (by omega)]; rfl
            go_wp2
            go_round
            case rel => exact ⟨j + 1, by omega, by go_num, by rw [HS.out, HE.out]⟩
            case measure => simp [intOf]; omega
        · obtain rfl : j = 8 := by omega
          go_wp2
          go_round
          case rel => exact ⟨k + 1, by omega, by go_num, by rw [HU.out, HG.out]⟩
          case measure => simp [intOf]; omega
    · obtain rfl : k = n := by omega
      have hx : bits .xor .u32 ((updL 4294967295 (l.take k) : Nat) : Int) 4294967295 = ((4294967295 - updL 4294967295 (l.take k) : Nat) : Int) := by
        rw [← not32 _ hrb, Nat.xor_comm, ← u32_xor_nat _ _ hrb (by omega)]; rfl
      have HX := Lib.hid hx
      clear hx
      go_wp2
      go_ret
      have : l.take k = l := List.take_of_length_le (by rw [HL.out]; omega)
      refine ⟨?_, rfl⟩
      rw [this] at HX
      simp [this, HX.out, sum]

set_option maxHeartbeats 400000 in
theorem ref_bytes (w : World) (s : Nat) (hs : s < 4294967296) :
    Calls Try.prog 20 #[.int .u32 (s : Int)] w fun e w' => e = .returned (.slice (some ⟨w.heap.size, 0, none⟩) 4 4) ∧ w.alloc (.cells (u8s (sumBytes s)).toArray 5) = w' := by
  go_enter Try.func20, Try.ntmps20
  go_wp2
  go_ret
  refine ⟨rfl, ?_⟩
  congr 2
  simp [u8s, sumBytes]
  omega
end Crc
end Go.Proofs.Ytoddgakhiaokaaa

/-
  The program's num package: take (no condition beyond the size).
-/
import Derived.Test.YtkmkpdmjdfbpjaaGreatDoorJ2
/- The program's num package: take (no condition beyond the size). -/
namespace Go.Proofs.YtkmkpdmjdfbpjaaGreatDoor
set_option linter.unusedSimpArgs false
set_option linter.unusedVariables false
open Go.ChangeShapes Go.WideShapes Go.RowKit
namespace Num
theorem u8_and127 (c : UInt8) : bits .and .u8 (c.toNat : Int) 127 = ((c.toNat % 128 : Nat) : Int) := by
  have h : ∀ d : Fin 256, bits .and .u8 (d.val : Int) 127 = ((d.val % 128 : Nat) : Int) := by decide +kernel
  exact h ⟨c.toNat, UInt8.toNat_lt c⟩
theorem u64_or_nat (a b : Nat) (ha : a < 9223372036854775808) (hb : b < 9223372036854775808) : bits .or .u64 (a : Int) (b : Int) = ((a ||| b : Nat) : Int) := by
  have hx : a ||| b < 2 ^ 63 := Nat.or_lt_two_pow (by omega) (by omega)
  show IntKind.u64.wrap ((BitVec.ofInt 64 (a : Int) ||| BitVec.ofInt 64 (b : Int)).toNat : Int) = _
  have h1 : ∀ x : Nat, x < 9223372036854775808 → (BitVec.ofInt 64 (x : Int)).toNat = x := fun x h => by
    rw [BitVec.ofInt_natCast, BitVec.toNat_ofNat]
    exact Nat.mod_eq_of_lt (by omega)
  rw [BitVec.toNat_or, h1 a ha, h1 b hb]
  exact IntWalk.u64_in _ (by omega)
theorem or_at (a d i p : Nat) (hp : p = 2 ^ i) (h : a < p) (hd : d < 128) (hi : p ≤ 72057594037927936) : bits .or .u64 (a : Int) ((d : Int) * (p : Int)) = ((a + d * p : Nat) : Int) := by
  have h1 : d * p ≤ 127 * 72057594037927936 := Nat.mul_le_mul (by omega) hi
  have := u64_or_nat a (d * p) (by omega) (by omega)
  rw [or_mul a d i p hp h, Int.natCast_mul] at this
  rw [this]
  omega
theorem take_step {i acc : Nat} {l : List UInt8} {c : UInt8} (h : l[i]? = some c) (hi : i < 9) :
    takeGo i acc (l.drop i) = if c.toNat < 128 then (if (c.toNat = 0 ∧ 0 < i) ∨ 4611686018427387903 < acc + c.toNat % 128 * 2 ^ (7 * i) then none else some (acc + c.toNat % 128 * 2 ^ (7 * i), i + 1)) else takeGo (i + 1) (acc + c.toNat % 128 * 2 ^ (7 * i)) (l.drop (i + 1)) := by
  obtain ⟨h1, rfl⟩ := List.getElem?_eq_some_iff.1 h
  rw [List.drop_eq_getElem_cons h1, takeGo, if_neg (by omega)]
theorem take_end {i acc : Nat} {l : List UInt8} (h : l.length ≤ i ∨ 9 ≤ i) : takeGo i acc (l.drop i) = none := by
  rcases h with h | h
  · rw [List.drop_eq_nil_of_le h]; rfl
  · cases hd : l.drop i with
    | nil => rfl
    | cons c k => rw [takeGo, if_pos h]
def takeV (l : List UInt8) : Nat × Nat := (takeGo 0 0 l).getD (0, 0)
set_option maxHeartbeats 4000000 in
set_option maxRecDepth 20000 in
theorem take (w : World) (F : Nat → Prop) (A : Option Addr) (n cp : Nat) (l : List UInt8) (hr : Reads w F 1 A n (u8s l)) (hn : n ≤ 1000000000) (hcp : n ≤ cp) :
    Calls Tryz.prog 71 #[.slice A n cp] w fun e w' => e = .returned (.tuple #[.int .i64 (takeV l).1, .int .i64 (takeV l).2]) ∧ w' = w := by
  have hln := hr.u8len
  have hlen : ∀ k, l.length ≤ k ↔ n ≤ k := fun k => by omega
  have HR := Lib.hid hr
  have HLN := Lib.hid hln
  clear hr hln hlen
  by_cases h9 : 9 < n
  · have h9i : (9 : Int) < n := by omega
    have hmx : max (9 : Int) 0 = 9 := by decide
    go_enter Tryz.func71, Tryz.ntmps71
    go_wp2_with fail
    go_loopw [4, 13] (fun nv iv wr => ∃ i acc : Nat, i ≤ 9 ∧ nv = .int .u64 acc ∧ iv = .int .i64 i ∧ takeGo 0 0 l = takeGo i acc (l.drop i) ∧ acc < 2 ^ (7 * i) ∧ wr = w) (fun _ iv _ => 9 - (intOf iv).toNat)
    case atStart => exact ⟨0, 0, by omega, by go_num, by go_num, rfl, by decide, rfl⟩
    case round =>
      obtain ⟨i, acc, hi, rfl, rfl, hgo, hacc0, rfl⟩ := hrel
      by_cases hlt : i < 9
      · obtain ⟨ad, c, rfl, _, hc, hcell⟩ := HR.out.byte (k := i) (by omega)
        have hiM : (i : Int) < 9 := by omega
        rcases (show i = 0 ∨ i = 1 ∨ i = 2 ∨ i = 3 ∨ i = 4 ∨ i = 5 ∨ i = 6 ∨ i = 7 ∨ i = 8 by omega) with rfl | rfl | rfl | rfl | rfl | rfl | rfl | rfl | rfl
        · have hst := take_step (acc := acc) hc (show 0 < 9 by omega)
          have hacc : acc < 1 := by simpa using hacc0
          rw [hst] at hgo
          obtain ⟨x, hx⟩ : ∃ x, c.toNat = x := ⟨_, rfl⟩
          have hx256 : x < 256 := by have := UInt8.toNat_lt c; omega
          have h127 := u8_and127 c
          rw [hx] at hgo h127 hcell
          have hcell2 : wr.cell? ad = some (.int .u8 (x : Int)) := hcell
          obtain ⟨d, hd⟩ : ∃ d, x % 128 = d := ⟨_, rfl⟩
          have hd128 : d < 128 := by omega
          rw [hd] at hgo h127
          have hw1 : IntKind.u64.wrap (d : Int) = (d : Int) := IntWalk.u64_in _ (by omega)
          have hw2 : IntKind.u64.wrap ((d : Int)) = (d : Int) := IntWalk.u64_in _ (by omega)
          have hor : bits .or .u64 (acc : Int) ((d : Int)) = ((acc + d * 1 : Nat) : Int) := by
            have := or_at acc d (7 * 0) 1 (by decide) (by omega) hd128 (by decide)
            simpa using this
          rw [show 2 ^ (7 * 0) = 1 by decide] at hgo
          obtain ⟨y, hy⟩ : ∃ y, acc + d * 1 = y := ⟨_, rfl⟩
          have hyb : y < 128 := by omega
          rw [hy] at hor hgo
          have hw3 : IntKind.i64.wrap (y : Int) = (y : Int) := IntWalk.i64_in _ (by omega)
          clear hc hst hd hy hx hacc0
          by_cases h1 : x < 128
          · rw [if_pos h1] at hgo
            have g1 : (x : Int) < 128 := by omega
            by_cases h2 : 4611686018427387903 < y
            · have g2 : (4611686018427387903 : Int) < y := by omega
              exact absurd hyb (by omega)
            · have g2 : ¬ (4611686018427387903 : Int) < y := by omega
              by_cases h0 : x = 0
              · have h0a : ((x : Int) == 0) = true := by simpa using h0
                rw [if_neg (by omega)] at hgo
                have HG := Lib.hid (show takeV l = (y, 1) by unfold takeV; rw [hgo]; rfl)
                clear hgo h0
                go_wp2_with fail
                go_ret2
                exact ⟨by rw [HG.out] <;> rfl, rfl⟩
              · have h0b : ((x : Int) == 0) = false := by simpa using h0
                rw [if_neg (by omega)] at hgo
                have HG := Lib.hid (show takeV l = (y, 1) by unfold takeV; rw [hgo]; rfl)
                clear hgo
                go_wp2_with fail
                go_ret2
                exact ⟨by rw [HG.out] <;> rfl, rfl⟩
          · rw [if_neg h1] at hgo
            have g1 : ¬ (x : Int) < 128 := by omega
            have HG := Lib.hid hgo
            clear hgo
            go_wp2_with fail
            go_roundw
            case rel => exact ⟨1, y, by omega, rfl, by go_num, HG.out, by rw [show 2 ^ (7 * 1) = 128 by decide]; exact hyb, by first | rfl | exact True.intro⟩
            case measure => first | (simp [intOf]; done) | (simp [intOf]; omega)
        · have hst := take_step (acc := acc) hc (show 1 < 9 by omega)
          have hacc : acc < 128 := by simpa using hacc0
          rw [hst] at hgo
          obtain ⟨x, hx⟩ : ∃ x, c.toNat = x := ⟨_, rfl⟩
          have hx256 : x < 256 := by have := UInt8.toNat_lt c; omega
          have h127 := u8_and127 c
          rw [hx] at hgo h127 hcell
          have hcell2 : wr.cell? ⟨ad.block, ad.off + 1, none⟩ = some (.int .u8 (x : Int)) := hcell
          obtain ⟨d, hd⟩ : ∃ d, x % 128 = d := ⟨_, rfl⟩
          have hd128 : d < 128 := by omega
          rw [hd] at hgo h127
          have hw1 : IntKind.u64.wrap (d : Int) = (d : Int) := IntWalk.u64_in _ (by omega)
          have hw2 : IntKind.u64.wrap ((d : Int) * 128) = (d : Int) * 128 := IntWalk.u64_in _ (by omega)
          have hor : bits .or .u64 (acc : Int) ((d : Int) * 128) = ((acc + d * 128 : Nat) : Int) := by
            have := or_at acc d (7 * 1) 128 (by decide) (by omega) hd128 (by decide)
            exact this
          rw [show 2 ^ (7 * 1) = 128 by decide] at hgo
          obtain ⟨y, hy⟩ : ∃ y, acc + d * 128 = y := ⟨_, rfl⟩
          have hyb : y < 16384 := by omega
          rw [hy] at hor hgo
          have hw3 : IntKind.i64.wrap (y : Int) = (y : Int) := IntWalk.i64_in _ (by omega)
          clear hc hst hd hy hx hacc0
          by_cases h1 : x < 128
          · rw [if_pos h1] at hgo
            have g1 : (x : Int) < 128 := by omega
            by_cases h2 : 4611686018427387903 < y
            · have g2 : (4611686018427387903 : Int) < y := by omega
              exact absurd hyb (by omega)
            · have g2 : ¬ (4611686018427387903 : Int) < y := by omega
              by_cases h0 : x = 0
              · have h0a : ((x : Int) == 0) = true := by simpa using h0
                rw [if_pos (by omega)] at hgo
                have HG := Lib.hid (show takeV l = (0, 0) by unfold takeV; rw [hgo]; rfl)
                clear hgo h0
                go_wp2_with fail
                go_ret2
                exact ⟨by rw [HG.out] <;> rfl, rfl⟩
              · have h0b : ((x : Int) == 0) = false := by simpa using h0
                rw [if_neg (by omega)] at hgo
                have HG := Lib.hid (show takeV l = (y, 2) by unfold takeV; rw [hgo]; rfl)
                clear hgo
                go_wp2_with fail
                go_ret2
                exact ⟨by rw [HG.out] <;> rfl, rfl⟩
          · rw [if_neg h1] at hgo
            have g1 : ¬ (x : Int) < 128 := by omega
            have HG := Lib.hid hgo
            clear hgo
            go_wp2_with fail
            go_roundw
            case rel => exact ⟨2, y, by omega, rfl, by go_num, HG.out, by rw [show 2 ^ (7 * 2) = 16384 by decide]; exact hyb, by first | rfl | exact True.intro⟩
            case measure => first | (simp [intOf]; done) | (simp [intOf]; omega)
        · have hst := take_step (acc := acc) hc (show 2 < 9 by omega)
          have hacc : acc < 16384 := by simpa using hacc0
          rw [hst] at hgo
          obtain ⟨x, hx⟩ : ∃ x, c.toNat = x := ⟨_, rfl⟩
          have hx256 : x < 256 := by have := UInt8.toNat_lt c; omega
          have h127 := u8_and127 c
          rw [hx] at hgo h127 hcell
          have hcell2 : wr.cell? ⟨ad.block, ad.off + 2, none⟩ = some (.int .u8 (x : Int)) := hcell
          obtain ⟨d, hd⟩ : ∃ d, x % 128 = d := ⟨_, rfl⟩
          have hd128 : d < 128 := by omega
          rw [hd] at hgo h127
          have hw1 : IntKind.u64.wrap (d : Int) = (d : Int) := IntWalk.u64_in _ (by omega)
          have hw2 : IntKind.u64.wrap ((d : Int) * 16384) = (d : Int) * 16384 := IntWalk.u64_in _ (by omega)
          have hor : bits .or .u64 (acc : Int) ((d : Int) * 16384) = ((acc + d * 16384 : Nat) : Int) := by
            have := or_at acc d (7 * 2) 16384 (by decide) (by omega) hd128 (by decide)
            exact this
          rw [show 2 ^ (7 * 2) = 16384 by decide] at hgo
          obtain ⟨y, hy⟩ : ∃ y, acc + d * 16384 = y := ⟨_, rfl⟩
          have hyb : y < 2097152 := by omega
          rw [hy] at hor hgo
          have hw3 : IntKind.i64.wrap (y : Int) = (y : Int) := IntWalk.i64_in _ (by omega)
          clear hc hst hd hy hx hacc0
          by_cases h1 : x < 128
          · rw [if_pos h1] at hgo
            have g1 : (x : Int) < 128 := by omega
            by_cases h2 : 4611686018427387903 < y
            · have g2 : (4611686018427387903 : Int) < y := by omega
              exact absurd hyb (by omega)
            · have g2 : ¬ (4611686018427387903 : Int) < y := by omega
              by_cases h0 : x = 0
              · have h0a : ((x : Int) == 0) = true := by simpa using h0
                rw [if_pos (by omega)] at hgo
                have HG := Lib.hid (show takeV l = (0, 0) by unfold takeV; rw [hgo]; rfl)
                clear hgo h0
                go_wp2_with fail
                go_ret2
                exact ⟨by rw [HG.out] <;> rfl, rfl⟩
              · have h0b : ((x : Int) == 0) = false := by simpa using h0
                rw [if_neg (by omega)] at hgo
                have HG := Lib.hid (show takeV l = (y, 3) by unfold takeV; rw [hgo]; rfl)
                clear hgo
                go_wp2_with fail
                go_ret2
                exact ⟨by rw [HG.out] <;> rfl, rfl⟩
          · rw [if_neg h1] at hgo
            have g1 : ¬ (x : Int) < 128 := by omega
            have HG := Lib.hid hgo
            clear hgo
            go_wp2_with fail
            go_roundw
            case rel => exact ⟨3, y, by omega, rfl, by go_num, HG.out, by rw [show 2 ^ (7 * 3) = 2097152 by decide]; exact hyb, by first | rfl | exact True.intro⟩
            case measure => first | (simp [intOf]; done) | (simp [intOf]; omega)
        · have hst := take_step (acc := acc) hc (show 3 < 9 by omega)
          have hacc : acc < 2097152 := by simpa using hacc0
          rw [hst] at hgo
          obtain ⟨x, hx⟩ : ∃ x, c.toNat = x := ⟨_, rfl⟩
          have hx256 : x < 256 := by have := UInt8.toNat_lt c; omega
          have h127 := u8_and127 c
          rw [hx] at hgo h127 hcell
          have hcell2 : wr.cell? ⟨ad.block, ad.off + 3, none⟩ = some (.int .u8 (x : Int)) := hcell
          obtain ⟨d, hd⟩ : ∃ d, x % 128 = d := ⟨_, rfl⟩
          have hd128 : d < 128 := by omega
          rw [hd] at hgo h127
          have hw1 : IntKind.u64.wrap (d : Int) = (d : Int) := IntWalk.u64_in _ (by omega)
          have hw2 : IntKind.u64.wrap ((d : Int) * 2097152) = (d : Int) * 2097152 := IntWalk.u64_in _ (by omega)
          have hor : bits .or .u64 (acc : Int) ((d : Int) * 2097152) = ((acc + d * 2097152 : Nat) : Int) := by
            have := or_at acc d (7 * 3) 2097152 (by decide) (by omega) hd128 (by decide)
            exact this
          rw [show 2 ^ (7 * 3) = 2097152 by decide] at hgo
          obtain ⟨y, hy⟩ : ∃ y, acc + d * 2097152 = y := ⟨_, rfl⟩
          have hyb : y < 268435456 := by omega
          rw [hy] at hor hgo
          have hw3 : IntKind.i64.wrap (y : Int) = (y : Int) := IntWalk.i64_in _ (by omega)
          clear hc hst hd hy hx hacc0
          by_cases h1 : x < 128
          · rw [if_pos h1] at hgo
            have g1 : (x : Int) < 128 := by omega
            by_cases h2 : 4611686018427387903 < y
            · have g2 : (4611686018427387903 : Int) < y := by omega
              exact absurd hyb (by omega)
            · have g2 : ¬ (4611686018427387903 : Int) < y := by omega
              by_cases h0 : x = 0
              · have h0a : ((x : Int) == 0) = true := by simpa using h0
                rw [if_pos (by omega)] at hgo
                have HG := Lib.hid (show takeV l = (0, 0) by unfold takeV; rw [hgo]; rfl)
                clear hgo h0
                go_wp2_with fail
                go_ret2
                exact ⟨by rw [HG.out] <;> rfl, rfl⟩
              · have h0b : ((x : Int) == 0) = false := by simpa using h0
                rw [if_neg (by omega)] at hgo
                have HG := Lib.hid (show takeV l = (y, 4) by unfold takeV; rw [hgo]; rfl)
                clear hgo
                go_wp2_with fail
                go_ret2
                exact ⟨by rw [HG.out] <;> rfl, rfl⟩
          · rw [if_neg h1] at hgo
            have g1 : ¬ (x : Int) < 128 := by omega
            have HG := Lib.hid hgo
            clear hgo
            go_wp2_with fail
            go_roundw
            case rel => exact ⟨4, y, by omega, rfl, by go_num, HG.out, by rw [show 2 ^ (7 * 4) = 268435456 by decide]; exact hyb, by first | rfl | exact True.intro⟩
            case measure => first | (simp [intOf]; done) | (simp [intOf]; omega)
        · have hst := take_step (acc := acc) hc (show 4 < 9 by omega)
          have hacc : acc < 268435456 := by simpa using hacc0
          rw [hst] at hgo
          obtain ⟨x, hx⟩ : ∃ x, c.toNat = x := ⟨_, rfl⟩
          have hx256 : x < 256 := by have := UInt8.toNat_lt c; omega
          have h127 := u8_and127 c
          rw [hx] at hgo h127 hcell
          have hcell2 : wr.cell? ⟨ad.block, ad.off + 4, none⟩ = some (.int .u8 (x : Int)) := hcell
          obtain ⟨d, hd⟩ : ∃ d, x % 128 = d := ⟨_, rfl⟩
          have hd128 : d < 128 := by omega
          rw [hd] at hgo h127
          have hw1 : IntKind.u64.wrap (d : Int) = (d : Int) := IntWalk.u64_in _ (by omega)
          have hw2 : IntKind.u64.wrap ((d : Int) * 268435456) = (d : Int) * 268435456 := IntWalk.u64_in _ (by omega)
          have hor : bits .or .u64 (acc : Int) ((d : Int) * 268435456) = ((acc + d * 268435456 : Nat) : Int) := by
            have := or_at acc d (7 * 4) 268435456 (by decide) (by omega) hd128 (by decide)
            exact this
          rw [show 2 ^ (7 * 4) = 268435456 by decide] at hgo
          obtain ⟨y, hy⟩ : ∃ y, acc + d * 268435456 = y := ⟨_, rfl⟩
          have hyb : y < 34359738368 := by omega
          rw [hy] at hor hgo
          have hw3 : IntKind.i64.wrap (y : Int) = (y : Int) := IntWalk.i64_in _ (by omega)
          clear hc hst hd hy hx hacc0
          by_cases h1 : x < 128
          · rw [if_pos h1] at hgo
            have g1 : (x : Int) < 128 := by omega
            by_cases h2 : 4611686018427387903 < y
            · have g2 : (4611686018427387903 : Int) < y := by omega
              exact absurd hyb (by omega)
            · have g2 : ¬ (4611686018427387903 : Int) < y := by omega
              by_cases h0 : x = 0
              · have h0a : ((x : Int) == 0) = true := by simpa using h0
                rw [if_pos (by omega)] at hgo
                have HG := Lib.hid (show takeV l = (0, 0) by unfold takeV; rw [hgo]; rfl)
                clear hgo h0
                go_wp2_with fail
                go_ret2
                exact ⟨by rw [HG.out] <;> rfl, rfl⟩
              · have h0b : ((x : Int) == 0) = false := by simpa using h0
                rw [if_neg (by omega)] at hgo
                have HG := Lib.hid (show takeV l = (y, 5) by unfold takeV; rw [hgo]; rfl)
                clear hgo
                go_wp2_with fail
                go_ret2
                exact ⟨by rw [HG.out] <;> rfl, rfl⟩
          · rw [if_neg h1] at hgo
            have g1 : ¬ (x : Int) < 128 := by omega
            have HG := Lib.hid hgo
            clear hgo
            go_wp2_with fail
            go_roundw
            case rel => exact ⟨5, y, by omega, rfl, by go_num, HG.out, by rw [show 2 ^ (7 * 5) = 34359738368 by decide]; exact hyb, by first | rfl | exact True.intro⟩
            case measure => first | (simp [intOf]; done) | (simp [intOf]; omega)
        · have hst := take_step (acc := acc) hc (show 5 < 9 by omega)
          have hacc : acc < 34359738368 := by simpa using hacc0
          rw [hst] at hgo
          obtain ⟨x, hx⟩ : ∃ x, c.toNat = x := ⟨_, rfl⟩
          have hx256 : x < 256 := by have := UInt8.toNat_lt c; omega
          have h127 := u8_and127 c
          rw [hx] at hgo h127 hcell
          have hcell2 : wr.cell? ⟨ad.block, ad.off + 5, none⟩ = some (.int .u8 (x : Int)) := hcell
          obtain ⟨d, hd⟩ : ∃ d, x % 128 = d := ⟨_, rfl⟩
          have hd128 : d < 128 := by omega
          rw [hd] at hgo h127
          have hw1 : IntKind.u64.wrap (d : Int) = (d : Int) := IntWalk.u64_in _ (by omega)
          have hw2 : IntKind.u64.wrap ((d : Int) * 34359738368) = (d : Int) * 34359738368 := IntWalk.u64_in _ (by omega)
          have hor : bits .or .u64 (acc : Int) ((d : Int) * 34359738368) = ((acc + d * 34359738368 : Nat) : Int) := by
            have := or_at acc d (7 * 5) 34359738368 (by decide) (by omega) hd128 (by decide)
            exact this
          rw [show 2 ^ (7 * 5) = 34359738368 by decide] at hgo
          obtain ⟨y, hy⟩ : ∃ y, acc + d * 34359738368 = y := ⟨_, rfl⟩
          have hyb : y < 4398046511104 := by omega
          rw [hy] at hor hgo
          have hw3 : IntKind.i64.wrap (y : Int) = (y : Int) := IntWalk.i64_in _ (by omega)
          clear hc hst hd hy hx hacc0
          by_cases h1 : x < 128
          · rw [if_pos h1] at hgo
            have g1 : (x : Int) < 128 := by omega
            by_cases h2 : 4611686018427387903 < y
            · have g2 : (4611686018427387903 : Int) < y := by omega
              exact absurd hyb (by omega)
            · have g2 : ¬ (4611686018427387903 : Int) < y := by omega
              by_cases h0 : x = 0
              · have h0a : ((x : Int) == 0) = true := by simpa using h0
                rw [if_pos (by omega)] at hgo
                have HG := Lib.hid (show takeV l = (0, 0) by unfold takeV; rw [hgo]; rfl)
                clear hgo h0
                go_wp2_with fail
                go_ret2
                exact ⟨by rw [HG.out] <;> rfl, rfl⟩
              · have h0b : ((x : Int) == 0) = false := by simpa using h0
                rw [if_neg (by omega)] at hgo
                have HG := Lib.hid (show takeV l = (y, 6) by unfold takeV; rw [hgo]; rfl)
                clear hgo
                go_wp2_with fail
                go_ret2
                exact ⟨by rw [HG.out] <;> rfl, rfl⟩
          · rw [if_neg h1] at hgo
            have g1 : ¬ (x : Int) < 128 := by omega
            have HG := Lib.hid hgo
            clear hgo
            go_wp2_with fail
            go_roundw
            case rel => exact ⟨6, y, by omega, rfl, by go_num, HG.out, by rw [show 2 ^ (7 * 6) = 4398046511104 by decide]; exact hyb, by first | rfl | exact True.intro⟩
            case measure => first | (simp [intOf]; done) | (simp [intOf]; omega)
        · have hst := take_step (acc := acc) hc (show 6 < 9 by omega)
          have hacc : acc < 4398046511104 := by simpa using hacc0
          rw [hst] at hgo
          obtain ⟨x, hx⟩ : ∃ x, c.toNat = x := ⟨_, rfl⟩
          have hx256 : x < 256 := by have := UInt8.toNat_lt c; omega
          have h127 := u8_and127 c
          rw [hx] at hgo h127 hcell
          have hcell2 : wr.cell? ⟨ad.block, ad.off + 6, none⟩ = some (.int .u8 (x : Int)) := hcell
          obtain ⟨d, hd⟩ : ∃ d, x % 128 = d := ⟨_, rfl⟩
          have hd128 : d < 128 := by omega
          rw [hd] at hgo h127
          have hw1 : IntKind.u64.wrap (d : Int) = (d : Int) := IntWalk.u64_in _ (by omega)
          have hw2 : IntKind.u64.wrap ((d : Int) * 4398046511104) = (d : Int) * 4398046511104 := IntWalk.u64_in _ (by omega)
          have hor : bits .or .u64 (acc : Int) ((d : Int) * 4398046511104) = ((acc + d * 4398046511104 : Nat) : Int) := by
            have := or_at acc d (7 * 6) 4398046511104 (by decide) (by omega) hd128 (by decide)
            exact this
          rw [show 2 ^ (7 * 6) = 4398046511104 by decide] at hgo
          obtain ⟨y, hy⟩ : ∃ y, acc + d * 4398046511104 = y := ⟨_, rfl⟩
          have hyb : y < 562949953421312 := by omega
          rw [hy] at hor hgo
          have hw3 : IntKind.i64.wrap (y : Int) = (y : Int) := IntWalk.i64_in _ (by omega)
          clear hc hst hd hy hx hacc0
          by_cases h1 : x < 128
          · rw [if_pos h1] at hgo
            have g1 : (x : Int) < 128 := by omega
            by_cases h2 : 4611686018427387903 < y
            · have g2 : (4611686018427387903 : Int) < y := by omega
              exact absurd hyb (by omega)
            · have g2 : ¬ (4611686018427387903 : Int) < y := by omega
              by_cases h0 : x = 0
              · have h0a : ((x : Int) == 0) = true := by simpa using h0
                rw [if_pos (by omega)] at hgo
                have HG := Lib.hid (show takeV l = (0, 0) by unfold takeV; rw [hgo]; rfl)
                clear hgo h0
                go_wp2_with fail
                go_ret2
                exact ⟨by rw [HG.out] <;> rfl, rfl⟩
              · have h0b : ((x : Int) == 0) = false := by simpa using h0
                rw [if_neg (by omega)] at hgo
                have HG := Lib.hid (show takeV l = (y, 7) by unfold takeV; rw [hgo]; rfl)
                clear hgo
                go_wp2_with fail
                go_ret2
                exact ⟨by rw [HG.out] <;> rfl, rfl⟩
          · rw [if_neg h1] at hgo
            have g1 : ¬ (x : Int) < 128 := by omega
            have HG := Lib.hid hgo
            clear hgo
            go_wp2_with fail
            go_roundw
            case rel => exact ⟨7, y, by omega, rfl, by go_num, HG.out, by rw [show 2 ^ (7 * 7) = 562949953421312 by decide]; exact hyb, by first | rfl | exact True.intro⟩
            case measure => first | (simp [intOf]; done) | (simp [intOf]; omega)
        · have hst := take_step (acc := acc) hc (show 7 < 9 by omega)
          have hacc : acc < 562949953421312 := by simpa using hacc0
          rw [hst] at hgo
          obtain ⟨x, hx⟩ : ∃ x, c.toNat = x := ⟨_, rfl⟩
          have hx256 : x < 256 := by have := UInt8.toNat_lt c; omega
          have h127 := u8_and127 c
          rw [hx] at hgo h127 hcell
          have hcell2 : wr.cell? ⟨ad.block, ad.off + 7, none⟩ = some (.int .u8 (x : Int)) := hcell
          obtain ⟨d, hd⟩ : ∃ d, x % 128 = d := ⟨_, rfl⟩
          have hd128 : d < 128 := by omega
          rw [hd] at hgo h127
          have hw1 : IntKind.u64.wrap (d : Int) = (d : Int) := IntWalk.u64_in _ (by omega)
          have hw2 : IntKind.u64.wrap ((d : Int) * 562949953421312) = (d : Int) * 562949953421312 := IntWalk.u64_in _ (by omega)
          have hor : bits .or .u64 (acc : Int) ((d : Int) * 562949953421312) = ((acc + d * 562949953421312 : Nat) : Int) := by
            have := or_at acc d (7 * 7) 562949953421312 (by decide) (by omega) hd128 (by decide)
            exact this
          rw [show 2 ^ (7 * 7) = 562949953421312 by decide] at hgo
          obtain ⟨y, hy⟩ : ∃ y, acc + d * 562949953421312 = y := ⟨_, rfl⟩
          have hyb : y < 72057594037927936 := by omega
          rw [hy] at hor hgo
          have hw3 : IntKind.i64.wrap (y : Int) = (y : Int) := IntWalk.i64_in _ (by omega)
          clear hc hst hd hy hx hacc0
          by_cases h1 : x < 128
          · rw [if_pos h1] at hgo
            have g1 : (x : Int) < 128 := by omega
            by_cases h2 : 4611686018427387903 < y
            · have g2 : (4611686018427387903 : Int) < y := by omega
              exact absurd hyb (by omega)
            · have g2 : ¬ (4611686018427387903 : Int) < y := by omega
              by_cases h0 : x = 0
              · have h0a : ((x : Int) == 0) = true := by simpa using h0
                rw [if_pos (by omega)] at hgo
                have HG := Lib.hid (show takeV l = (0, 0) by unfold takeV; rw [hgo]; rfl)
                clear hgo h0
                go_wp2_with fail
                go_ret2
                exact ⟨by rw [HG.out] <;> rfl, rfl⟩
              · have h0b : ((x : Int) == 0) = false := by simpa using h0
                rw [if_neg (by omega)] at hgo
                have HG := Lib.hid (show takeV l = (y, 8) by unfold takeV; rw [hgo]; rfl)
                clear hgo
                go_wp2_with fail
                go_ret2
                exact ⟨by rw [HG.out] <;> rfl, rfl⟩
          · rw [if_neg h1] at hgo
            have g1 : ¬ (x : Int) < 128 := by omega
            have HG := Lib.hid hgo
            clear hgo
            go_wp2_with fail
            go_roundw
            case rel => exact ⟨8, y, by omega, rfl, by go_num, HG.out, by rw [show 2 ^ (7 * 8) = 72057594037927936 by decide]; exact hyb, by first | rfl | exact True.intro⟩
            case measure => first | (simp [intOf]; done) | (simp [intOf]; omega)
        · have hst := take_step (acc := acc) hc (show 8 < 9 by omega)
          have hacc : acc < 72057594037927936 := by simpa using hacc0
          rw [hst] at hgo
          obtain ⟨x, hx⟩ : ∃ x, c.toNat = x := ⟨_, rfl⟩
          have hx256 : x < 256 := by have := UInt8.toNat_lt c; omega
          have h127 := u8_and127 c
          rw [hx] at hgo h127 hcell
          have hcell2 : wr.cell? ⟨ad.block, ad.off + 8, none⟩ = some (.int .u8 (x : Int)) := hcell
          obtain ⟨d, hd⟩ : ∃ d, x % 128 = d := ⟨_, rfl⟩
          have hd128 : d < 128 := by omega
          rw [hd] at hgo h127
          have hw1 : IntKind.u64.wrap (d : Int) = (d : Int) := IntWalk.u64_in _ (by omega)
          have hw2 : IntKind.u64.wrap ((d : Int) * 72057594037927936) = (d : Int) * 72057594037927936 := IntWalk.u64_in _ (by omega)
          have hor : bits .or .u64 (acc : Int) ((d : Int) * 72057594037927936) = ((acc + d * 72057594037927936 : Nat) : Int) := by
            have := or_at acc d (7 * 8) 72057594037927936 (by decide) (by omega) hd128 (by decide)
            exact this
          rw [show 2 ^ (7 * 8) = 72057594037927936 by decide] at hgo
          obtain ⟨y, hy⟩ : ∃ y, acc + d * 72057594037927936 = y := ⟨_, rfl⟩
          have hyb : y < 9223372036854775808 := by omega
          rw [hy] at hor hgo
          have hw3 : IntKind.i64.wrap (y : Int) = (y : Int) := IntWalk.i64_in _ (by omega)
          clear hc hst hd hy hx hacc0
          by_cases h1 : x < 128
          · rw [if_pos h1] at hgo
            have g1 : (x : Int) < 128 := by omega
            by_cases h2 : 4611686018427387903 < y
            · have g2 : (4611686018427387903 : Int) < y := by omega
              by_cases h0 : x = 0
              · have h0a : ((x : Int) == 0) = true := by simpa using h0
                rw [if_pos (by omega)] at hgo
                have HG := Lib.hid (show takeV l = (0, 0) by unfold takeV; rw [hgo]; rfl)
                clear hgo h0
                go_wp2_with fail
                go_ret2
                exact ⟨by rw [HG.out] <;> rfl, rfl⟩
              · have h0b : ((x : Int) == 0) = false := by simpa using h0
                rw [if_pos (by omega)] at hgo
                have HG := Lib.hid (show takeV l = (0, 0) by unfold takeV; rw [hgo]; rfl)
                clear hgo
                go_wp2_with fail
                go_ret2
                exact ⟨by rw [HG.out] <;> rfl, rfl⟩
            · have g2 : ¬ (4611686018427387903 : Int) < y := by omega
              by_cases h0 : x = 0
              · have h0a : ((x : Int) == 0) = true := by simpa using h0
                rw [if_pos (by omega)] at hgo
                have HG := Lib.hid (show takeV l = (0, 0) by unfold takeV; rw [hgo]; rfl)
                clear hgo h0
                go_wp2_with fail
                go_ret2
                exact ⟨by rw [HG.out] <;> rfl, rfl⟩
              · have h0b : ((x : Int) == 0) = false := by simpa using h0
                rw [if_neg (by omega)] at hgo
                have HG := Lib.hid (show takeV l = (y, 9) by unfold takeV; rw [hgo]; rfl)
                clear hgo
                go_wp2_with fail
                go_ret2
                exact ⟨by rw [HG.out] <;> rfl, rfl⟩
          · rw [if_neg h1] at hgo
            have g1 : ¬ (x : Int) < 128 := by omega
            have HG := Lib.hid hgo
            clear hgo
            go_wp2_with fail
            go_roundw
            case rel => exact ⟨9, y, by omega, rfl, by go_num, HG.out, by rw [show 2 ^ (7 * 9) = 9223372036854775808 by decide]; exact hyb, by first | rfl | exact True.intro⟩
            case measure => first | (simp [intOf]; done) | (simp [intOf]; omega)
      · obtain rfl : i = 9 := by omega
        rw [take_end (by have := HLN.out; omega)] at hgo
        have HG := Lib.hid (show takeV l = (0, 0) by unfold takeV; rw [hgo]; rfl)
        clear hgo hacc0
        go_wp2_with fail
        go_ret2
        exact ⟨by rw [HG.out] <;> rfl, rfl⟩
  · have h9i : ¬ (9 : Int) < n := by omega
    go_enter Tryz.func71, Tryz.ntmps71
    go_wp2_with fail
    go_loopw [4, 13] (fun nv iv wr => ∃ i acc : Nat, i ≤ n ∧ nv = .int .u64 acc ∧ iv = .int .i64 i ∧ takeGo 0 0 l = takeGo i acc (l.drop i) ∧ acc < 2 ^ (7 * i) ∧ wr = w) (fun _ iv _ => n - (intOf iv).toNat)
    case atStart => exact ⟨0, 0, by omega, by go_num, by go_num, rfl, by decide, rfl⟩
    case round =>
      obtain ⟨i, acc, hi, rfl, rfl, hgo, hacc0, rfl⟩ := hrel
      by_cases hlt : i < n
      · obtain ⟨ad, c, rfl, _, hc, hcell⟩ := HR.out.byte (k := i) (by omega)
        have hiM : (i : Int) < n := by omega
        rcases (show i = 0 ∨ i = 1 ∨ i = 2 ∨ i = 3 ∨ i = 4 ∨ i = 5 ∨ i = 6 ∨ i = 7 ∨ i = 8 by omega) with rfl | rfl | rfl | rfl | rfl | rfl | rfl | rfl | rfl
        · have hst := take_step (acc := acc) hc (show 0 < 9 by omega)
          have hacc : acc < 1 := by simpa using hacc0
          rw [hst] at hgo
          obtain ⟨x, hx⟩ : ∃ x, c.toNat = x := ⟨_, rfl⟩
          have hx256 : x < 256 := by have := UInt8.toNat_lt c; omega
          have h127 := u8_and127 c
          rw [hx] at hgo h127 hcell
          have hcell2 : wr.cell? ad = some (.int .u8 (x : Int)) := hcell
          obtain ⟨d, hd⟩ : ∃ d, x % 128 = d := ⟨_, rfl⟩
          have hd128 : d < 128 := by omega
          rw [hd] at hgo h127
          have hw1 : IntKind.u64.wrap (d : Int) = (d : Int) := IntWalk.u64_in _ (by omega)
          have hw2 : IntKind.u64.wrap ((d : Int)) = (d : Int) := IntWalk.u64_in _ (by omega)
          have hor : bits .or .u64 (acc : Int) ((d : Int)) = ((acc + d * 1 : Nat) : Int) := by
            have := or_at acc d (7 * 0) 1 (by decide) (by omega) hd128 (by decide)
            simpa using this
          rw [show 2 ^ (7 * 0) = 1 by decide] at hgo
          obtain ⟨y, hy⟩ : ∃ y, acc + d * 1 = y := ⟨_, rfl⟩
          have hyb : y < 128 := by omega
          rw [hy] at hor hgo
          have hw3 : IntKind.i64.wrap (y : Int) = (y : Int) := IntWalk.i64_in _ (by omega)
          clear hc hst hd hy hx hacc0
          by_cases h1 : x < 128
          · rw [if_pos h1] at hgo
            have g1 : (x : Int) < 128 := by omega
            by_cases h2 : 4611686018427387903 < y
            · have g2 : (4611686018427387903 : Int) < y := by omega
              exact absurd hyb (by omega)
            · have g2 : ¬ (4611686018427387903 : Int) < y := by omega
              by_cases h0 : x = 0
              · have h0a : ((x : Int) == 0) = true := by simpa using h0
                rw [if_neg (by omega)] at hgo
                have HG := Lib.hid (show takeV l = (y, 1) by unfold takeV; rw [hgo]; rfl)
                clear hgo h0
                go_wp2_with fail
                go_ret2
                exact ⟨by rw [HG.out] <;> rfl, rfl⟩
              · have h0b : ((x : Int) == 0) = false := by simpa using h0
                rw [if_neg (by omega)] at hgo
                have HG := Lib.hid (show takeV l = (y, 1) by unfold takeV; rw [hgo]; rfl)
                clear hgo
                go_wp2_with fail
                go_ret2
                exact ⟨by rw [HG.out] <;> rfl, rfl⟩
          · rw [if_neg h1] at hgo
            have g1 : ¬ (x : Int) < 128 := by omega
            have HG := Lib.hid hgo
            clear hgo
            go_wp2_with fail
            go_roundw
            case rel => exact ⟨1, y, by omega, rfl, by go_num, HG.out, by rw [show 2 ^ (7 * 1) = 128 by decide]; exact hyb, by first | rfl | exact True.intro⟩
            case measure => first | (simp [intOf]; done) | (simp [intOf]; omega)
        · have hst := take_step (acc := acc) hc (show 1 < 9 by omega)
          have hacc : acc < 128 := by simpa using hacc0
          rw [hst] at hgo
          obtain ⟨x, hx⟩ : ∃ x, c.toNat = x := ⟨_, rfl⟩
          have hx256 : x < 256 := by have := UInt8.toNat_lt c; omega
          have h127 := u8_and127 c
          rw [hx] at hgo h127 hcell
          have hcell2 : wr.cell? ⟨ad.block, ad.off + 1, none⟩ = some (.int .u8 (x : Int)) := hcell
          obtain ⟨d, hd⟩ : ∃ d, x % 128 = d := ⟨_, rfl⟩
          have hd128 : d < 128 := by omega
          rw [hd] at hgo h127
          have hw1 : IntKind.u64.wrap (d : Int) = (d : Int) := IntWalk.u64_in _ (by omega)
          have hw2 : IntKind.u64.wrap ((d : Int) * 128) = (d : Int) * 128 := IntWalk.u64_in _ (by omega)
          have hor : bits .or .u64 (acc : Int) ((d : Int) * 128) = ((acc + d * 128 : Nat) : Int) := by
            have := or_at acc d (7 * 1) 128 (by decide) (by omega) hd128 (by decide)
            exact this
          rw [show 2 ^ (7 * 1) = 128 by decide] at hgo
          obtain ⟨y, hy⟩ : ∃ y, acc + d * 128 = y := ⟨_, rfl⟩
          have hyb : y < 16384 := by omega
          rw [hy] at hor hgo
          have hw3 : IntKind.i64.wrap (y : Int) = (y : Int) := IntWalk.i64_in _ (by omega)
          clear hc hst hd hy hx hacc0
          by_cases h1 : x < 128
          · rw [if_pos h1] at hgo
            have g1 : (x : Int) < 128 := by omega
            by_cases h2 : 4611686018427387903 < y
            · have g2 : (4611686018427387903 : Int) < y := by omega
              exact absurd hyb (by omega)
            · have g2 : ¬ (4611686018427387903 : Int) < y := by omega
              by_cases h0 : x = 0
              · have h0a : ((x : Int) == 0) = true := by simpa using h0
                rw [if_pos (by omega)] at hgo
                have HG := Lib.hid (show takeV l = (0, 0) by unfold takeV; rw [hgo]; rfl)
                clear hgo h0
                go_wp2_with fail
                go_ret2
                exact ⟨by rw [HG.out] <;> rfl, rfl⟩
              · have h0b : ((x : Int) == 0) = false := by simpa using h0
                rw [if_neg (by omega)] at hgo
                have HG := Lib.hid (show takeV l = (y, 2) by unfold takeV; rw [hgo]; rfl)
                clear hgo
                go_wp2_with fail
                go_ret2
                exact ⟨by rw [HG.out] <;> rfl, rfl⟩
          · rw [if_neg h1] at hgo
            have g1 : ¬ (x : Int) < 128 := by omega
            have HG := Lib.hid hgo
            clear hgo
            go_wp2_with fail
            go_roundw
            case rel => exact ⟨2, y, by omega, rfl, by go_num, HG.out, by rw [show 2 ^ (7 * 2) = 16384 by decide]; exact hyb, by first | rfl | exact True.intro⟩
            case measure => first | (simp [intOf]; done) | (simp [intOf]; omega)
        · have hst := take_step (acc := acc) hc (show 2 < 9 by omega)
          have hacc : acc < 16384 := by simpa using hacc0
          rw [hst] at hgo
          obtain ⟨x, hx⟩ : ∃ x, c.toNat = x := ⟨_, rfl⟩
          have hx256 : x < 256 := by have := UInt8.toNat_lt c; omega
          have h127 := u8_and127 c
          rw [hx] at hgo h127 hcell
          have hcell2 : wr.cell? ⟨ad.block, ad.off + 2, none⟩ = some (.int .u8 (x : Int)) := hcell
          obtain ⟨d, hd⟩ : ∃ d, x % 128 = d := ⟨_, rfl⟩
          have hd128 : d < 128 := by omega
          rw [hd] at hgo h127
          have hw1 : IntKind.u64.wrap (d : Int) = (d : Int) := IntWalk.u64_in _ (by omega)
          have hw2 : IntKind.u64.wrap ((d : Int) * 16384) = (d : Int) * 16384 := IntWalk.u64_in _ (by omega)
          have hor : bits .or .u64 (acc : Int) ((d : Int) * 16384) = ((acc + d * 16384 : Nat) : Int) := by
            have := or_at acc d (7 * 2) 16384 (by decide) (by omega) hd128 (by decide)
            exact this
          rw [show 2 ^ (7 * 2) = 16384 by decide] at hgo
          obtain ⟨y, hy⟩ : ∃ y, acc + d * 16384 = y := ⟨_, rfl⟩
          have hyb : y < 2097152 := by omega
          rw [hy] at hor hgo
          have hw3 : IntKind.i64.wrap (y : Int) = (y : Int) := IntWalk.i64_in _ (by omega)
          clear hc hst hd hy hx hacc0
          by_cases h1 : x < 128
          · rw [if_pos h1] at hgo
            have g1 : (x : Int) < 128 := by omega
            by_cases h2 : 4611686018427387903 < y
            · have g2 : (4611686018427387903 : Int) < y := by omega
              exact absurd hyb (by omega)
            · have g2 : ¬ (4611686018427387903 : Int) < y := by omega
              by_cases h0 : x = 0
              · have h0a : ((x : Int) == 0) = true := by simpa using h0
                rw [if_pos (by omega)] at hgo
                have HG := Lib.hid (show takeV l = (0, 0) by unfold takeV; rw [hgo]; rfl)
                clear hgo h0
                go_wp2_with fail
                go_ret2
                exact ⟨by rw [HG.out] <;> rfl, rfl⟩
              · have h0b : ((x : Int) == 0) = false := by simpa using h0
                rw [if_neg (by omega)] at hgo
                have HG := Lib.hid (show takeV l = (y, 3) by unfold takeV; rw [hgo]; rfl)
                clear hgo
                go_wp2_with fail
                go_ret2
                exact ⟨by rw [HG.out] <;> rfl, rfl⟩
          · rw [if_neg h1] at hgo
            have g1 : ¬ (x : Int) < 128 := by omega
            have HG := Lib.hid hgo
            clear hgo
            go_wp2_with fail
            go_roundw
            case rel => exact ⟨3, y, by omega, rfl, by go_num, HG.out, by rw [show 2 ^ (7 * 3) = 2097152 by decide]; exact hyb, by first | rfl | exact True.intro⟩
            case measure => first | (simp [intOf]; done) | (simp [intOf]; omega)
        · have hst := take_step (acc := acc) hc (show 3 < 9 by omega)
          have hacc : acc < 2097152 := by simpa using hacc0
          rw [hst] at hgo
          obtain ⟨x, hx⟩ : ∃ x, c.toNat = x := ⟨_, rfl⟩
          have hx256 : x < 256 := by have := UInt8.toNat_lt c; omega
          have h127 := u8_and127 c
          rw [hx] at hgo h127 hcell
          have hcell2 : wr.cell? ⟨ad.block, ad.off + 3, none⟩ = some (.int .u8 (x : Int)) := hcell
          obtain ⟨d, hd⟩ : ∃ d, x % 128 = d := ⟨_, rfl⟩
          have hd128 : d < 128 := by omega
          rw [hd] at hgo h127
          have hw1 : IntKind.u64.wrap (d : Int) = (d : Int) := IntWalk.u64_in _ (by omega)
          have hw2 : IntKind.u64.wrap ((d : Int) * 2097152) = (d : Int) * 2097152 := IntWalk.u64_in _ (by omega)
          have hor : bits .or .u64 (acc : Int) ((d : Int) * 2097152) = ((acc + d * 2097152 : Nat) : Int) := by
            have := or_at acc d (7 * 3) 2097152 (by decide) (by omega) hd128 (by decide)
            exact this
          rw [show 2 ^ (7 * 3) = 2097152 by decide] at hgo
          obtain ⟨y, hy⟩ : ∃ y, acc + d * 2097152 = y := ⟨_, rfl⟩
          have hyb : y < 268435456 := by omega
          rw [hy] at hor hgo
          have hw3 : IntKind.i64.wrap (y : Int) = (y : Int) := IntWalk.i64_in _ (by omega)
          clear hc hst hd hy hx hacc0
          by_cases h1 : x < 128
          · rw [if_pos h1] at hgo
            have g1 : (x : Int) < 128 := by omega
            by_cases h2 : 4611686018427387903 < y
            · have g2 : (4611686018427387903 : Int) < y := by omega
              exact absurd hyb (by omega)
            · have g2 : ¬ (4611686018427387903 : Int) < y := by omega
              by_cases h0 : x = 0
              · have h0a : ((x : Int) == 0) = true := by simpa using h0
                rw [if_pos (by omega)] at hgo
                have HG := Lib.hid (show takeV l = (0, 0) by unfold takeV; rw [hgo]; rfl)
                clear hgo h0
                go_wp2_with fail
                go_ret2
                exact ⟨by rw [HG.out] <;> rfl, rfl⟩
              · have h0b : ((x : Int) == 0) = false := by simpa using h0
                rw [if_neg (by omega)] at hgo
                have HG := Lib.hid (show takeV l = (y, 4) by unfold takeV; rw [hgo]; rfl)
                clear hgo
                go_wp2_with fail
                go_ret2
                exact ⟨by rw [HG.out] <;> rfl, rfl⟩
          · rw [if_neg h1] at hgo
            have g1 : ¬ (x : Int) < 128 := by omega
            have HG := Lib.hid hgo
            clear hgo
            go_wp2_with fail
            go_roundw
            case rel => exact ⟨4, y, by omega, rfl, by go_num, HG.out, by rw [show 2 ^ (7 * 4) = 268435456 by decide]; exact hyb, by first | rfl | exact True.intro⟩
            case measure => first | (simp [intOf]; done) | (simp [intOf]; omega)
        · have hst := take_step (acc := acc) hc (show 4 < 9 by omega)
          have hacc : acc < 268435456 := by simpa using hacc0
          rw [hst] at hgo
          obtain ⟨x, hx⟩ : ∃ x, c.toNat = x := ⟨_, rfl⟩
          have hx256 : x < 256 := by have := UInt8.toNat_lt c; omega
          have h127 := u8_and127 c
          rw [hx] at hgo h127 hcell
          have hcell2 : wr.cell? ⟨ad.block, ad.off + 4, none⟩ = some (.int .u8 (x : Int)) := hcell
          obtain ⟨d, hd⟩ : ∃ d, x % 128 = d := ⟨_, rfl⟩
          have hd128 : d < 128 := by omega
          rw [hd] at hgo h127
          have hw1 : IntKind.u64.wrap (d : Int) = (d : Int) := IntWalk.u64_in _ (by omega)
          have hw2 : IntKind.u64.wrap ((d : Int) * 268435456) = (d : Int) * 268435456 := IntWalk.u64_in _ (by omega)
          have hor : bits .or .u64 (acc : Int) ((d : Int) * 268435456) = ((acc + d * 268435456 : Nat) : Int) := by
            have := or_at acc d (7 * 4) 268435456 (by decide) (by omega) hd128 (by decide)
            exact this
          rw [show 2 ^ (7 * 4) = 268435456 by decide] at hgo
          obtain ⟨y, hy⟩ : ∃ y, acc + d * 268435456 = y := ⟨_, rfl⟩
          have hyb : y < 34359738368 := by omega
          rw [hy] at hor hgo
          have hw3 : IntKind.i64.wrap (y : Int) = (y : Int) := IntWalk.i64_in _ (by omega)
          clear hc hst hd hy hx hacc0
          by_cases h1 : x < 128
          · rw [if_pos h1] at hgo
            have g1 : (x : Int) < 128 := by omega
            by_cases h2 : 4611686018427387903 < y
            · have g2 : (4611686018427387903 : Int) < y := by omega
              exact absurd hyb (by omega)
            · have g2 : ¬ (4611686018427387903 : Int) < y := by omega
              by_cases h0 : x = 0
              · have h0a : ((x : Int) == 0) = true := by simpa using h0
                rw [if_pos (by omega)] at hgo
                have HG := Lib.hid (show takeV l = (0, 0) by unfold takeV; rw [hgo]; rfl)
                clear hgo h0
                go_wp2_with fail
                go_ret2
                exact ⟨by rw [HG.out] <;> rfl, rfl⟩
              · have h0b : ((x : Int) == 0) = false := by simpa using h0
                rw [if_neg (by omega)] at hgo
                have HG := Lib.hid (show takeV l = (y, 5) by unfold takeV; rw [hgo]; rfl)
                clear hgo
                go_wp2_with fail
                go_ret2
                exact ⟨by rw [HG.out] <;> rfl, rfl⟩
          · rw [if_neg h1] at hgo
            have g1 : ¬ (x : Int) < 128 := by omega
            have HG := Lib.hid hgo
            clear hgo
            go_wp2_with fail
            go_roundw
            case rel => exact ⟨5, y, by omega, rfl, by go_num, HG.out, by rw [show 2 ^ (7 * 5) = 34359738368 by decide]; exact hyb, by first | rfl | exact True.intro⟩
            case measure => first | (simp [intOf]; done) | (simp [intOf]; omega)
        · have hst := take_step (acc := acc) hc (show 5 < 9 by omega)
          have hacc : acc < 34359738368 := by simpa using hacc0
          rw [hst] at hgo
          obtain ⟨x, hx⟩ : ∃ x, c.toNat = x := ⟨_, rfl⟩
          have hx256 : x < 256 := by have := UInt8.toNat_lt c; omega
          have h127 := u8_and127 c
          rw [hx] at hgo h127 hcell
          have hcell2 : wr.cell? ⟨ad.block, ad.off + 5, none⟩ = some (.int .u8 (x : Int)) := hcell
          obtain ⟨d, hd⟩ : ∃ d, x % 128 = d := ⟨_, rfl⟩
          have hd128 : d < 128 := by omega
          rw [hd] at hgo h127
          have hw1 : IntKind.u64.wrap (d : Int) = (d : Int) := IntWalk.u64_in _ (by omega)
          have hw2 : IntKind.u64.wrap ((d : Int) * 34359738368) = (d : Int) * 34359738368 := IntWalk.u64_in _ (by omega)
          have hor : bits .or .u64 (acc : Int) ((d : Int) * 34359738368) = ((acc + d * 34359738368 : Nat) : Int) := by
            have := or_at acc d (7 * 5) 34359738368 (by decide) (by omega) hd128 (by decide)
            exact this
          rw [show 2 ^ (7 * 5) = 34359738368 by decide] at hgo
          obtain ⟨y, hy⟩ : ∃ y, acc + d * 34359738368 = y := ⟨_, rfl⟩
          have hyb : y < 4398046511104 := by omega
          rw [hy] at hor hgo
          have hw3 : IntKind.i64.wrap (y : Int) = (y : Int) := IntWalk.i64_in _ (by omega)
          clear hc hst hd hy hx hacc0
          by_cases h1 : x < 128
          · rw [if_pos h1] at hgo
            have g1 : (x : Int) < 128 := by omega
            by_cases h2 : 4611686018427387903 < y
            · have g2 : (4611686018427387903 : Int) < y := by omega
              exact absurd hyb (by omega)
            · have g2 : ¬ (4611686018427387903 : Int) < y := by omega
              by_cases h0 : x = 0
              · have h0a : ((x : Int) == 0) = true := by simpa using h0
                rw [if_pos (by omega)] at hgo
                have HG := Lib.hid (show takeV l = (0, 0) by unfold takeV; rw [hgo]; rfl)
                clear hgo h0
                go_wp2_with fail
                go_ret2
                exact ⟨by rw [HG.out] <;> rfl, rfl⟩
              · have h0b : ((x : Int) == 0) = false := by simpa using h0
                rw [if_neg (by omega)] at hgo
                have HG := Lib.hid (show takeV l = (y, 6) by unfold takeV; rw [hgo]; rfl)
                clear hgo
                go_wp2_with fail
                go_ret2
                exact ⟨by rw [HG.out] <;> rfl, rfl⟩
          · rw [if_neg h1] at hgo
            have g1 : ¬ (x : Int) < 128 := by omega
            have HG := Lib.hid hgo
            clear hgo
            go_wp2_with fail
            go_roundw
            case rel => exact ⟨6, y, by omega, rfl, by go_num, HG.out, by rw [show 2 ^ (7 * 6) = 4398046511104 by decide]; exact hyb, by first | rfl | exact True.intro⟩
            case measure => first | (simp [intOf]; done) | (simp [intOf]; omega)
        · have hst := take_step (acc := acc) hc (show 6 < 9 by omega)
          have hacc : acc < 4398046511104 := by simpa using hacc0
          rw [hst] at hgo
          obtain ⟨x, hx⟩ : ∃ x, c.toNat = x := ⟨_, rfl⟩
          have hx256 : x < 256 := by have := UInt8.toNat_lt c; omega
          have h127 := u8_and127 c
          rw [hx] at hgo h127 hcell
          have hcell2 : wr.cell? ⟨ad.block, ad.off + 6, none⟩ = some (.int .u8 (x : Int)) := hcell
          obtain ⟨d, hd⟩ : ∃ d, x % 128 = d := ⟨_, rfl⟩
          have hd128 : d < 128 := by omega
          rw [hd] at hgo h127
          have hw1 : IntKind.u64.wrap (d : Int) = (d : Int) := IntWalk.u64_in _ (by omega)
          have hw2 : IntKind.u64.wrap ((d : Int) * 4398046511104) = (d : Int) * 4398046511104 := IntWalk.u64_in _ (by omega)
          have hor : bits .or .u64 (acc : Int) ((d : Int) * 4398046511104) = ((acc + d * 4398046511104 : Nat) : Int) := by
            have := or_at acc d (7 * 6) 4398046511104 (by decide) (by omega) hd128 (by decide)
            exact this
          rw [show 2 ^ (7 * 6) = 4398046511104 by decide] at hgo
          obtain ⟨y, hy⟩ : ∃ y, acc + d * 4398046511104 = y := ⟨_, rfl⟩
          have hyb : y < 562949953421312 := by omega
          rw [hy] at hor hgo
          have hw3 : IntKind.i64.wrap (y : Int) = (y : Int) := IntWalk.i64_in _ (by omega)
          clear hc hst hd hy hx hacc0
          by_cases h1 : x < 128
          · rw [if_pos h1] at hgo
            have g1 : (x : Int) < 128 := by omega
            by_cases h2 : 4611686018427387903 < y
            · have g2 : (4611686018427387903 : Int) < y := by omega
              exact absurd hyb (by omega)
            · have g2 : ¬ (4611686018427387903 : Int) < y := by omega
              by_cases h0 : x = 0
              · have h0a : ((x : Int) == 0) = true := by simpa using h0
                rw [if_pos (by omega)] at hgo
                have HG := Lib.hid (show takeV l = (0, 0) by unfold takeV; rw [hgo]; rfl)
                clear hgo h0
                go_wp2_with fail
                go_ret2
                exact ⟨by rw [HG.out] <;> rfl, rfl⟩
              · have h0b : ((x : Int) == 0) = false := by simpa using h0
                rw [if_neg (by omega)] at hgo
                have HG := Lib.hid (show takeV l = (y, 7) by unfold takeV; rw [hgo]; rfl)
                clear hgo
                go_wp2_with fail
                go_ret2
                exact ⟨by rw [HG.out] <;> rfl, rfl⟩
          · rw [if_neg h1] at hgo
            have g1 : ¬ (x : Int) < 128 := by omega
            have HG := Lib.hid hgo
            clear hgo
            go_wp2_with fail
            go_roundw
            case rel => exact ⟨7, y, by omega, rfl, by go_num, HG.out, by rw [show 2 ^ (7 * 7) = 562949953421312 by decide]; exact hyb, by first | rfl | exact True.intro⟩
            case measure => first | (simp [intOf]; done) | (simp [intOf]; omega)
        · have hst := take_step (acc := acc) hc (show 7 < 9 by omega)
          have hacc : acc < 562949953421312 := by simpa using hacc0
          rw [hst] at hgo
          obtain ⟨x, hx⟩ : ∃ x, c.toNat = x := ⟨_, rfl⟩
          have hx256 : x < 256 := by have := UInt8.toNat_lt c; omega
          have h127 := u8_and127 c
          rw [hx] at hgo h127 hcell
          have hcell2 : wr.cell? ⟨ad.block, ad.off + 7, none⟩ = some (.int .u8 (x : Int)) := hcell
          obtain ⟨d, hd⟩ : ∃ d, x % 128 = d := ⟨_, rfl⟩
          have hd128 : d < 128 := by omega
          rw [hd] at hgo h127
          have hw1 : IntKind.u64.wrap (d : Int) = (d : Int) := IntWalk.u64_in _ (by omega)
          have hw2 : IntKind.u64.wrap ((d : Int) * 562949953421312) = (d : Int) * 562949953421312 := IntWalk.u64_in _ (by omega)
          have hor : bits .or .u64 (acc : Int) ((d : Int) * 562949953421312) = ((acc + d * 562949953421312 : Nat) : Int) := by
            have := or_at acc d (7 * 7) 562949953421312 (by decide) (by omega) hd128 (by decide)
            exact this
          rw [show 2 ^ (7 * 7) = 562949953421312 by decide] at hgo
          obtain ⟨y, hy⟩ : ∃ y, acc + d * 562949953421312 = y := ⟨_, rfl⟩
          have hyb : y < 72057594037927936 := by omega
          rw [hy] at hor hgo
          have hw3 : IntKind.i64.wrap (y : Int) = (y : Int) := IntWalk.i64_in _ (by omega)
          clear hc hst hd hy hx hacc0
          by_cases h1 : x < 128
          · rw [if_pos h1] at hgo
            have g1 : (x : Int) < 128 := by omega
            by_cases h2 : 4611686018427387903 < y
            · have g2 : (4611686018427387903 : Int) < y := by omega
              exact absurd hyb (by omega)
            · have g2 : ¬ (4611686018427387903 : Int) < y := by omega
              by_cases h0 : x = 0
              · have h0a : ((x : Int) == 0) = true := by simpa using h0
                rw [if_pos (by omega)] at hgo
                have HG := Lib.hid (show takeV l = (0, 0) by unfold takeV; rw [hgo]; rfl)
                clear hgo h0
                go_wp2_with fail
                go_ret2
                exact ⟨by rw [HG.out] <;> rfl, rfl⟩
              · have h0b : ((x : Int) == 0) = false := by simpa using h0
                rw [if_neg (by omega)] at hgo
                have HG := Lib.hid (show takeV l = (y, 8) by unfold takeV; rw [hgo]; rfl)
                clear hgo
                go_wp2_with fail
                go_ret2
                exact ⟨by rw [HG.out] <;> rfl, rfl⟩
          · rw [if_neg h1] at hgo
            have g1 : ¬ (x : Int) < 128 := by omega
            have HG := Lib.hid hgo
            clear hgo
            go_wp2_with fail
            go_roundw
            case rel => exact ⟨8, y, by omega, rfl, by go_num, HG.out, by rw [show 2 ^ (7 * 8) = 72057594037927936 by decide]; exact hyb, by first | rfl | exact True.intro⟩
            case measure => first | (simp [intOf]; done) | (simp [intOf]; omega)
        · have hst := take_step (acc := acc) hc (show 8 < 9 by omega)
          have hacc : acc < 72057594037927936 := by simpa using hacc0
          rw [hst] at hgo
          obtain ⟨x, hx⟩ : ∃ x, c.toNat = x := ⟨_, rfl⟩
          have hx256 : x < 256 := by have := UInt8.toNat_lt c; omega
          have h127 := u8_and127 c
          rw [hx] at hgo h127 hcell
          have hcell2 : wr.cell? ⟨ad.block, ad.off + 8, none⟩ = some (.int .u8 (x : Int)) := hcell
          obtain ⟨d, hd⟩ : ∃ d, x % 128 = d := ⟨_, rfl⟩
          have hd128 : d < 128 := by omega
          rw [hd] at hgo h127
          have hw1 : IntKind.u64.wrap (d : Int) = (d : Int) := IntWalk.u64_in _ (by omega)
          have hw2 : IntKind.u64.wrap ((d : Int) * 72057594037927936) = (d : Int) * 72057594037927936 := IntWalk.u64_in _ (by omega)
          have hor : bits .or .u64 (acc : Int) ((d : Int) * 72057594037927936) = ((acc + d * 72057594037927936 : Nat) : Int) := by
            have := or_at acc d (7 * 8) 72057594037927936 (by decide) (by omega) hd128 (by decide)
            exact this
          rw [show 2 ^ (7 * 8) = 72057594037927936 by decide] at hgo
          obtain ⟨y, hy⟩ : ∃ y, acc + d * 72057594037927936 = y := ⟨_, rfl⟩
          have hyb : y < 9223372036854775808 := by omega
          rw [hy] at hor hgo
          have hw3 : IntKind.i64.wrap (y : Int) = (y : Int) := IntWalk.i64_in _ (by omega)
          clear hc hst hd hy hx hacc0
          by_cases h1 : x < 128
          · rw [if_pos h1] at hgo
            have g1 : (x : Int) < 128 := by omega
            by_cases h2 : 4611686018427387903 < y
            · have g2 : (4611686018427387903 : Int) < y := by omega
              by_cases h0 : x = 0
              · have h0a : ((x : Int) == 0) = true := by simpa using h0
                rw [if_pos (by omega)] at hgo
                have HG := Lib.hid (show takeV l = (0, 0) by unfold takeV; rw [hgo]; rfl)
                clear hgo h0
                go_wp2_with fail
                go_ret2
                exact ⟨by rw [HG.out] <;> rfl, rfl⟩
              · have h0b : ((x : Int) == 0) = false := by simpa using h0
                rw [if_pos (by omega)] at hgo
                have HG := Lib.hid (show takeV l = (0, 0) by unfold takeV; rw [hgo]; rfl)
                clear hgo
                go_wp2_with fail
                go_ret2
                exact ⟨by rw [HG.out] <;> rfl, rfl⟩
            · have g2 : ¬ (4611686018427387903 : Int) < y := by omega
              by_cases h0 : x = 0
              · have h0a : ((x : Int) == 0) = true := by simpa using h0
                rw [if_pos (by omega)] at hgo
                have HG := Lib.hid (show takeV l = (0, 0) by unfold takeV; rw [hgo]; rfl)
                clear hgo h0
                go_wp2_with fail
                go_ret2
                exact ⟨by rw [HG.out] <;> rfl, rfl⟩
              · have h0b : ((x : Int) == 0) = false := by simpa using h0
                rw [if_neg (by omega)] at hgo
                have HG := Lib.hid (show takeV l = (y, 9) by unfold takeV; rw [hgo]; rfl)
                clear hgo
                go_wp2_with fail
                go_ret2
                exact ⟨by rw [HG.out] <;> rfl, rfl⟩
          · rw [if_neg h1] at hgo
            have g1 : ¬ (x : Int) < 128 := by omega
            have HG := Lib.hid hgo
            clear hgo
            go_wp2_with fail
            go_roundw
            case rel => exact ⟨9, y, by omega, rfl, by go_num, HG.out, by rw [show 2 ^ (7 * 9) = 9223372036854775808 by decide]; exact hyb, by first | rfl | exact True.intro⟩
            case measure => first | (simp [intOf]; done) | (simp [intOf]; omega)
      · obtain rfl : i = n := by omega
        rw [take_end (by have := HLN.out; omega)] at hgo
        have HG := Lib.hid (show takeV l = (0, 0) by unfold takeV; rw [hgo]; rfl)
        clear hgo hacc0
        go_wp2_with fail
        go_ret2
        exact ⟨by rw [HG.out] <;> rfl, rfl⟩
end Num
end Go.Proofs.YtkmkpdmjdfbpjaaGreatDoor

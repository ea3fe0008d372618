/-
  What the program's frame package computes, the first part: heads, sizes, bytes held against each other, a payload's frame (no condition beyond the sizes).
-/
import Derived.Test.YthgpphedpegbgaaCrcRef
import Derived.Test.YthgpphedpegbgaaBytes
import Derived.Test.YthgpphedpegbgaaFramePlain
import Derived.Outline
namespace Go.Proofs.Ythgpphedpegbgaa
open Go.ChangeShapes Go.WideShapes Go.RowKit
namespace Frame
theorem u8_wrap (n : Nat) : IntKind.u8.wrap (n : Int) = ((UInt8.ofNat n).toNat : Int) := by
  rw [IntKind.wrap_u8']
  simp
theorem xor_u8 (x y : UInt8) : bits .xor .u8 (x.toNat : Int) (y.toNat : Int) = ((x ^^^ y).toNat : Int) := by
  rw [u8_xor_nat x.toNat y.toNat (UInt8.toNat_lt x) (UInt8.toNat_lt y)]
  simp
def HeadAt (w : World) (a b c y1 y2 y3 : UInt8) (i : Value) (wr : World) : Prop :=
  (i = .int .i64 0 ∧ wr = w.alloc (.cells #[.int .u8 (a.toNat : Int), .int .u8 (b.toNat : Int), .int .u8 (c.toNat : Int), .int .u8 165] 5)) ∨
    (i = .int .i64 1 ∧ wr = w.alloc (.cells #[.int .u8 (a.toNat : Int), .int .u8 (b.toNat : Int), .int .u8 (c.toNat : Int), .int .u8 (y1.toNat : Int)] 5)) ∨
    (i = .int .i64 2 ∧ wr = w.alloc (.cells #[.int .u8 (a.toNat : Int), .int .u8 (b.toNat : Int), .int .u8 (c.toNat : Int), .int .u8 (y2.toNat : Int)] 5)) ∨
    (i = .int .i64 3 ∧ wr = w.alloc (.cells #[.int .u8 (a.toNat : Int), .int .u8 (b.toNat : Int), .int .u8 (c.toNat : Int), .int .u8 (y3.toNat : Int)] 5))
set_option maxHeartbeats 800000 in
theorem head (w : World) (n : Nat) : Calls Try.prog 37 #[.int .i64 (n : Int)] w fun e w' => e = .returned (.slice (some ⟨w.heap.size, 0, none⟩) 4 4) ∧ w.alloc (.cells (u8s (headL n)).toArray 5) = w' := by
  have e0 : (n : Int) % 256 = ((UInt8.ofNat n).toNat : Int) := by simp
  have e1 : (n : Int) / 256 % 256 = ((UInt8.ofNat (n / 256)).toNat : Int) := by simp
  have e2 : (n : Int) / 65536 % 256 = ((UInt8.ofNat (n / 65536)).toNat : Int) := by simp
  have E := Lib.hid (And.intro e0 (And.intro e1 e2))
  clear e0 e1 e2
  have hh : headL n = [UInt8.ofNat n, UInt8.ofNat (n / 256), UInt8.ofNat (n / 65536), 165 ^^^ UInt8.ofNat n ^^^ UInt8.ofNat (n / 256) ^^^ UInt8.ofNat (n / 65536)] := rfl
  rw [hh]
  clear hh
  go_enter Try.func37, Try.ntmps37
  go_wp2
  rw [E.out.1, E.out.2.1, E.out.2.2]
  generalize ha : UInt8.ofNat n = a at *
  generalize hb : UInt8.ofNat (n / 256) = b at *
  generalize hc : UInt8.ofNat (n / 65536) = c at *
  have HA := Lib.hid (And.intro ha (And.intro hb hc))
  clear ha hb hc
  have x1 := xor_u8 165 a
  have x2 := xor_u8 (165 ^^^ a) b
  have x3 := xor_u8 (165 ^^^ a ^^^ b) c
  rw [show ((165 : UInt8).toNat : Int) = 165 from rfl] at x1
  have X := Lib.hid (And.intro x1 (And.intro x2 x3))
  clear x1 x2 x3
  generalize hy1 : (165 : UInt8) ^^^ a = y1 at *
  generalize hy2 : y1 ^^^ b = y2 at *
  generalize hy3 : y2 ^^^ c = y3 at *
  have HY := Lib.hid (And.intro hy1 (And.intro hy2 hy3))
  clear hy1 hy2 hy3
  have x1 := X.out.1
  have x2 := X.out.2.1
  have x3 := X.out.2.2
  go_loopw [5, 18] (fun _ i wr => HeadAt w a b c y1 y2 y3 i wr) (fun _ i _ => 3 - (intOf i).toNat)
  case atStart => exact .inl ⟨rfl, rfl⟩
  case round =>
    unfold HeadAt at hrel
    rcases hrel with ⟨rfl, rfl⟩ | ⟨rfl, rfl⟩ | ⟨rfl, rfl⟩ | ⟨rfl, rfl⟩
    · go_wp2
      go_roundw
      case rel => exact .inr (.inl ⟨rfl, rfl⟩)
      case measure => simp [intOf]
    · go_wp2
      go_roundw
      case rel => exact .inr (.inr (.inl ⟨rfl, rfl⟩))
      case measure => simp [intOf]
    · go_wp2
      go_roundw
      case rel => exact .inr (.inr (.inr ⟨rfl, rfl⟩))
      case measure => simp [intOf]
    · go_wp2
      go_ret
      refine ⟨rfl, ?_⟩
      rw [HA.out.1, HA.out.2.1, HA.out.2.2, HY.out.1, HY.out.2.1, HY.out.2.2]
      rfl

theorem ref_head (w : World) (n : Nat) (hn : (n : Int) ≤ 1099511627776) : Calls Try.prog 27 #[.int .i64 (n : Int)] w fun e w' => e = .returned (.slice (some ⟨w.heap.size, 0, none⟩) 4 4) ∧ w.alloc (.cells (u8s (headL n)).toArray 5) = w' := by
  have hh : headL n = [UInt8.ofNat n, UInt8.ofNat (n / 256), UInt8.ofNat (n / 65536), 165 ^^^ UInt8.ofNat n ^^^ UInt8.ofNat (n / 256) ^^^ UInt8.ofNat (n / 65536)] := rfl
  rw [hh]
  have e0 : (n : Int) % 256 = ((UInt8.ofNat n).toNat : Int) := by simp
  have e1 : (n : Int) / 256 % 256 = ((UInt8.ofNat (n / 256)).toNat : Int) := by simp
  have e2 : (n : Int) / 65536 % 256 = ((UInt8.ofNat (n / 65536)).toNat : Int) := by simp
  have E := Lib.hid (And.intro e0 (And.intro e1 e2))
  clear e0 e1 e2 hh
  go_enter Try.func27, Try.ntmps27
  go_wp2
  go_ret
  refine ⟨rfl, ?_⟩
  rw [E.out.1, E.out.2.1, E.out.2.2, show (165 : Int) = ((165 : UInt8).toNat : Int) from rfl, xor_u8, xor_u8, xor_u8]
  rfl
/-- bytes.Equal -/
theorem equal (w : World) (F G : Nat → Prop) (A B : Option Addr) (n c m d : Nat) (xs ys : List UInt8) (h1 : Reads w F 1 A n (u8s xs)) (h2 : Reads w G 1 B m (u8s ys)) :
    Calls Try.prog 40 #[.slice A n c, .slice B m d] w fun e w' => e = .returned (.bool (xs == ys)) ∧ w = w' := by
  have s1 := run_str (P := Try.prog) Try.underlying36 Try.underlying5 Try.underlying9 h1 c
  have s2 := run_str (P := Try.prog) Try.underlying36 Try.underlying5 Try.underlying9 h2 d
  clear h1 h2
  go_enter Try.func40, Try.ntmps40
  go_wp2
  go_ret
  exact ⟨rfl, rfl⟩
theorem ret_int {k : IntKind} {a b : Int} (h : a = b) : Ending.returned (.int k a) = .returned (.int k b) := by rw [h]
theorem size (w : World) (n : Int) (h : n ≤ 9223372036854775807) : Calls Try.prog 31 #[.int .i64 n] w fun e w' => e = .returned (.int .i64 (if 0 ≤ n ∧ n ≤ 1048576 then n + 8 else 0)) ∧ w = w' := by
  by_cases h0 : n < 0
  · rw [if_neg (by omega)]
    go_enter Try.func31, Try.ntmps31
    go_wp2
    go_ret
    exact ⟨rfl, rfl⟩
  · by_cases h1 : 1048576 < n
    · rw [if_neg (by omega)]
      go_enter Try.func31, Try.ntmps31
      go_wp2
      go_ret
      exact ⟨rfl, rfl⟩
    · rw [if_pos (by omega)]
      go_enter Try.func31, Try.ntmps31
      go_wp2
      go_ret
      exact ⟨ret_int (by omega), rfl⟩
end Frame
end Go.Proofs.Ythgpphedpegbgaa

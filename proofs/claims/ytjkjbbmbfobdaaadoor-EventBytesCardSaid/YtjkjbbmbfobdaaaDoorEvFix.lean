/-
  The law's fixed: true; and Short (no condition beyond the sizes, and that MaxLen holds a number).
-/
import Derived.Test.YtjkjbbmbfobdaaaDoorEvPlain
namespace Go.Proofs.YtjkjbbmbfobdaaaDoor
set_option linter.unusedSimpArgs false
set_option linter.unusedVariables false
open Go.ChangeShapes Go.WideShapes Go.RowKit Go.Deep
namespace Evt
open Val (JoinC)
open Vec Num
attribute [local go_sem ↓] loadDot loadVec loadRow0 storeRow0 loadOnly0 loadOnly1 loadOnly2
def e0 : Ev := ⟨fun i => match i with | 0 => 1 | 1 => 3 | 2 => 5 | 3 => 2 | 18 => 1 | 19 => 1 | _ => 0, fun i => match i with | 20 => ⟨#[97]⟩ | _ => ⟨#[]⟩⟩
theorem r0 : rightE e0 = true := by decide +kernel
theorem rz : rightE zero = false := by decide +kernel
theorem b0 : e0.bytes = [1, 3, 5, 2, 0, 0, 0, 0, 0, 0, 0, 0, 0, 0, 0, 0, 0, 0, 1, 1, 1, 97, 0, 0, 0, 0, 0, 0] := by
  have h : ∀ n : Nat, n < 128 → putB (n : Int) = [UInt8.ofNat n] := fun n hn => by rw [putB_at (by omega), digits_low hn]
  have h0 : putB 0 = [0] := h 0 (by decide)
  have h1 : putB 1 = [1] := h 1 (by decide)
  have h2 : putB 2 = [2] := h 2 (by decide)
  have h3 : putB 3 = [3] := h 3 (by decide)
  have h5 : putB 5 = [5] := h 5 (by decide)
  have hs : signedB 0 = [0] := by unfold signedB; simp [h0]
  simp [Ev.bytes, putAll, Ev.items, It.put, e0, textB, h0, h1, h2, h3, h5, hs]
theorem p0 : parseP (e0.bytes.drop 1) = (zero, 2) := by
  rw [b0]
  have h : (nextP ⟨[3, 5, 2, 0, 0, 0, 0, 0, 0, 0, 0, 0, 0, 0, 0, 0, 0, 1, 1, 1, 97, 0, 0, 0, 0, 0, 0], false⟩).2.bad = true := by decide +kernel
  unfold parseP
  simp only [List.drop_succ_cons, List.drop_zero]
  rw [h]
  rfl
set_option maxHeartbeats 4000000 in
set_option maxRecDepth 20000 in
theorem selfEv (e : Ev) (W : World) : (binOp .eql 31 e.val e.val).run Tryd.prog W = .ok (.bool true) W := by
  have hv : ∀ W, (Op.equalIn 9999 25 (.agg #[.int .i64 (e.n 2), .int .i64 (e.n 3), .int .i64 (e.n 4), .int .i64 (e.n 5), .int .i64 (e.n 6), .int .i64 (e.n 7), .int .i64 (e.n 8), .int .i64 (e.n 9), .int .i64 (e.n 10), .int .i64 (e.n 11), .int .i64 (e.n 12), .int .i64 (e.n 13), .int .i64 (e.n 14), .int .i64 (e.n 15), .int .i64 (e.n 16), .int .i64 (e.n 17)]) (.agg #[.int .i64 (e.n 2), .int .i64 (e.n 3), .int .i64 (e.n 4), .int .i64 (e.n 5), .int .i64 (e.n 6), .int .i64 (e.n 7), .int .i64 (e.n 8), .int .i64 (e.n 9), .int .i64 (e.n 10), .int .i64 (e.n 11), .int .i64 (e.n 12), .int .i64 (e.n 13), .int .i64 (e.n 14), .int .i64 (e.n 15), .int .i64 (e.n 16), .int .i64 (e.n 17)])).run Tryd.prog W = .ok true W := fun W => by
    have := run_equalIn_ints (P := Tryd.prog) 9997 Tryd.underlying25 Tryd.underlying3 Vec.intInfo.1 Vec.intInfo.2 (past e) (past e) rfl rfl W
    rw [show (past e == past e) = true by simp] at this
    exact this
  unfold Ev.val Ev.cs
  go_simp
theorem selfCh (e : Ev) (W : World) : (binOp .eql 35 e.ch e.ch).run Tryd.prog W = .ok (.bool true) W := by
  unfold Ev.ch
  go_simp
theorem val_evOf (e : Ev) : (evOf e.items).val = e.val := by unfold Ev.val; rw [evOf_cs]
theorem fit0 : Fit e0 := ⟨fun i => by unfold e0; dsimp only; split <;> decide, by decide⟩
theorem fitz : Fit zero := ⟨fun i => by show (0 : Nat) ≤ 1000000; decide, by decide⟩
end Evt
end Go.Proofs.YtjkjbbmbfobdaaaDoor

/-
  Frames, whatever stands behind them, are told as they were (plain lists; no program).
-/
import Derived.Test.YtbbneefcjancbaaFramePlain
namespace Go.Proofs.Ytbbneefcjancbaa
namespace Frame
theorem frame_cons (p q : List UInt8) : frameL p ++ q = UInt8.ofNat p.length :: UInt8.ofNat (p.length / 256) :: UInt8.ofNat (p.length / 65536) :: (165 ^^^ UInt8.ofNat p.length ^^^ UInt8.ofNat (p.length / 256) ^^^ UInt8.ofNat (p.length / 65536)) :: (p ++ (crcL p ++ q)) := by
  simp [frameL, headL]
theorem frame_len (p q : List UInt8) (h : p.length ≤ 1048576) : lenOf (frameL p ++ q) = p.length := by
  rw [frame_cons]
  simp [lenOf]
  omega
theorem frame_take4 (p q : List UInt8) : (frameL p ++ q).take 4 = headL p.length := by
  rw [frame_cons]
  rfl
theorem frame_mid (p q : List UInt8) : ((frameL p ++ q).take (p.length + 4)).drop 4 = p := by
  rw [frame_cons]
  simp only [List.take_succ_cons, List.drop_succ_cons, List.drop_zero]
  rw [List.take_left]
theorem frame_sum (p q : List UInt8) : ((frameL p ++ q).take (p.length + 8)).drop (p.length + 4) = crcL p := by
  rw [frame_cons]
  simp only [List.take_succ_cons, List.drop_succ_cons]
  rw [List.take_length_add_append, List.drop_left]
  rfl
theorem take_frame (p q : List UInt8) (h : p.length ≤ 1048576) : takeE (frameL p ++ q) = 0 ∧ takeN (frameL p ++ q) = p.length + 8 ∧ takeP (frameL p ++ q) = p := by
  have hl := frame_len p q h
  have hlen : (frameL p ++ q).length = p.length + 8 + q.length := by rw [List.length_append, frameL_length]
  have hE : takeE (frameL p ++ q) = 0 := by
    refine takeE_ok (by omega) ?_ (by omega) (by omega) ?_
    · rw [hl, frame_take4]
    · rw [hl, frame_mid, frame_sum]
  refine ⟨hE, ?_, ?_⟩
  · unfold takeN
    rw [if_pos hE, hl]
  · unfold takeP
    rw [if_pos hE, hl, frame_mid]
end Frame
end Go.Proofs.Ytbbneefcjancbaa

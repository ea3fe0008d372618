/-
  Frames as lists of bytes: a length's head, a payload's frame, and what is told of any bytes (plain lists; no program).
-/
import Derived.Test.YthgpphedpegbgaaCrcPlain
namespace Go.Proofs.Ythgpphedpegbgaa
namespace Frame
/-- a sum's bytes -/
def sumL (s : Nat) : List UInt8 := [UInt8.ofNat s, UInt8.ofNat (s / 256), UInt8.ofNat (s / 65536), UInt8.ofNat (s / 16777216)]
/-- a length's head -/
def headL (n : Nat) : List UInt8 := [UInt8.ofNat n, UInt8.ofNat (n / 256), UInt8.ofNat (n / 65536), 165 ^^^ UInt8.ofNat n ^^^ UInt8.ofNat (n / 256) ^^^ UInt8.ofNat (n / 65536)]
theorem headL_length (n : Nat) : (headL n).length = 4 := rfl
theorem sumL_length (n : Nat) : (sumL n).length = 4 := rfl
/-- the sum of bytes, as bytes -/
def crcL (p : List UInt8) : List UInt8 := sumL (Crc.sum p)
theorem crcL_length (p : List UInt8) : (crcL p).length = 4 := rfl
/-- a payload's frame -/
def frameL (p : List UInt8) : List UInt8 := headL p.length ++ p ++ crcL p
theorem frameL_length (p : List UInt8) : (frameL p).length = p.length + 8 := by
  simp only [frameL, List.length_append, headL_length, crcL_length]
  omega
def lenOf (l : List UInt8) : Nat := (l.getD 0 0).toNat + 256 * (l.getD 1 0).toNat + 65536 * (l.getD 2 0).toNat
theorem lenOf_lt (l : List UInt8) : lenOf l < 16777216 := by
  have h0 := UInt8.toNat_lt (l.getD 0 0)
  have h1 := UInt8.toNat_lt (l.getD 1 0)
  have h2 := UInt8.toNat_lt (l.getD 2 0)
  unfold lenOf
  omega
/-- what is wrong at the beginning -/
def takeE (l : List UInt8) : Int :=
  if l.length < 4 then 2
  else if headL (lenOf l) ≠ l.take 4 then 7
  else if 1048576 < lenOf l then 3
  else if l.length < lenOf l + 8 then 2
  else if crcL ((l.take (lenOf l + 4)).drop 4) ≠ (l.take (lenOf l + 8)).drop (lenOf l + 4) then 7
  else 0
def takeN (l : List UInt8) : Nat := if takeE l = 0 then lenOf l + 8 else 0
def takeP (l : List UInt8) : List UInt8 := if takeE l = 0 then (l.take (lenOf l + 4)).drop 4 else []
theorem takeN_le (l : List UInt8) : takeN l ≤ l.length := by
  unfold takeN
  split
  · rename_i h
    unfold takeE at h
    split at h
    · cases h
    · split at h
      · cases h
      · split at h
        · cases h
        · split at h
          · cases h
          · omega
  · omega
theorem takeE_short {l : List UInt8} (h : l.length < 4) : takeE l = 2 := by unfold takeE; rw [if_pos h]
theorem takeE_head {l : List UInt8} (h : ¬ l.length < 4) (h1 : headL (lenOf l) ≠ l.take 4) : takeE l = 7 := by unfold takeE; rw [if_neg h, if_pos h1]
theorem takeE_long {l : List UInt8} (h : ¬ l.length < 4) (h1 : headL (lenOf l) = l.take 4) (h2 : 1048576 < lenOf l) : takeE l = 3 := by unfold takeE; rw [if_neg h, if_neg (fun x => x h1), if_pos h2]
theorem takeE_cut {l : List UInt8} (h : ¬ l.length < 4) (h1 : headL (lenOf l) = l.take 4) (h2 : ¬ 1048576 < lenOf l) (h3 : l.length < lenOf l + 8) : takeE l = 2 := by
  unfold takeE; rw [if_neg h, if_neg (fun x => x h1), if_neg h2, if_pos h3]
theorem takeE_sum {l : List UInt8} (h : ¬ l.length < 4) (h1 : headL (lenOf l) = l.take 4) (h2 : ¬ 1048576 < lenOf l) (h3 : ¬ l.length < lenOf l + 8) (h4 : crcL ((l.take (lenOf l + 4)).drop 4) ≠ (l.take (lenOf l + 8)).drop (lenOf l + 4)) : takeE l = 7 := by
  unfold takeE; rw [if_neg h, if_neg (fun x => x h1), if_neg h2, if_neg h3, if_pos h4]
theorem takeE_ok {l : List UInt8} (h : ¬ l.length < 4) (h1 : headL (lenOf l) = l.take 4) (h2 : ¬ 1048576 < lenOf l) (h3 : ¬ l.length < lenOf l + 8) (h4 : crcL ((l.take (lenOf l + 4)).drop 4) = (l.take (lenOf l + 8)).drop (lenOf l + 4)) : takeE l = 0 := by
  unfold takeE; rw [if_neg h, if_neg (fun x => x h1), if_neg h2, if_neg h3, if_neg (fun x => x h4)]
theorem bad {l : List UInt8} {e : Int} (h : takeE l = e) (h0 : e ≠ 0) : takeN l = 0 ∧ takeP l = [] := by
  unfold takeN takeP
  rw [if_neg (by rw [h]; exact h0), if_neg (by rw [h]; exact h0)]
  exact ⟨rfl, rfl⟩
/-- all frames from a place on -/
def allGo (l : List UInt8) : Nat → Nat → List (List UInt8) → List (List UInt8) × Nat × Int
  | 0, at_, out => (out, at_, 0)
  | f + 1, at_, out => if l.length ≤ at_ then (out, at_, 0) else if takeE (l.drop at_) ≠ 0 then (out, at_, takeE (l.drop at_)) else allGo l f (at_ + takeN (l.drop at_)) (out ++ [takeP (l.drop at_)])
def allF (l : List UInt8) : List (List UInt8) × Nat × Int := allGo l (l.length + 1) 0 []
theorem allGo_end {l : List UInt8} {f at_ : Nat} {out : List (List UInt8)} (hf : l.length < at_ + f) (h : l.length ≤ at_) : allGo l f at_ out = (out, at_, 0) := by
  match f with
  | 0 => rfl
  | f + 1 => rw [allGo, if_pos h]
theorem allGo_bad {l : List UInt8} {f at_ : Nat} {out : List (List UInt8)} (hf : l.length < at_ + f) (h : at_ < l.length) (he : takeE (l.drop at_) ≠ 0) : allGo l f at_ out = (out, at_, takeE (l.drop at_)) := by
  match f, hf with
  | 0, hf => omega
  | f + 1, _ => rw [allGo, if_neg (by omega), if_pos he]
theorem allGo_more {l : List UInt8} {f at_ : Nat} {out : List (List UInt8)} (hf : l.length < at_ + f) (h : at_ < l.length) (he : takeE (l.drop at_) = 0) :
    ∃ f', l.length < at_ + takeN (l.drop at_) + f' ∧ allGo l f at_ out = allGo l f' (at_ + takeN (l.drop at_)) (out ++ [takeP (l.drop at_)]) := by
  match f, hf with
  | 0, hf => omega
  | f + 1, hf =>
    refine ⟨f, ?_, by rw [allGo, if_neg (by omega), if_neg (fun x => x he)]⟩
    have : takeN (l.drop at_) = lenOf (l.drop at_) + 8 := by unfold takeN; rw [if_pos he]
    omega
theorem allGo_len (l : List UInt8) : ∀ (f at_ : Nat) (out : List (List UInt8)), (allGo l f at_ out).1.length ≤ out.length + f
  | 0, _, _ => Nat.le_refl _
  | f + 1, at_, out => by
    rw [allGo]
    split
    · simp only; omega
    · split
      · simp only; omega
      · refine Nat.le_trans (allGo_len l f _ _) ?_
        simp only [List.length_append, List.length_cons, List.length_nil]
        omega
theorem allF_len (l : List UInt8) : (allF l).1.length ≤ l.length + 1 := by
  have := allGo_len l (l.length + 1) 0 []
  simpa [allF] using this
/-- the marks that the head's last byte goes through -/
def mk (n : Nat) : Nat → UInt8
  | 0 => 165
  | 1 => 165 ^^^ UInt8.ofNat n
  | 2 => 165 ^^^ UInt8.ofNat n ^^^ UInt8.ofNat (n / 256)
  | _ => 165 ^^^ UInt8.ofNat n ^^^ UInt8.ofNat (n / 256) ^^^ UInt8.ofNat (n / 65536)
def headK (n k : Nat) : List UInt8 := [UInt8.ofNat n, UInt8.ofNat (n / 256), UInt8.ofNat (n / 65536), mk n k]
end Frame
end Go.Proofs.Ythgpphedpegbgaa

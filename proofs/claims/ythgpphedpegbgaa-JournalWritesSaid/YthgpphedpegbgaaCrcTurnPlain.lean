/-
  The plain part of CrcTurned: bytes as one number; a sum is linear in it; bits within 32 places that are turned give another register (no condition beyond the numbers' sizes).
-/
import Derived.Test.YthgpphedpegbgaaCrcPlain
namespace Go.Proofs.Ythgpphedpegbgaa
namespace Crc

/-- bytes as one number, the first byte lowest -/
def num : List UInt8 → Nat
  | [] => 0
  | c :: l => c.toNat ^^^ (2 ^ 8 * num l)
theorem num_lt (l : List UInt8) : num l < 2 ^ (8 * l.length) := by
  induction l with
  | nil => simp [num]
  | cons c l ih =>
    have hc := UInt8.toNat_lt c
    simp only [num, List.length_cons]
    refine Nat.xor_lt_two_pow ?_ ?_
    · exact Nat.lt_of_lt_of_le hc (Nat.pow_le_pow_right (by omega) (by omega))
    · rw [show 8 * (l.length + 1) = 8 + 8 * l.length by omega, Nat.pow_add]
      exact Nat.mul_lt_mul_of_pos_left ih (by omega)
theorem updL_num (l : List UInt8) : ∀ r, updL r l = stpN (8 * l.length) (r ^^^ num l) := by
  induction l with
  | nil => intro r; simp [updL, num, stpN]
  | cons c l ih =>
    intro r
    show updL (upd r c) l = _
    rw [ih, upd_bits, List.length_cons, show 8 * (l.length + 1) = 8 * l.length + 8 by omega, stpN_add]
    congr 1
    rw [num, ← Nat.xor_assoc, stpN_xor 8 (r ^^^ c.toNat) (2 ^ 8 * num l), stpN_shift]
/-- a bit that is turned -/
theorem num_set (l : List UInt8) : ∀ (p : Nat) (c : UInt8), l[p / 8]? = some c → num (l.set (p / 8) (c ^^^ UInt8.ofNat (2 ^ (p % 8)))) = num l ^^^ 2 ^ p := by
  induction l with
  | nil => intro p c h; simp at h
  | cons d l ih =>
    intro p c h
    by_cases hp : p < 8
    · have h0 : p / 8 = 0 := by omega
      have h1 : p % 8 = p := by omega
      rw [h0] at h
      simp only [List.getElem?_cons_zero, Option.some.injEq] at h
      subst h
      rw [h0, h1]
      simp only [List.set_cons_zero, num]
      have h2 : (2 : Nat) ^ p < 256 := by
        have := Nat.pow_lt_pow_right (a := 2) (by omega) hp
        omega
      have : (d ^^^ UInt8.ofNat (2 ^ p)).toNat = d.toNat ^^^ 2 ^ p := by
        rw [UInt8.toNat_xor]
        congr 1
        simp only [UInt8.toNat_ofNat']
        exact Nat.mod_eq_of_lt h2
      rw [this, Nat.xor_assoc, Nat.xor_comm (2 ^ p), ← Nat.xor_assoc]
    · obtain ⟨q, rfl⟩ : ∃ q, p = q + 8 := ⟨p - 8, by omega⟩
      have h0 : (q + 8) / 8 = q / 8 + 1 := by omega
      have h1 : (q + 8) % 8 = q % 8 := by omega
      rw [h0] at h
      simp only [List.getElem?_cons_succ] at h
      rw [h0, h1]
      simp only [List.set_cons_succ, num]
      rw [ih q c h, Nat.xor_assoc]
      congr 1
      rw [Nat.pow_add, Nat.mul_comm (2 ^ q) (2 ^ 8)]
      apply Nat.eq_of_testBit_eq
      intro i
      simp only [Nat.testBit_xor, Nat.testBit_two_pow_mul]
      by_cases hi : 8 ≤ i <;> simp [hi]
theorem stp_ne {e : Nat} (h : e < 4294967296) (h0 : e ≠ 0) : stp e ≠ 0 := by
  unfold stp
  rcases Nat.mod_two_eq_zero_or_one e with hm | hm
  · simp [hm]; omega
  · simp only [hm, if_true]
    intro h1
    have h2 : e / 2 = 3988292384 := by
      have := congrArg (· ^^^ 3988292384) h1
      simpa [Nat.xor_assoc] using this
    omega
theorem stpN_ne (n : Nat) {e : Nat} (h : e < 4294967296) (h0 : e ≠ 0) : stpN n e ≠ 0 := by
  induction n with
  | zero => exact h0
  | succ n ih => exact stp_ne (stpN_lt n h) ih
/-- what is turned behind k bits of 'by', from place p on, in L bits -/
def turn (b p L k : Nat) : Nat := 2 ^ p * (b % 2 ^ k) % 2 ^ L
theorem turn_bit (b p L k j : Nat) : (turn b p L k).testBit j = (decide (j < L) && decide (p ≤ j) && decide (j - p < k) && b.testBit (j - p)) := by
  unfold turn
  rw [Nat.testBit_mod_two_pow, Nat.testBit_two_pow_mul, Nat.testBit_mod_two_pow]
  by_cases h1 : j < L <;> by_cases h2 : p ≤ j <;> by_cases h3 : j - p < k <;> simp [h1, h2, h3]
theorem turn_zero (b p L : Nat) : turn b p L 0 = 0 := by simp [turn, Nat.mod_one]
theorem turn_no (b p L k : Nat) (h : b.testBit k = false ∨ L ≤ p + k) : turn b p L (k + 1) = turn b p L k := by
  apply Nat.eq_of_testBit_eq
  intro j
  rw [turn_bit, turn_bit]
  by_cases h2 : p ≤ j
  · by_cases hk : j - p = k
    · rcases h with h | h
      · rw [hk, h]; simp
      · have : ¬ j < L := by omega
        simp [this]
    · have : (j - p < k + 1) = (j - p < k) := by simp only [eq_iff_iff]; omega
      simp [this]
  · simp [h2]
theorem turn_yes (b p L k : Nat) (h : b.testBit k = true) (hl : p + k < L) : turn b p L (k + 1) = turn b p L k ^^^ 2 ^ (p + k) := by
  apply Nat.eq_of_testBit_eq
  intro j
  rw [Nat.testBit_xor, turn_bit, turn_bit, Nat.testBit_two_pow]
  by_cases h2 : p ≤ j
  · by_cases hk : j - p = k
    · have hj : j = p + k := by omega
      subst hj
      have : p + k - p = k := by omega
      simp [this, h, hl]
    · have : (j - p < k + 1) = (j - p < k) := by simp only [eq_iff_iff]; omega
      have h3 : ¬ p + k = j := by omega
      simp [this, h3]
  · have h3 : ¬ p + k = j := by omega
    simp [h2, h3]
theorem turn_yes_ne (b p L k : Nat) (h : b.testBit k = true) (hl : p + k < L) : turn b p L (k + 1) ≠ 0 := by
  intro h0
  have := turn_bit b p L (k + 1) (p + k)
  rw [h0] at this
  have e : p + k - p = k := by omega
  simp [e, h, hl] at this
/-- THE PLAIN LAW -/
theorem turned (l z : List UInt8) (b p : Nat) (hb : b < 4294967296) (hlen : z.length = l.length) (hp : p ≤ 8 * l.length) (hz : num z = num l ^^^ turn b p (8 * l.length) 32) (hne : turn b p (8 * l.length) 32 ≠ 0) :
    sum z ≠ sum l := by
  have h1 := updL_num z 4294967295
  have h2 := updL_num l 4294967295
  rw [hlen, hz, ← Nat.xor_assoc, stpN_xor, ← h2] at h1
  have ht : turn b p (8 * l.length) 32 = 2 ^ p * (b % 2 ^ (8 * l.length - p)) := by
    unfold turn
    rw [Nat.mod_eq_of_lt (show b < 2 ^ 32 by omega)]
    rw [show 8 * l.length = p + (8 * l.length - p) by omega, Nat.pow_add, Nat.mul_mod_mul_left]
    congr 3
    omega
  have he : b % 2 ^ (8 * l.length - p) ≠ 0 := by
    intro h0
    rw [ht, h0] at hne
    exact hne rfl
  have hs : stpN (8 * l.length) (turn b p (8 * l.length) 32) ≠ 0 := by
    rw [ht, show 8 * l.length = (8 * l.length - p) + p by omega, stpN_add]
    have : (8 * l.length - p) + p - p = 8 * l.length - p := by omega
    rw [this, stpN_shift]
    exact stpN_ne _ (Nat.lt_of_le_of_lt (Nat.mod_le _ _) hb) he
  have hz' := updL_lt z (show 4294967295 < 4294967296 by omega)
  have hl' := updL_lt l (show 4294967295 < 4294967296 by omega)
  unfold sum
  intro h
  have h3 : updL 4294967295 z = updL 4294967295 l := by omega
  rw [h3] at h1
  apply hs
  have := congrArg (updL 4294967295 l ^^^ ·) h1
  simpa [← Nat.xor_assoc] using this.symm
end Crc
end Go.Proofs.Ythgpphedpegbgaa

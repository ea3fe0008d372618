/-
  The sum of bytes as plain numbers: one step of a bit, the table, the register after bytes; the table's way is the bit by bit way (no condition beyond the numbers' sizes).
-/
import Derived.Test.YtoddgakhiaokaaaRows
namespace Go.Proofs.Ytoddgakhiaokaaa
namespace Crc

/-- one bit's step -/
def stp (r : Nat) : Nat := (r / 2) ^^^ (if r % 2 = 1 then 3988292384 else 0)
def stpN : Nat → Nat → Nat
  | 0, r => r
  | n + 1, r => stp (stpN n r)
/-- the table's entry -/
def tbl (j : Nat) : Nat := stpN 8 j
/-- a byte's step, by the table -/
def upd (r : Nat) (c : UInt8) : Nat := (r / 256) ^^^ tbl ((r % 256) ^^^ c.toNat)
def updL (r : Nat) (l : List UInt8) : Nat := l.foldl upd r
/-- the sum of bytes -/
def sum (l : List UInt8) : Nat := 4294967295 - updL 4294967295 l

theorem stp_lt {r : Nat} (h : r < 4294967296) : stp r < 4294967296 := by
  unfold stp
  refine Nat.xor_lt_two_pow (n := 32) (by omega) ?_
  split <;> omega
theorem stpN_lt (n : Nat) {r : Nat} (h : r < 4294967296) : stpN n r < 4294967296 := by
  induction n with
  | zero => exact h
  | succ n ih => exact stp_lt ih
theorem stpN_succ' (n r : Nat) : stpN (n + 1) r = stpN n (stp r) := by
  induction n with
  | zero => rfl
  | succ n ih =>
    show stp (stpN (n + 1) r) = stp (stpN n (stp r))
    rw [ih]
theorem stpN_add (a b r : Nat) : stpN (a + b) r = stpN a (stpN b r) := by
  induction a with
  | zero => rw [Nat.zero_add]; rfl
  | succ a ih =>
    rw [show a + 1 + b = (a + b) + 1 by omega]
    show stp _ = stp _
    rw [ih]
theorem tbl_lt {j : Nat} (h : j < 256) : tbl j < 4294967296 := stpN_lt 8 (by omega)
theorem idx_lt (r : Nat) (c : UInt8) : (r % 256) ^^^ c.toNat < 256 := Nat.xor_lt_two_pow (n := 8) (by omega) (UInt8.toNat_lt c)
theorem upd_lt {r : Nat} (c : UInt8) (h : r < 4294967296) : upd r c < 4294967296 :=
  Nat.xor_lt_two_pow (n := 32) (by omega) (tbl_lt (idx_lt r c))
theorem updL_lt {r : Nat} (l : List UInt8) (h : r < 4294967296) : updL r l < 4294967296 := by
  induction l generalizing r with
  | nil => exact h
  | cons c l ih => exact ih (upd_lt c h)
theorem sum_lt (l : List UInt8) : sum l < 4294967296 := by unfold sum; omega
theorem updL_append (r : Nat) (l m : List UInt8) : updL r (l ++ m) = updL (updL r l) m := by simp [updL]
theorem updL_snoc (r : Nat) (l : List UInt8) (c : UInt8) : updL r (l ++ [c]) = upd (updL r l) c := by simp [updL]

/-! ### linear -/
theorem xor_div2 (a b : Nat) : (a ^^^ b) / 2 = (a / 2) ^^^ (b / 2) := Nat.xor_div_two
theorem xor_mod2 (a b : Nat) : (a ^^^ b) % 2 = (a + b) % 2 := by
  have h := Nat.testBit_xor a b 0
  simp only [Nat.testBit_zero] at h
  have ha := Nat.mod_two_eq_zero_or_one a
  have hb := Nat.mod_two_eq_zero_or_one b
  have hc := Nat.mod_two_eq_zero_or_one (a ^^^ b)
  rcases ha with ha | ha <;> rcases hb with hb | hb <;> rcases hc with hc | hc <;> simp [ha, hb, hc] at h <;> omega
theorem stp_xor (a b : Nat) : stp (a ^^^ b) = stp a ^^^ stp b := by
  unfold stp
  rw [xor_div2]
  have h := xor_mod2 a b
  have ha := Nat.mod_two_eq_zero_or_one a
  have hb := Nat.mod_two_eq_zero_or_one b
  have hx : ∀ x y p : Nat, (x ^^^ p) ^^^ (y ^^^ p) = x ^^^ y := by
    intro x y p
    rw [Nat.xor_comm y p, Nat.xor_assoc, ← Nat.xor_assoc p p y, Nat.xor_self, Nat.zero_xor]
  rcases ha with ha | ha <;> rcases hb with hb | hb
  · have : (a ^^^ b) % 2 = 0 := by omega
    simp [ha, hb, this]
  · have : (a ^^^ b) % 2 = 1 := by omega
    simp [ha, hb, this, Nat.xor_assoc]
  · have : (a ^^^ b) % 2 = 1 := by omega
    simp only [ha, hb, this, if_true, if_neg (show ¬ (0 : Nat) = 1 by decide), Nat.xor_zero]
    rw [Nat.xor_assoc, Nat.xor_comm (b / 2), ← Nat.xor_assoc]
  · have : (a ^^^ b) % 2 = 0 := by omega
    simp only [ha, hb, this, if_true, if_neg (show ¬ (0 : Nat) = 1 by decide), Nat.xor_zero]
    exact (hx _ _ _).symm
theorem stpN_xor (n a b : Nat) : stpN n (a ^^^ b) = stpN n a ^^^ stpN n b := by
  induction n with
  | zero => rfl
  | succ n ih => show stp _ = _; rw [ih, stp_xor]; rfl
theorem stp_double (x : Nat) : stp (2 * x) = x := by
  unfold stp
  have : (2 * x) % 2 = 0 := by omega
  rw [if_neg (by omega)]
  simp
theorem stpN_shift (n x : Nat) : stpN n (2 ^ n * x) = x := by
  induction n with
  | zero => simp [stpN]
  | succ n ih =>
    rw [stpN_succ', show 2 ^ (n + 1) * x = 2 * (2 ^ n * x) by rw [Nat.pow_succ, Nat.mul_comm (2 ^ n) 2, Nat.mul_assoc], stp_double, ih]
theorem split256 (r : Nat) : r = (256 * (r / 256)) ^^^ (r % 256) := by
  have h : (256 * (r / 256)) ^^^ (r % 256) = 2 ^ 8 * (r / 2 ^ 8) + r % 2 ^ 8 := by
    rw [Nat.two_pow_add_eq_or_of_lt (Nat.mod_lt _ (by decide))]
    apply Nat.eq_of_testBit_eq
    intro i
    simp only [Nat.testBit_xor, Nat.testBit_or, Nat.testBit_mod_two_pow, show (256 : Nat) = 2 ^ 8 from rfl, Nat.testBit_two_pow_mul]
    by_cases hi : i < 8
    · have : ¬ 8 ≤ i := by omega
      simp [this]
    · simp [hi]
  rw [h]
  exact (Nat.div_add_mod r (2 ^ 8)).symm
/-- bit by bit it is the same -/
theorem upd_bits (r : Nat) (c : UInt8) : upd r c = stpN 8 (r ^^^ c.toNat) := by
  have h := split256 r
  have h2 : r ^^^ c.toNat = (2 ^ 8 * (r / 256)) ^^^ ((r % 256) ^^^ c.toNat) := by
    rw [← Nat.xor_assoc]
    exact congrArg (· ^^^ c.toNat) h
  rw [h2, stpN_xor, stpN_shift]
  rfl

end Crc
end Go.Proofs.Ytoddgakhiaokaaa

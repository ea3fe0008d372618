/-
  The document's reference: a number read of bytes (no condition beyond the size).
-/
import Derived.Test.YtkmkpdmjdfbpjaaGreatDoorJ17
import Derived.Lib.Strings
namespace Go.Proofs.YtkmkpdmjdfbpjaaGreatDoor
set_option linter.unusedSimpArgs false
set_option linter.unusedVariables false
open Go.ChangeShapes Go.WideShapes Go.RowKit
namespace Num
/-- what bytes' low seven bits come to -/
def val : List UInt8 → Nat
  | [] => 0
  | c :: l => c.toNat % 128 + 128 * val l
theorem val_lt : ∀ l : List UInt8, val l < 128 ^ l.length
  | [] => by simp [val]
  | c :: l => by
    have := val_lt l
    rw [val, List.length_cons, Nat.pow_succ]
    omega
theorem val_snoc (c : UInt8) : ∀ p : List UInt8, val (p ++ [c]) = val p + c.toNat % 128 * 128 ^ p.length
  | [] => by simp [val]
  | x :: p => by
    rw [List.cons_append, val, val_snoc c p, val, List.length_cons, Nat.pow_succ, Nat.mul_add, ← Nat.mul_assoc, Nat.mul_comm 128 (c.toNat % 128), Nat.mul_assoc, Nat.mul_comm 128 (128 ^ p.length), Nat.add_assoc]
theorem digits_val {c : UInt8} (hc : c.toNat < 128) : ∀ p : List UInt8, (∀ x ∈ p, 128 ≤ x.toNat) → (c.toNat ≠ 0 ∨ p = []) → digits (val (p ++ [c])) = p ++ [c]
  | [], _, _ => by
    have h : val ([] ++ [c]) = c.toNat := by simp [val, Nat.mod_eq_of_lt hc]
    rw [h, digits_low hc]
    simp
  | x :: p, hp, h0 => by
    have h1 := hp x (List.mem_cons_self ..)
    have h2 : c.toNat ≠ 0 := h0.resolve_right (by simp)
    have hx := UInt8.toNat_lt x
    have ih := digits_val hc p (fun y hy => hp y (List.mem_cons_of_mem _ hy)) (.inl h2)
    have hpos : 1 ≤ val (p ++ [c]) := by
      rw [val_snoc, Nat.mod_eq_of_lt hc]
      have h3 : 1 ≤ 128 ^ p.length := Nat.pow_pos (by decide)
      have h4 : 1 * 1 ≤ c.toNat * 128 ^ p.length := Nat.mul_le_mul (by omega) h3
      omega
    have e : val (x :: p ++ [c]) = x.toNat % 128 + 128 * val (p ++ [c]) := rfl
    rw [e, digits_high (by omega), show (x.toNat % 128 + 128 * val (p ++ [c])) % 128 = x.toNat % 128 by omega, show (x.toNat % 128 + 128 * val (p ++ [c])) / 128 = val (p ++ [c]) by omega, ih, List.cons_append]
    congr 1
    apply UInt8.toNat_inj.1
    simp
    omega
theorem digits_not {c : UInt8} (hc : c.toNat = 0) {p : List UInt8} (hp : p ≠ []) : digits (val (p ++ [c])) ≠ p ++ [c] := by
  intro h
  have h1 := congrArg List.length h
  have h2 := val_lt p
  have h3 : val (p ++ [c]) = val p := by rw [val_snoc, hc]; simp
  have hl : 0 < p.length := List.length_pos_iff.2 hp
  have h4 := digits_len (p.length - 1) (val p) (by rw [show p.length - 1 + 1 = p.length by omega]; exact h2)
  rw [h3, List.length_append] at h1
  simp at h1
  omega
theorem takeGo_go {l : List UInt8} : ∀ i, i ≤ 9 → i ≤ l.length → (∀ x ∈ l.take i, 128 ≤ x.toNat) → takeGo 0 0 l = takeGo i (val (l.take i)) (l.drop i)
  | 0, _, _, _ => rfl
  | i + 1, h9, hl, h => by
    have hi : i < l.length := by omega
    have ht : l.take (i + 1) = l.take i ++ [l[i]] := by rw [List.take_add_one, List.getElem?_eq_getElem hi]; rfl
    rw [takeGo_go i (by omega) (by omega) (fun x hx => h x (by rw [ht]; exact List.mem_append_left _ hx)), List.drop_eq_getElem_cons hi, takeGo]
    have hc := h l[i] (by rw [ht]; exact List.mem_append_right _ (List.mem_singleton.2 rfl))
    rw [if_neg (by omega), if_neg (by omega), ht, val_snoc, List.length_take, Nat.min_eq_left (by omega), Nat.pow_mul, show (2 : Nat) ^ 7 = 128 by decide]
/-- what the reference takes: 0, 0 where there is no number -/
def rtake (l : List UInt8) : Nat × Nat := (takeGo 0 0 l).getD (0, 0)
/-- where it ends -/
theorem rtake_none {l : List UInt8} {i : Nat} (h9 : i ≤ 9) (hl : i = l.length) (h : ∀ x ∈ l.take i, 128 ≤ x.toNat) : rtake l = (0, 0) := by
  unfold rtake
  rw [takeGo_go i h9 (by omega) h, List.drop_of_length_le (by omega)]
  rfl
theorem rtake_eight {l : List UInt8} {c : UInt8} (hc : l[8]? = some c) (h : ∀ x ∈ l.take 8, 128 ≤ x.toNat) (h64 : 64 ≤ c.toNat) : rtake l = (0, 0) := by
  obtain ⟨h8, he⟩ := List.getElem?_eq_some_iff.1 hc
  unfold rtake
  rw [takeGo_go 8 (by decide) (by omega) h, List.drop_eq_getElem_cons h8, he, takeGo, if_neg (by decide)]
  by_cases h1 : c.toNat < 128
  · rw [if_pos h1, Nat.mod_eq_of_lt h1, if_pos (.inr (by omega))]
    rfl
  · rw [if_neg h1]
    cases l.drop (8 + 1) with
    | nil => rfl
    | cons d m => rw [takeGo, if_pos (by decide)]; rfl
theorem rtake_ends {l : List UInt8} {c : UInt8} {i : Nat} (hi : i ≤ 8) (hc : l[i]? = some c) (h : ∀ x ∈ l.take i, 128 ≤ x.toNat) (hlow : c.toNat < 128) (h64 : i = 8 → c.toNat < 64) :
    rtake l = if c.toNat = 0 ∧ 0 < i then (0, 0) else (val (l.take i) + c.toNat * 128 ^ i, i + 1) := by
  obtain ⟨hlt, he⟩ := List.getElem?_eq_some_iff.1 hc
  have hv := val_lt (l.take i)
  rw [List.length_take, Nat.min_eq_left (by omega)] at hv
  have hb : val (l.take i) + c.toNat * 128 ^ i ≤ 4611686018427387903 := by
    by_cases h8 : i = 8
    · have := h64 h8
      subst h8
      have h1 : c.toNat * 128 ^ 8 ≤ 63 * 128 ^ 8 := Nat.mul_le_mul_right _ (by omega)
      have e : (128 : Nat) ^ 8 = 72057594037927936 := by decide
      omega
    · have h1 : 128 ^ i ≤ 128 ^ 7 := Nat.pow_le_pow_right (by decide) (by omega)
      have h2 : c.toNat * 128 ^ i ≤ 127 * 128 ^ 7 := Nat.mul_le_mul (by omega) h1
      have e : (128 : Nat) ^ 7 = 562949953421312 := by decide
      omega
  unfold rtake
  rw [takeGo_go i (by omega) (by omega) h, List.drop_eq_getElem_cons hlt, he, takeGo, if_neg (by omega), if_pos hlow, Nat.mod_eq_of_lt hlow, Nat.pow_mul, show (2 : Nat) ^ 7 = 128 by decide]
  by_cases h0 : c.toNat = 0 ∧ 0 < i
  · rw [if_pos (.inl h0), if_pos h0]
    rfl
  · rw [if_neg (by rintro (h1 | h1); exact h0 h1; omega), if_neg h0]
    rfl
theorem bytes_eq (x y : List UInt8) : ((⟨x.toArray⟩ : ByteArray).toList == (⟨y.toArray⟩ : ByteArray).toList) = decide (x = y) := by
  rw [Lib.toList_data, Lib.toList_data, Bool.eq_iff_iff, beq_iff_eq, decide_eq_true_iff]
theorem snoc_at {l : List UInt8} {i : Nat} {c : UInt8} (h : l[i]? = some c) : l.take (i + 1) = l.take i ++ [c] := by rw [List.take_add_one, h]; rfl
end Num
end Go.Proofs.YtkmkpdmjdfbpjaaGreatDoor

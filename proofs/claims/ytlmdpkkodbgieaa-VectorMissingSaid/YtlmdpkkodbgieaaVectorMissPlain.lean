/-
  The dots that one vector knows and the other one doesn't, as a list of pairs: by replicas, rising, at most 4096 (no condition).
-/
import Derived.Test.YtlmdpkkodbgieaaVectorPlain
namespace Go.Proofs.Ytlmdpkkodbgieaa
namespace Vec

def rowD (i : Nat) (lo : Int) (m : Nat) : List (Int × Int) := (List.range m).map fun (t : Nat) => ((i : Int), lo + 1 + (t : Int))
theorem rowD_zero (i : Nat) (lo : Int) : rowD i lo 0 = [] := rfl
theorem rowD_succ (i : Nat) (lo : Int) (m : Nat) : rowD i lo (m + 1) = rowD i lo m ++ [((i : Int), lo + 1 + (m : Int))] := by
  simp [rowD, List.range_succ]
def lo (xs : List Int) (i : Nat) : Int := clamp (xs.getD i 0)
def gap (xs ys : List Int) (i : Nat) : Nat := (lo ys i - lo xs i).toNat
def upTo (xs ys : List Int) (k : Nat) : List (Int × Int) := (List.range k).flatMap fun i => rowD i (lo xs i) (gap xs ys i)
theorem upTo_zero (xs ys : List Int) : upTo xs ys 0 = [] := rfl
theorem upTo_succ (xs ys : List Int) (k : Nat) : upTo xs ys (k + 1) = upTo xs ys k ++ rowD k (lo xs k) (gap xs ys k) := by
  simp [upTo, List.range_succ]
/-- k replicas whole, then m dots of the next one -/
def part (xs ys : List Int) (k m : Nat) : List (Int × Int) := upTo xs ys k ++ rowD k (lo xs k) m
theorem part_zero (xs ys : List Int) : part xs ys 0 0 = [] := rfl
theorem part_next (xs ys : List Int) (k : Nat) : part xs ys k (gap xs ys k) = part xs ys (k + 1) 0 := by
  simp [part, upTo_succ, rowD_zero]
theorem part_more (xs ys : List Int) (k m : Nat) : part xs ys k (m + 1) = part xs ys k m ++ [((k : Int), lo xs k + 1 + (m : Int))] := by
  simp [part, rowD_succ]
theorem rowD_prefix (i : Nat) (l : Int) {m n : Nat} (h : m ≤ n) : rowD i l m <+: rowD i l n := by
  induction n with
  | zero => obtain rfl : m = 0 := by omega
            exact List.prefix_refl _
  | succ n ih =>
    by_cases e : m = n + 1
    · subst e; exact List.prefix_refl _
    · exact (ih (by omega)).trans (by rw [rowD_succ]; exact List.prefix_append _ _)
theorem upTo_prefix (xs ys : List Int) {k n : Nat} (h : k ≤ n) : upTo xs ys k <+: upTo xs ys n := by
  induction n with
  | zero => obtain rfl : k = 0 := by omega
            exact List.prefix_refl _
  | succ n ih =>
    by_cases e : k = n + 1
    · subst e; exact List.prefix_refl _
    · exact (ih (by omega)).trans (by rw [upTo_succ]; exact List.prefix_append _ _)
theorem part_prefix (xs ys : List Int) {k m : Nat} (hk : k < 16) (hm : m ≤ gap xs ys k) : part xs ys k m <+: upTo xs ys 16 := by
  refine List.IsPrefix.trans ?_ (upTo_prefix xs ys (show k + 1 ≤ 16 by omega))
  obtain ⟨t, ht⟩ := rowD_prefix k (lo xs k) hm
  rw [upTo_succ, part, ← ht, ← List.append_assoc]
  exact List.prefix_append _ _
def missF (xs ys : List Int) : List (Int × Int) := (upTo xs ys 16).take 4096
theorem missF_full {xs ys : List Int} {k m : Nat} (hk : k < 16) (hm : m ≤ gap xs ys k) (h : (part xs ys k m).length = 4096) : missF xs ys = part xs ys k m := by
  obtain ⟨t, ht⟩ := part_prefix xs ys hk hm
  rw [missF, ← ht, ← h]
  simp
theorem missF_all {xs ys : List Int} (h : (part xs ys 16 0).length ≤ 4096) : missF xs ys = part xs ys 16 0 := by
  have : part xs ys 16 0 = upTo xs ys 16 := by simp [part, rowD_zero]
  rw [this] at h ⊢
  exact List.take_of_length_le h
theorem clamp_range (n : Int) : 0 ≤ clamp n ∧ clamp n ≤ 1048576 := by unfold clamp; omega
theorem lo_range (xs : List Int) (i : Nat) : 0 ≤ lo xs i ∧ lo xs i ≤ 1048576 := clamp_range _
end Vec
end Go.Proofs.Ytlmdpkkodbgieaa

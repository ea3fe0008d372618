/-
  What names, texts, edges' texts, values and elements may be, in plain words (no condition).
-/
import Derived.Lib.SplitLaws
import Derived.Lib.Join
namespace Go.Proofs.YtjkjbbmbfobdaaaDoor
namespace Val
def letterB (c : UInt8) : Bool := (decide (97 ≤ c.toNat) && decide (c.toNat ≤ 122)) || (decide (65 ≤ c.toNat) && decide (c.toNat ≤ 90))
def innerB (c : UInt8) : Bool := letterB c || (decide (48 ≤ c.toNat) && decide (c.toNat ≤ 57)) || decide (c.toNat = 95)
def nameB (l : List UInt8) : Bool := decide (l ≠ []) && decide (l.length ≤ 16) && letterB (l.getD 0 0) && l.all innerB
def signB (c : UInt8) : Bool := decide (32 ≤ c.toNat) && decide (c.toNat ≤ 126)
def plainB (l : List UInt8) : Bool := l.all signB && decide (l.length ≤ 64)
theorem letter_inner {c : UInt8} (h : letterB c = true) : innerB c = true := by simp [innerB, h]
theorem nameB_len {l : List UInt8} (h : nameB l = true) : 0 < l.length ∧ l.length ≤ 16 := by
  simp [nameB] at h
  exact ⟨List.length_pos_iff.2 h.1.1.1, h.1.1.2⟩
/-! ### cutting at a byte -/
def headCons (b : UInt8) : List (List UInt8) → List (List UInt8)
  | [] => [[b]]
  | p :: ps => (b :: p) :: ps
def cutAt (c : UInt8) : List UInt8 → List (List UInt8)
  | [] => [[]]
  | b :: l => if b = c then [] :: cutAt c l else headCons b (cutAt c l)
theorem splitK_ne {b c : UInt8} (h : b ≠ c) (l : List UInt8) : ∀ k, Lib.splitK [c] 0 k (b :: l) = headCons b (Lib.splitK [c] 0 k l)
  | 0 => rfl
  | k + 1 => by
    have hp : ([c] : List UInt8).isPrefixOf (b :: l) = false := by simp [List.isPrefixOf, Ne.symm h]
    have hix : Lib.index (b :: l) [c] = if Lib.index l [c] == -1 then -1 else Lib.index l [c] + 1 := by rw [Lib.index, hp]; simp
    unfold Lib.splitK
    by_cases hm : Lib.index l [c] = -1
    · rw [hix, hm]; rfl
    · have hge := Lib.index_ge l [c]
      obtain ⟨j, hj⟩ : ∃ j : Nat, Lib.index l [c] = j := ⟨(Lib.index l [c]).toNat, by omega⟩
      rw [hix, hj]
      have e1 : ((j : Int) == -1) = false := by simp
      have e2 : ((j : Int) + 1 == -1) = false := by simpa using (by omega : ¬ (j : Int) + 1 = -1)
      simp only [e1, Bool.false_eq_true, if_false, e2, headCons]
      have e3 : ((j : Int) + 1).toNat = j + 1 := by omega
      rw [e3, Int.toNat_natCast]
      simp
theorem split_cut (c : UInt8) : ∀ l : List UInt8, Lib.split l [c] = cutAt c l
  | [] => rfl
  | b :: l => by
    have ih := split_cut c l
    unfold Lib.split at ih ⊢
    unfold cutAt
    by_cases h : b = c
    · subst h
      rw [if_pos rfl, Lib.count_cons_eq, Nat.add_comm, ← ih]
      have hix : Lib.index (b :: l) [b] = 0 := by rw [Lib.index]; simp [List.isPrefixOf]
      conv => lhs; unfold Lib.splitK
      rw [hix]
      simp
    · rw [if_neg h, Lib.count_cons_ne b c l h, splitK_ne h, ih]
theorem cutAt_ne (c : UInt8) : ∀ l : List UInt8, cutAt c l ≠ []
  | [] => by simp [cutAt]
  | b :: l => by
    unfold cutAt
    split
    · simp
    · cases cutAt c l <;> simp [headCons]
def lastSnoc (b : UInt8) : List (List UInt8) → List (List UInt8)
  | [] => [[b]]
  | [p] => [p ++ [b]]
  | p :: ps => p :: lastSnoc b ps
theorem lastSnoc_head {b x : UInt8} : ∀ {L : List (List UInt8)}, L ≠ [] → lastSnoc b (headCons x L) = headCons x (lastSnoc b L)
  | [], h => (h rfl).elim
  | [_], _ => rfl
  | _ :: _ :: _, _ => rfl
theorem cut_snoc (c b : UInt8) : ∀ l : List UInt8, cutAt c (l ++ [b]) = if b = c then cutAt c l ++ [[]] else lastSnoc b (cutAt c l)
  | [] => by
    unfold cutAt
    simp only [List.nil_append]
    split
    · simp [cutAt]
    · simp [cutAt, headCons, lastSnoc]
  | x :: l => by
    have ih := cut_snoc c b l
    rw [List.cons_append]
    unfold cutAt
    rw [ih]
    have hne := cutAt_ne c l
    by_cases h : x = c
    · rw [if_pos h, if_pos h]
      by_cases h2 : b = c
      · rw [if_pos h2, if_pos h2]; rfl
      · rw [if_neg h2, if_neg h2]
        cases hq : cutAt c l with
        | nil => exact (hne hq).elim
        | cons p ps => rfl
    · rw [if_neg h, if_neg h]
      by_cases h2 : b = c
      · rw [if_pos h2, if_pos h2]
        cases hq : cutAt c l with
        | nil => exact (hne hq).elim
        | cons p ps => rfl
      · rw [if_neg h2, if_neg h2, lastSnoc_head hne]
theorem cut_len (c : UInt8) : ∀ l : List UInt8, ((cutAt c l).map fun p => p.length + 1).sum = l.length + 1
  | [] => rfl
  | b :: l => by
    have ih := cut_len c l
    have hne := cutAt_ne c l
    unfold cutAt
    split
    · simp only [List.map_cons, List.sum_cons, ih, List.length_cons, List.length_nil]; omega
    · cases hq : cutAt c l with
      | nil => exact (hne hq).elim
      | cons p ps =>
        rw [hq] at ih
        simp only [headCons, List.map_cons, List.sum_cons, List.length_cons] at ih ⊢
        omega
def linkB (l : List UInt8) : Bool := match cutAt 62 l with
  | [a, b, c] => nameB a && nameB b && nameB c
  | _ => false
theorem linkB_len {l : List UInt8} (h : linkB l = true) : l.length ≤ 50 := by
  have hl := cut_len 62 l
  unfold linkB at h
  split at h
  · next a b c e =>
    rw [e] at hl
    simp only [Bool.and_eq_true] at h
    have h1 := nameB_len h.1.1
    have h2 := nameB_len h.1.2
    have h3 := nameB_len h.2
    simp at hl
    omega
  · cases h
/-- may a value be? -/
def rightB (k n : Int) (t : List UInt8) : Bool :=
  if k = 0 then decide (n = 0) && decide (t = [])
  else if k = 1 then (decide (n = 0) || decide (n = 1)) && decide (t = [])
  else if k = 2 then decide (-1099511627776 ≤ n) && decide (n ≤ 1099511627776) && decide (t = [])
  else if k = 3 then decide (n = 0) && plainB t
  else if k = 4 then decide (n = 0) && nameB t
  else if k = 5 then decide (n = 0) && linkB t
  else false
/-- may an element be? -/
def elemB (k : Int) (a b c d : List UInt8) : Bool :=
  if k = 1 then nameB a && decide (b = []) && decide (c = []) && decide (d = [])
  else if k = 2 ∨ k = 4 then nameB a && decide (b = []) && decide (c = []) && nameB d
  else if k = 3 then nameB a && nameB b && nameB c && decide (d = [])
  else if k = 5 then nameB a && nameB b && nameB c && nameB d
  else false
theorem join_nil_iff : ∀ xs : List (List UInt8), Lib.join xs [] = [] ↔ ∀ x ∈ xs, x = []
  | [] => by simp [Lib.join_nil]
  | x :: r => by
    rw [Lib.join_cons]
    simp [Lib.joinTail]
end Val
end Go.Proofs.YtjkjbbmbfobdaaaDoor

/-
  Vectors as rows of 16 numbers: join, meet, below, order, sum, and the dots that one knows and the other one doesn't (no condition beyond the rows' lengths).
-/
import Derived.Test.YtjkjbbmbfobdaaaDoorRows
namespace Go.Proofs.YtjkjbbmbfobdaaaDoor
namespace Vec

def zeros : List Int := List.replicate 16 0
theorem zeros_length : zeros.length = 16 := rfl
/-- the first k places by g, the others as they are -/
def zl (g : Int → Int → Int) (xs ys : List Int) (k : Nat) : List Int := (List.range 16).map fun j => if j < k then g (xs.getD j 0) (ys.getD j 0) else xs.getD j 0
def zw (g : Int → Int → Int) (xs ys : List Int) : List Int := zl g xs ys 16
def join (xs ys : List Int) : List Int := zw max xs ys
def meet (xs ys : List Int) : List Int := zw min xs ys
theorem get_getD {a : List Int} {j : Nat} (h : j < a.length) : a[j]? = some (a.getD j 0) := by
  simp [List.getD_eq_getElem?_getD, List.getElem?_eq_getElem h]
theorem ext16 {a b : List Int} (ha : a.length = 16) (hb : b.length = 16) (h : ∀ i, i < 16 → a.getD i 0 = b.getD i 0) : a = b := by
  apply List.ext_getElem (by omega)
  intro i h1 h2
  have := h i (by omega)
  simpa [List.getD_eq_getElem?_getD, List.getElem?_eq_getElem h1, List.getElem?_eq_getElem h2] using this
theorem zl_length (g : Int → Int → Int) (xs ys : List Int) (k : Nat) : (zl g xs ys k).length = 16 := by simp [zl]
theorem zl_get (g : Int → Int → Int) (xs ys : List Int) (k j : Nat) (h : j < 16) : (zl g xs ys k)[j]? = some (if j < k then g (xs.getD j 0) (ys.getD j 0) else xs.getD j 0) := by
  simp [zl, h]
theorem zl_getD (g : Int → Int → Int) (xs ys : List Int) (k j : Nat) (h : j < 16) : (zl g xs ys k).getD j 0 = if j < k then g (xs.getD j 0) (ys.getD j 0) else xs.getD j 0 := by
  rw [List.getD_eq_getElem?_getD, zl_get _ _ _ _ _ h]
  rfl
theorem zl_zero (g : Int → Int → Int) {xs : List Int} (ys : List Int) (hx : xs.length = 16) : zl g xs ys 0 = xs := by
  refine ext16 (zl_length ..) hx fun i hi => ?_
  rw [zl_getD _ _ _ _ _ hi, if_neg (by omega)]
theorem zl_set (g : Int → Int → Int) (xs ys : List Int) (k : Nat) (h : k < 16) : (zl g xs ys k).set k (g (xs.getD k 0) (ys.getD k 0)) = zl g xs ys (k + 1) := by
  apply List.ext_getElem?
  intro j
  by_cases hj : j < 16
  · rw [List.getElem?_set, zl_length, zl_get _ _ _ _ _ hj, zl_get _ _ _ _ _ hj]
    by_cases e : k = j
    · subst e
      simp [h]
    · rw [if_neg e]
      have : j < k + 1 ↔ j < k := by omega
      simp only [this]
  · rw [List.getElem?_eq_none (by rw [List.length_set, zl_length]; omega), List.getElem?_eq_none (by rw [zl_length]; omega)]
theorem zw_length (g : Int → Int → Int) (xs ys : List Int) : (zw g xs ys).length = 16 := zl_length ..
theorem zw_getD (g : Int → Int → Int) (xs ys : List Int) (j : Nat) (h : j < 16) : (zw g xs ys).getD j 0 = g (xs.getD j 0) (ys.getD j 0) := by
  rw [zw, zl_getD _ _ _ _ _ h, if_pos h]
theorem join_length (xs ys : List Int) : (join xs ys).length = 16 := zl_length ..
theorem meet_length (xs ys : List Int) : (meet xs ys).length = 16 := zl_length ..
theorem join_getD (xs ys : List Int) (j : Nat) (h : j < 16) : (join xs ys).getD j 0 = max (xs.getD j 0) (ys.getD j 0) := zw_getD _ _ _ _ h
theorem meet_getD (xs ys : List Int) (j : Nat) (h : j < 16) : (meet xs ys).getD j 0 = min (xs.getD j 0) (ys.getD j 0) := zw_getD _ _ _ _ h
def below (xs ys : List Int) : Prop := ∀ i, i < 16 → xs.getD i 0 ≤ ys.getD i 0
def belowF (xs ys : List Int) : Bool := join xs ys == ys
theorem belowF_iff {xs ys : List Int} (hy : ys.length = 16) : belowF xs ys = true ↔ below xs ys := by
  unfold belowF
  rw [beq_iff_eq]
  constructor
  · intro h i hi
    have := join_getD xs ys i hi
    rw [h] at this
    omega
  · intro h
    refine ext16 (join_length ..) hy fun i hi => ?_
    rw [join_getD _ _ _ hi]
    have := h i hi
    omega
theorem meetF_iff {xs ys : List Int} (hx : xs.length = 16) : (meet xs ys == xs) = true ↔ below xs ys := by
  rw [beq_iff_eq]
  constructor
  · intro h i hi
    have := meet_getD xs ys i hi
    rw [h] at this
    omega
  · intro h
    refine ext16 (meet_length ..) hx fun i hi => ?_
    rw [meet_getD _ _ _ hi]
    have := h i hi
    omega
def order (xs ys : List Int) : Int := if xs == ys then 0 else if belowF xs ys then -1 else if belowF ys xs then 1 else 2
/-- the sum of the numbers from 0 on, held below 2^62 -/
def sumF : List Int → Int → Int
  | [], n => n
  | x :: l, n => if max x 0 > 4611686018427387904 - n then 4611686018427387904 else sumF l (n + max x 0)
def rightF (xs : List Int) : Bool := xs.all fun n => decide (0 ≤ n) && decide (n ≤ 1048576)
def dotF (r n : Int) : Bool := decide (0 ≤ r) && decide (r < 16) && decide (1 ≤ n) && decide (n ≤ 1048576)
def knowsF (xs : List Int) (r n : Int) : Bool := dotF r n && decide (n ≤ xs.getD r.toNat 0)
def nextF (xs : List Int) (r n : Int) : Bool := dotF r n && (xs.getD r.toNat 0 == n - 1)
def addF (xs : List Int) (r n : Int) : List Int := if dotF r n && !knowsF xs r n then xs.set r.toNat n else xs
def clamp (n : Int) : Int := min (max n 0) 1048576
end Vec
end Go.Proofs.YtjkjbbmbfobdaaaDoor

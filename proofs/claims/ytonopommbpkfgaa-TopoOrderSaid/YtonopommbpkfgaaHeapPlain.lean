/-
  A heap of numbers in a row: one that rises, one that sinks (plain; no program).
-/
import Derived.Test.YtonopommbpkfgaaRowI
namespace Go.Proofs.Ytonopommbpkfgaa
namespace Heap
def swapL (l : List Int) (i j : Nat) : List Int := (l.set i (l.getD j 0)).set j (l.getD i 0)
theorem swap_len (l : List Int) (i j : Nat) : (swapL l i j).length = l.length := by simp [swapL]
theorem swap_get {l : List Int} {i j : Nat} (hi : i < l.length) (hj : j < l.length) (k : Nat) : (swapL l i j).getD k 0 = if k = j then l.getD i 0 else if k = i then l.getD j 0 else l.getD k 0 := by
  unfold swapL
  simp only [List.getD_eq_getElem?_getD, List.getElem?_set, List.length_set]
  by_cases h1 : j = k
  · subst h1; simp [hj]
  · by_cases h2 : i = k
    · subst h2; simp [h1, Ne.symm h1, hi]
    · simp [h1, h2, Ne.symm h1, Ne.symm h2]
theorem swap_perm {l : List Int} {i j : Nat} (hi : i < l.length) (hj : j < l.length) : (swapL l i j).Perm l := by
  rw [List.perm_iff_count]
  intro a
  unfold swapL
  rw [List.count_set (by rw [List.length_set]; exact hj), List.count_set hi]
  have g1 : l.getD i 0 = l[i] := by simp [List.getD_eq_getElem?_getD, List.getElem?_eq_getElem hi]
  have g2 : l.getD j 0 = l[j] := by simp [List.getD_eq_getElem?_getD, List.getElem?_eq_getElem hj]
  rw [g1, g2]
  have p1 : l[i] = a → 1 ≤ l.count a := fun h => List.count_pos_iff.2 (h ▸ List.getElem_mem hi)
  have p2 : l[j] = a → 1 ≤ l.count a := fun h => List.count_pos_iff.2 (h ▸ List.getElem_mem hj)
  by_cases e : i = j
  · subst e
    rw [List.getElem_set_self]
    by_cases h : l[i] = a
    · simp [h]; have := p1 h; omega
    · simp [h]
  · rw [List.getElem_set_ne e]
    by_cases h1 : l[i] = a
    · by_cases h2 : l[j] = a
      · simp [h1, h2]; have := p1 h1; omega
      · simp [h1, h2]; have := p1 h1; omega
    · by_cases h2 : l[j] = a
      · simp [h1, h2]; try omega
      · simp [h1, h2]
/-- a number's parent -/
def par (i : Nat) : Nat := (i - 1) / 2
theorem par_lt {i : Nat} (h : 0 < i) : par i < i := by unfold par; omega
/-- the first n are a heap -/
def OK (l : List Int) (n : Nat) : Prop := ∀ i, 0 < i → i < n → l.getD (par i) 0 ≤ l.getD i 0
theorem ok_root {l : List Int} {n : Nat} (h : OK l n) : ∀ (i : Nat), i < n → l.getD 0 0 ≤ l.getD i 0 := by
  intro i
  induction i using Nat.strongRecOn with
  | ind i ih =>
    intro hi
    rcases Nat.eq_zero_or_pos i with h0 | h0
    · subst h0; exact Int.le_refl _
    · have := par_lt h0
      have h1 := ih (par i) this (by omega)
      have h2 := h i h0 hi
      omega
structure Up (l : List Int) (j : Nat) : Prop where
  h1 : ∀ i, 0 < i → i < l.length → i ≠ j → l.getD (par i) 0 ≤ l.getD i 0
  h2 : ∀ k, 0 < k → k < l.length → par k = j → 0 < j → l.getD (par j) 0 ≤ l.getD k 0
theorem up_new {l : List Int} (h : OK l l.length) (x : Int) : Up (l ++ [x]) l.length := by
  have hg : ∀ k, k < l.length → (l ++ [x]).getD k 0 = l.getD k 0 := fun k hk => by simp [List.getD_eq_getElem?_getD, List.getElem?_append_left hk]
  constructor
  · intro i h0 hi hne
    rw [List.length_append, List.length_singleton] at hi
    have hp := par_lt h0
    rw [hg _ (by omega), hg _ (by omega)]
    exact h i h0 (by omega)
  · intro k h0 hk hp
    rw [List.length_append, List.length_singleton] at hk
    have := par_lt h0
    omega
theorem up_end {l : List Int} {j : Nat} (h : Up l j) (he : j = 0 ∨ l.getD (par j) 0 ≤ l.getD j 0) : OK l l.length := by
  intro i h0 hi
  by_cases e : i = j
  · subst e
    rcases he with he | he
    · omega
    · exact he
  · exact h.h1 i h0 hi e
theorem up_step {l : List Int} {j : Nat} (h : Up l j) (h0 : 0 < j) (hj : j < l.length) (hlt : l.getD j 0 < l.getD (par j) 0) : Up (swapL l (par j) j) (par j) := by
  have hp := par_lt h0
  have hpl : par j < l.length := by omega
  have G := swap_get hpl hj
  constructor
  · intro m hm hml hne
    rw [swap_len] at hml
    rw [G, G]
    have hpm := par_lt hm
    by_cases e1 : m = j
    · subst e1
      rw [if_neg (by omega), if_pos rfl, if_pos rfl]
      omega
    · by_cases e2 : par m = j
      · rw [if_pos e2, if_neg e1, if_neg hne]
        exact h.h2 m hm hml e2 h0
      · by_cases e3 : par m = par j
        · rw [if_neg e2, if_pos e3, if_neg e1, if_neg hne]
          have := h.h1 m hm hml e1
          rw [e3] at this
          omega
        · rw [if_neg e2, if_neg e3, if_neg e1, if_neg hne]
          exact h.h1 m hm hml e1
  · intro k hk hkl hpk hpj
    rw [swap_len] at hkl
    have hpp := par_lt hpj
    rw [G, G, if_neg (by omega), if_neg (by omega)]
    have hi := h.h1 (par j) hpj hpl (by omega)
    by_cases e1 : k = j
    · rw [if_pos e1]
      exact hi
    · rw [if_neg e1, if_neg (by have := par_lt hk; omega)]
      have := h.h1 k hk hkl e1
      rw [hpk] at this
      omega
structure Down (l : List Int) (i n : Nat) : Prop where
  h1 : ∀ m, 0 < m → m < n → par m ≠ i → l.getD (par m) 0 ≤ l.getD m 0
  h2 : ∀ m, 0 < m → m < n → par m = i → 0 < i → l.getD (par i) 0 ≤ l.getD m 0
theorem down_end {l : List Int} {i n : Nat} (h : Down l i n) (he : ∀ m, 0 < m → m < n → par m = i → l.getD i 0 ≤ l.getD m 0) : OK l n := by
  intro m h0 hm
  by_cases e : par m = i
  · rw [e]; exact he m h0 hm e
  · exact h.h1 m h0 hm e
theorem par_kid {m i : Nat} (h : 0 < m) (e : par m = i) : m = 2 * i + 1 ∨ m = 2 * i + 2 := by unfold par at e; omega
theorem down_step {l : List Int} {i j n : Nat} (h : Down l i n) (hn : n ≤ l.length) (hj0 : 0 < j) (hj : j < n) (hp : par j = i) (hmin : ∀ m, 0 < m → m < n → par m = i → l.getD j 0 ≤ l.getD m 0) (hlt : l.getD j 0 < l.getD i 0) : Down (swapL l i j) j n := by
  have hij := par_lt hj0
  have G := swap_get (l := l) (i := i) (j := j) (by omega) (by omega)
  constructor
  · intro m hm hmn hne
    have hpm := par_lt hm
    rw [G, G, if_neg hne]
    by_cases e1 : m = j
    · subst e1
      rw [if_pos hp, if_pos rfl]
      omega
    · by_cases e2 : par m = i
      · rw [if_pos e2, if_neg e1, if_neg (by omega)]
        exact hmin m hm hmn e2
      · rw [if_neg e2, if_neg e1]
        by_cases e3 : m = i
        · rw [if_pos e3, e3]
          exact h.h2 j hj0 hj hp (by omega)
        · rw [if_neg e3]
          exact h.h1 m hm hmn e2
  · intro m hm hmn hpm _
    rw [G, G, hp, if_neg (by omega), if_pos rfl, if_neg (by have := par_lt hm; omega), if_neg (by have := par_lt hm; omega)]
    have := h.h1 m hm hmn (by omega)
    rw [hpm] at this
    exact this
theorem down_start {l : List Int} {n : Nat} (h : OK l (n + 1)) (hn : n < l.length) : Down (swapL l 0 n) 0 n := by
  have G := swap_get (l := l) (i := 0) (j := n) (by omega) hn
  constructor
  · intro m hm hmn hne
    have := par_lt hm
    rw [G, G, if_neg (by omega), if_neg hne, if_neg (by omega), if_neg (by omega)]
    exact h m hm (by omega)
  · intro m _ _ _ h0
    omega
end Heap
end Go.Proofs.Ytonopommbpkfgaa

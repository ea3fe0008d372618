/-
  slices.swapRangeCmpFunc at events: places change with places (no condition beyond the sizes).
-/
import Derived.Test.YtgfkopimjmggdaaDoorJ4
/- The steps of a stable sort of a row, in plain words: what is mixed within bounds, what is in order, swaps, rotations and merges (plain lists; no program). -/
namespace Go.Proofs.YtgfkopimjmggdaaDoor
set_option linter.unusedSimpArgs false
set_option linter.unusedVariables false
namespace Stable
variable {α : Type}
/-- from a to b all is as it was in some order, all else as it was -/
structure Mix (a b : Nat) (xs ys : List α) : Prop where
  perm : ys.Perm xs
  out : ∀ i, (i < a ∨ b ≤ i) → ys[i]? = xs[i]?
  in_ : ∀ i, a ≤ i → i < b → ∃ j, a ≤ j ∧ j < b ∧ ys[i]? = xs[j]?
theorem Mix.refl (a b : Nat) (xs : List α) : Mix a b xs xs := ⟨List.Perm.refl _, fun _ _ => rfl, fun i h1 h2 => ⟨i, h1, h2, rfl⟩⟩
theorem Mix.trans {a b : Nat} {xs ys zs : List α} (h : Mix a b xs ys) (k : Mix a b ys zs) : Mix a b xs zs :=
  ⟨k.perm.trans h.perm, fun i hi => (k.out i hi).trans (h.out i hi), fun i h1 h2 => by
    obtain ⟨j, j1, j2, hj⟩ := k.in_ i h1 h2
    obtain ⟨l, l1, l2, hl⟩ := h.in_ j j1 j2
    exact ⟨l, l1, l2, hj.trans hl⟩⟩
theorem Mix.mono {a b a' b' : Nat} {xs ys : List α} (h : Mix a b xs ys) (ha : a' ≤ a) (hb : b ≤ b') : Mix a' b' xs ys :=
  ⟨h.perm, fun i hi => h.out i (by omega), fun i h1 h2 => by
    by_cases hi : a ≤ i ∧ i < b
    · obtain ⟨j, j1, j2, hj⟩ := h.in_ i hi.1 hi.2
      exact ⟨j, by omega, by omega, hj⟩
    · exact ⟨i, h1, h2, h.out i (by omega)⟩⟩
theorem Mix.len {a b : Nat} {xs ys : List α} (h : Mix a b xs ys) : ys.length = xs.length := h.perm.length_eq
/-- two that change places -/
def swap (xs : List α) (i j : Nat) : List α := match xs[i]?, xs[j]? with
  | some x, some y => (xs.set i y).set j x
  | _, _ => xs
theorem swap_eq {xs : List α} {i j : Nat} {x y : α} (hi : xs[i]? = some x) (hj : xs[j]? = some y) : swap xs i j = (xs.set i y).set j x := by unfold swap; rw [hi, hj]
theorem swap_len (xs : List α) (i j : Nat) : (swap xs i j).length = xs.length := by
  unfold swap
  split
  · rw [List.length_set, List.length_set]
  · rfl
theorem swap_get {xs : List α} {i j : Nat} (hi : i < xs.length) (hj : j < xs.length) (k : Nat) : (swap xs i j)[k]? = if k = j then xs[i]? else if k = i then xs[j]? else xs[k]? := by
  rw [swap_eq (List.getElem?_eq_getElem hi) (List.getElem?_eq_getElem hj)]
  by_cases h1 : k = j
  · subst h1
    rw [if_pos rfl, List.getElem?_set_self (by rw [List.length_set]; exact hj), List.getElem?_eq_getElem hi]
  · rw [if_neg h1, List.getElem?_set_ne (fun h => h1 h.symm)]
    by_cases h2 : k = i
    · subst h2
      rw [if_pos rfl, List.getElem?_set_self hi, List.getElem?_eq_getElem hj]
    · rw [if_neg h2, List.getElem?_set_ne (fun h => h2 h.symm)]
theorem swap_mix {a b : Nat} {xs : List α} {i j : Nat} (hi : i < xs.length) (hj : j < xs.length) (h1 : a ≤ i) (h2 : i < b) (h3 : a ≤ j) (h4 : j < b) : Mix a b xs (swap xs i j) := by
  refine ⟨?_, fun k hk => ?_, fun k k1 k2 => ?_⟩
  · rw [swap_eq (List.getElem?_eq_getElem hi) (List.getElem?_eq_getElem hj)]
    exact List.set_set_perm hi hj
  · rw [swap_get hi hj, if_neg (by omega), if_neg (by omega)]
  · rw [swap_get hi hj]
    split
    · exact ⟨i, h1, h2, rfl⟩
    · split
      · exact ⟨j, h3, h4, rfl⟩
      · exact ⟨k, k1, k2, rfl⟩
/-- k places from a on change with those from b on -/
def SwapR (a b k : Nat) (xs ys : List α) : Prop := ∀ i, ys[i]? = if a ≤ i ∧ i < a + k then xs[b + (i - a)]? else if b ≤ i ∧ i < b + k then xs[a + (i - b)]? else xs[i]?
theorem SwapR.zero (a b : Nat) (xs : List α) : SwapR a b 0 xs xs := fun i => by rw [if_neg (by omega), if_neg (by omega)]
theorem SwapR.succ {a b k : Nat} {xs ys : List α} (h : SwapR a b k xs ys) (hab : a + k < b) (hl : b + k < ys.length) : SwapR a b (k + 1) xs (swap ys (a + k) (b + k)) := fun i => by
  rw [swap_get (by omega) hl, h i, h (a + k), h (b + k)]
  repeat' split
  all_goals first
    | omega
    | (congr 1; omega)
    | rfl
/-- what stands from m to b comes ahead of what stands from a to m -/
def RotR (a m b : Nat) (xs ys : List α) : Prop := ∀ i, ys[i]? = if a ≤ i ∧ i < a + (b - m) then xs[m + (i - a)]? else if a + (b - m) ≤ i ∧ i < b then xs[i - (b - m)]? else xs[i]?
theorem RotR.gt {m i j : Nat} {xs ys zs : List α} (hi : i ≤ m) (hij : j < i) (h1 : SwapR (m - i) m j xs ys) (h2 : RotR (m - (i - j)) m (m + j) ys zs) : RotR (m - i) m (m + j) xs zs := fun k => by
  rw [h2 k, h1 (m + (k - (m - (i - j)))), h1 (k - (m + j - m)), h1 k]
  repeat' split
  all_goals first
    | omega
    | (congr 1; omega)
    | rfl
theorem RotR.lt {m i j : Nat} {xs ys zs : List α} (hi : i ≤ m) (hij : i < j) (h1 : SwapR (m - i) (m + j - i) i xs ys) (h2 : RotR (m - i) m (m + (j - i)) ys zs) : RotR (m - i) m (m + j) xs zs := fun k => by
  rw [h2 k, h1 (m + (k - (m - i))), h1 (k - (m + (j - i) - m)), h1 k]
  repeat' split
  all_goals first
    | omega
    | (congr 1; omega)
    | rfl
theorem RotR.eq {m i : Nat} {xs ys : List α} (hi : i ≤ m) (h1 : SwapR (m - i) m i xs ys) : RotR (m - i) m (m + i) xs ys := fun k => by
  rw [h1 k]
  repeat' split
  all_goals first
    | omega
    | (congr 1; omega)
    | rfl
/-- in order from a to b -/
def Srt (le : α → α → Prop) (a b : Nat) (xs : List α) : Prop := ∀ i j x y, a ≤ i → i < j → j < b → xs[i]? = some x → xs[j]? = some y → le x y
theorem Srt.one (le : α → α → Prop) (a b : Nat) (xs : List α) (h : b ≤ a + 1) : Srt le a b xs := fun i j _ _ h1 h2 h3 _ _ => by omega
theorem Srt.mono {le : α → α → Prop} {a b a' b' : Nat} {xs : List α} (h : Srt le a b xs) (ha : a ≤ a') (hb : b' ≤ b) : Srt le a' b' xs := fun i j x y h1 h2 h3 hx hy => h i j x y (by omega) h2 (by omega) hx hy
theorem Srt.keep {le : α → α → Prop} {a b c d : Nat} {xs ys : List α} (h : Srt le a b xs) (k : Mix c d xs ys) (hd : b ≤ c ∨ d ≤ a) : Srt le a b ys := fun i j x y h1 h2 h3 hx hy =>
  h i j x y h1 h2 h3 (by rw [← k.out i (by omega)]; exact hx) (by rw [← k.out j (by omega)]; exact hy)
/-- what comes ahead of what: all from a to m is no more than all from m to b -/
def Cut (le : α → α → Prop) (a m b : Nat) (xs : List α) : Prop := ∀ i j x y, a ≤ i → i < m → m ≤ j → j < b → xs[i]? = some x → xs[j]? = some y → le x y
theorem Cut.left {le : α → α → Prop} {a m b : Nat} {xs ys : List α} (h : Cut le a m b xs) (k : Mix a m xs ys) : Cut le a m b ys := fun i j x y h1 h2 h3 h4 hx hy => by
  obtain ⟨l, l1, l2, hl⟩ := k.in_ i h1 h2
  exact h l j x y l1 l2 h3 h4 (by rw [← hl]; exact hx) (by rw [← k.out j (by omega)]; exact hy)
theorem Cut.right {le : α → α → Prop} {a m b : Nat} {xs ys : List α} (h : Cut le a m b xs) (k : Mix m b xs ys) : Cut le a m b ys := fun i j x y h1 h2 h3 h4 hx hy => by
  obtain ⟨l, l1, l2, hl⟩ := k.in_ j h3 h4
  exact h i l x y h1 h2 l1 l2 (by rw [← k.out i (by omega)]; exact hx) (by rw [← hl]; exact hy)
theorem Cut.join {le : α → α → Prop} {a m b : Nat} {xs : List α} (h : Cut le a m b xs) (h1 : Srt le a m xs) (h2 : Srt le m b xs) : Srt le a b xs := fun i j x y i1 ij jb hx hy => by
  by_cases hj : j < m
  · exact h1 i j x y i1 ij hj hx hy
  · by_cases hi : i < m
    · exact h i j x y i1 hi (by omega) jb hx hy
    · exact h2 i j x y (by omega) ij jb hx hy
/-- behind a rotation: what was in order is, and the halves are cut -/
theorem merge_cut {le : α → α → Prop} (trans : ∀ x y z, le x y → le y z → le x z) {a m b mid start en : Nat} {xs ys : List α} (hb : b ≤ xs.length) (h1 : Srt le a m xs) (h2 : Srt le m b xs) (ham : a ≤ start) (hsm : start ≤ m) (hme : m ≤ en) (heb : en ≤ b)
    (hmid : start + en = mid + m) (hr : RotR start m en xs ys)
    (hlo : a < start → en < b → ∀ x y, xs[start - 1]? = some x → xs[en]? = some y → le x y) (hhi : start < m → m < en → ∀ x y, xs[en - 1]? = some x → xs[start]? = some y → le x y) :
    Cut le a mid b ys ∧ Srt le a start ys ∧ Srt le start mid ys ∧ Srt le mid en ys ∧ Srt le en b ys := by
  have get : ∀ k, k < xs.length → ∃ x, xs[k]? = some x := fun k hk => ⟨_, List.getElem?_eq_getElem hk⟩
  have e1 : ∀ i, i < start → ys[i]? = xs[i]? := fun i hi => by rw [hr i, if_neg (by omega), if_neg (by omega)]
  have e2 : ∀ i, start ≤ i → i < mid → ys[i]? = xs[m + (i - start)]? := fun i hi hj => by rw [hr i, if_pos (by omega)]
  have e3 : ∀ i, mid ≤ i → i < en → ys[i]? = xs[i - (en - m)]? := fun i hi hj => by rw [hr i, if_neg (by omega), if_pos (by omega)]
  have e4 : ∀ i, en ≤ i → ys[i]? = xs[i]? := fun i hi => by rw [hr i, if_neg (by omega), if_neg (by omega)]
  -- the four pieces held against each other
  have lo : ∀ i j x y, a ≤ i → i < start → en ≤ j → j < b → xs[i]? = some x → xs[j]? = some y → le x y := fun i j x y i1 i2 j1 j2 hx hy => by
    obtain ⟨u, hu⟩ := get (start - 1) (by omega)
    obtain ⟨v, hv⟩ := get en (by omega)
    have h3 := hlo (by omega) (by omega) u v hu hv
    have h4 : le x v := by
      by_cases hi : i = start - 1
      · subst hi
        rw [hx] at hu
        injection hu with hu
        rw [hu]; exact h3
      · exact trans _ _ _ (h1 i (start - 1) x u i1 (by omega) (by omega) hx hu) h3
    by_cases hj : j = en
    · subst hj
      rw [hy] at hv
      injection hv with hv
      rw [hv]; exact h4
    · exact trans _ _ _ h4 (h2 en j v y (by omega) (by omega) j2 hv hy)
  have hi : ∀ i j x y, m ≤ i → i < en → start ≤ j → j < m → xs[i]? = some x → xs[j]? = some y → le x y := fun i j x y i1 i2 j1 j2 hx hy => by
    obtain ⟨u, hu⟩ := get (en - 1) (by omega)
    obtain ⟨v, hv⟩ := get start (by omega)
    have h3 := hhi (by omega) (by omega) u v hu hv
    have h4 : le x v := by
      by_cases hi : i = en - 1
      · subst hi
        rw [hx] at hu
        injection hu with hu
        rw [hu]; exact h3
      · exact trans _ _ _ (h2 i (en - 1) x u i1 (by omega) (by omega) hx hu) h3
    by_cases hj : j = start
    · subst hj
      rw [hy] at hv
      injection hv with hv
      rw [hv]; exact h4
    · exact trans _ _ _ h4 (h1 start j v y ham (by omega) j2 hv hy)
  refine ⟨fun i j x y i1 i2 j1 j2 hx hy => ?_, fun i j x y i1 ij j2 hx hy => ?_, fun i j x y i1 ij j2 hx hy => ?_, fun i j x y i1 ij j2 hx hy => ?_, fun i j x y i1 ij j2 hx hy => ?_⟩
  · by_cases hs : i < start
    · rw [e1 i hs] at hx
      by_cases he : j < en
      · rw [e3 j j1 he] at hy
        exact h1 i _ x y i1 (by omega) (by omega) hx hy
      · rw [e4 j (by omega)] at hy
        exact lo i j x y i1 hs (by omega) j2 hx hy
    · rw [e2 i (by omega) i2] at hx
      by_cases he : j < en
      · rw [e3 j j1 he] at hy
        exact hi _ _ x y (by omega) (by omega) (by omega) (by omega) hx hy
      · rw [e4 j (by omega)] at hy
        exact h2 _ j x y (by omega) (by omega) j2 hx hy
  · rw [e1 i (by omega)] at hx
    rw [e1 j j2] at hy
    exact h1 i j x y i1 ij (by omega) hx hy
  · rw [e2 i i1 (by omega)] at hx
    rw [e2 j (by omega) j2] at hy
    exact h2 _ _ x y (by omega) (by omega) (by omega) hx hy
  · rw [e3 i i1 (by omega)] at hx
    rw [e3 j (by omega) j2] at hy
    exact h1 _ _ x y (by omega) (by omega) (by omega) hx hy
  · rw [e4 i i1] at hx
    rw [e4 j (by omega)] at hy
    exact h2 i j x y (by omega) ij j2 hx hy
/-- the first of [a, b) goes k - a places on -/
def Fwd (a k : Nat) (xs ys : List α) : Prop := ∀ i, ys[i]? = if a ≤ i ∧ i < k then xs[i + 1]? else if i = k then xs[a]? else xs[i]?
theorem Fwd.zero (a : Nat) (xs : List α) : Fwd a a xs xs := fun i => by
  rw [if_neg (by omega)]
  split
  · rename_i h; rw [h]
  · rfl
theorem Fwd.succ {a k : Nat} {xs ys : List α} (h : Fwd a k xs ys) (hk : a ≤ k) (hl : k + 1 < ys.length) : Fwd a (k + 1) xs (swap ys k (k + 1)) := fun i => by
  rw [swap_get (by omega) hl, h i, h k, h (k + 1)]
  repeat' split
  all_goals first
    | omega
    | (congr 1; omega)
    | rfl
/-- place m comes to k, all from there on one on -/
def Bwd (m k : Nat) (xs ys : List α) : Prop := ∀ i, ys[i]? = if i = k then xs[m]? else if k < i ∧ i ≤ m then xs[i - 1]? else xs[i]?
theorem Bwd.zero (m : Nat) (xs : List α) : Bwd m m xs xs := fun i => by
  split
  · rename_i h; rw [h]
  · rw [if_neg (by omega)]
theorem Bwd.succ {m k : Nat} {xs ys : List α} (h : Bwd m k xs ys) (h0 : 0 < k) (hk : k ≤ m) (hl : k < ys.length) : Bwd m (k - 1) xs (swap ys k (k - 1)) := fun i => by
  rw [swap_get hl (by omega), h i, h k, h (k - 1)]
  repeat' split
  all_goals first
    | omega
    | (congr 1; omega)
    | rfl
theorem fwd_srt {le : α → α → Prop} {a b i : Nat} {xs ys : List α} (h : Srt le (a + 1) b xs) (hi : a < i) (hib : i ≤ b) (hf : Fwd a (i - 1) xs ys)
    (hlo : ∀ q x y, a + 1 ≤ q → q < i → xs[q]? = some x → xs[a]? = some y → le x y) (hhi : ∀ q x y, i ≤ q → q < b → xs[q]? = some x → xs[a]? = some y → le y x) : Srt le a b ys := fun p q x y p1 pq qb hx hy => by
  rw [hf p] at hx
  rw [hf q] at hy
  by_cases hp : p < i - 1
  · rw [if_pos ⟨p1, hp⟩] at hx
    by_cases hq : q < i - 1
    · rw [if_pos ⟨by omega, hq⟩] at hy
      exact h _ _ x y (by omega) (by omega) (by omega) hx hy
    · rw [if_neg (by omega)] at hy
      by_cases hq2 : q = i - 1
      · rw [if_pos hq2] at hy
        exact hlo _ x y (by omega) (by omega) hx hy
      · rw [if_neg hq2] at hy
        exact h _ _ x y (by omega) (by omega) qb hx hy
  · rw [if_neg (by omega)] at hx
    rw [if_neg (by omega), if_neg (by omega)] at hy
    by_cases hp2 : p = i - 1
    · rw [if_pos hp2] at hx
      exact hhi q y x (by omega) qb hy hx
    · rw [if_neg hp2] at hx
      exact h p q x y (by omega) pq qb hx hy
theorem bwd_srt {le : α → α → Prop} {a m i : Nat} {xs ys : List α} (h : Srt le a m xs) (hi : a ≤ i) (him : i ≤ m) (hf : Bwd m i xs ys)
    (hlo : ∀ q x y, a ≤ q → q < i → xs[q]? = some x → xs[m]? = some y → le x y) (hhi : ∀ q x y, i ≤ q → q < m → xs[q]? = some x → xs[m]? = some y → le y x) : Srt le a (m + 1) ys := fun p q x y p1 pq qb hx hy => by
  rw [hf p] at hx
  rw [hf q] at hy
  by_cases hp : p = i
  · rw [if_pos hp] at hx
    rw [if_neg (by omega), if_pos (by omega)] at hy
    exact hhi _ y x (by omega) (by omega) hy hx
  · rw [if_neg hp] at hx
    by_cases hp2 : i < p ∧ p ≤ m
    · rw [if_pos hp2] at hx
      rw [if_neg (by omega), if_pos (by omega)] at hy
      exact h _ _ x y (by omega) (by omega) (by omega) hx hy
    · rw [if_neg hp2] at hx
      by_cases hq : q = i
      · rw [if_pos hq] at hy
        exact hlo p x y p1 (by omega) hx hy
      · rw [if_neg hq] at hy
        by_cases hq2 : i < q ∧ q ≤ m
        · rw [if_pos hq2] at hy
          exact h p _ x y p1 (by omega) (by omega) hx hy
        · rw [if_neg hq2] at hy
          exact h p q x y p1 pq (by omega) hx hy
/-- all of [a, i] in order but for place j, which is below all behind it -/
structure Ins (le : α → α → Prop) (a i j : Nat) (xs : List α) : Prop where
  rest : ∀ p q x y, a ≤ p → p < q → q ≤ i → p ≠ j → q ≠ j → xs[p]? = some x → xs[q]? = some y → le x y
  up : ∀ q x y, j < q → q ≤ i → xs[j]? = some x → xs[q]? = some y → le x y
  le : j ≤ i
theorem Ins.start {le : α → α → Prop} {a i : Nat} {xs : List α} (h : Srt le a i xs) : Ins le a i i xs :=
  ⟨fun p q x y h1 h2 h3 h4 h5 hx hy => h p q x y h1 h2 (by omega) hx hy, fun q _ _ h1 h2 => by omega, Nat.le_refl _⟩
theorem Ins.step {le : α → α → Prop} {a i j : Nat} {xs : List α} (h : Ins le a i j xs) (hj : a < j) (hl : i < xs.length) (hlt : ∀ x y, xs[j - 1]? = some x → xs[j]? = some y → le y x) : Ins le a i (j - 1) (swap xs j (j - 1)) := by
  have hle := h.le
  have g := fun k => swap_get (xs := xs) (i := j) (j := j - 1) (by omega) (by omega) k
  refine ⟨fun p q x y p1 pq qi pj qj hx hy => ?_, fun q x y q1 qi hx hy => ?_, by omega⟩
  · rw [g p, if_neg pj] at hx
    rw [g q, if_neg qj] at hy
    by_cases hp : p = j
    · rw [if_pos hp] at hx
      rw [if_neg (by omega)] at hy
      exact h.rest (j - 1) q x y (by omega) (by omega) qi (by omega) (by omega) hx hy
    · rw [if_neg hp] at hx
      by_cases hq : q = j
      · rw [if_pos hq] at hy
        exact h.rest p (j - 1) x y p1 (by omega) (by omega) hp (by omega) hx hy
      · rw [if_neg hq] at hy
        exact h.rest p q x y p1 pq qi hp hq hx hy
  · rw [g (j - 1), if_pos rfl] at hx
    rw [g q, if_neg (by omega)] at hy
    by_cases hq : q = j
    · rw [if_pos hq] at hy
      exact hlt y x hy hx
    · rw [if_neg hq] at hy
      exact h.up q x y (by omega) qi hx hy
theorem Ins.ends {le : α → α → Prop} (trans : ∀ x y z, le x y → le y z → le x z) {a i j : Nat} {xs : List α} (h : Ins le a i j xs) (hl : i < xs.length) (haj : a ≤ j) (hge : a < j → ∀ x y, xs[j - 1]? = some x → xs[j]? = some y → le x y) : Srt le a (i + 1) xs := fun p q x y p1 pq qi hx hy => by
  have hle := h.le
  by_cases hp : p = j
  · subst hp
    exact h.up q x y pq (by omega) hx hy
  · by_cases hq : q = j
    · subst hq
      obtain ⟨u, hu⟩ : ∃ u, xs[q - 1]? = some u := ⟨_, List.getElem?_eq_getElem (by omega)⟩
      have h1 := hge (by omega) u y hu hy
      by_cases hpq : p = q - 1
      · subst hpq
        rw [hx] at hu
        injection hu with hu
        rw [hu]; exact h1
      · exact trans _ _ _ (h.rest p (q - 1) x u p1 (by omega) (by omega) hp (by omega) hx hu) h1
    · exact h.rest p q x y p1 pq (by omega) hp hq hx hy
/-- blocks of s, each in order, from c on -/
def Blocks (le : α → α → Prop) (s n : Nat) (xs : List α) : Prop := ∀ t, Srt le (t * s) (min ((t + 1) * s) n) xs
end Stable
end Go.Proofs.YtgfkopimjmggdaaDoor

/- Comparisons of whole numbers: what cmp's calls compute (no condition). -/
namespace Go.Proofs.YtgfkopimjmggdaaDoor
set_option linter.unusedSimpArgs false
set_option linter.unusedVariables false
open Go.ChangeShapes Go.WideShapes Go.RowKit Go.Deep
namespace Cmp
def cmpI (x y : Int) : Int := if x < y then -1 else if y < x then 1 else 0
def orL : List Int → Int
  | [] => 0
  | x :: xs => if x = 0 then orL xs else x
theorem nanI (w : World) (x : Int) : Calls Tryd.prog 47 #[.int .i64 x] w fun e w' => e = .returned (.bool false) ∧ w' = w := by
  go_enter Tryd.func47, Tryd.ntmps47
  go_wp2_with fail
  go_ret
  exact ⟨by simp, rfl⟩
theorem compI (w : World) (x y : Int) : Calls Tryd.prog 38 #[.int .i64 x, .int .i64 y] w fun e w' => e = .returned (.int .i64 (cmpI x y)) ∧ w' = w := by
  unfold cmpI
  by_cases h1 : x < y
  · rw [if_pos h1]
    go_enter Tryd.func38, Tryd.ntmps38
    go_wp2_with fail
    refine (nanI _ _).mono ?_
    rintro e w1 ⟨rfl, rfl⟩
    go_wp2_with fail
    refine (nanI _ _).mono ?_
    rintro e w2 ⟨rfl, rfl⟩
    go_wp2_with fail
    go_ret
    exact ⟨rfl, rfl⟩
  · rw [if_neg h1]
    by_cases h2 : y < x
    · rw [if_pos h2]
      go_enter Tryd.func38, Tryd.ntmps38
      go_wp2_with fail
      refine (nanI _ _).mono ?_
      rintro e w1 ⟨rfl, rfl⟩
      go_wp2_with fail
      refine (nanI _ _).mono ?_
      rintro e w2 ⟨rfl, rfl⟩
      go_wp2_with fail
      go_ret
      exact ⟨rfl, rfl⟩
    · rw [if_neg h2]
      go_enter Tryd.func38, Tryd.ntmps38
      go_wp2_with fail
      refine (nanI _ _).mono ?_
      rintro e w1 ⟨rfl, rfl⟩
      go_wp2_with fail
      refine (nanI _ _).mono ?_
      rintro e w2 ⟨rfl, rfl⟩
      go_wp2_with fail
      go_ret
      exact ⟨rfl, rfl⟩
theorem orZ : ∀ (l : List Int) (i : Nat), (∀ j, j < i → l.getD j 0 = 0) → i ≤ l.length → orL l = orL (l.drop i)
  | l, 0, _, _ => rfl
  | [], i + 1, _, h => by simp at h
  | x :: l, i + 1, hz, h => by
    have h0 := hz 0 (by omega)
    simp at h0
    subst h0
    rw [List.drop_succ_cons, show orL (0 :: l) = orL l from if_pos rfl]
    exact orZ l i (fun j hj => by simpa using hz (j + 1) (by omega)) (by simpa using h)
theorem orI (w : World) (A : Option Addr) (n c : Nat) (l : List Int) (hr : Reads w (fun b => b < w.heap.size) 1 A n (ints l)) (hn : n ≤ 100) :
    Calls Tryd.prog 37 #[.slice A n c] w fun e w' => e = .returned (.int .i64 (orL l)) ∧ w' = w := by
  have hl : l.length = n := by simpa [ints] using hr.len
  have HR := Lib.hid (And.intro hr hl)
  have hz : ∀ W, (zeroValue 3).run Tryd.prog W = .ok (.int .i64 0) W := fun W => by kernel_rfl
  clear hr hl
  go_enter Tryd.func37, Tryd.ntmps37
  go_wp2_with fail
  go_loopw [5, 8] (fun _ iv wr => ∃ i : Nat, i ≤ n ∧ iv = .int .i64 i ∧ wr = w ∧ ∀ j, j < i → l.getD j 0 = 0) (fun _ iv _ => n - (intOf iv).toNat)
  case atStart => exact ⟨0, by omega, by go_num, rfl, fun j hj => by omega⟩
  case round =>
    obtain ⟨i, hi, rfl, rfl, hall⟩ := hrel
    by_cases hlt : i < n
    · have hix : i < l.length := by have := HR.out.2; omega
      obtain ⟨ad, u, rfl, _, hu, hc⟩ := HR.out.1.at_ hlt
      obtain ⟨x, hx⟩ : ∃ x, l[i]? = some x := ⟨_, List.getElem?_eq_getElem hix⟩
      rw [ints_get, hx, Option.map_some] at hu
      injection hu with hu
      subst hu
      have hd : orL l = orL (l.drop i) := orZ l i hall (by omega)
      have hgx : l.getD i 0 = x := by rw [List.getD_eq_getElem?_getD, hx]; rfl
      have hdr : l.drop i = x :: l.drop (i + 1) := by
        rw [List.drop_eq_getElem_cons hix]
        congr 1
        have := (List.getElem?_eq_some_iff.1 hx).2
        exact this
      rw [hdr] at hd
      have hii : (i : Int) < n := by omega
      by_cases h0 : x = 0
      · subst h0
        have HT := Lib.hid (show ∀ j, j < i + 1 → l.getD j 0 = 0 from fun j hj => by
          by_cases e : j = i
          · rw [e]; exact hgx
          · exact hall j (by omega))
        clear hd hgx hdr hall hx
        go_wp2_with fail
        go_roundw
        case rel => exact ⟨i + 1, by omega, by go_num, by first | rfl | exact True.intro, HT.out⟩
        case measure => simp [intOf]; omega
      · have h1 : (x == 0) = false := by simpa using h0
        have HF := Lib.hid (show orL l = x by rw [hd]; unfold orL; rw [if_neg h0])
        clear hd hgx hdr hall hx
        go_wp2_with fail
        go_ret
        rw [HF.out]
        exact ⟨rfl, rfl⟩
    · obtain rfl : n = i := by omega
      have HF := Lib.hid (show orL l = 0 by rw [orZ l n hall (by have := HR.out.2; omega), List.drop_of_length_le (by have := HR.out.2; omega)]; rfl)
      clear hall
      go_wp2_with fail
      go_ret
      rw [HF.out]
      exact ⟨rfl, rfl⟩
end Cmp
end Go.Proofs.YtgfkopimjmggdaaDoor

/- Sorted events of a row whose pasts are closed may come one by one, in plain words (no condition). -/
namespace Go.Proofs.YtgfkopimjmggdaaDoor
set_option linter.unusedSimpArgs false
set_option linter.unusedVariables false
namespace Acc
open Evt Vec Stable Cmp
def sumE (e : Ev) : Int := sumF (past e) 0
def cmpE (a b : Ev) : Int := orL [cmpI (sumE a) (sumE b), cmpI (a.n 0) (b.n 0), cmpI (a.n 1) (b.n 1)]
/-- ahead, or as good -/
def le (a b : Ev) : Prop := sumE a < sumE b ∨ (sumE a = sumE b ∧ (a.n 0 < b.n 0 ∨ (a.n 0 = b.n 0 ∧ a.n 1 ≤ b.n 1)))
theorem cmpI_cases (x y : Int) : (x < y ∧ cmpI x y = -1) ∨ (x = y ∧ cmpI x y = 0) ∨ (y < x ∧ cmpI x y = 1) := by
  unfold cmpI
  rcases Int.lt_trichotomy x y with h | h | h
  · exact .inl ⟨h, by rw [if_pos h]⟩
  · exact .inr (.inl ⟨h, by rw [if_neg (by omega), if_neg (by omega)]⟩)
  · exact .inr (.inr ⟨h, by rw [if_neg (by omega), if_pos h]⟩)
theorem cmpE_neg {a b : Ev} : cmpE a b < 0 ↔ ¬ le b a := by
  unfold cmpE le orL orL orL orL
  rcases cmpI_cases (sumE a) (sumE b) with ⟨h1, e1⟩ | ⟨h1, e1⟩ | ⟨h1, e1⟩ <;> rcases cmpI_cases (a.n 0) (b.n 0) with ⟨h2, e2⟩ | ⟨h2, e2⟩ | ⟨h2, e2⟩ <;> rcases cmpI_cases (a.n 1) (b.n 1) with ⟨h3, e3⟩ | ⟨h3, e3⟩ | ⟨h3, e3⟩ <;> rw [e1, e2, e3] <;> simp <;> omega
theorem le_trans' (a b c : Ev) (h : le a b) (k : le b c) : le a c := by unfold le at *; omega
theorem le_total' (a b : Ev) : le a b ∨ le b a := by unfold le; omega
theorem lt_le {a b : Ev} (h : cmpE a b < 0) : le a b := by
  have := cmpE_neg.1 h
  rcases le_total' a b with h | h
  · exact h
  · exact (this h).elim
theorem not_lt_le {a b : Ev} (h : ¬ cmpE a b < 0) : le b a := by
  rcases Classical.em (le b a) with h1 | h1
  · exact h1
  · exact (h (cmpE_neg.2 h1)).elim
/-! ### sums -/
theorem past_len (e : Ev) : (past e).length = 16 := rfl
theorem sumF_plain : ∀ (l : List Int) (n : Int), (∀ x ∈ l, 0 ≤ x ∧ x ≤ 1048576) → n + 1048576 * l.length ≤ 4611686018427387904 → sumF l n = n + l.sum
  | [], n, _, _ => by simp [sumF]
  | x :: l, n, h, hn => by
    have hx := h x (List.mem_cons_self ..)
    rw [List.length_cons] at hn
    rw [sumF_go (by omega), sumF_plain l _ (fun y hy => h y (List.mem_cons_of_mem _ hy)) (by omega), List.sum_cons]
    omega
theorem sum_le : ∀ (l k : List Int), l.length = k.length → (∀ i, l.getD i 0 ≤ k.getD i 0) → l.sum ≤ k.sum
  | [], [], _, _ => Int.le_refl _
  | x :: l, y :: k, hl, h => by
    have h0 := h 0
    have h1 := sum_le l k (by simpa using hl) (fun i => by simpa using h (i + 1))
    simp only [List.getD_cons_zero] at h0
    rw [List.sum_cons, List.sum_cons]
    omega
theorem sum_lt : ∀ (l k : List Int) (j : Nat), l.length = k.length → (∀ i, l.getD i 0 ≤ k.getD i 0) → l.getD j 0 < k.getD j 0 → l.sum < k.sum
  | [], [], j, _, _, h => by simp at h
  | x :: l, y :: k, 0, hl, h, hj => by
    have h1 := sum_le l k (by simpa using hl) (fun i => by simpa using h (i + 1))
    simp only [List.getD_cons_zero] at hj
    rw [List.sum_cons, List.sum_cons]
    omega
  | x :: l, y :: k, j + 1, hl, h, hj => by
    have h0 := h 0
    have h1 := sum_lt l k j (by simpa using hl) (fun i => by simpa using h (i + 1)) (by simpa using hj)
    simp only [List.getD_cons_zero] at h0
    rw [List.sum_cons, List.sum_cons]
    omega
theorem right_past {e : Ev} (h : rightE e = true) : ∀ x ∈ past e, 0 ≤ x ∧ x ≤ 1048576 := by
  unfold rightE rightF at h
  simp only [Bool.and_eq_true, List.all_eq_true, decide_eq_true_eq] at h
  exact h.1.2
theorem right_own {e : Ev} (h : rightE e = true) : (past e).getD (e.n 0).toNat 0 = e.n 1 - 1 := by
  unfold rightE nextF at h
  simp only [Bool.and_eq_true, beq_iff_eq] at h
  exact h.1.1.2
/-- an event whose past lies within another's, and less in one place, comes first -/
theorem before {e f : Ev} (he : rightE e = true) (hf : rightE f = true) (h : ∀ i, (past f).getD i 0 ≤ (past e).getD i 0) {j : Nat} (hj : (past f).getD j 0 < (past e).getD j 0) : ¬ le e f := by
  have h1 : sumE f < sumE e := by
    unfold sumE
    rw [sumF_plain _ _ (right_past hf) (by rw [past_len]; decide), sumF_plain _ _ (right_past he) (by rw [past_len]; decide)]
    have := sum_lt (past f) (past e) j rfl h hj
    omega
  unfold le
  omega
/-- each knows what those that it knows know -/
def Closed (row : List Ev) : Prop := ∀ e ∈ row, ∀ f ∈ row, f.n 1 ≤ (past e).getD (f.n 0).toNat 0 → ∀ i, (past f).getD i 0 ≤ (past e).getD i 0
/-- of a row that came one by one: all that a number tells is there, and each dot once -/
structure Came1 (row : List Ev) (v : List Int) : Prop where
  len : v.length = 16
  right : ∀ e ∈ row, rightE e = true
  full : ∀ r : Nat, r < 16 → ∀ c : Int, 1 ≤ c → c ≤ v.getD r 0 → ∃ f ∈ row, f.n 0 = r ∧ f.n 1 = c
  most : ∀ e ∈ row, e.n 1 ≤ v.getD (e.n 0).toNat 0
  low : ∀ r : Nat, r < 16 → 0 ≤ v.getD r 0
  deep : ∀ e ∈ row, ∀ r : Nat, r < 16 → (past e).getD r 0 ≤ v.getD r 0
  once : row.Pairwise fun e f => ¬ (e.n 0 = f.n 0 ∧ e.n 1 = f.n 1)
theorem zeros_get (r : Nat) : zeros.getD r 0 = 0 := by
  unfold zeros
  rw [List.getD_eq_getElem?_getD, List.getElem?_replicate]
  split <;> rfl
theorem Came1.nil : Came1 [] zeros := by
  refine ⟨rfl, fun _ h => (by cases h), fun r hr c h1 h2 => ?_, fun _ h => (by cases h), fun r hr => ?_, fun _ h => (by cases h), List.Pairwise.nil⟩
  · rw [zeros_get] at h2
    omega
  · rw [zeros_get]
    exact Int.le_refl _
theorem below_get {xs ys : List Int} (hy : ys.length = 16) (h : belowF xs ys = true) {i : Nat} (hi : i < 16) : xs.getD i 0 ≤ ys.getD i 0 := (belowF_iff hy).1 h i hi
theorem next_get {v : List Int} {r n : Int} (h : nextF v r n = true) : v.getD r.toNat 0 = n - 1 := by
  unfold nextF at h
  simp only [Bool.and_eq_true, beq_iff_eq] at h
  exact h.2
theorem Came1.snoc {row : List Ev} {v : List Int} (h : Came1 row v) {e : Ev} (h0 : oneF v e = 0) : Came1 (row ++ [e]) (addF v (e.n 0) (e.n 1)) := by
  obtain ⟨hr, hk, hn, hb⟩ := one_zero h0
  have hd := one_dot hr
  obtain ⟨d0, d1, d2, d3⟩ := dotF_true.1 hd
  have hv := next_get hn
  have hg := add_getD h.len hd hk
  refine ⟨by rw [addF_len]; exact h.len, fun x hx => ?_, fun r hr c c1 c2 => ?_, fun x hx => ?_, fun r hr => ?_, fun x hx r hr => ?_, ?_⟩
  · rcases List.mem_append.1 hx with hx | hx
    · exact h.right x hx
    · rw [List.mem_singleton.1 hx]; exact hr
  · rw [hg] at c2
    split at c2
    · rename_i he
      by_cases hc : c = e.n 1
      · exact ⟨e, List.mem_append_right _ (List.mem_singleton.2 rfl), by omega, hc.symm⟩
      · obtain ⟨f, hf, f1, f2⟩ := h.full r hr c c1 (by rw [he]; omega)
        exact ⟨f, List.mem_append_left _ hf, f1, f2⟩
    · obtain ⟨f, hf, f1, f2⟩ := h.full r hr c c1 c2
      exact ⟨f, List.mem_append_left _ hf, f1, f2⟩
  · rw [hg]
    rcases List.mem_append.1 hx with hx | hx
    · have := h.most x hx
      split
      · rename_i he; rw [he] at this; omega
      · exact this
    · rw [List.mem_singleton.1 hx, if_pos rfl]; exact Int.le_refl _
  · rw [hg]
    have := h.low r hr
    split <;> omega
  · rw [hg]
    have hbv : ∀ y : Ev, (past y).getD r 0 ≤ v.getD r 0 → (past y).getD r 0 ≤ if r = (e.n 0).toNat then e.n 1 else v.getD r 0 := fun y hy => by
      split
      · rename_i he; rw [he] at hy ⊢; omega
      · exact hy
    rcases List.mem_append.1 hx with hx | hx
    · exact hbv x (h.deep x hx r hr)
    · rw [List.mem_singleton.1 hx]
      exact hbv e (below_get h.len hb hr)
  · rw [List.pairwise_append]
    refine ⟨h.once, List.pairwise_singleton _ _, fun x hx y hy => ?_⟩
    rw [List.mem_singleton.1 hy]
    rintro ⟨e1, e2⟩
    have := h.most x hx
    rw [e1, e2] at this
    omega
theorem causal_came : ∀ (l : List Ev) (v : List Int) (row : List Ev), Came1 row v → Came1 (row ++ (causalF v l).1) (causalF v l).2
  | [], v, row, h => by rw [causalF, List.append_nil]; exact h
  | e :: l, v, row, h => by
    by_cases h0 : oneF v e = 0
    · rw [causal_take h0]
      have := causal_came l _ _ (h.snoc h0)
      rw [List.append_assoc] at this
      exact this
    · rw [causal_skip h0]
      exact causal_came l v row h
/-- sorted, a closed row's events come one by one -/
theorem sorted_all {row s : List Ev} {known : List Int} (h : Came1 row known) (hc : Closed row) (hp : s.Perm row) (hs : Srt le 0 s.length s) : ∀ (rest done : List Ev) (v : List Int), s = done ++ rest → Came1 done v → allF v rest = (rest, known, 0) := by
  have hmem : ∀ e, e ∈ s ↔ e ∈ row := fun e => hp.mem_iff
  have honce : s.Pairwise fun e f => ¬ (e.n 0 = f.n 0 ∧ e.n 1 = f.n 1) := by
    refine (List.Perm.pairwise_iff ?_ hp).2 h.once
    intro x y hxy hh
    exact hxy ⟨hh.1.symm, hh.2.symm⟩
  intro rest
  induction rest with
  | nil =>
    intro done v hd hv
    rw [List.append_nil] at hd
    subst hd
    have : v = known := by
      refine ext16 hv.len h.len fun i hi => ?_
      have l1 := hv.low i hi
      have l2 := h.low i hi
      refine Int.le_antisymm ?_ ?_
      · by_cases hz : 1 ≤ v.getD i 0
        · obtain ⟨f, hf, f1, f2⟩ := hv.full i hi _ hz (Int.le_refl _)
          have := h.most f ((hmem f).1 hf)
          rw [f1, f2] at this
          simpa using this
        · omega
      · by_cases hz : 1 ≤ known.getD i 0
        · obtain ⟨f, hf, f1, f2⟩ := h.full i hi _ hz (Int.le_refl _)
          have := hv.most f ((hmem f).2 hf)
          rw [f1, f2] at this
          simpa using this
        · omega
    rw [this]
    rfl
  | cons e rest ih =>
    intro done v hd hv
    have hes : e ∈ s := by rw [hd]; exact List.mem_append_right _ (List.mem_cons_self ..)
    have her : e ∈ row := (hmem e).1 hes
    have hr := h.right e her
    have hdt := one_dot hr
    obtain ⟨d0, d1, d2, d3⟩ := dotF_true.1 hdt
    -- what e's past tells stands ahead of e
    have ahead : ∀ f ∈ row, f.n 1 ≤ (past e).getD (f.n 0).toNat 0 → f ∈ done := fun f hf hk => by
      have hfs := (hmem f).2 hf
      rw [hd] at hfs
      rcases List.mem_append.1 hfs with h1 | h1
      · exact h1
      · have hfr := h.right f hf
        have hlt : ¬ le e f := before hr hfr (hc e her f hf hk) (j := (f.n 0).toNat) (by rw [right_own hfr]; omega)
        rcases List.mem_cons.1 h1 with h1 | h1
        · subst h1
          have := right_own hfr
          omega
        · exfalso
          apply hlt
          obtain ⟨k, hk2⟩ := List.getElem?_of_mem h1
          refine hs done.length (done.length + 1 + k) e f (by omega) (by omega) ?_ ?_ ?_
          · have := (List.getElem?_eq_some_iff.1 hk2).1
            rw [hd, List.length_append, List.length_cons]; omega
          · rw [hd, List.getElem?_append_right (Nat.le_refl _), Nat.sub_self]; rfl
          · rw [hd, List.getElem?_append_right (by omega), show done.length + 1 + k - done.length = k + 1 by omega, List.getElem?_cons_succ]; exact hk2
    -- nothing of e's replica ahead of e is later
    have early : ∀ f ∈ done, f.n 0 = e.n 0 → f.n 1 < e.n 1 := fun f hf h1 => by
      have hfs : f ∈ s := by rw [hd]; exact List.mem_append_left _ hf
      have hfr := h.right f ((hmem f).1 hfs)
      have hne : ¬ (f.n 0 = e.n 0 ∧ f.n 1 = e.n 1) := by
        rw [hd, List.pairwise_append] at honce
        exact honce.2.2 f hf e (List.mem_cons_self ..)
      rcases Int.lt_trichotomy (f.n 1) (e.n 1) with h2 | h2 | h2
      · exact h2
      · exact (hne ⟨h1, h2⟩).elim
      · exfalso
        have ho := right_own hfr
        have hb : ¬ le f e := before hfr hr (hc f ((hmem f).1 hfs) e her (by rw [← h1, ho]; omega)) (j := (e.n 0).toNat) (by rw [right_own hr, ← h1, ho]; omega)
        apply hb
        obtain ⟨k, hk2⟩ := List.getElem?_of_mem hf
        have hkl := (List.getElem?_eq_some_iff.1 hk2).1
        refine hs k done.length f e (by omega) hkl (by rw [hd, List.length_append, List.length_cons]; omega) ?_ ?_
        · rw [hd, List.getElem?_append_left hkl]; exact hk2
        · rw [hd, List.getElem?_append_right (Nat.le_refl _), Nat.sub_self]; rfl
    have hi : (e.n 0).toNat < 16 := by omega
    have hge : ∀ i : Nat, i < 16 → (past e).getD i 0 ≤ v.getD i 0 := fun i hi => by
      have l1 := hv.low i hi
      by_cases hz : 1 ≤ (past e).getD i 0
      · obtain ⟨f, hf, f1, f2⟩ := h.full i hi _ hz (h.deep e her i hi)
        have h3 := hv.most f (ahead f hf (by rw [f1, f2]; simp))
        rw [f1, f2] at h3
        simpa using h3
      · omega
    have hvn : v.getD (e.n 0).toNat 0 = e.n 1 - 1 := by
      have h1 := hge _ hi
      rw [right_own hr] at h1
      have l1 := hv.low _ hi
      by_cases hz : 1 ≤ v.getD (e.n 0).toNat 0
      · obtain ⟨f, hf, f1, f2⟩ := hv.full _ hi _ hz (Int.le_refl _)
        have := early f hf (by omega)
        omega
      · omega
    have h0 : oneF v e = 0 := by
      have hk : knowsF v (e.n 0) (e.n 1) = false := by
        cases hq : knowsF v (e.n 0) (e.n 1)
        · rfl
        · have := (knowsF_iff.1 hq).2
          omega
      have hn : nextF v (e.n 0) (e.n 1) = true := by
        unfold nextF
        rw [hdt, hvn]
        simp
      have hb : belowF (past e) v = true := (belowF_iff hv.len).2 fun i hi => hge i hi
      unfold oneF
      rw [if_pos hr, hk, hn, hb]
      simp
    rw [allF_take h0, ih (done ++ [e]) _ (by rw [hd]; simp) (hv.snoc h0)]
theorem sorted_row {l s : List Ev} (hc : Closed (causalF zeros l).1) (hp : s.Perm (causalF zeros l).1) (hs : Srt le 0 s.length s) : allF zeros s = (s, (causalF zeros l).2, 0) ∧ s.length = (causalF zeros l).1.length ∧ rowF s = true := by
  have h := causal_came l zeros [] Came1.nil
  rw [List.nil_append] at h
  have ha := sorted_all h hc hp hs s [] zeros rfl Came1.nil
  refine ⟨ha, hp.length_eq, ?_⟩
  unfold rowF
  rw [ha]
  simp
end Acc
end Go.Proofs.YtgfkopimjmggdaaDoor

/- Rows of the call's own over changes elsewhere, of whatever elements (no condition beyond the sizes). -/
namespace Go.Proofs.YtgfkopimjmggdaaDoor
open Go.ChangeShapes Go.WideShapes Go.RowKit
theorem own_chg {w w' : World} {base : Nat} {e : TypeId} {size : Nat} {v : Value} {n : Nat} {xs : List Value} {S : Nat → Prop} (h : w.ownsRow base e size v n xs) (hc : Chg S w w') (hs : ∀ k, v.ownBlock = some k → ¬ S k) : w'.ownsRow base e size v n xs := by
  refine ⟨h.1, ?_⟩
  rcases h.2 with h0 | ⟨g, cap, cur, rfl, hb, hg, hr⟩
  · exact .inl h0
  · exact .inr ⟨g, cap, cur, rfl, hb, (hc.block g (Array.getElem?_eq_some_iff.1 hg).1 (hs g rfl)).trans hg, hr⟩
theorem own_mono {w : World} {base base' : Nat} {e : TypeId} {size : Nat} {v : Value} {n : Nat} {xs : List Value} (h : w.ownsRow base e size v n xs) (hb : base' ≤ base) : w.ownsRow base' e size v n xs :=
  ⟨h.1, h.2.imp id fun ⟨g, cap, cur, hv, hg, r⟩ => ⟨g, cap, cur, hv, Nat.le_trans hb hg, r⟩⟩
theorem own_lt {w : World} {base : Nat} {e : TypeId} {size : Nat} {v : Value} {n : Nat} {xs : List Value} (h : w.ownsRow base e size v n xs) {k : Nat} (hk : v.ownBlock = some k) : base ≤ k ∧ k < w.heap.size := h.lt k hk
theorem own_ne {w : World} {base : Nat} {e t : TypeId} {size n g : Nat} {v : Value} {xs : List Value} {cs : Array Value} (h : w.ownsRow base e size v n xs) (hg : Blk w g t cs) (hne : e ≠ t) : v.ownBlock ≠ some g := by
  rcases h.2 with ⟨rfl, _⟩ | ⟨g', cap, cur, rfl, _, hh, _⟩
  · simp [Value.ownBlock]
  · intro he
    have : g' = g := by simpa [Value.ownBlock] using he
    subst this
    exact Blk.ne_ (t := e) hh hg hne rfl
end Go.Proofs.YtgfkopimjmggdaaDoor

/- Rows of events (no condition beyond the sizes). -/
namespace Go.Proofs.YtgfkopimjmggdaaDoor
set_option linter.unusedSimpArgs false
set_option linter.unusedVariables false
open Go.ChangeShapes Go.WideShapes Go.RowKit Go.Deep
namespace Evt
def rowE (es : List Ev) : List Value := es.flatMap Ev.cs
theorem rowE_append (l k : List Ev) : rowE (l ++ k) = rowE l ++ rowE k := by simp [rowE]
theorem rowE_length (l : List Ev) : (rowE l).length = l.length * 27 := by
  induction l with
  | nil => rfl
  | cons e l ih =>
    unfold rowE at ih ⊢
    rw [List.flatMap_cons, List.length_append, ih, e.cs_len, List.length_cons]
    omega
theorem rowE_one (l : List Ev) : ∀ u ∈ rowE l, u.oneCell' = true := by
  intro u hu
  obtain ⟨e, _, h⟩ := List.mem_flatMap.1 hu
  exact e.cs_one u h
theorem rowE_get : ∀ {l : List Ev} {i j : Nat} {e : Ev}, l[i]? = some e → j < 27 → (rowE l)[i * 27 + j]? = e.cs[j]?
  | x :: l, 0, j, e, h, hj => by
    injection h with h
    subst h
    unfold rowE
    rw [List.flatMap_cons, List.getElem?_append_left (by rw [x.cs_len]; omega), Nat.zero_mul, Nat.zero_add]
  | x :: l, i + 1, j, e, h, hj => by
    have ih := rowE_get (l := l) (i := i) (j := j) (e := e) (by simpa using h) hj
    unfold rowE at ih ⊢
    rw [List.flatMap_cons, List.getElem?_append_right (by rw [x.cs_len]; omega), x.cs_len, show (i + 1) * 27 + j - 27 = i * 27 + j by omega]
    exact ih
theorem rowE_take (l : List Ev) (k : Nat) : (rowE l).take (k * 27) = rowE (l.take k) := by
  induction l generalizing k with
  | nil => simp [rowE]
  | cons e l ih =>
    cases k with
    | zero => simp [rowE]
    | succ k =>
      unfold rowE at ih ⊢
      rw [List.take_succ_cons, List.flatMap_cons, List.flatMap_cons, List.take_append, e.cs_len, List.take_of_length_le (by rw [e.cs_len]; omega), show (k + 1) * 27 - 27 = k * 27 by omega, ih]
/-- v is a slice of the call's own whose events are l -/
abbrev OwnE (w : World) (base : Nat) (v : Value) (l : List Ev) : Prop := w.ownsRow base 35 27 v l.length (rowE l)
theorem OwnE.form {w : World} {base : Nat} {v : Value} {l : List Ev} (h : OwnE w base v l) : ∃ A c, v = .slice A l.length c := by
  rcases h.2 with ⟨rfl, h0⟩ | ⟨g, cap, cur, rfl, _⟩
  · exact ⟨none, 0, by rw [h0]⟩
  · exact ⟨_, cap, rfl⟩
theorem OwnE.nil (w : World) (base : Nat) : OwnE w base (.slice none 0 0) [] := World.ownsRow_nil _ _ _ _
def zeroE : Array Value := (List.replicate 20 (Value.int .i64 0) ++ List.replicate 4 (Value.string ⟨#[]⟩) ++ [Value.int .i64 0, Value.int .i64 0, Value.string ⟨#[]⟩]).toArray
theorem evInfo : (Tryd.prog.info? 35).map (fun i => (i.zero, i.size, i.bytes)) = some (some (.agg zeroE), 27, 256) := by kernel_rfl
theorem append_ev (w : World) {ops : Array Oper} {rest : List Oper} {o : Oper} {a : Act} {Q : Exit → Act → World → Prop} (hgd : o.guard = none) (s x : Operand)
    (ho : o.op = .call { callee := .builtin .append, args := #[s, x], argTypes := #[24, 24] })
    (base : Nat) (v : Value) (l : List Ev) (hs : a.eval s = v) (hown : OwnE w base v l)
    (F : Nat → Prop) (A : Option Addr) (m c : Nat) (k : List Ev) (hx : a.eval x = .slice A m c) (hr : Reads w F 27 A m (rowE k))
    (hb : l.length + m ≤ 1000000000) (hbase : base ≤ w.heap.size)
    (h : ∀ v' w', OwnE w' base v' (l ++ k) → w.grownBy w' v.ownBlock → (v'.ownBlock = v.ownBlock ∨ v'.ownBlock = some w.heap.size) → wpList Tryd.prog ops Q rest (a.put o.dst v') w') : wpList Tryd.prog ops Q (o :: rest) a w := by
  obtain ⟨i, hi, hz0, hz1, hz2⟩ := info_parts evInfo
  refine wpList_append_any w hgd s x _ ho base _ i _ 27 256 Tryd.underlying24 hi hz0 hz1 hz2 rfl (by omega) v l.length (rowE l) hs hown F A m c (rowE k) hx hr (rowE_one k) (by simp only [maxLen]; omega) (by omega) hbase ?_
  intro v' w' ho' hg hat
  refine h v' w' ?_ hg hat
  have hl := hr.len
  rw [rowE_length] at hl
  unfold OwnE
  rw [rowE_append, List.length_append, show k.length = m by omega]
  exact ho'
theorem wp_append_ev (w : World) {o : Oper} {a : Act} {K : Act → World → Prop} {Q : Exit → Act → World → Prop} (s x : Operand)
    (ho : o.op = .call { callee := .builtin .append, args := #[s, x], argTypes := #[24, 24] })
    (base : Nat) (v : Value) (l : List Ev) (hs : a.eval s = v) (hown : OwnE w base v l)
    (F : Nat → Prop) (A : Option Addr) (m c : Nat) (k : List Ev) (hx : a.eval x = .slice A m c) (hr : Reads w F 27 A m (rowE k))
    (hb : l.length + m ≤ 1000000000) (hbase : base ≤ w.heap.size)
    (h : ∀ v' w', OwnE w' base v' (l ++ k) → w.grownBy w' v.ownBlock → (v'.ownBlock = v.ownBlock ∨ v'.ownBlock = some w.heap.size) → K (a.put o.dst v') w') : o.wp Tryd.prog a w K Q := by
  obtain ⟨i, hi, hz0, hz1, hz2⟩ := info_parts evInfo
  refine wp_append_any w s x _ ho base _ i _ 27 256 Tryd.underlying24 hi hz0 hz1 hz2 rfl (by omega) v l.length (rowE l) hs hown F A m c (rowE k) hx hr (rowE_one k) (by simp only [maxLen]; omega) (by omega) hbase ?_
  intro v' w' ho' hg hat
  refine h v' w' ?_ hg hat
  have hl := hr.len
  rw [rowE_length] at hl
  unfold OwnE
  rw [rowE_append, List.length_append, show k.length = m by omega]
  exact ho'
theorem step_append_ev {w : World} {ops : Array Oper} {o : Oper} {a : Act} {K : Act → World → Prop} {Q : Exit → Act → World → Prop} {E : Prop} (hgd : o.guard = none) (s x : Operand)
    (ho : o.op = .call { callee := .builtin .append, args := #[s, x], argTypes := #[24, 24] })
    (base : Nat) (v : Value) (l : List Ev) (hs : a.eval s = v) (hown : OwnE w base v l)
    (F : Nat → Prop) (A : Option Addr) (m c : Nat) (k : List Ev) (hx : a.eval x = .slice A m c) (hr : Reads w F 27 A m (rowE k))
    (hb : l.length + m ≤ 1000000000) (hbase : base ≤ w.heap.size)
    (h : ∀ v' w', OwnE w' base v' (l ++ k) → w.grownBy w' v.ownBlock → (v'.ownBlock = v.ownBlock ∨ v'.ownBlock = some w.heap.size) → K (a.put o.dst v') w') : if Region.wanted o (yielded ops a.tmps) = true then Oper.wp Tryd.prog o a w K Q else E := by
  have hw : Region.wanted o (yielded ops a.tmps) = true := by simp [Region.wanted, hgd]
  rw [if_pos hw]
  exact wp_append_ev w s x ho base v l hs hown F A m c k hx hr hb hbase h
/-- event i of a row that can be read -/
theorem ld_ev {w : World} {F : Nat → Prop} {A : Option Addr} {n : Nat} {l : List Ev} (h : Reads w F 27 A n (rowE l)) {i : Nat} {e : Ev} (he : l[i]? = some e) : ∃ ad, A = some ad ∧ (LoadRow 35 (ad.add (i * 27))).run Tryd.prog w = .ok e.val w := by
  have hl := h.len
  rw [rowE_length] at hl
  have hi := (List.getElem?_eq_some_iff.1 he).1
  obtain ⟨ad, rfl, _, hc⟩ := h.2 (by omega)
  refine ⟨ad, rfl, ?_⟩
  refine run_LoadRow_at (P := Tryd.prog) (t := 35) Tryd.underlying35 rfl (n := 27) (by kernel_rfl) e.cs_len fun j u hu => ?_
  have hj : j < 27 := by
    have := (List.getElem?_eq_some_iff.1 hu).1
    rwa [e.cs_len] at this
  rw [add_of_add]
  exact hc _ _ (by rw [rowE_get he hj]; exact hu)
/-- v is a slice that can be read, in blocks that meet F, whose events are l -/
def RowE (w : World) (F : Nat → Prop) (v : Value) (l : List Ev) : Prop := ∃ A c, v = .slice A l.length c ∧ Reads w F 27 A l.length (rowE l)
theorem RowE.nil (w : World) (F : Nat → Prop) : RowE w F (.slice none 0 0) [] := ⟨none, 0, rfl, Reads.none_ _⟩
theorem RowE.chg {w w' : World} {F S : Nat → Prop} {v : Value} {l : List Ev} (h : RowE w F v l) (hc : Chg S w w') (hF : ∀ b, F b → ¬ S b) : RowE w' F v l := by
  obtain ⟨A, c, rfl, hr⟩ := h
  exact ⟨A, c, rfl, hr.chg' hc hF (by omega)⟩
theorem RowE.new {w w' : World} {F : Nat → Prop} {v : Value} {l : List Ev} (h : RowE w F v l) (hc : New w w') : RowE w' F v l := h.chg hc fun _ _ => id
theorem RowE.mono {w : World} {F G : Nat → Prop} {v : Value} {l : List Ev} (h : RowE w F v l) (hF : ∀ b, F b → G b) : RowE w G v l := by
  obtain ⟨A, c, rfl, hr⟩ := h
  exact ⟨A, c, rfl, hr.mono hF⟩
theorem RowE.of_own {w : World} {base : Nat} {v : Value} {l : List Ev} (h : OwnE w base v l) : RowE w (fun b => base ≤ b ∧ b < w.heap.size ∧ v.ownBlock = some b) v l := by
  obtain ⟨A, c, hv⟩ := h.form
  subst hv
  exact ⟨A, c, rfl, Reads.of_own h⟩
end Evt
end Go.Proofs.YtgfkopimjmggdaaDoor

/- A row of events in a block of its own: loads, stores, and two that change places (no condition). -/
namespace Go.Proofs.YtgfkopimjmggdaaDoor
set_option linter.unusedSimpArgs false
set_option linter.unusedVariables false
open Go.ChangeShapes Go.WideShapes Go.RowKit Go.Deep
namespace Acc
open Evt Vec Num Stable
attribute [local go_sem ↓] Evt.loadDot Evt.loadVec Evt.loadRow0 Evt.storeRow0 Evt.loadOnly0 Evt.loadOnly1 Evt.loadOnly2
/-- block g holds the row es, and sp behind it -/
def RowAt (w : World) (g : Nat) (es : List Ev) (sp : List Value) : Prop := Blk w g 35 (rowE es ++ sp).toArray
theorem RowAt.chg {w w' : World} {g : Nat} {es : List Ev} {sp : List Value} {S : Nat → Prop} (h : RowAt w g es sp) (hc : Chg S w w') (hg : ¬ S g) : RowAt w' g es sp := Blk.chg h hc hg
theorem RowAt.new {w w' : World} {g : Nat} {es : List Ev} {sp : List Value} (h : RowAt w g es sp) (hc : New w w') : RowAt w' g es sp := Blk.chg h hc id
theorem rowE_cons (e : Ev) (l : List Ev) : rowE (e :: l) = e.cs ++ rowE l := rfl
theorem rowE_set : ∀ {l : List Ev} {i : Nat} (e : Ev), i < l.length → rowE (l.set i e) = (rowE l).take (i * 27) ++ e.cs ++ (rowE l).drop (i * 27 + 27)
  | [], i, _, h => by simp at h
  | x :: l, 0, e, _ => by
    rw [List.set_cons_zero, rowE_cons, rowE_cons, Nat.zero_mul, List.take_zero, List.nil_append, Nat.zero_add, List.drop_append, List.drop_of_length_le (by rw [x.cs_len]; exact Nat.le_refl _), List.nil_append, x.cs_len, Nat.sub_self, List.drop_zero]
  | x :: l, i + 1, e, h => by
    rw [List.set_cons_succ, rowE_cons, rowE_cons, rowE_set e (by simpa using h), show (i + 1) * 27 = 27 + i * 27 by omega, show 27 + i * 27 + 27 = 27 + (i * 27 + 27) by omega]
    have h1 : (x.cs ++ rowE l).take (27 + i * 27) = x.cs ++ (rowE l).take (i * 27) := by
      rw [← x.cs_len, List.take_length_add_append]
    have h2 : (x.cs ++ rowE l).drop (27 + (i * 27 + 27)) = (rowE l).drop (i * 27 + 27) := by
      rw [← List.drop_drop, List.drop_left' x.cs_len]
    rw [h1, h2]
    simp only [List.append_assoc]
theorem RowAt.ld {w : World} {g : Nat} {es : List Ev} {sp : List Value} (h : RowAt w g es sp) {i : Nat} {e : Ev} (he : es[i]? = some e) : (LoadRow 35 ⟨g, i * 27, none⟩).run Tryd.prog w = .ok e.val w := by
  refine run_LoadRow (P := Tryd.prog) (t := 35) Tryd.underlying35 rfl (n := 27) (by kernel_rfl) e.cs_len (Blk.range h (i * 27) e.cs fun j v hj => ?_)
  have hj27 : j < 27 := by
    have := (List.getElem?_eq_some_iff.1 hj).1
    rwa [e.cs_len] at this
  have hr := rowE_get he hj27
  have hl := (List.getElem?_eq_some_iff.1 he).1
  rw [List.getElem?_append_left (by rw [rowE_length]; omega), hr]
  exact hj
theorem RowAt.st {w : World} {g : Nat} {es : List Ev} {sp : List Value} (h : RowAt w g es sp) {i : Nat} (hi : i < es.length) (e : Ev) :
    (StoreRow 35 ⟨g, i * 27, none⟩ e.val).run Tryd.prog w = .ok () (w.setCells g (i * 27) e.cs) ∧ RowAt (w.setCells g (i * 27) e.cs) g (es.set i e) sp := by
  have hlen : i * 27 + e.cs.length ≤ (rowE es ++ sp).length := by rw [e.cs_len, List.length_append, rowE_length]; omega
  refine ⟨run_StoreRow (P := Tryd.prog) (t := 35) (n := 27) (by kernel_rfl) e.cs_len e.cs_one h (by rw [e.cs_len] at hlen; exact hlen), ?_⟩
  have := Blk.setCells e.cs (i * 27) _ _ h hlen
  unfold RowAt
  rw [rowE_set e hi]
  have hl := rowE_length es
  rw [List.take_append_of_le_length (by omega), e.cs_len, List.drop_append_of_le_length (by omega), ← List.append_assoc] at this
  exact this
theorem RowAt.lt {w : World} {g : Nat} {es : List Ev} {sp : List Value} (h : RowAt w g es sp) : g < w.heap.size := Blk.lt h
/-- two change places: the loads, the stores, and what there is then -/
theorem RowAt.swap {w : World} {g : Nat} {es : List Ev} {sp : List Value} (h : RowAt w g es sp) {i j : Nat} {x y : Ev} (hi : es[i]? = some x) (hj : es[j]? = some y) :
    ∃ W V, (StoreRow 35 ⟨g, i * 27, none⟩ y.val).run Tryd.prog w = .ok () W ∧ (StoreRow 35 ⟨g, j * 27, none⟩ x.val).run Tryd.prog W = .ok () V ∧ RowAt V g (Stable.swap es i j) sp ∧ Chg (fun k => k = g) w V ∧ g < W.heap.size ∧ w.heap.size ≤ W.heap.size := by
  have hil := (List.getElem?_eq_some_iff.1 hi).1
  have hjl := (List.getElem?_eq_some_iff.1 hj).1
  obtain ⟨s1, r1⟩ := h.st hil y
  obtain ⟨s2, r2⟩ := r1.st (i := j) (by rw [List.length_set]; exact hjl) x
  have c1 := (Chg.refl (fun k => k = g) w).setCells (g := g) y.cs (i * 27) _ (fun _ => rfl)
  have c2 := (Chg.refl (fun k => k = g) (w.setCells g (i * 27) y.cs)).setCells (g := g) x.cs (j * 27) _ (fun _ => rfl)
  refine ⟨_, _, s1, s2, ?_, c1.trans c2 fun _ _ => id, r1.lt, c1.size⟩
  rw [Stable.swap_eq hi hj]
  exact r2
end Acc
end Go.Proofs.YtgfkopimjmggdaaDoor

/- slices.swapRangeCmpFunc at events: places change with places (no condition beyond the sizes). -/
namespace Go.Proofs.YtgfkopimjmggdaaDoor
set_option linter.unusedSimpArgs false
set_option linter.unusedVariables false
open Go.ChangeShapes Go.WideShapes Go.RowKit Go.Deep
namespace Acc
open Evt Vec Num Stable
attribute [local go_sem ↓] Evt.loadDot Evt.loadVec Evt.loadRow0 Evt.storeRow0 Evt.loadOnly0 Evt.loadOnly1 Evt.loadOnly2
theorem RowAt.drew {w : World} {g : Nat} {es : List Ev} {sp : List Value} (h : RowAt w g es sp) : RowAt w.drew g es sp := Blk.drew h
set_option maxHeartbeats 4000000 in
set_option maxRecDepth 20000 in
theorem swapR_ (w : World) (g n c a b k : Nat) (es : List Ev) (sp : List Value) (K : Value) (hr : RowAt w g es sp) (hn : es.length = n) (hab : a + k ≤ b) (hb : b + k ≤ n) (hbig : n ≤ 1000000) :
    Calls Tryd.prog 59 #[.slice (some ⟨g, 0, none⟩) n c, .int .i64 (a : Int), .int .i64 (b : Int), .int .i64 (k : Int), K] w fun x w' => x = .returned (.tuple #[]) ∧ ∃ es', RowAt w' g es' sp ∧ SwapR a b k es es' ∧ Mix a (b + k) es es' ∧ Chg (fun q => q = g) w w' := by
  have HR := Lib.hid (And.intro hr hn)
  clear hr hn
  go_enter Tryd.func59, Tryd.ntmps59
  go_wp2_with fail
  go_loopw [10] (fun iv wr => ∃ (i : Nat) (es' : List Ev), i ≤ k ∧ iv = .int .i64 i ∧ RowAt wr g es' sp ∧ SwapR a b i es es' ∧ Mix a (b + k) es es' ∧ Chg (fun q => q = g) w wr) (fun iv _ => k - (intOf iv).toNat)
  case atStart => exact ⟨0, es, by omega, by go_num, HR.out.1, SwapR.zero _ _ _, Mix.refl _ _ _, Chg.refl _ _⟩
  case round =>
    obtain ⟨i, es', hi, rfl, hrow, hsw, hmx, hch⟩ := hrel
    by_cases hlt : i < k
    · have hli : (i : Int) < k := by omega
      have hlen : es'.length = n := by rw [hmx.len, HR.out.2]
      obtain ⟨p, hp⟩ : ∃ p, a + i = p := ⟨_, rfl⟩
      obtain ⟨q, hq⟩ : ∃ p, b + i = p := ⟨_, rfl⟩
      have hwp : IntKind.i64.wrap ((a : Int) + (i : Int)) = (p : Int) := by rw [← Int.natCast_add, hp]; exact IntWalk.i64_in _ (by omega)
      have hwq : IntKind.i64.wrap ((b : Int) + (i : Int)) = (q : Int) := by rw [← Int.natCast_add, hq]; exact IntWalk.i64_in _ (by omega)
      have hpn : (p : Int) < n := by omega
      have hqn : (q : Int) < n := by omega
      have hw : IntKind.i64.wrap ((i : Int) + 1) = (i : Int) + 1 := IntWalk.i64_in _ (by omega)
      obtain ⟨x, hx⟩ : ∃ x, es'[p]? = some x := ⟨_, List.getElem?_eq_getElem (by omega)⟩
      obtain ⟨y, hy⟩ : ∃ x, es'[q]? = some x := ⟨_, List.getElem?_eq_getElem (by omega)⟩
      have lp := hrow.drew.ld hx
      have lq := hrow.drew.ld hy
      have gl := hrow.drew.lt
      obtain ⟨W, V, s1, s2, hrV, hcV, gW, hsz⟩ := hrow.drew.swap hx hy
      have HE := Lib.hid (show RowAt V g (Stable.swap es' p q) sp ∧ SwapR a b (i + 1) es (Stable.swap es' p q) ∧ Mix a (b + k) es (Stable.swap es' p q) ∧ Chg (fun q => q = g) w V from
        ⟨hrV, by rw [← hp, ← hq]; exact hsw.succ (by omega) (by omega), hmx.trans (swap_mix (by omega) (by omega) (by omega) (by omega) (by omega) (by omega)), hch.drew.trans hcV fun _ _ => id⟩)
      clear hrow hsw hmx hch hlen hx hy hrV hcV
      go_wp2_with fail
      go_region
      go_wp2_with fail
      go_roundw
      case rel => exact ⟨i + 1, _, by omega, by go_num, HE.out⟩
      case measure => simp [intOf]; omega
    · have hgi : ¬ (i : Int) < k := by omega
      have hik : i = k := by omega
      have HE := Lib.hid (show ∃ es', RowAt wr g es' sp ∧ SwapR a b k es es' ∧ Mix a (b + k) es es' ∧ Chg (fun q => q = g) w wr from ⟨es', hrow, by rw [← hik]; exact hsw, hmx, hch⟩)
      clear hrow hsw hmx hch
      go_wp2_with fail
      go_end0
      exact ⟨rfl, HE.out⟩
end Acc
end Go.Proofs.YtgfkopimjmggdaaDoor

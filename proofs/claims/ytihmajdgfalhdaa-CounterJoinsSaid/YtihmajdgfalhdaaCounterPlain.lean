/-
  A counter as two rows of 16 numbers: what adding, joining and comparing come to, and what they keep (no condition beyond the rows' lengths and bounds).
-/
import Derived.Test.YtihmajdgfalhdaaRows
namespace Go.Proofs.Ytihmajdgfalhdaa
namespace Counter

def addE (x n : Int) : Int := if n > 1099511627776 - x then 6 else 0
def addX (x n : Int) : Int := if n > 1099511627776 - x then x else x + n
/-- a counter: what was added, and taken away -/
structure Cnt where
  m : List Int
  l : List Int
def Okr (l : List Int) : Prop := l.length = 16 ∧ ∀ x ∈ l, 0 ≤ x ∧ x ≤ 1099511627776
def Cnt.ok (c : Cnt) : Prop := Okr c.m ∧ Okr c.l
def zero : Cnt := ⟨List.replicate 16 0, List.replicate 16 0⟩
def addF (c : Cnt) (r n : Int) : Int × Cnt :=
  if r < 0 ∨ 16 ≤ r then (4, c)
  else if n < -1099511627776 then (6, c)
  else if n < 0 then (addE (c.l.getD r.toNat 0) (-n), ⟨c.m, c.l.set r.toNat (addX (c.l.getD r.toNat 0) (-n))⟩)
  else (addE (c.m.getD r.toNat 0) n, ⟨c.m.set r.toNat (addX (c.m.getD r.toNat 0) n), c.l⟩)
def joinR (a b : List Int) : List Int := List.zipWith max a b
def join (c d : Cnt) : Cnt := ⟨joinR c.m d.m, joinR c.l d.l⟩
def belowR (a b : List Int) : Prop := ∀ i, i < 16 → a.getD i 0 ≤ b.getD i 0
def below (c d : Cnt) : Prop := belowR c.m d.m ∧ belowR c.l d.l
def val (c : Cnt) : Int := c.m.sum - c.l.sum

theorem okr_zero : Okr (List.replicate 16 0) := by
  refine ⟨by simp, fun x hx => ?_⟩
  have := List.eq_of_mem_replicate hx
  omega
theorem ok_zero : zero.ok := ⟨okr_zero, okr_zero⟩
theorem Okr.at {l : List Int} (h : Okr l) (i : Nat) : 0 ≤ l.getD i 0 ∧ l.getD i 0 ≤ 1099511627776 := by
  by_cases hi : i < l.length
  · rw [List.getD_eq_getElem?_getD, List.getElem?_eq_getElem hi]
    exact h.2 _ (List.getElem_mem hi)
  · rw [List.getD_eq_getElem?_getD, List.getElem?_eq_none (by omega)]
    simp
theorem addX_ok {x n : Int} (hx : 0 ≤ x ∧ x ≤ 1099511627776) (hn : 0 ≤ n) : 0 ≤ addX x n ∧ addX x n ≤ 1099511627776 ∧ x ≤ addX x n := by
  unfold addX
  split <;> omega
theorem Okr.set {l : List Int} (h : Okr l) (i : Nat) {x : Int} (hx : 0 ≤ x ∧ x ≤ 1099511627776) : Okr (l.set i x) := by
  refine ⟨by rw [List.length_set]; exact h.1, fun y hy => ?_⟩
  rcases List.mem_or_eq_of_mem_set hy with h' | rfl
  · exact h.2 y h'
  · exact hx
theorem addF_ok {c : Cnt} (h : c.ok) (r n : Int) : (addF c r n).2.ok := by
  unfold addF
  split
  · exact h
  · split
    · exact h
    · split
      · have := addX_ok (h.2.at r.toNat) (show 0 ≤ -n by omega)
        exact ⟨h.1, h.2.set _ ⟨this.1, this.2.1⟩⟩
      · have := addX_ok (h.1.at r.toNat) (show 0 ≤ n by omega)
        exact ⟨h.1.set _ ⟨this.1, this.2.1⟩, h.2⟩
theorem getD_joinR {a b : List Int} (ha : a.length = 16) (hb : b.length = 16) (i : Nat) : (joinR a b).getD i 0 = max (a.getD i 0) (b.getD i 0) := by
  unfold joinR
  by_cases hi : i < 16
  · simp [List.getD_eq_getElem?_getD, List.getElem?_zipWith, List.getElem?_eq_getElem (show i < a.length by omega), List.getElem?_eq_getElem (show i < b.length by omega)]
  · have : ¬ i < a.length := by omega
    simp [List.getD_eq_getElem?_getD, List.getElem?_zipWith, List.getElem?_eq_none (show a.length ≤ i by omega), List.getElem?_eq_none (show b.length ≤ i by omega)]
theorem Okr.ext {a b : List Int} (ha : a.length = 16) (hb : b.length = 16) (h : ∀ i, i < 16 → a.getD i 0 = b.getD i 0) : a = b := by
  apply List.ext_getElem (by omega)
  intro i h1 h2
  have := h i (by omega)
  simpa [List.getD_eq_getElem?_getD, List.getElem?_eq_getElem h1, List.getElem?_eq_getElem h2] using this
theorem joinR_len {a b : List Int} (ha : a.length = 16) (hb : b.length = 16) : (joinR a b).length = 16 := by simp [joinR, ha, hb]
theorem Okr.of_getD {l : List Int} (hl : l.length = 16) (h : ∀ i, i < 16 → 0 ≤ l.getD i 0 ∧ l.getD i 0 ≤ 1099511627776) : Okr l := by
  refine ⟨hl, fun x hx => ?_⟩
  obtain ⟨i, hi, rfl⟩ := List.mem_iff_getElem.1 hx
  have := h i (by omega)
  simpa [List.getD_eq_getElem?_getD, List.getElem?_eq_getElem hi] using this
theorem Okr.join {a b : List Int} (ha : Okr a) (hb : Okr b) : Okr (joinR a b) := by
  refine Okr.of_getD (joinR_len ha.1 hb.1) fun i _ => ?_
  rw [getD_joinR ha.1 hb.1]
  have := ha.at i
  have := hb.at i
  omega
theorem join_ok {c d : Cnt} (hc : c.ok) (hd : d.ok) : (join c d).ok := ⟨hc.1.join hd.1, hc.2.join hd.2⟩
theorem sum_bound {l : List Int} (h : ∀ x ∈ l, 0 ≤ x ∧ x ≤ 1099511627776) : 0 ≤ l.sum ∧ l.sum ≤ 1099511627776 * l.length := by
  induction l with
  | nil => simp
  | cons x l ih =>
    have h1 := h x (List.mem_cons_self ..)
    have h2 := ih fun y hy => h y (List.mem_cons_of_mem _ hy)
    simp only [List.sum_cons, List.length_cons]
    omega
theorem Okr.sum {l : List Int} (h : Okr l) : 0 ≤ l.sum ∧ l.sum ≤ 17592186044416 := by
  have := sum_bound h.2
  rw [h.1] at this
  omega
theorem Okr.take_sum {l : List Int} (h : Okr l) (k : Nat) : 0 ≤ (l.take k).sum ∧ (l.take k).sum ≤ 17592186044416 := by
  have := sum_bound (l := l.take k) fun x hx => h.2 x (List.mem_of_mem_take hx)
  have hl : (l.take k).length ≤ 16 := by rw [List.length_take]; have := h.1; omega
  omega
/-- the cells xs, of which those from o on, k of them, are joined with ys -/
def JL (xs ys : List Int) (o k : Nat) : List Int := (List.range xs.length).map fun j => if o ≤ j ∧ j < o + k then max (xs.getD j 0) (ys.getD (j - o) 0) else xs.getD j 0
theorem JL_length (xs ys : List Int) (o k : Nat) : (JL xs ys o k).length = xs.length := by simp [JL]
theorem JL_get (xs ys : List Int) (o k j : Nat) (h : j < xs.length) : (JL xs ys o k)[j]? = some (if o ≤ j ∧ j < o + k then max (xs.getD j 0) (ys.getD (j - o) 0) else xs.getD j 0) := by
  simp [JL, h]
theorem JL_zero (xs ys : List Int) (o : Nat) : JL xs ys o 0 = xs := by
  apply List.ext_getElem?
  intro j
  by_cases h : j < xs.length
  · rw [JL_get _ _ _ _ _ h, if_neg (by omega)]
    simp [List.getD_eq_getElem?_getD, List.getElem?_eq_getElem h]
  · rw [List.getElem?_eq_none (by rw [JL_length]; omega), List.getElem?_eq_none (by omega)]
theorem JL_set (xs ys : List Int) (o k : Nat) (h : o + k < xs.length) : (JL xs ys o k).set (o + k) (max (xs.getD (o + k) 0) (ys.getD k 0)) = JL xs ys o (k + 1) := by
  apply List.ext_getElem?
  intro j
  by_cases hj : j < xs.length
  · rw [List.getElem?_set, JL_length, JL_get _ _ _ _ _ hj, JL_get _ _ _ _ _ hj]
    by_cases e : o + k = j
    · subst e
      rw [if_pos rfl, if_pos h, if_pos (by omega), show o + k - o = k by omega]
    · rw [if_neg e]
      have : (o ≤ j ∧ j < o + (k + 1)) ↔ (o ≤ j ∧ j < o + k) := by omega
      simp only [this]
  · rw [List.getElem?_eq_none (by rw [List.length_set, JL_length]; omega), List.getElem?_eq_none (by rw [JL_length]; omega)]
theorem getD_append_left {a b : List Int} {j : Nat} (h : j < a.length) : (a ++ b).getD j 0 = a.getD j 0 := by
  simp [List.getD_eq_getElem?_getD, List.getElem?_append_left h]
theorem getD_append_right {a b : List Int} {j : Nat} (h : a.length ≤ j) : (a ++ b).getD j 0 = b.getD (j - a.length) 0 := by
  simp [List.getD_eq_getElem?_getD, List.getElem?_append_right h]
theorem get_getD {a : List Int} {j : Nat} (h : j < a.length) : a[j]? = some (a.getD j 0) := by
  simp [List.getD_eq_getElem?_getD, List.getElem?_eq_getElem h]
theorem JL_m {m l ys : List Int} (hm : m.length = 16) (hl : l.length = 16) (hy : ys.length = 16) : JL (m ++ l) ys 0 16 = joinR m ys ++ l := by
  have hj := joinR_len hm hy
  apply List.ext_getElem?
  intro j
  by_cases h : j < 32
  · rw [JL_get _ _ _ _ _ (by rw [List.length_append]; omega)]
    by_cases h1 : j < 16
    · rw [if_pos (by omega), List.getElem?_append_left (by omega), get_getD (by omega), getD_joinR hm hy, getD_append_left (by omega), Nat.sub_zero]
    · rw [if_neg (by omega), List.getElem?_append_right (by omega), get_getD (by omega), getD_append_right (by omega), hj, hm]
  · rw [List.getElem?_eq_none (by rw [JL_length, List.length_append]; omega), List.getElem?_eq_none (by rw [List.length_append]; omega)]
theorem JL_l {m l ys : List Int} (hm : m.length = 16) (hl : l.length = 16) (hy : ys.length = 16) : JL (m ++ l) ys 16 16 = m ++ joinR l ys := by
  have hj := joinR_len hl hy
  apply List.ext_getElem?
  intro j
  by_cases h : j < 32
  · rw [JL_get _ _ _ _ _ (by rw [List.length_append]; omega)]
    by_cases h1 : j < 16
    · rw [if_neg (by omega), List.getElem?_append_left (by omega), get_getD (by omega), getD_append_left (by omega)]
    · rw [if_pos (by omega), List.getElem?_append_right (by omega), get_getD (by omega), getD_append_right (by omega), hm, getD_joinR hl hy]
  · rw [List.getElem?_eq_none (by rw [JL_length, List.length_append]; omega), List.getElem?_eq_none (by rw [List.length_append]; omega)]
def belowF (c d : Cnt) : Bool := (List.range 16).all fun i => decide (c.m.getD i 0 ≤ d.m.getD i 0) && decide (c.l.getD i 0 ≤ d.l.getD i 0)
theorem belowF_iff (c d : Cnt) : belowF c d = true ↔ below c d := by
  unfold belowF
  rw [List.all_eq_true]
  constructor
  · intro h
    refine ⟨fun i hi => ?_, fun i hi => ?_⟩
    · have := h i (List.mem_range.2 hi)
      rw [Bool.and_eq_true, decide_eq_true_eq, decide_eq_true_eq] at this
      exact this.1
    · have := h i (List.mem_range.2 hi)
      rw [Bool.and_eq_true, decide_eq_true_eq, decide_eq_true_eq] at this
      exact this.2
  · intro h i hi
    have hi := List.mem_range.1 hi
    rw [Bool.and_eq_true, decide_eq_true_eq, decide_eq_true_eq]
    exact ⟨h.1 i hi, h.2 i hi⟩
theorem belowF_false {c d : Cnt} (h : ¬ below c d) : belowF c d = false := by
  cases hb : belowF c d with
  | false => rfl
  | true => exact absurd ((belowF_iff c d).1 hb) h
theorem set_same {l : List Int} (i : Nat) : l.set i (l.getD i 0) = l := by
  apply List.ext_getElem?
  intro j
  rw [List.getElem?_set]
  by_cases e : i = j
  · subst e
    rw [if_pos rfl]
    by_cases h : i < l.length
    · rw [if_pos h, get_getD h]
    · rw [if_neg h, List.getElem?_eq_none (by omega)]
  · rw [if_neg e]
theorem addF_neg {c : Cnt} {r n : Int} (h : r < 0 ∨ 16 ≤ r) : addF c r n = (4, c) := by unfold addF; rw [if_pos h]
theorem addF_low {c : Cnt} {i : Nat} {n : Int} (hi : i < 16) (h : n < -1099511627776) : addF c i n = (6, c) := by unfold addF; rw [if_neg (by omega), if_pos h]
theorem addF_mfull {c : Cnt} {i : Nat} {n : Int} (hi : i < 16) (h : 0 ≤ n) (hf : 1099511627776 - c.m.getD i 0 < n) : addF c i n = (6, c) := by
  unfold addF
  rw [if_neg (by omega), if_neg (by omega), if_neg (by omega), Int.toNat_natCast, show addE (c.m.getD i 0) n = 6 by unfold addE; rw [if_pos hf], show addX (c.m.getD i 0) n = c.m.getD i 0 by unfold addX; rw [if_pos hf], set_same]
theorem addF_m {c : Cnt} {i : Nat} {n : Int} (hi : i < 16) (h : 0 ≤ n) (hf : ¬ 1099511627776 - c.m.getD i 0 < n) : addF c i n = (0, ⟨c.m.set i (c.m.getD i 0 + n), c.l⟩) := by
  unfold addF
  rw [if_neg (by omega), if_neg (by omega), if_neg (by omega), Int.toNat_natCast, show addE (c.m.getD i 0) n = 0 by unfold addE; rw [if_neg hf], show addX (c.m.getD i 0) n = c.m.getD i 0 + n by unfold addX; rw [if_neg hf]]
theorem addF_lfull {c : Cnt} {i : Nat} {n : Int} (hi : i < 16) (h : n < 0) (h' : ¬ n < -1099511627776) (hf : 1099511627776 - c.l.getD i 0 < -n) : addF c i n = (6, c) := by
  unfold addF
  rw [if_neg (by omega), if_neg h', if_pos h, Int.toNat_natCast, show addE (c.l.getD i 0) (-n) = 6 by unfold addE; rw [if_pos hf], show addX (c.l.getD i 0) (-n) = c.l.getD i 0 by unfold addX; rw [if_pos hf], set_same]
theorem addF_l {c : Cnt} {i : Nat} {n : Int} (hi : i < 16) (h : n < 0) (h' : ¬ n < -1099511627776) (hf : ¬ 1099511627776 - c.l.getD i 0 < -n) : addF c i n = (0, ⟨c.m, c.l.set i (c.l.getD i 0 - n)⟩) := by
  unfold addF
  rw [if_neg (by omega), if_neg h', if_pos h, Int.toNat_natCast, show addE (c.l.getD i 0) (-n) = 0 by unfold addE; rw [if_neg hf], show addX (c.l.getD i 0) (-n) = c.l.getD i 0 - n by unfold addX; rw [if_neg hf]; omega]
/-- k of the acts xs (pairs, flat), one behind the other -/
def runAdds (t : Cnt) (xs : List Int) : Nat → Cnt
  | 0 => t
  | k + 1 => (addF (runAdds t xs k) (xs.getD (k * 2) 0) (xs.getD (k * 2 + 1) 0)).2
theorem runAdds_ok {t : Cnt} (h : t.ok) (xs : List Int) : ∀ k, (runAdds t xs k).ok
  | 0 => h
  | k + 1 => addF_ok (runAdds_ok h xs k) _ _
theorem below_refl (c : Cnt) : below c c := ⟨fun _ _ => Int.le_refl _, fun _ _ => Int.le_refl _⟩
theorem below_trans {a b c : Cnt} (h : below a b) (k : below b c) : below a c := ⟨fun i hi => Int.le_trans (h.1 i hi) (k.1 i hi), fun i hi => Int.le_trans (h.2 i hi) (k.2 i hi)⟩
theorem getD_set {l : List Int} {i j : Nat} {x : Int} (hi : i < l.length) : (l.set i x).getD j 0 = if i = j then x else l.getD j 0 := by
  rw [List.getD_eq_getElem?_getD, List.getElem?_set]
  by_cases e : i = j
  · subst e
    simp [hi]
  · rw [if_neg e, if_neg e, List.getD_eq_getElem?_getD]
theorem belowR_set {l : List Int} {i : Nat} {x : Int} (hi : i < l.length) (hx : l.getD i 0 ≤ x) : belowR l (l.set i x) := by
  intro j _
  rw [getD_set hi]
  split
  · rename_i e; subst e; exact hx
  · exact Int.le_refl _
theorem belowR_refl (l : List Int) : belowR l l := fun _ _ => Int.le_refl _
theorem addF_below {c : Cnt} (h : c.ok) (r n : Int) : below c (addF c r n).2 := by
  unfold addF
  split
  · exact below_refl c
  · rename_i hr
    split
    · exact below_refl c
    · split
      · have := addX_ok (h.2.at r.toNat) (show 0 ≤ -n by omega)
        exact ⟨belowR_refl _, belowR_set (by rw [h.2.1]; omega) this.2.2⟩
      · have := addX_ok (h.1.at r.toNat) (show 0 ≤ n by omega)
        exact ⟨belowR_set (by rw [h.1.1]; omega) this.2.2, belowR_refl _⟩
theorem runAdds_below {t : Cnt} (h : t.ok) (xs : List Int) : ∀ k, below t (runAdds t xs k)
  | 0 => below_refl t
  | k + 1 => below_trans (runAdds_below h xs k) (addF_below (runAdds_ok h xs k) _ _)
theorem joinR_below {a b : List Int} (ha : a.length = 16) (hb : b.length = 16) (h : belowR a b) : joinR a b = b ∧ joinR b a = b := by
  refine ⟨Okr.ext (joinR_len ha hb) hb fun i hi => ?_, Okr.ext (joinR_len hb ha) hb fun i hi => ?_⟩
  · rw [getD_joinR ha hb]
    have := h i hi
    omega
  · rw [getD_joinR hb ha]
    have := h i hi
    omega
theorem join_below {c d : Cnt} (hc : c.ok) (hd : d.ok) (h : below c d) : join c d = d ∧ join d c = d := by
  have h1 := joinR_below hc.1.1 hd.1.1 h.1
  have h2 := joinR_below hc.2.1 hd.2.1 h.2
  unfold join
  rw [h1.1, h2.1, h1.2, h2.2]
  exact ⟨rfl, rfl⟩
end Counter
end Go.Proofs.Ytihmajdgfalhdaa

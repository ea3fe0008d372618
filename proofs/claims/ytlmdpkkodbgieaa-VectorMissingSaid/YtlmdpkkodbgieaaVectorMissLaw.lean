/-
  Of vectors that may be: the dots that one vector misses, one after the other: each is the next one, and known by the other; with all of them one knows as much (plain lists; no program).
-/
import Derived.Test.YtlmdpkkodbgieaaVectorMissPlain
namespace Go.Proofs.Ytlmdpkkodbgieaa
namespace Vec

/-- vectors that may be -/
def fit (xs : List Int) : Prop := ∀ i, i < 16 → 0 ≤ xs.getD i 0 ∧ xs.getD i 0 ≤ 1048576
theorem lo_fit {xs : List Int} (h : fit xs) {i : Nat} (hi : i < 16) : lo xs i = xs.getD i 0 := by
  have := h i hi
  unfold lo clamp
  omega
/-- what is known after k replicas whole and m dots of the next one -/
def stateAt (xs ys : List Int) (k m : Nat) : List Int := (List.range 16).map fun j => if j < k then max (xs.getD j 0) (ys.getD j 0) else if j = k then xs.getD j 0 + m else xs.getD j 0
theorem stateAt_length (xs ys : List Int) (k m : Nat) : (stateAt xs ys k m).length = 16 := by simp [stateAt]
theorem stateAt_getD (xs ys : List Int) (k m j : Nat) (h : j < 16) : (stateAt xs ys k m).getD j 0 = if j < k then max (xs.getD j 0) (ys.getD j 0) else if j = k then xs.getD j 0 + m else xs.getD j 0 := by
  rw [List.getD_eq_getElem?_getD]
  simp [stateAt, h]
theorem stateAt_zero {xs : List Int} (ys : List Int) (hx : xs.length = 16) : stateAt xs ys 0 0 = xs := by
  refine ext16 (stateAt_length ..) hx fun i hi => ?_
  rw [stateAt_getD _ _ _ _ _ hi, if_neg (by omega)]
  split <;> simp
theorem stateAt_next {xs ys : List Int} (h1 : fit xs) (h2 : fit ys) {k : Nat} (hk : k < 16) : stateAt xs ys k (gap xs ys k) = stateAt xs ys (k + 1) 0 := by
  refine ext16 (stateAt_length ..) (stateAt_length ..) fun i hi => ?_
  rw [stateAt_getD _ _ _ _ _ hi, stateAt_getD _ _ _ _ _ hi]
  have hg : gap xs ys k = (ys.getD k 0 - xs.getD k 0).toNat := by rw [gap, lo_fit h1 hk, lo_fit h2 hk]
  rcases Nat.lt_trichotomy i k with h | h | h
  · rw [if_pos h, if_pos (by omega)]
  · subst h
    rw [if_neg (by omega), if_pos rfl, if_pos (by omega), hg]
    omega
  · rw [if_neg (by omega), if_neg (by omega), if_neg (by omega)]
    split <;> simp
theorem stateAt_all (xs ys : List Int) : stateAt xs ys 16 0 = join xs ys := by
  refine ext16 (stateAt_length ..) (join_length ..) fun i hi => ?_
  rw [stateAt_getD _ _ _ _ _ hi, if_pos hi, join_getD _ _ _ hi]
/-- the dot that comes after part k m -/
def dotAt (xs : List Int) (k m : Nat) : Int × Int := ((k : Int), lo xs k + 1 + (m : Int))
theorem dot_facts {xs ys : List Int} (h1 : fit xs) (h2 : fit ys) {k m : Nat} (hk : k < 16) (hm : m < gap xs ys k) :
    nextF (stateAt xs ys k m) (dotAt xs k m).1 (dotAt xs k m).2 = true ∧ knowsF ys (dotAt xs k m).1 (dotAt xs k m).2 = true ∧ addF (stateAt xs ys k m) (dotAt xs k m).1 (dotAt xs k m).2 = stateAt xs ys k (m + 1) := by
  have hg : gap xs ys k = (ys.getD k 0 - xs.getD k 0).toNat := by rw [gap, lo_fit h1 hk, lo_fit h2 hk]
  have a1 := h1 k hk
  have a2 := h2 k hk
  have hs : (stateAt xs ys k m).getD k 0 = xs.getD k 0 + m := by rw [stateAt_getD _ _ _ _ _ hk, if_neg (by omega), if_pos rfl]
  have hd : dotF (k : Int) (xs.getD k 0 + 1 + (m : Int)) = true := by
    simp only [dotF, Bool.and_eq_true, decide_eq_true_eq]
    omega
  simp only [dotAt, lo_fit h1 hk]
  have hkn : knowsF (stateAt xs ys k m) (k : Int) (xs.getD k 0 + 1 + (m : Int)) = false := by
    simp only [knowsF, hd, Bool.true_and, Int.toNat_natCast, hs, decide_eq_false_iff_not]
    omega
  refine ⟨?_, ?_, ?_⟩
  · simp only [nextF, hd, Bool.true_and, Int.toNat_natCast, hs, beq_iff_eq]
    omega
  · simp only [knowsF, hd, Bool.true_and, Int.toNat_natCast, decide_eq_true_eq]
    omega
  · simp only [addF, hd, hkn, Bool.not_false, Bool.and_self, if_true, Int.toNat_natCast]
    refine ext16 (by rw [List.length_set, stateAt_length]) (stateAt_length ..) fun i hi => ?_
    rw [stateAt_getD _ _ _ _ _ hi]
    by_cases e : i = k
    · subst e
      rw [if_neg (by omega), if_pos rfl, List.getD_eq_getElem?_getD, List.getElem?_set_self (by rw [stateAt_length]; exact hi)]
      simp
      omega
    · rw [List.getD_eq_getElem?_getD, List.getElem?_set_ne (by omega), ← List.getD_eq_getElem?_getD, stateAt_getD _ _ _ _ _ hi]
      simp only [e, if_false]
theorem part_low {xs ys : List Int} {k m : Nat} : ∀ d ∈ part xs ys k m, d.1 ≤ (k : Int) := by
  intro d hd
  rcases List.mem_append.1 hd with h | h
  · obtain ⟨i, hi, h⟩ := List.mem_flatMap.1 h
    obtain ⟨t, _, rfl⟩ := List.mem_map.1 h
    have := List.mem_range.1 hi
    simp only
    omega
  · obtain ⟨t, _, rfl⟩ := List.mem_map.1 h
    simp
/-- from any place one comes to a dot, or to the end -/
theorem settle (xs ys : List Int) : ∀ (f k : Nat), k + f = 16 → ∀ m, m ≤ (if k < 16 then gap xs ys k else 0) →
    (∃ k' m', k' < 16 ∧ m' < gap xs ys k' ∧ part xs ys k' m' = part xs ys k m ∧ (fit xs → fit ys → stateAt xs ys k' m' = stateAt xs ys k m)) ∨ (part xs ys 16 0 = part xs ys k m ∧ (fit xs → fit ys → stateAt xs ys 16 0 = stateAt xs ys k m))
  | 0, k, hk, m, hm => by
    obtain rfl : k = 16 := by omega
    rw [if_neg (by omega)] at hm
    obtain rfl : m = 0 := by omega
    exact .inr ⟨rfl, fun _ _ => rfl⟩
  | f + 1, k, hk, m, hm => by
    rw [if_pos (by omega)] at hm
    by_cases e : m < gap xs ys k
    · exact .inl ⟨k, m, by omega, e, rfl, fun _ _ => rfl⟩
    · obtain rfl : m = gap xs ys k := by omega
      rw [part_next]
      rcases settle xs ys f (k + 1) (by omega) 0 (Nat.zero_le _) with ⟨k', m', a, b, c, d⟩ | ⟨c, d⟩
      · exact .inl ⟨k', m', a, b, c, fun h1 h2 => (d h1 h2).trans (stateAt_next h1 h2 (by omega)).symm⟩
      · exact .inr ⟨c, fun h1 h2 => (d h1 h2).trans (stateAt_next h1 h2 (by omega)).symm⟩
/-- a place among the dots: k replicas whole, m dots of the next one, t dots in all -/
def Place (xs ys : List Int) (t k m : Nat) : Prop := k ≤ 16 ∧ m ≤ (if k < 16 then gap xs ys k else 0) ∧ part xs ys k m = (missF xs ys).take t
theorem part_in (xs ys : List Int) {k m : Nat} (hk : k < 16) (hm : m < gap xs ys k) : ∃ r, upTo xs ys 16 = part xs ys k m ++ dotAt xs k m :: r := by
  obtain ⟨r, hr⟩ := part_prefix xs ys hk (show m + 1 ≤ gap xs ys k by omega)
  exact ⟨r, by rw [← hr, part_more, dotAt]; simp⟩
theorem place_round {xs ys : List Int} (h1 : fit xs) (h2 : fit ys) {t k m : Nat} (h : Place xs ys t k m) (ht : t < (missF xs ys).length) :
    ∃ k' m', k' < 16 ∧ m' < gap xs ys k' ∧ (missF xs ys)[t]? = some (dotAt xs k' m') ∧ Place xs ys (t + 1) k' (m' + 1) ∧ stateAt xs ys k' m' = stateAt xs ys k m ∧
      ∀ j d, j < t → (missF xs ys)[j]? = some d → d.1 ≤ (k' : Int) := by
  obtain ⟨hk, hm, hp⟩ := h
  have hlen : (part xs ys k m).length = t := by rw [hp, List.length_take]; omega
  have hmf : (missF xs ys).length ≤ (upTo xs ys 16).length := by rw [missF, List.length_take]; omega
  rcases settle xs ys (16 - k) k (by omega) m hm with ⟨k', m', a, b, c, d⟩ | ⟨c, _⟩
  · obtain ⟨r, hr⟩ := part_in xs ys a b
    have hl' : (part xs ys k' m').length = t := by rw [c, hlen]
    have hget : (missF xs ys)[t]? = some (dotAt xs k' m') := by
      have h4 : t < 4096 := by rw [missF, List.length_take] at ht; omega
      rw [missF, List.getElem?_take, if_pos h4, hr, List.getElem?_append_right (by omega), hl']
      simp
    refine ⟨k', m', a, b, hget, ⟨by omega, by rw [if_pos a]; omega, ?_⟩, d h1 h2, fun j e hj he => ?_⟩
    · rw [List.take_add_one, hget, part_more, c, hp]
      rfl
    · refine part_low (xs := xs) (ys := ys) (m := m') e ?_
      rw [c, hp]
      have : ((missF xs ys).take t)[j]? = some e := by rw [List.getElem?_take, if_pos hj, he]
      exact List.mem_of_getElem? this
  · exfalso
    have : part xs ys 16 0 = upTo xs ys 16 := by simp [part, rowD_zero]
    rw [this] at c
    have := congrArg List.length c
    omega
theorem place_start {xs ys : List Int} : Place xs ys 0 0 0 := ⟨by omega, Nat.zero_le _, by simp [part_zero]⟩
theorem place_end {xs ys : List Int} (h1 : fit xs) (h2 : fit ys) {k m : Nat} (h : Place xs ys (missF xs ys).length k m) (hn : (upTo xs ys 16).length ≤ 4096) : stateAt xs ys k m = join xs ys := by
  obtain ⟨hk, hm, hp⟩ := h
  rw [List.take_length] at hp
  have hmf : missF xs ys = upTo xs ys 16 := List.take_of_length_le hn
  rcases settle xs ys (16 - k) k (by omega) m hm with ⟨k', m', a, b, c, d⟩ | ⟨_, d⟩
  · exfalso
    obtain ⟨r, hr⟩ := part_in xs ys a b
    rw [c, hp, hmf] at hr
    have := congrArg List.length hr
    simp at this
  · rw [← d h1 h2, stateAt_all]
theorem rowD_length (i : Nat) (l : Int) (m : Nat) : (rowD i l m).length = m := by simp [rowD]
theorem upTo_length_succ (xs ys : List Int) (k : Nat) : (upTo xs ys (k + 1)).length = (upTo xs ys k).length + gap xs ys k := by
  rw [upTo_succ, List.length_append, rowD_length]
theorem gap_le (xs ys : List Int) (k : Nat) : gap xs ys k ≤ 1048576 := by
  have := lo_range xs k
  have := lo_range ys k
  unfold gap
  omega
theorem upTo_length_le (xs ys : List Int) : ∀ k, (upTo xs ys k).length ≤ k * 1048576
  | 0 => by simp [upTo_zero]
  | k + 1 => by
    have := upTo_length_le xs ys k
    have := gap_le xs ys k
    rw [upTo_length_succ]
    omega
theorem missF_length (xs ys : List Int) : (missF xs ys).length = min (upTo xs ys 16).length 4096 := by rw [missF, List.length_take]; omega
theorem gap_of {xs ys : List Int} {k : Nat} (a : 0 ≤ xs.getD k 0 ∧ xs.getD k 0 ≤ 1048576) (b : 0 ≤ ys.getD k 0 ∧ ys.getD k 0 ≤ 1048576) : (gap xs ys k : Int) = max (ys.getD k 0 - xs.getD k 0) 0 := by
  unfold gap lo clamp
  omega
end Vec
end Go.Proofs.Ytlmdpkkodbgieaa

/-
  What each replica added alone, as counters: added apart and together alike, and joined to the whole (no condition beyond the rows' bounds).
-/
import Derived.Test.YtihmajdgfalhdaaCounterPlain
namespace Go.Proofs.Ytihmajdgfalhdaa
namespace Counter
theorem rep_getD (i : Nat) : (List.replicate 16 (0 : Int)).getD i 0 = 0 := by
  rw [List.getD_eq_getElem?_getD, List.getElem?_replicate]
  split <;> rfl
theorem rep_len : (List.replicate 16 (0 : Int)).length = 16 := by simp
def onlyR (l : List Int) (j : Nat) : List Int := (List.replicate 16 (0 : Int)).set j (l.getD j 0)
def only (c : Cnt) (j : Nat) : Cnt := ⟨onlyR c.m j, onlyR c.l j⟩
theorem onlyR_getD (l : List Int) {j : Nat} (hj : j < 16) (i : Nat) : (onlyR l j).getD i 0 = if j = i then l.getD j 0 else 0 := by
  unfold onlyR
  rw [getD_set (by rw [rep_len]; exact hj), rep_getD]
theorem onlyR_len (l : List Int) (j : Nat) : (onlyR l j).length = 16 := by simp [onlyR]
theorem onlyR_ok {l : List Int} (h : Okr l) (j : Nat) : Okr (onlyR l j) := okr_zero.set _ (h.at j)
theorem only_ok {c : Cnt} (h : c.ok) (j : Nat) : (only c j).ok := ⟨onlyR_ok h.1 j, onlyR_ok h.2 j⟩
theorem onlyR_zero (j : Nat) : onlyR (List.replicate 16 0) j = List.replicate 16 0 := by
  unfold onlyR
  exact set_same j
theorem only_zero (j : Nat) : only zero j = zero := by
  unfold only zero
  rw [onlyR_zero]
theorem onlyR_set {l : List Int} {r : Nat} (hr : r < 16) (hl : l.length = 16) (x : Int) : (onlyR l r).set r x = onlyR (l.set r x) r := by
  unfold onlyR
  rw [getD_set (by omega), if_pos rfl, List.set_set]
theorem onlyR_set_ne {l : List Int} {r j : Nat} (hl : l.length = 16) (hr : r < 16) (h : j ≠ r) (x : Int) : onlyR (l.set r x) j = onlyR l j := by
  unfold onlyR
  rw [getD_set (by omega), if_neg (fun e => h e.symm)]
theorem only_add {c : Cnt} (hc : c.ok) {r : Nat} (hr : r < 16) (n : Int) : addF (only c r) r n = ((addF c r n).1, only (addF c r n).2 r) := by
  have hm : (only c r).m.getD r 0 = c.m.getD r 0 := by show (onlyR c.m r).getD r 0 = _; rw [onlyR_getD _ hr, if_pos rfl]
  have hl : (only c r).l.getD r 0 = c.l.getD r 0 := by show (onlyR c.l r).getD r 0 = _; rw [onlyR_getD _ hr, if_pos rfl]
  have sm : ∀ x, (only c r).m.set r x = onlyR (c.m.set r x) r := fun x => onlyR_set hr hc.1.1 x
  have sl : ∀ x, (only c r).l.set r x = onlyR (c.l.set r x) r := fun x => onlyR_set hr hc.2.1 x
  have hr' : ¬ ((r : Int) < 0 ∨ 16 ≤ (r : Int)) := by omega
  simp only [addF, if_neg hr', Int.toNat_natCast, hm, hl, sm, sl]
  by_cases h1 : n < -1099511627776
  · simp only [if_pos h1]
  · by_cases h2 : n < 0
    · simp only [if_neg h1, if_pos h2]
      rfl
    · simp only [if_neg h1, if_neg h2]
      rfl
theorem only_add_ne {c : Cnt} (hc : c.ok) {r j : Nat} (hr : r < 16) (h : j ≠ r) (n : Int) : only (addF c r n).2 j = only c j := by
  have hr' : ¬ ((r : Int) < 0 ∨ 16 ≤ (r : Int)) := by omega
  simp only [addF, if_neg hr', Int.toNat_natCast]
  by_cases h1 : n < -1099511627776
  · simp only [if_pos h1]
  · by_cases h2 : n < 0
    · simp only [if_neg h1, if_pos h2]
      unfold only
      rw [onlyR_set_ne hc.2.1 hr h]
    · simp only [if_neg h1, if_neg h2]
      unfold only
      rw [onlyR_set_ne hc.1.1 hr h]
theorem onlyR_below {l : List Int} (h : Okr l) {j : Nat} (hj : j < 16) : belowR (onlyR l j) l := by
  intro i _
  rw [onlyR_getD _ hj]
  split
  · rename_i e; subst e; exact Int.le_refl _
  · exact (h.at i).1
theorem only_below {c : Cnt} (h : c.ok) {j : Nat} (hj : j < 16) : below (only c j) c := ⟨onlyR_below h.1 hj, onlyR_below h.2 hj⟩
theorem joinR_least {a b c : List Int} (ha : a.length = 16) (hb : b.length = 16) (h : belowR a c) (k : belowR b c) : belowR (joinR a b) c := by
  intro i hi
  rw [getD_joinR ha hb]
  have := h i hi
  have := k i hi
  omega
theorem join_least {a b c : Cnt} (ha : a.ok) (hb : b.ok) (h : below a c) (k : below b c) : below (join a b) c := ⟨joinR_least ha.1.1 hb.1.1 h.1 k.1, joinR_least ha.2.1 hb.2.1 h.2 k.2⟩
theorem joinR_above {a b : List Int} (ha : a.length = 16) (hb : b.length = 16) : belowR a (joinR a b) ∧ belowR b (joinR a b) := by
  refine ⟨fun i hi => ?_, fun i hi => ?_⟩ <;> (rw [getD_joinR ha hb]; omega)
theorem join_above {a b : Cnt} (ha : a.ok) (hb : b.ok) : below a (join a b) ∧ below b (join a b) :=
  ⟨⟨(joinR_above ha.1.1 hb.1.1).1, (joinR_above ha.2.1 hb.2.1).1⟩, ⟨(joinR_above ha.1.1 hb.1.1).2, (joinR_above ha.2.1 hb.2.1).2⟩⟩
theorem eq_of_belowR {a b : List Int} (ha : a.length = 16) (hb : b.length = 16) (h : belowR a b) (k : belowR b a) : a = b :=
  Okr.ext ha hb fun i hi => by
    have := h i hi
    have := k i hi
    omega
theorem below_of_all {a c : Cnt} (h : ∀ j, j < 16 → below (only c j) a) : below c a := by
  refine ⟨fun i hi => ?_, fun i hi => ?_⟩
  · have := (h i hi).1 i hi
    have e : (only c i).m.getD i 0 = c.m.getD i 0 := by show (onlyR c.m i).getD i 0 = _; rw [onlyR_getD _ hi, if_pos rfl]
    rw [e] at this
    exact this
  · have := (h i hi).2 i hi
    have e : (only c i).l.getD i 0 = c.l.getD i 0 := by show (onlyR c.l i).getD i 0 = _; rw [onlyR_getD _ hi, if_pos rfl]
    rw [e] at this
    exact this
theorem eq_of_all {a c : Cnt} (ha : a.ok) (hc : c.ok) (h : below a c) (k : ∀ j, j < 16 → below (only c j) a) : a = c := by
  have hk := below_of_all k
  cases a
  cases c
  congr 1
  · exact eq_of_belowR ha.1.1 hc.1.1 h.1 hk.1
  · exact eq_of_belowR ha.2.1 hc.2.1 h.2 hk.2
theorem join_self {a : Cnt} (ha : a.ok) : join a a = a := (join_below ha ha (below_refl a)).1
end Counter
end Go.Proofs.Ytihmajdgfalhdaa

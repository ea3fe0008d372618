/-
  What a put changes, in plain words (no condition).
-/
import Derived.Test.YtgnlbekagdffoaaDoorLawFix
namespace Go.Proofs.YtgnlbekagdffoaaDoor
set_option linter.unusedSimpArgs false
set_option linter.unusedVariables false
namespace Lat
theorem put_yes {M : St} {c : Cl} (h : counts M c = true) : put M c c.name = some c := by unfold put; rw [if_pos h]; exact if_pos rfl
theorem put_no {M : St} {c : Cl} (h : counts M c = false) : put M c = M := by unfold put; rw [h]; rfl
theorem put_more {M : St} (c : Cl) {x : ByteArray} (h : (M x).isSome = true) : (put M c x).isSome = true := by
  unfold put
  split
  · unfold upd
    split
    · rfl
    · exact h
  · exact h
theorem counts_again (M : St) (c : Cl) : counts (put M c) c = false := by
  cases h : counts M c with
  | false => rw [put_no h]; exact h
  | true =>
    unfold counts
    rw [put_yes h]
    simp [Cl.over, cmpL_self]
theorem later_put {M : St} {c b d : Cl} (h : M c.name = some b) (hd : put M c c.name = some d) : decide (0 < orL [cmpI b.t d.t, cmpI b.r d.r]) = false := by
  cases hc : counts M c with
  | false =>
    rw [put_no hc, h] at hd
    injection hd with hd
    subst hd
    rw [or_or]
    simp [cmpI]
  | true =>
    rw [put_yes hc] at hd
    injection hd with hd
    subst hd
    have ho : 0 < cmpL c.key b.key := by
      unfold counts at hc
      rw [h] at hc
      simp only [Bool.and_eq_true, Cl.over, decide_eq_true_eq] at hc
      exact hc.2
    rw [← key_cmp, or_or, or_or] at ho
    rw [decide_eq_false_iff_not, or_or]
    unfold cmpI at *
    intro h3
    by_cases h1 : b.t < c.t
    · simp [h1] at h3
    · by_cases h2 : c.t < b.t
      · simp [h2] at ho
      · simp [h1, h2] at h3 ho
        by_cases h4 : b.r < c.r
        · simp [h4] at h3
        · by_cases h5 : c.r < b.r
          · simp [h5] at ho
          · simp [h4, h5] at h3
end Lat
end Go.Proofs.YtgnlbekagdffoaaDoor

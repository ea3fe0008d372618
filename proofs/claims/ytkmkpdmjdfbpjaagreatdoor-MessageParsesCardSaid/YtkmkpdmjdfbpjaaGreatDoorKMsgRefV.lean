/-
  The document's reference reads a payload as the program does, in plain words (no condition).
-/
import Derived.Test.YtkmkpdmjdfbpjaaGreatDoorJ17
namespace Go.Proofs.YtkmkpdmjdfbpjaaGreatDoor
set_option linter.unusedSimpArgs false
set_option linter.unusedVariables false
namespace Msg
open Num Evt
/-- events read one by one till something failed -/
def readVs : Nat → Rd → List Ev × Rd
  | 0, s => ([], s)
  | k + 1, s => if s.bad = true then ([], s) else ((nextP s).1 :: (readVs k (nextP s).2).1, (readVs k (nextP s).2).2)
theorem next_bad {s : Rd} (h : s.bad = true) : (nextP s).2 = s := readAll_bad _ h
theorem readVs_bad (k : Nat) {s : Rd} (h : s.bad = true) : readVs k s = ([], s) := by
  cases k with
  | zero => rfl
  | succ k => rw [readVs, if_pos h]
theorem readVs_some : ∀ (k : Nat) (s : Rd) {es : List Ev} {s' : Rd}, readEs k s = some (es, s') → readVs k s = (es, s')
  | 0, s, es, s', h => by
    simp only [readEs, Option.some.injEq, Prod.mk.injEq] at h
    rw [readVs, h.1, h.2]
  | k + 1, s, es, s', h => by
    rw [readEs] at h
    split at h
    · cases h
    · rename_i hn
      obtain ⟨p, hp, he⟩ := Option.map_eq_some_iff.1 h
      have ih := readVs_some k (nextP s).2 (es := p.1) (s' := p.2) hp
      have hb : ¬ s.bad = true := fun hb => hn (.inl (by rw [next_bad hb]; exact hb))
      rw [readVs, if_neg hb, ih]
      exact he
theorem readVs_none : ∀ (k : Nat) (s : Rd), readEs k s = none → (readVs k s).2.bad = true ∨ ∃ e ∈ (readVs k s).1, rightE e = false
  | 0, s, h => by simp [readEs] at h
  | k + 1, s, h => by
    rw [readEs] at h
    by_cases hb : s.bad = true
    · rw [readVs, if_pos hb]
      exact .inl hb
    rw [readVs, if_neg hb]
    split at h
    · rename_i hn
      rcases hn with hn | hn
      · refine .inl ?_
        rw [readVs_bad k hn]
        exact hn
      · exact .inr ⟨_, List.mem_cons_self .., by simpa using hn⟩
    · have h2 : readEs k (nextP s).2 = none := by simpa using h
      rcases readVs_none k _ h2 with h3 | ⟨e, he, h3⟩
      · exact .inl h3
      · exact .inr ⟨e, List.mem_cons_of_mem _ he, h3⟩
/-- the message of a payload as the reference reads it -/
def payR (p : List UInt8) : Option Ms :=
  if ((readVs (numP 200 (readAll shapeM ⟨p, false⟩).2).1.toNat (numP 200 (readAll shapeM ⟨p, false⟩).2).2).2.bad = false ∧
      (readVs (numP 200 (readAll shapeM ⟨p, false⟩).2).1.toNat (numP 200 (readAll shapeM ⟨p, false⟩).2).2).2.l = []) ∧
      rightM (msOf (readAll shapeM ⟨p, false⟩).1 (readVs (numP 200 (readAll shapeM ⟨p, false⟩).2).1.toNat (numP 200 (readAll shapeM ⟨p, false⟩).2).2).1) = true
  then some (msOf (readAll shapeM ⟨p, false⟩).1 (readVs (numP 200 (readAll shapeM ⟨p, false⟩).2).1.toNat (numP 200 (readAll shapeM ⟨p, false⟩).2).2).1) else none
theorem odd_bad {m : Ms} {e : Ev} (he : e ∈ m.es) (h : rightE e = false) : ¬ rightM m = true := by
  intro hr
  unfold rightM at hr
  simp only [Bool.and_eq_true, Bool.not_eq_true'] at hr
  have h4 := hr.2
  rw [List.any_eq_false] at h4
  have := h4 e he
  unfold oddB at this
  rw [h] at this
  simp at this
theorem payM_R (p : List UInt8) : payM p = payR p := by
  unfold payM payR readM
  generalize (numP 200 (readAll shapeM ⟨p, false⟩).2) = q
  generalize (readAll shapeM ⟨p, false⟩).1 = ys
  cases hr : readEs q.1.toNat q.2 with
  | none =>
    dsimp only
    rw [if_neg]
    · rfl
    · rintro ⟨⟨h1, _⟩, h3⟩
      rcases readVs_none _ _ hr with h | ⟨e, he, h⟩
      · rw [h1] at h; cases h
      · exact odd_bad (m := msOf ys (readVs q.1.toNat q.2).1) he h h3
  | some x =>
    obtain ⟨es, s'⟩ := x
    rw [readVs_some _ _ hr]
    dsimp only
    obtain ⟨sl, sb⟩ := s'
    cases sb
    · cases sl with
      | nil =>
        simp only [Bool.not_false, List.length_nil, decide_true, Bool.and_self, if_true, Option.bind_some, true_and, and_self]
      | cons c l => simp
    · simp
theorem next_small (s : Rd) (hs : s.l.length ≤ 1000) : Small (nextP s).1 := by
  refine ⟨fun i => ?_⟩
  have h := readAll_fit Evt.shape s
  show (Evt.bytes ((readAll Evt.shape s).1.getD i (.n 0))).size ≤ 1000
  rw [List.getD_eq_getElem?_getD]
  cases hq : (readAll Evt.shape s).1[i]? with
  | none => exact Nat.zero_le _
  | some y => exact Nat.le_trans (h y (List.mem_of_getElem? hq)).1 hs
theorem next_len (s : Rd) : (nextP s).2.l.length ≤ s.l.length := readAll_shrink Evt.shape s
end Msg
end Go.Proofs.YtkmkpdmjdfbpjaaGreatDoor

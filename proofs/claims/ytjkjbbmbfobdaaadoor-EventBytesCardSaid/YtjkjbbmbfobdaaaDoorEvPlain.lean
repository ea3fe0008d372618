/-
  Of an event that may be: its bytes are read as it was; of a part of them, or with more behind, nothing (no condition).
-/
import Derived.Test.YtjkjbbmbfobdaaaDoorParse
namespace Go.Proofs.YtjkjbbmbfobdaaaDoor
set_option linter.unusedSimpArgs false
set_option linter.unusedVariables false
open Go.ChangeShapes Go.WideShapes Go.RowKit Go.Deep
namespace Evt
open Val (elemB rightB nameB nameB_len plainB)
open Vec Num
theorem name_len {l : List UInt8} (h : nameB l = true) : l.length ≤ 16 := (nameB_len h).2
theorem elem_len {k : Int} {a b c d : List UInt8} (h : elemB k a b c d = true) : (1 ≤ k ∧ k ≤ 5) ∧ a.length ≤ 16 ∧ b.length ≤ 16 ∧ c.length ≤ 16 ∧ d.length ≤ 16 := by
  unfold elemB at h
  split at h
  · simp only [Bool.and_eq_true, decide_eq_true_eq] at h
    obtain ⟨⟨⟨h1, rfl⟩, rfl⟩, rfl⟩ := h
    exact ⟨by omega, name_len h1, by simp, by simp, by simp⟩
  · split at h
    · simp only [Bool.and_eq_true, decide_eq_true_eq] at h
      obtain ⟨⟨⟨h1, rfl⟩, rfl⟩, h2⟩ := h
      exact ⟨by omega, name_len h1, by simp, by simp, name_len h2⟩
    · split at h
      · simp only [Bool.and_eq_true, decide_eq_true_eq] at h
        obtain ⟨⟨⟨h1, h2⟩, h3⟩, rfl⟩ := h
        exact ⟨by omega, name_len h1, name_len h2, name_len h3, by simp⟩
      · split at h
        · simp only [Bool.and_eq_true] at h
          obtain ⟨⟨⟨h1, h2⟩, h3⟩, h4⟩ := h
          exact ⟨by omega, name_len h1, name_len h2, name_len h3, name_len h4⟩
        · cases h
theorem none_len {k n : Int} {t : List UInt8} (h : noneB k n t = true) : k = 0 ∧ n = 0 ∧ t = [] := by
  unfold noneB at h
  simp only [Bool.and_eq_true, decide_eq_true_eq] at h
  exact ⟨h.1.1, h.1.2, h.2⟩
theorem scalar_len {k n : Int} {t : List UInt8} (h : scalarB k n t = true) : (1 ≤ k ∧ k ≤ 3) ∧ (-1099511627776 ≤ n ∧ n ≤ 1099511627776) ∧ t.length ≤ 64 := by
  unfold scalarB at h
  simp only [Bool.and_eq_true, decide_eq_true_eq] at h
  obtain ⟨⟨h1, h3⟩, h⟩ := h
  unfold rightB at h
  rw [if_neg (by omega)] at h
  split at h
  · simp only [Bool.and_eq_true, Bool.or_eq_true, decide_eq_true_eq] at h
    obtain ⟨h4, rfl⟩ := h
    exact ⟨⟨h1, h3⟩, by omega, by simp⟩
  · split at h
    · simp only [Bool.and_eq_true, decide_eq_true_eq] at h
      obtain ⟨h4, rfl⟩ := h
      exact ⟨⟨h1, h3⟩, by omega, by simp⟩
    · split at h
      · unfold plainB at h
        simp only [Bool.and_eq_true, decide_eq_true_eq] at h
        exact ⟨⟨h1, h3⟩, by omega, h.2.2⟩
      · omega
theorem change_len {op k : Int} {a b c d : List UInt8} {vk vn : Int} {vt : List UInt8} (h : changeB op k a b c d vk vn vt = true) :
    (1 ≤ op ∧ op ≤ 4) ∧ ((1 ≤ k ∧ k ≤ 5) ∧ a.length ≤ 16 ∧ b.length ≤ 16 ∧ c.length ≤ 16 ∧ d.length ≤ 16) ∧ (0 ≤ vk ∧ vk ≤ 3) ∧ (-1099511627776 ≤ vn ∧ vn ≤ 1099511627776) ∧ vt.length ≤ 64 := by
  unfold changeB at h
  rw [Bool.and_eq_true] at h
  obtain ⟨h1, h⟩ := h
  have h1 := elem_len h1
  split at h
  · rw [Bool.and_eq_true] at h
    obtain ⟨rfl, rfl, rfl⟩ := none_len h.1
    exact ⟨by omega, h1, by decide, by decide, by simp⟩
  · split at h
    · rw [Bool.and_eq_true] at h
      have h2 := scalar_len h.2
      exact ⟨by omega, h1, by omega, h2.2.1, h2.2.2⟩
    · split at h
      · rw [Bool.and_eq_true] at h
        obtain ⟨rfl, rfl, rfl⟩ := none_len h.1
        exact ⟨by omega, h1, by decide, by decide, by simp⟩
      · cases h
theorem right_ok {e : Ev} (h : rightE e = true) : ∀ x ∈ e.items, x.ok := by
  unfold rightE at h
  simp only [Bool.and_eq_true] at h
  obtain ⟨⟨h1, h2⟩, h3⟩ := h
  unfold chB at h3
  obtain ⟨ho, ⟨hk, ha, hb, hc, hd⟩, hvk, hvn, hvt⟩ := change_len h3
  unfold nextF at h1
  rw [Bool.and_eq_true] at h1
  have hdot := dotF_true.1 h1.1
  have hp : ∀ i, 2 ≤ i → i < 18 → 0 ≤ e.n i ∧ e.n i ≤ 1048576 := fun i hi hj => by
    unfold rightF at h2
    rw [List.all_eq_true] at h2
    have := h2 (e.n i) (by
      rcases (show i = 2 ∨ i = 3 ∨ i = 4 ∨ i = 5 ∨ i = 6 ∨ i = 7 ∨ i = 8 ∨ i = 9 ∨ i = 10 ∨ i = 11 ∨ i = 12 ∨ i = 13 ∨ i = 14 ∨ i = 15 ∨ i = 16 ∨ i = 17 by omega) with rfl | rfl | rfl | rfl | rfl | rfl | rfl | rfl | rfl | rfl | rfl | rfl | rfl | rfl | rfl | rfl <;> simp [past])
    simpa using this
  intro x hx
  simp only [Ev.items, List.mem_cons, List.not_mem_nil, or_false] at hx
  rcases hx with rfl | rfl | rfl | rfl | rfl | rfl | rfl | rfl | rfl | rfl | rfl | rfl | rfl | rfl | rfl | rfl | rfl | rfl | rfl | rfl | rfl | rfl | rfl | rfl | rfl | rfl | rfl
  · exact ⟨by omega, by omega⟩
  · exact ⟨by omega, by omega⟩
  · have := hp 2 (by decide) (by decide); exact ⟨by omega, by omega⟩
  · have := hp 3 (by decide) (by decide); exact ⟨by omega, by omega⟩
  · have := hp 4 (by decide) (by decide); exact ⟨by omega, by omega⟩
  · have := hp 5 (by decide) (by decide); exact ⟨by omega, by omega⟩
  · have := hp 6 (by decide) (by decide); exact ⟨by omega, by omega⟩
  · have := hp 7 (by decide) (by decide); exact ⟨by omega, by omega⟩
  · have := hp 8 (by decide) (by decide); exact ⟨by omega, by omega⟩
  · have := hp 9 (by decide) (by decide); exact ⟨by omega, by omega⟩
  · have := hp 10 (by decide) (by decide); exact ⟨by omega, by omega⟩
  · have := hp 11 (by decide) (by decide); exact ⟨by omega, by omega⟩
  · have := hp 12 (by decide) (by decide); exact ⟨by omega, by omega⟩
  · have := hp 13 (by decide) (by decide); exact ⟨by omega, by omega⟩
  · have := hp 14 (by decide) (by decide); exact ⟨by omega, by omega⟩
  · have := hp 15 (by decide) (by decide); exact ⟨by omega, by omega⟩
  · have := hp 16 (by decide) (by decide); exact ⟨by omega, by omega⟩
  · have := hp 17 (by decide) (by decide); exact ⟨by omega, by omega⟩
  · exact ⟨by omega, by omega⟩
  · exact ⟨by omega, by omega⟩
  · exact Nat.le_trans ha (by decide)
  · exact Nat.le_trans hb (by decide)
  · exact Nat.le_trans hc (by decide)
  · exact Nat.le_trans hd (by decide)
  · exact ⟨by omega, by omega⟩
  · exact ⟨by omega, by omega⟩
  · exact Nat.le_trans hvt (by decide)
theorem evOf_cs (e : Ev) : (evOf e.items).cs = e.cs := cs_evOf e.kinds
theorem right_evOf (e : Ev) : rightE (evOf e.items) = rightE e := rfl
theorem next_bytes {e : Ev} (h : rightE e = true) (rest : List UInt8) : nextP ⟨e.bytes ++ rest, false⟩ = (evOf e.items, ⟨rest, false⟩) := by
  unfold nextP
  rw [← readAll_shape e]
  have := readAll_put (right_ok h) rest
  unfold Ev.bytes
  rw [this]
theorem parse_bytes {e : Ev} (h : rightE e = true) : parseP e.bytes = (evOf e.items, 0) := by
  have := next_bytes h []
  rw [List.append_nil] at this
  unfold parseP
  rw [this]
  dsimp only
  rw [if_pos (by simp), right_evOf, if_pos h]
theorem parse_more {e : Ev} (h : rightE e = true) {q : List UInt8} (hq : q ≠ []) : parseP (e.bytes ++ q) = (zero, 2) := by
  unfold parseP
  rw [next_bytes h q]
  dsimp only
  rw [if_neg]
  simpa using hq
theorem parse_cut {e : Ev} (h : rightE e = true) {p q : List UInt8} (hp : e.bytes = p ++ q) (hq : q ≠ []) : parseP p = (zero, 2) := by
  have := readAll_cut (right_ok h) hp hq
  rw [readAll_shape e] at this
  unfold parseP nextP
  dsimp only
  rw [this, if_neg (by simp)]
theorem bytes_pos (e : Ev) (h : rightE e = true) : 0 < e.bytes.length := by
  have h0 := right_ok h (.n (e.n 0)) (by simp [Ev.items])
  have h0 : 0 ≤ e.n 0 ∧ e.n 0 ≤ 4611686018427387903 := h0
  have hp : 0 < (putB (e.n 0)).length := by
    unfold putB
    rw [if_pos h0]
    exact digits_pos _
  have := put_pre e 1
  have e1 : putAll (e.items.take 1) = putAll (e.items.take 0) ++ putB (e.n 0) := put_one (e := e) (i := 0) rfl
  rw [e1] at this
  simp only [List.take_zero, putAll, List.flatMap_nil, List.nil_append] at this
  omega
def tl : It → Nat
  | .n _ => 0
  | .z _ => 0
  | .t v => v.length
theorem putAll_len : ∀ xs : List It, (putAll xs).length ≤ 9 * xs.length + (xs.map tl).sum
  | [] => by simp [putAll]
  | x :: xs => by
    have ih := putAll_len xs
    have hx : x.put.length ≤ 9 + tl x := by
      cases x with
      | n v => exact putB_len v
      | z v => exact signedB_len v
      | t v => have := textB_len v; simp only [It.put, tl]; omega
    have e : putAll (x :: xs) = x.put ++ putAll xs := by simp [putAll]
    rw [e, List.length_append, List.length_cons, List.map_cons, List.sum_cons]
    omega
theorem items_len (e : Ev) : e.bytes.length ≤ 243 + ((e.t 20).size + (e.t 21).size + (e.t 22).size + (e.t 23).size + (e.t 26).size) := by
  have h := putAll_len e.items
  have hs : ∀ x : ByteArray, x.data.toList.length = x.size := fun x => Array.length_toList
  have h2 : (e.items.map tl).sum = (e.t 20).size + ((e.t 21).size + ((e.t 22).size + ((e.t 23).size + (e.t 26).size))) := by
    simp only [Ev.items, List.map_cons, List.map_nil, tl, List.sum_cons, List.sum_nil, hs]
    omega
  have h3 : e.items.length = 27 := rfl
  unfold Ev.bytes
  omega
end Evt
end Go.Proofs.YtjkjbbmbfobdaaaDoor

/-
  Arrays of whole numbers as arguments, by value (no condition beyond what can be read).
-/
import Derived.Test.YtjkjbbmbfobdaaaDoorMem
import Derived.Deep.Fields
import Derived.ChangeSame
namespace Go.Proofs.YtjkjbbmbfobdaaaDoor
open Go.ChangeShapes Go.WideShapes Go.RowKit Go.Deep

section
variable {H : Type} {enc : TypeId × Value → H} {P : Program} {w w0 : World} {base b0 : Nat} {spare : Nat → Bool} {held : Bool} {r : Reach}
/-- an argument [n]int -/
theorem open_array_ints {t e : TypeId} {n : Nat} {v : Value} {d : DataW H} {ps : List MemPlace} (ht : P.underlying t = some (.array n e)) (he : P.underlying e = some (.int .i64)) (hC : P.cellsOf e = 1) (hCt : P.cellsOf t = n)
    (hval : Value.okWide P w0 r b0 t v) (hd : DataW.Trod enc P w base spare held t v d ps) :
    ∃ xs : List Int, v = .agg (ints xs).toArray ∧ xs.length = n ∧ ∀ x ∈ xs, -9223372036854775808 ≤ x ∧ x ≤ 9223372036854775807 := by
  unfold Value.okWide at hval
  rw [ht] at hval
  obtain ⟨cs, rfl, hs, _⟩ := hval
  obtain ⟨fuel, hf⟩ := hd
  obtain ⟨ys, m, rfl, _, hl, hyl, hx⟩ := DataW.trod_array ht hf
  rw [hC] at hx
  have hcs : (Value.agg cs).cells.toList = cs.toList := rfl
  rw [hcs] at hl hx
  rw [hCt] at hl
  have hone' : ∀ q, q < n → ∃ x : Int, cs.toList[q]? = some (.int .i64 x) ∧ -9223372036854775808 ≤ x ∧ x ≤ 9223372036854775807 := by
    intro q hq
    have h1 := hx q hq
    rw [Nat.mul_one, List.getElem?_eq_getElem (by omega), List.drop_eq_getElem_cons (by omega)] at h1
    simp only [List.take_succ_cons, List.take_zero] at h1
    obtain ⟨n', hw', h1, h2⟩ := DataW.trod_int he h1
    simp [Lit.wf, IntKind.min, IntKind.max, IntKind.signed, IntKind.bits] at h2
    refine ⟨n', ?_, by omega, by omega⟩
    rw [List.getElem?_eq_getElem (by omega)]
    simpa using hw'
  obtain ⟨f, hf'⟩ := Deep.choose_lt hone'
  refine ⟨(List.range n).map f, ?_, by simp, fun x hx => ?_⟩
  · congr 1
    apply Array.ext'
    simp only
    apply List.ext_getElem?
    intro j
    by_cases hj : j < n
    · rw [(hf' j hj).1, ints_get]
      simp [hj]
    · rw [List.getElem?_eq_none (by omega), List.getElem?_eq_none (by rw [ints_length]; simp; omega)]
  · obtain ⟨q, hq, rfl⟩ := List.mem_map.1 hx
    exact (hf' q (List.mem_range.1 hq)).2
end
end Go.Proofs.YtjkjbbmbfobdaaaDoor

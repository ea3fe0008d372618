/-
  Whole numbers as arguments, opened (no condition).
-/
import Derived.Test.YtjkjbbmbfobdaaaDoorMem
import Derived.Deep.Slices
namespace Go.Proofs.YtjkjbbmbfobdaaaDoor
open Go.ChangeShapes Go.WideShapes Go.RowKit
section
variable {H : Type} {enc : TypeId × Value → H} {P : Program} {w : World} {base : Nat} {spare : Nat → Bool} {held : Bool}
theorem open_i64 {r : Reach} {b0 : Nat} {t : TypeId} {v : Value} {d : DataW H} {ps : List MemPlace} (ht : P.underlying t = some (.int .i64)) (hval : Value.okWide P w r b0 t v) (hd : DataW.Trod enc P w base spare held t v d ps) :
    ∃ n : Int, v = .int .i64 n ∧ -9223372036854775808 ≤ n ∧ n ≤ 9223372036854775807 := by
  obtain ⟨n, rfl, _, _, h⟩ := open_int ht hval hd
  simp [Lit.wf, IntKind.min, IntKind.max, IntKind.signed, IntKind.bits] at h
  exact ⟨n, rfl, by omega, by omega⟩
theorem open_u8 {r : Reach} {b0 : Nat} {t : TypeId} {v : Value} {d : DataW H} {ps : List MemPlace} (ht : P.underlying t = some (.int .u8)) (hval : Value.okWide P w r b0 t v) (hd : DataW.Trod enc P w base spare held t v d ps) :
    ∃ c : UInt8, v = .int .u8 (c.toNat : Int) := by
  obtain ⟨n, rfl, _, _, h⟩ := open_int ht hval hd
  simp [Lit.wf, IntKind.min, IntKind.max, IntKind.signed, IntKind.bits] at h
  refine ⟨UInt8.ofNat n.toNat, ?_⟩
  congr 1
  simp
  omega
theorem open_u16 {r : Reach} {b0 : Nat} {t : TypeId} {v : Value} {d : DataW H} {ps : List MemPlace} (ht : P.underlying t = some (.int .u16)) (hval : Value.okWide P w r b0 t v) (hd : DataW.Trod enc P w base spare held t v d ps) :
    ∃ n : Nat, v = .int .u16 (n : Int) ∧ n < 65536 := by
  obtain ⟨n, rfl, _, _, h⟩ := open_int ht hval hd
  simp [Lit.wf, IntKind.min, IntKind.max, IntKind.signed, IntKind.bits] at h
  exact ⟨n.toNat, by congr 1; omega, by omega⟩
theorem trod_i64 {t : TypeId} {fuel : Nat} {v : Value} {y : DataW H × List MemPlace} (ht : P.underlying t = some (.int .i64)) (h : DataW.trod enc P w base spare held fuel t [v] = some y) :
    ∃ n : Int, v = .int .i64 n ∧ -9223372036854775808 ≤ n ∧ n ≤ 9223372036854775807 := by
  obtain ⟨n, h1, _, h2⟩ := DataW.trod_int ht h
  simp [Lit.wf, IntKind.min, IntKind.max, IntKind.signed, IntKind.bits] at h2
  exact ⟨n, by simpa using h1, by omega, by omega⟩
theorem trod_u8 {t : TypeId} {fuel : Nat} {v : Value} {y : DataW H × List MemPlace} (ht : P.underlying t = some (.int .u8)) (h : DataW.trod enc P w base spare held fuel t [v] = some y) : ∃ c : UInt8, v = .int .u8 (c.toNat : Int) := by
  obtain ⟨n, h1, _, h2⟩ := DataW.trod_int ht h
  simp [Lit.wf, IntKind.min, IntKind.max, IntKind.signed, IntKind.bits] at h2
  have hv : v = .int .u8 n := by simpa using h1
  refine ⟨UInt8.ofNat n.toNat, ?_⟩
  rw [hv]
  congr 1
  simp
  omega
theorem trod_bytes {t e : TypeId} (ht : P.underlying t = some (.slice e)) (he : P.underlying e = some (.int .u8)) (hc : P.cellsOf e = 1) {fuel : Nat} {v : Value} {y : DataW H × List MemPlace} (h : DataW.trod enc P w base spare held fuel t [v] = some y) :
    ∃ (A : Option Addr) (n c : Nat) (l : List UInt8), v = .slice A n c ∧ l.length = n ∧ n ≤ c ∧ Reads w (fun b => b < w.heap.size) 1 A n (u8s l) := by
  rcases Deep.open_slice1 ht hc h with ⟨h, _⟩ | ⟨a, len, cap, m, n, V, D, Pl, h, _, hl, hm, hmm, hdd, hx⟩
  · have hv' : v = .slice none 0 0 := by simpa using h
    exact ⟨none, 0, 0, [], hv', rfl, Nat.le_refl _, Reads.none_ _⟩
  · have hv' : v = .slice (some a) len cap := by simpa using h
    have hle : len ≤ m := by rw [hmm]; split <;> omega
    have hone : ∀ i, i < len → ∃ c : UInt8, V i = .int .u8 (c.toNat : Int) := fun i hi => trod_u8 he (hx i (by omega)).2
    obtain ⟨f, hf'⟩ := Deep.choose_lt hone
    refine ⟨some a, len, cap, (List.range len).map f, hv', by simp, hl, ⟨by simp [u8s], fun hn => ⟨a, rfl, ?_, fun j u hu => ?_⟩⟩⟩
    · have := block_lt_of_cell (hx 0 (by omega)).1
      rwa [block_of_add] at this
    · rw [u8s_get] at hu
      have hj : j < len := by
        rcases Nat.lt_or_ge j len with h | h
        · exact h
        · rw [List.getElem?_eq_none (by simpa using h)] at hu
          cases hu
      rw [(hx j (by omega)).1, hf' j hj]
      simpa [hj] using hu
end
end Go.Proofs.YtjkjbbmbfobdaaaDoor

/-
  A row of payloads as an argument, opened (no condition).
-/
import Derived.Test.YtbbneefcjancbaaFrameLaw
import Derived.Test.YtbbneefcjancbaaOpen
namespace Go.Proofs.Ytbbneefcjancbaa
open Go.ChangeShapes Go.WideShapes Go.RowKit Go.Deep
namespace Frame
theorem PartsR.len {w : World} {A : Option Addr} {n c : Nat} {ps : List (List UInt8)} (h : PartsR w (.slice A n c) ps) : ps.length = n := by
  obtain ⟨_, _, _, hv, _⟩ := h.ex
  injection hv with _ h2
  exact h2.symm
/-- element i: the slice, and its bytes, in every world that comes behind -/
theorem PartsR.part {w : World} {A : Option Addr} {n c : Nat} {ps : List (List UInt8)} (h : PartsR w (.slice A n c) ps) {i : Nat} (hi : i < ps.length) : ∃ ad A3 c3, A = some ad ∧ ∀ W, New w W →
    W.cell? (ad.add i) = some (.slice A3 (ps.getD i []).length c3) ∧ Reads W (fun b => b < w.heap.size) 1 A3 (ps.getD i []).length (u8s (ps.getD i [])) := by
  obtain ⟨A', c', vs, hv, hr, hp⟩ := h.ex
  injection hv with h1 h2 h3
  subst h1
  obtain ⟨ad, u, rfl, hb, hu, hc⟩ := hr.at_ hi
  obtain ⟨u', hu', A3, c3, rfl, _, hq⟩ := hp i ps[i] (List.getElem?_eq_getElem hi)
  rw [hu] at hu'
  injection hu' with hu'
  subst hu'
  have hg : ps.getD i [] = ps[i] := by simp [List.getD_eq_getElem?_getD, hi]
  rw [hg]
  exact ⟨ad, A3, c3, rfl, fun W hW => ⟨(hW.cell (p := ad.add i) (by rw [block_of_add]; exact hb) id).trans hc, hq.chg' hW (fun _ _ => id) (by omega)⟩⟩
section
variable {H : Type} {enc : TypeId × Value → H} {w : World} {base : Nat} {held : Bool}
theorem open_parts {v : Value} {d : DataW H} {qs : List MemPlace} (hv : v.cells = #[v]) (hw : ∀ x ∈ d.weights Try.prog 27, x ≤ reachBytes) (hd : DataW.Trod enc Try.prog w base (fun _ => true) held 27 v d qs) :
    ∃ (A : Option Addr) (n c : Nat) (ps : List (List UInt8)), v = .slice A n c ∧ n ≤ 140737488351232 ∧ n ≤ c ∧ PartsR w v ps := by
  obtain ⟨fuel, hf⟩ := hd
  rw [hv] at hf
  rcases Deep.open_slice1 Try.underlying27 (by kernel_rfl) hf with ⟨h, _⟩ | ⟨a, len, cap, m, q, V, D, Pl, h, _, hl, hm, hmm, hdd, hx⟩
  · have hv' : v = .slice none 0 0 := by simpa using h
    subst hv'
    exact ⟨none, 0, 0, [], rfl, by omega, by omega, ⟨⟨none, 0, [], rfl, Reads.none_ _, fun i p hi => by simp at hi⟩⟩⟩
  · have hv' : v = .slice (some a) len cap := by simpa using h
    subst hv'
    have hmc : m = cap := by simpa using hmm
    have hcap : len ≤ 140737488351232 := by
      have hd' : d = .slice ((List.range len).map D) ((List.range (m - len)).map fun j => D (len + j)) := congrArg Prod.fst hdd
      have := hw (cap * Try.prog.bytesOf 22) (by
        rw [hd']
        simp only [DataW.weights, Try.underlying27]
        refine List.mem_cons.2 (.inl ?_)
        simp only [List.length_map, List.length_range]
        rw [show len + (m - len) = cap by omega])
      rw [show Try.prog.bytesOf 22 = 24 by kernel_rfl] at this
      simp [reachBytes] at this
      omega
    have hone : ∀ i, i < len → ∃ p : List UInt8, Part w (fun b => b < w.heap.size) (V i) p := fun i hi => by
      obtain ⟨A3, n3, c3, l3, e3, hl3, hnc3, hr3⟩ := trod_bytes Try.underlying22 Try.underlying5 (by kernel_rfl) (hx i (by omega)).2
      subst hl3
      exact ⟨l3, A3, c3, e3, hnc3, hr3⟩
    obtain ⟨f, hf'⟩ := Deep.choose_lt hone
    refine ⟨some a, len, cap, (List.range len).map f, rfl, hcap, by omega, ⟨⟨some a, cap, (List.range len).map V, by simp, ?_, fun i p hi => ?_⟩⟩⟩
    · refine ⟨by simp, fun hn => ⟨a, rfl, ?_, fun j u hu => ?_⟩⟩
      · have := block_lt_of_cell (hx 0 (by simp at hn; omega)).1
        rwa [block_of_add] at this
      · have hj : j < len := by
          rcases Nat.lt_or_ge j len with h | h
          · exact h
          · rw [List.getElem?_eq_none (by simpa using h)] at hu
            cases hu
        rw [(hx j (by omega)).1]
        simpa [hj] using hu
    · have hj : i < len := by
        rcases Nat.lt_or_ge i len with h | h
        · exact h
        · rw [List.getElem?_eq_none (by simpa using h)] at hi
          cases hi
      have e : f i = p := by simpa [hj] using hi
      exact ⟨V i, by simp [hj], e ▸ hf' i hj⟩
end
end Frame
end Go.Proofs.Ytbbneefcjancbaa

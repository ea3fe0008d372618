/-
  Slices of structs as arguments: structs whose fields are whole numbers, as one flat row of numbers (no condition beyond what can be read).
-/
import Derived.Test.YtonopommbpkfgaaMem
import Derived.Deep.Fields
import Derived.ChangeSame
namespace Go.Proofs.Ytonopommbpkfgaa
open Go.ChangeShapes Go.WideShapes Go.RowKit Go.Deep

section
variable {H : Type} {enc : TypeId × Value → H} {P : Program} {w : World} {base : Nat} {spare : Nat → Bool} {held : Bool}
theorem open_slice_fields {t e : TypeId} {fs : Array Field} {fuel : Nat} {cs : List Value} {x : DataW H × List MemPlace} (ht : P.underlying t = some (.slice e)) (he : P.underlying e = some (.struct fs))
    (hone : oneCellFields P fs = true) (hC : P.cellsOf e = fs.size) (h : DataW.trod enc P w base spare held fuel t cs = some x) :
    (cs = [.slice none 0 0] ∧ x = (.nil, [])) ∨
    ∃ (a : Addr) (len cap m : Nat) (D : Nat → DataW H) (Pl : Nat → List MemPlace), cs = [.slice (some a) len cap] ∧ base ≤ a.block ∧ len ≤ cap ∧ cap ≤ maxLen ∧ m = (if spare a.block then cap else len) ∧
      x = (.slice ((List.range len).map D) ((List.range (m - len)).map fun j => D (len + j)), MemPlace.row a (m * fs.size) ++ (List.range m).flatMap Pl) ∧
      ∀ i, i < m → ∃ (ys : List (DataW H × List MemPlace)) (n : Nat), D i = .agg (ys.map (·.1)) ∧ Pl i = ys.flatMap (·.2) ∧ ys.length = fs.size ∧
        ∀ (j : Nat) (f : Field), fs[j]? = some f → ∃ (v : Value) (y : DataW H × List MemPlace), w.cell? (a.add (i * fs.size + j)) = some v ∧ ys[j]? = some y ∧ DataW.trod enc P w base spare held n f.type [v] = some y := by
  rcases open_slice ht h with h0 | ⟨a, len, cap, m, n, D, Pl, hcs, hb, hl, hm, hmm, hx, hi⟩
  · exact .inl h0
  · refine .inr ⟨a, len, cap, m, D, Pl, hcs, hb, hl, hm, hmm, by rw [hC] at hx; exact hx, fun i him => ?_⟩
    obtain ⟨cs', hc, ht'⟩ := hi i him
    rw [hC] at hc
    obtain ⟨ys, n', hn', hy, hlen, hyl, hf⟩ := DataW.trod_struct he ht'
    obtain ⟨_, hcl, hat⟩ := World.cells?_some hc
    simp only [Prod.mk.injEq] at hy
    refine ⟨ys, n', hy.1, hy.2, hyl, fun j f hj => ?_⟩
    obtain ⟨ho, hk⟩ := hone_of hone j f hj
    have hjl : j < fs.size := (Array.getElem?_eq_some_iff.1 hj).1
    have hcell := hat j hjl
    have hv : cs'[j]? = some (cs'[j]'(by omega)) := List.getElem?_eq_getElem (by omega)
    have h1 := hf j f hj
    rw [ho, hk] at h1
    have hone' : (cs'.drop j).take 1 = [cs'[j]'(by omega)] := by
      rw [List.drop_eq_getElem_cons (by omega)]
      rfl
    rw [hone'] at h1
    have hys : ys[j]? = some (ys[j]'(by omega)) := List.getElem?_eq_getElem (by omega)
    refine ⟨_, _, ?_, hys, h1.trans hys⟩
    rw [← Go.Deep.add_add, hcell, hv]

/-- an argument []T, T a struct of whole numbers of kind int -/
theorem open_struct_ints {t e : TypeId} {fs : Array Field} {v : Value} {d : DataW H} {ps : List MemPlace} {B s : Nat} (ht : P.underlying t = some (.slice e)) (he : P.underlying e = some (.struct fs))
    (hone : oneCellFields P fs = true) (hs : fs.size = s) (hs0 : 0 < s) (hC : P.cellsOf e = s) (hint : ∀ (j : Nat) (f : Field), fs[j]? = some f → P.underlying f.type = some (.int .i64)) (hB : P.bytesOf e = B)
    (hv : v.cells = #[v]) (hw : ∀ x ∈ d.weights P t, x ≤ reachBytes) (hd : DataW.Trod enc P w base (fun _ => true) held t v d ps) :
    ∃ (A : Option Addr) (n c : Nat) (xs : List Int), v = .slice A n c ∧ xs.length = n * s ∧ n ≤ c ∧ c * B ≤ 140737488351232 ∧ Reads w (fun b => b < w.heap.size) s A n (ints xs) ∧
      ∀ x ∈ xs, -9223372036854775808 ≤ x ∧ x ≤ 9223372036854775807 := by
  obtain ⟨fuel, hf⟩ := hd
  rw [hv] at hf
  subst hs
  rcases open_slice_fields ht he hone hC hf with ⟨h, _⟩ | ⟨a, len, cap, m, D, Pl, h, _, hl, hm, hmm, hdd, hx⟩
  · have hv' : v = .slice none 0 0 := by simpa using h
    exact ⟨none, 0, 0, [], hv', by simp, Nat.le_refl _, by omega, Reads.none_ _, fun x hx => by cases hx⟩
  · have hv' : v = .slice (some a) len cap := by simpa using h
    have hmc : m = cap := by simpa using hmm
    have hcap : cap * B ≤ 140737488351232 := by
      have hd' : d = .slice ((List.range len).map D) ((List.range (m - len)).map fun j => D (len + j)) := congrArg Prod.fst hdd
      have := hw (cap * P.bytesOf e) (by
        rw [hd']
        simp only [DataW.weights, ht]
        refine List.mem_cons.2 (.inl ?_)
        simp only [List.length_map, List.length_range]
        rw [show len + (m - len) = cap by omega])
      rw [hB] at this
      exact this
    have hone' : ∀ q, q < len * fs.size → ∃ x : Int, w.cell? (a.add q) = some (.int .i64 x) ∧ -9223372036854775808 ≤ x ∧ x ≤ 9223372036854775807 := by
      intro q hq
      have hi : q / fs.size < len := Nat.div_lt_of_lt_mul (by rwa [Nat.mul_comm])
      have hj : q % fs.size < fs.size := Nat.mod_lt _ hs0
      obtain ⟨ys, n, _, _, _, hg⟩ := hx (q / fs.size) (by omega)
      obtain ⟨u, y, hc, _, ht'⟩ := hg (q % fs.size) _ (Array.getElem?_eq_getElem hj)
      rw [show q / fs.size * fs.size + q % fs.size = q by rw [Nat.mul_comm]; exact Nat.div_add_mod q fs.size] at hc
      obtain ⟨n', hw', h1, h2⟩ := DataW.trod_int (hint _ _ (Array.getElem?_eq_getElem hj)) ht'
      simp at hw'
      simp [Lit.wf, IntKind.min, IntKind.max, IntKind.signed, IntKind.bits] at h2
      exact ⟨n', by rw [hc, hw'], by omega, by omega⟩
    obtain ⟨f, hf'⟩ := Deep.choose_lt hone'
    refine ⟨some a, len, cap, (List.range (len * fs.size)).map f, hv', by simp, hl, hcap, ⟨by simp [ints], fun hn => ⟨a, rfl, ?_, fun j u hu => ?_⟩⟩, fun x hx => ?_⟩
    · have := block_lt_of_cell (hf' 0 (Nat.mul_pos hn hs0)).1
      rwa [block_of_add] at this
    · rw [ints_get] at hu
      have hj : j < len * fs.size := by
        rcases Nat.lt_or_ge j (len * fs.size) with h | h
        · exact h
        · rw [List.getElem?_eq_none (by simpa using h)] at hu
          cases hu
      rw [(hf' j hj).1]
      simpa [hj] using hu
    · obtain ⟨q, hq, rfl⟩ := List.mem_map.1 hx
      exact (hf' q (List.mem_range.1 hq)).2
end
end Go.Proofs.Ytonopommbpkfgaa

/-
  Values of numbers, texts, and arrays and structs of such: each is equal to itself; each of its cells is one (no condition).
-/
import Derived.Test.YtgjlbifanjhcjaaStructs
import Derived.DeepKeys
import Derived.OpenShut
namespace Go.Proofs.Ytgjlbifanjhcjaa
open Go.ChangeShapes Go.WideShapes Go.RowKit Go.Deep
section
variable {H : Type} {enc : TypeId × Value → H} {P : Program} {w : World} {base : Nat} {spare : Nat → Bool} {held : Bool}
theorem mapM_of {α β : Type} (f : α → Option β) : ∀ (l : List α), (∀ a ∈ l, ∃ b, f a = some b) → ∃ bs, l.mapM f = some bs
  | [], _ => ⟨[], rfl⟩
  | a :: l, h => by
    obtain ⟨b, hb⟩ := h a (List.mem_cons_self ..)
    obtain ⟨bs, hbs⟩ := mapM_of f l fun x hx => h x (List.mem_cons_of_mem _ hx)
    exact ⟨b :: bs, by rw [List.mapM_cons, hb, hbs]; rfl⟩
theorem trod_string {t : TypeId} {fuel : Nat} {cs : List Value} {y : DataW H × List MemPlace} (ht : P.underlying t = some .string) (h : DataW.trod enc P w base spare held fuel t cs = some y) : ∃ s, cs = [.string s] ∧ s.size ≤ maxLen := by
  cases fuel with
  | zero => simp [DataW.trod] at h
  | succ n =>
    unfold DataW.trod at h
    rw [ht] at h
    split at h <;> simp_all
theorem trod_bool {t : TypeId} {fuel : Nat} {cs : List Value} {y : DataW H × List MemPlace} (ht : P.underlying t = some .bool) (h : DataW.trod enc P w base spare held fuel t cs = some y) : ∃ b, cs = [.bool b] := by
  cases fuel with
  | zero => simp [DataW.trod] at h
  | succ n =>
    unfold DataW.trod at h
    rw [ht] at h
    split at h <;> simp_all
theorem trod_key : ∀ (m : Nat) (t : TypeId) (cs : List Value) (fuel : Nat) (x : DataW H × List MemPlace), P.keyTypeAt m t = true → DataW.trod enc P w base spare held fuel t cs = some x → ∃ L, P.keyLits fuel t cs = some L
  | 0, t, cs, fuel, x, hk, h => by simp [Program.keyTypeAt] at hk
  | m + 1, t, cs, fuel, x, hk, h => by
    obtain ⟨n, rfl⟩ : ∃ n, fuel = n + 1 := by
      cases fuel with
      | zero => simp [DataW.trod] at h
      | succ n => exact ⟨n, rfl⟩
    cases hu : P.underlying t with
    | none => simp [Program.keyTypeAt, hu] at hk
    | some d =>
      cases d
      case bool =>
        obtain ⟨b, rfl⟩ := trod_bool hu h
        exact ⟨[.bool b], by simp only [Program.keyLits, hu]⟩
      case int k =>
        obtain ⟨z, rfl, _, hz⟩ := DataW.trod_int hu h
        exact ⟨[.int k z], by simp only [Program.keyLits, hu, hz, and_self, if_true]⟩
      case string =>
        obtain ⟨s, rfl, hs⟩ := trod_string hu h
        exact ⟨[.string s.data.toList], by simp only [Program.keyLits, hu, hs, if_true]⟩
      case array q e =>
        simp only [Program.keyTypeAt, hu] at hk
        obtain ⟨xs, k, hk2, _, hl, hxl, hx⟩ := DataW.trod_array hu h
        obtain rfl : n = k := by omega
        obtain ⟨bs, hbs⟩ := mapM_of (fun i => P.keyLits n e ((cs.drop (i * P.cellsOf e)).take (P.cellsOf e))) (List.range q) fun i hi => by
          have hi := List.mem_range.1 hi
          have := hx i hi
          rw [List.getElem?_eq_getElem (by omega)] at this
          exact trod_key m e _ n _ hk this
        refine ⟨bs.flatten, ?_⟩
        simp only [Program.keyLits, hu]
        rw [if_pos hl, hbs]
        rfl
      case struct fs =>
        simp only [Program.keyTypeAt, hu, Bool.and_eq_true, Array.all_eq_true'] at hk
        obtain ⟨xs, k, hk2, _, hl, hxl, hx⟩ := DataW.trod_struct hu h
        obtain rfl : n = k := by omega
        have hnm : fs.all (fun f => f.name != "_") = true := by
          rw [Array.all_eq_true']
          exact fun f hf => (hk.1.1 f hf).1
        obtain ⟨bs, hbs⟩ := mapM_of (fun (f : Field) => P.keyLits n f.type ((cs.drop f.offset).take (P.cellsOf f.type))) fs.toList fun f hf => by
          obtain ⟨i, hi, he⟩ := List.getElem_of_mem hf
          have hi2 : fs[i]? = some f := by rw [← he]; simp [Array.getElem?_eq_getElem (by simpa using hi)]
          have := hx i f hi2
          rw [List.getElem?_eq_getElem (by rw [hxl]; simpa using hi)] at this
          exact trod_key m f.type _ n _ (hk.1.1 f (by simpa using hf)).2 this
        refine ⟨bs.flatten, ?_⟩
        simp only [Program.keyLits, hu]
        rw [if_pos ⟨hl, hnm⟩, hbs]
        rfl
      all_goals (simp [Program.keyTypeAt, hu] at hk; done)
/-- a value that was read whole is equal to itself -/
theorem trod_equal {m : Nat} (hm : m ≤ 10000) {t : TypeId} (hk : P.keyTypeAt m t = true) {cs : List Value} {fuel : Nat} {x : DataW H × List MemPlace} (h : DataW.trod enc P w base spare held fuel t cs = some x)
    (hf : (Value.agg cs.toArray).formed P t = true) (W : World) : (Op.equal t (.agg cs.toArray) (.agg cs.toArray)).run P W = .ok true W := by
  obtain ⟨L, hL⟩ := trod_key m t cs fuel x hk h
  obtain ⟨r, hr, hi⟩ := run_equalIn_deep (P := P) (10000 - m) m t hk W fuel fuel (.agg cs.toArray) (.agg cs.toArray) L L hf hf (by simpa [Value.cells] using hL) (by simpa [Value.cells] using hL)
  rw [show 10000 - m + m = 10000 by omega] at hr
  rw [hi.2 rfl] at hr
  exact hr
/-- of numbers and texts, and arrays and structs of such, whose fields lie without gaps -/
def flatK (P : Program) : Nat → TypeId → Bool
  | 0, _ => false
  | m + 1, t => match P.underlying t with
    | some .bool | some (.int _) | some .string => true
    | some (.array n e) => flatK P m e && P.cellsOf t == n * P.cellsOf e && P.cellsOf e != 0
    | some (.struct fs) => fs.all (fun f => flatK P m f.type) && (List.range (P.cellsOf t)).all fun j => fs.any fun f => decide (f.offset ≤ j) && decide (j < f.offset + P.cellsOf f.type)
    | _ => false
theorem mem_slice {cs : List Value} {o n j : Nat} {v : Value} (h : cs[j]? = some v) (h1 : o ≤ j) (h2 : j < o + n) : v ∈ (cs.drop o).take n := by
  refine List.mem_of_getElem? (i := j - o) ?_
  rw [List.getElem?_take_of_lt (by omega), List.getElem?_drop, show o + (j - o) = j by omega]
  exact h
theorem trod_flat : ∀ (m : Nat) (t : TypeId) (cs : List Value) (fuel : Nat) (x : DataW H × List MemPlace), flatK P m t = true → DataW.trod enc P w base spare held fuel t cs = some x → ∀ v ∈ cs, v.oneCell' = true
  | 0, t, cs, fuel, x, hk, h => by simp [flatK] at hk
  | m + 1, t, cs, fuel, x, hk, h => by
    cases hu : P.underlying t with
    | none => simp [flatK, hu] at hk
    | some d =>
      cases d
      case bool =>
        obtain ⟨b, rfl⟩ := trod_bool hu h
        intro v hv
        rw [List.mem_singleton.1 hv]
        rfl
      case int k =>
        obtain ⟨z, rfl, _, hz⟩ := DataW.trod_int hu h
        intro v hv
        rw [List.mem_singleton.1 hv]
        rfl
      case string =>
        obtain ⟨s, rfl, hs⟩ := trod_string hu h
        intro v hv
        rw [List.mem_singleton.1 hv]
        rfl
      case array q e =>
        simp only [flatK, hu, Bool.and_eq_true, beq_iff_eq, bne_iff_ne] at hk
        obtain ⟨xs, k, _, _, hl, hxl, hx⟩ := DataW.trod_array hu h
        intro v hv
        obtain ⟨j, hj, he⟩ := List.getElem_of_mem hv
        have hj2 : cs[j]? = some v := by rw [List.getElem?_eq_getElem hj, he]
        have hc : 0 < P.cellsOf e := by omega
        have hdm := Nat.div_add_mod j (P.cellsOf e)
        have hml := Nat.mod_lt j hc
        rw [Nat.mul_comm] at hdm
        have hi : j / P.cellsOf e < q := by
          rw [Nat.div_lt_iff_lt_mul hc]
          omega
        have := hx _ hi
        rw [List.getElem?_eq_getElem (by omega)] at this
        exact trod_flat m e _ k _ hk.1.1 this v (mem_slice hj2 (by omega) (by omega))
      case struct fs =>
        simp only [flatK, hu, Bool.and_eq_true, Array.all_eq_true', List.all_eq_true] at hk
        obtain ⟨xs, k, _, _, hl, hxl, hx⟩ := DataW.trod_struct hu h
        intro v hv
        obtain ⟨j, hj, he⟩ := List.getElem_of_mem hv
        have hj2 : cs[j]? = some v := by rw [List.getElem?_eq_getElem hj, he]
        have := hk.2 j (List.mem_range.2 (by omega))
        rw [Array.any_eq_true'] at this
        obtain ⟨f, hf, hb⟩ := this
        simp only [Bool.and_eq_true, decide_eq_true_eq] at hb
        obtain ⟨i, hi, he2⟩ := Array.getElem_of_mem hf
        have h1 := hx i f (by rw [Array.getElem?_eq_getElem hi, he2])
        rw [List.getElem?_eq_getElem (by omega)] at h1
        exact trod_flat m f.type _ k _ (hk.1 f hf) h1 v (mem_slice hj2 hb.1 hb.2)
      all_goals (simp [flatK, hu] at hk; done)
end
end Go.Proofs.Ytgjlbifanjhcjaa

/-
  Cells of a register: rows of them of the call's own (no condition beyond the sizes).
-/
import Derived.Test.YtgnlbekagdffoaaDoorTick
import Derived.Test.YtgnlbekagdffoaaDoorRng
namespace Go.Proofs.YtgnlbekagdffoaaDoor
set_option linter.unusedSimpArgs false
set_option linter.unusedVariables false
open Go.ChangeShapes Go.WideShapes Go.RowKit Go.Deep
namespace Lat
instance : Inhabited Cl := ⟨⟨⟨#[]⟩, 0, 0, 0, 0, ⟨#[]⟩⟩⟩
theorem Cl.cs_len (c : Cl) : c.cs.length = 6 := rfl
theorem Cl.cs_one (c : Cl) : ∀ v ∈ c.cs, v.oneCell' = true := by
  intro v hv
  simp only [Cl.cs, List.mem_cons, List.not_mem_nil, or_false] at hv
  rcases hv with rfl | rfl | rfl | rfl | rfl | rfl <;> rfl
theorem Cl.val_cs (c : Cl) : c.val = .agg c.cs.toArray := rfl
def rowC (l : List Cl) : List Value := l.flatMap Cl.cs
theorem rowC_append (l k : List Cl) : rowC (l ++ k) = rowC l ++ rowC k := by simp [rowC]
theorem rowC_length (l : List Cl) : (rowC l).length = l.length * 6 := by
  induction l with
  | nil => rfl
  | cons e l ih =>
    unfold rowC at ih ⊢
    rw [List.flatMap_cons, List.length_append, ih, e.cs_len, List.length_cons]
    omega
theorem rowC_one (l : List Cl) : ∀ u ∈ rowC l, u.oneCell' = true := by
  intro u hu
  obtain ⟨e, _, h⟩ := List.mem_flatMap.1 hu
  exact e.cs_one u h
theorem rowC_get : ∀ {l : List Cl} {i j : Nat} {e : Cl}, l[i]? = some e → j < 6 → (rowC l)[i * 6 + j]? = e.cs[j]?
  | x :: l, 0, j, e, h, hj => by
    injection h with h
    subst h
    unfold rowC
    rw [List.flatMap_cons, List.getElem?_append_left (by rw [x.cs_len]; omega), Nat.zero_mul, Nat.zero_add]
  | x :: l, i + 1, j, e, h, hj => by
    have ih := rowC_get (l := l) (i := i) (j := j) (e := e) (by simpa using h) hj
    unfold rowC at ih ⊢
    rw [List.flatMap_cons, List.getElem?_append_right (by rw [x.cs_len]; omega), x.cs_len, show (i + 1) * 6 + j - 6 = i * 6 + j by omega]
    exact ih
theorem rowC_take (l : List Cl) (k : Nat) : (rowC l).take (k * 6) = rowC (l.take k) := by
  induction l generalizing k with
  | nil => simp [rowC]
  | cons e l ih =>
    cases k with
    | zero => simp [rowC]
    | succ k =>
      unfold rowC at ih ⊢
      rw [List.take_succ_cons, List.flatMap_cons, List.flatMap_cons, List.take_append, e.cs_len, List.take_of_length_le (by rw [e.cs_len]; omega), show (k + 1) * 6 - 6 = k * 6 by omega, ih]
/-- v is a slice of the call's own whose cells are l -/
abbrev OwnC (w : World) (base : Nat) (v : Value) (l : List Cl) : Prop := w.ownsRow base 33 6 v l.length (rowC l)
theorem OwnC.form {w : World} {base : Nat} {v : Value} {l : List Cl} (h : OwnC w base v l) : ∃ A c, v = .slice A l.length c := by
  rcases h.2 with ⟨rfl, h0⟩ | ⟨g, cap, cur, rfl, _⟩
  · exact ⟨none, 0, by rw [h0]⟩
  · exact ⟨_, cap, rfl⟩
theorem OwnC.nil (w : World) (base : Nat) : OwnC w base (.slice none 0 0) [] := World.ownsRow_nil _ _ _ _
def zeroCs : Array Value := #[.string ⟨#[]⟩, .int .i64 0, .int .i64 0, .int .i64 0, .int .i64 0, .string ⟨#[]⟩]
theorem cellInfo : (Tryd.prog.info? 33).map (fun i => (i.zero, i.size, i.bytes)) = some (some (.agg zeroCs), 6, 64) := by kernel_rfl
theorem append_cl (w : World) {ops : Array Oper} {rest : List Oper} {o : Oper} {a : Act} {Q : Exit → Act → World → Prop} (hgd : o.guard = none) (s x : Operand)
    (ho : o.op = .call { callee := .builtin .append, args := #[s, x], argTypes := #[22, 22] })
    (base : Nat) (v : Value) (l : List Cl) (hs : a.eval s = v) (hown : OwnC w base v l)
    (F : Nat → Prop) (A : Option Addr) (m c : Nat) (k : List Cl) (hx : a.eval x = .slice A m c) (hr : Reads w F 6 A m (rowC k))
    (hb : l.length + m ≤ 1000000000) (hbase : base ≤ w.heap.size)
    (h : ∀ v' w', OwnC w' base v' (l ++ k) → w.grownBy w' v.ownBlock → (v'.ownBlock = v.ownBlock ∨ v'.ownBlock = some w.heap.size) → wpList Tryd.prog ops Q rest (a.put o.dst v') w') : wpList Tryd.prog ops Q (o :: rest) a w := by
  obtain ⟨i, hi, hz0, hz1, hz2⟩ := info_parts cellInfo
  refine wpList_append_any w hgd s x _ ho base _ i _ 6 64 Tryd.underlying22 hi hz0 hz1 hz2 rfl (by omega) v l.length (rowC l) hs hown F A m c (rowC k) hx hr (rowC_one k) (by simp only [maxLen]; omega) (by omega) hbase ?_
  intro v' w' ho' hg hat
  refine h v' w' ?_ hg hat
  have hl := hr.len
  rw [rowC_length] at hl
  unfold OwnC
  rw [rowC_append, List.length_append, show k.length = m by omega]
  exact ho'
/-- cell i of a row that can be read -/
theorem ld_cl {w : World} {F : Nat → Prop} {A : Option Addr} {n : Nat} {l : List Cl} (h : Reads w F 6 A n (rowC l)) {i : Nat} {e : Cl} (he : l[i]? = some e) : ∃ ad, A = some ad ∧ (LoadRow 33 (ad.add (i * 6))).run Tryd.prog w = .ok e.val w := by
  have hl := h.len
  rw [rowC_length] at hl
  have hi := (List.getElem?_eq_some_iff.1 he).1
  obtain ⟨ad, rfl, _, hc⟩ := h.2 (by omega)
  refine ⟨ad, rfl, ?_⟩
  rw [e.val_cs]
  refine run_LoadRow_at (P := Tryd.prog) (t := 33) Tryd.underlying33 rfl (n := 6) (by kernel_rfl) e.cs_len fun j u hu => ?_
  have hj : j < 6 := by
    have := (List.getElem?_eq_some_iff.1 hu).1
    rwa [e.cs_len] at this
  rw [add_of_add]
  exact hc _ _ (by rw [rowC_get he hj]; exact hu)
/-- how the names of two cells lie -/
def nameC (a b : Cl) : Int := cmpL (nums a.name.data.toList) (nums b.name.data.toList)
/-- what the sort gives -/
def SortsC : Prop := ∀ (w : World) (base : Nat) (v : Value) (l : List Cl), OwnC w base v l → l.length ≤ 1000000 →
  Calls Tryd.prog 25 #[v, .func (.func 26) #[] #[]] w fun e w' => e = .returned (.tuple #[]) ∧ ∃ l', l'.Perm l ∧ (l'.Pairwise fun a b => nameC b a ≠ -1) ∧ OwnC w' base v l' ∧ Chg (fun k => v.ownBlock = some k) w w'
end Lat
end Go.Proofs.YtgnlbekagdffoaaDoor

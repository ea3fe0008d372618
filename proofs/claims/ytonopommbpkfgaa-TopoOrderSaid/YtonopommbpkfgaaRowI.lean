/-
  Rows of whole numbers of the call's own (no condition beyond the sizes).
-/
import Derived.Test.YtonopommbpkfgaaRowsK
namespace Go.Proofs.Ytonopommbpkfgaa
open Go.ChangeShapes Go.WideShapes Go.RowKit
abbrev OwnI (w : World) (base : Nat) (v : Value) (l : List Int) : Prop := w.ownsRow base 3 1 v l.length (ints l)
theorem intInfo : (Try.prog.info? 3).map (fun i => (i.zero, i.size, i.bytes)) = some (some (.int .i64 0), 1, 8) := by kernel_rfl
theorem OwnI.form {w : World} {base : Nat} {v : Value} {l : List Int} (h : OwnI w base v l) : ∃ A c, v = .slice A l.length c := by
  rcases h.2 with ⟨rfl, h0⟩ | ⟨g, cap, cur, rfl, _⟩
  · exact ⟨none, 0, by rw [h0]⟩
  · exact ⟨_, cap, rfl⟩
theorem OwnI.nil (w : World) (base : Nat) : OwnI w base (.slice none 0 0) [] := World.ownsRow_nil _ _ _ _
theorem OwnI.lenA {w : World} {base n c : Nat} {A : Option Addr} {l : List Int} (h : OwnI w base (.slice A n c) l) : n = l.length := by
  rcases h.2 with ⟨h0, h1⟩ | ⟨_, _, _, h0, _⟩
  · injection h0 with _ h2
    omega
  · injection h0
theorem OwnI.cell {w : World} {base g c n : Nat} {l : List Int} (h : OwnI w base (.slice (some ⟨g, 0, none⟩) n c) l) {i : Nat} (hi : i < l.length) : w.cell? ⟨g, i, none⟩ = some (.int .i64 (l.getD i 0)) := by
  have hn := h.lenA
  subst hn
  have := World.ownsRow.cellAt h i (by omega)
  rw [ints_get, List.getElem?_eq_getElem hi] at this
  rw [this]
  simp [List.getD_eq_getElem?_getD, List.getElem?_eq_getElem hi]
theorem OwnI.stored {w : World} {base g c n : Nat} {l : List Int} (h : OwnI w base (.slice (some ⟨g, 0, none⟩) n c) l) (i : Nat) (x : Int) :
    OwnI (w.setCell ⟨g, i, none⟩ (.int .i64 x)) base (.slice (some ⟨g, 0, none⟩) n c) (l.set i x) := by
  have hn := h.lenA
  subst hn
  have := World.ownsRow.stored h i (.int .i64 x)
  unfold OwnI
  rw [List.length_set, ← ints_set]
  exact this.1
theorem OwnI.frozen {w : World} {base g c n : Nat} {l : List Int} (h : OwnI w base (.slice (some ⟨g, 0, none⟩) n c) l) (i : Nat) : w.frozen? ⟨g, i, none⟩ = false := by
  rcases h.2 with ⟨h0, _⟩ | ⟨g', cap, cur, hv, hb, hg, _⟩
  · cases h0
  · injection hv with hv1
    injection hv1 with hv1
    injection hv1 with hv1 _ _
    subst hv1
    exact Blk.frozen (t := 3) (cs := cur) hg i
/-- v[:k] -/
theorem OwnI.cut {w : World} {base g c n : Nat} {l : List Int} (h : OwnI w base (.slice (some ⟨g, 0, none⟩) n c) l) {k : Nat} (hk : k ≤ l.length) : OwnI w base (.slice (some ⟨g, 0, none⟩) k c) (l.take k) := by
  have hn := h.lenA
  subst hn
  rcases h.2 with ⟨h0, _⟩ | ⟨g', cap, cur, hv, hb, hg, h1, h2, h3, h4⟩
  · cases h0
  · injection hv with hv1 hv2 hv3
    injection hv1 with hv1
    injection hv1 with hv1 _ _
    subst hv1 hv3
    unfold OwnI
    rw [List.length_take, Nat.min_eq_left hk]
    refine ⟨by rw [ints_length, List.length_take, Nat.min_eq_left hk, Nat.mul_one], .inr ⟨g, c, cur, rfl, hb, hg, by omega, h2, h3, ?_⟩⟩
    rw [Nat.mul_one] at h4 ⊢
    rw [show ints (l.take k) = (ints l).take k by simp [ints, List.map_take], ← h4, List.take_take, Nat.min_eq_left hk]
theorem append_ints (w : World) {ops : Array Oper} {rest : List Oper} {o : Oper} {a : Act} {Q : Exit → Act → World → Prop} (hgd : o.guard = none) (s x : Operand) (t : TypeId) (ht : Try.prog.underlying t = some (.slice 3))
    (ho : o.op = .call { callee := .builtin .append, args := #[s, x], argTypes := #[t, t] })
    (base : Nat) (v : Value) (l : List Int) (hs : a.eval s = v) (hown : OwnI w base v l)
    (F : Nat → Prop) (A : Option Addr) (m c : Nat) (k : List Int) (hx : a.eval x = .slice A m c) (hr : Reads w F 1 A m (ints k))
    (hb : l.length + m ≤ 1099511627776) (hbase : base ≤ w.heap.size)
    (h : ∀ v' w', OwnI w' base v' (l ++ k) → w.grownBy w' v.ownBlock → (v'.ownBlock = v.ownBlock ∨ v'.ownBlock = some w.heap.size) → wpList Try.prog ops Q rest (a.put o.dst v') w') : wpList Try.prog ops Q (o :: rest) a w := by
  obtain ⟨i, hi, hz0, hz1, hz2⟩ := info_parts intInfo
  refine wpList_append_any w hgd s x _ ho base _ i _ 1 8 ht hi hz0 hz1 hz2 rfl (by omega) v l.length (ints l) hs hown F A m c (ints k) hx hr (ints_one k) (by simp only [maxLen]; omega) (by omega) hbase ?_
  intro v' w' ho' hg hat
  refine h v' w' ?_ hg hat
  have hk := hr.len
  unfold OwnI
  rw [show ints (l ++ k) = ints l ++ ints k by simp [ints], List.length_append, show k.length = m by simpa [ints] using hk]
  exact ho'
end Go.Proofs.Ytonopommbpkfgaa

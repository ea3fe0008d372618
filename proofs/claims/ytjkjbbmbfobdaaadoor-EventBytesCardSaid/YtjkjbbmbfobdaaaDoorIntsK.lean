/-
  Rows of whole numbers of the call's own, and append onto them (no condition beyond the sizes).
-/
import Derived.Test.YtjkjbbmbfobdaaaDoorOwn
namespace Go.Proofs.YtjkjbbmbfobdaaaDoor
open Go.ChangeShapes Go.WideShapes Go.RowKit
/-- v is a slice of the call's own whose whole numbers are l -/
abbrev OwnI (w : World) (base : Nat) (v : Value) (l : List Int) : Prop := w.ownsRow base 3 1 v l.length (ints l)
theorem intInfo : (Tryd.prog.info? 3).map (fun i => (i.zero, i.size, i.bytes)) = some (some (.int .i64 0), 1, 8) := by kernel_rfl
theorem append_i64 (w : World) {ops : Array Oper} {rest : List Oper} {o : Oper} {a : Act} {Q : Exit → Act → World → Prop} (hgd : o.guard = none) (s x : Operand)
    (ho : o.op = .call { callee := .builtin .append, args := #[s, x], argTypes := #[58, 58] })
    (base : Nat) (v : Value) (l : List Int) (hs : a.eval s = v) (hown : OwnI w base v l)
    (F : Nat → Prop) (A : Option Addr) (m c : Nat) (k : List Int) (hx : a.eval x = .slice A m c) (hr : Reads w F 1 A m (ints k))
    (hb : l.length + m ≤ 1099511627776) (hbase : base ≤ w.heap.size)
    (h : ∀ v' w', OwnI w' base v' (l ++ k) → w.grownBy w' v.ownBlock → (v'.ownBlock = v.ownBlock ∨ v'.ownBlock = some w.heap.size) → wpList Tryd.prog ops Q rest (a.put o.dst v') w') : wpList Tryd.prog ops Q (o :: rest) a w := by
  obtain ⟨i, hi, hz0, hz1, hz2⟩ := info_parts intInfo
  refine wpList_append_any w hgd s x _ ho base _ i _ 1 8 Tryd.underlying58 hi hz0 hz1 hz2 rfl (by omega) v l.length (ints l) hs hown F A m c (ints k) hx hr (ints_one k) (by simp only [maxLen]; omega) (by omega) hbase ?_
  intro v' w' ho' hg hat
  refine h v' w' ?_ hg hat
  have hk := hr.len
  unfold OwnI
  rw [show ints (l ++ k) = ints l ++ ints k by simp [ints], List.length_append, show k.length = m by simpa [ints] using hk]
  exact ho'
theorem own_own {w : World} {base base' : Nat} {e e' : TypeId} {size size' n n' : Nat} {v v' : Value} {xs xs' : List Value} (h : w.ownsRow base e size v n xs) (h' : w.ownsRow base' e' size' v' n' xs') (hne : e ≠ e') {g : Nat} (hg : v.ownBlock = some g) : v'.ownBlock ≠ some g := by
  intro hg'
  rcases h'.2 with ⟨rfl, _⟩ | ⟨g', cap, cur, rfl, _, hh, _⟩
  · cases hg'
  · have : g' = g := by simpa [Value.ownBlock] using hg'
    subst this
    exact own_ne h hh hne hg
end Go.Proofs.YtjkjbbmbfobdaaaDoor

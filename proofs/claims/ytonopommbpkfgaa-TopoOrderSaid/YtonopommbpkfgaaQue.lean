/-
  A queue of whole numbers in a block of the call's own: taken from the front, put at the end (no condition beyond the sizes).
-/
import Derived.Test.YtonopommbpkfgaaRowI
import Derived.ArgAppend
namespace Go.Proofs.Ytonopommbpkfgaa
open Go.ChangeShapes Go.WideShapes Go.RowKit
def Que (w : World) (lo : Nat) (v : Value) (l : List Int) : Prop :=
  ∃ g off cap cur, v = .slice (some ⟨g, off, none⟩) l.length cap ∧ lo ≤ g ∧ Blk w g 3 cur ∧ off + cap ≤ cur.size ∧ l.length ≤ cap ∧ ∀ (j : Nat) (x : Int), l[j]? = some x → cur[off + j]? = some (.int .i64 x)
section
variable {w w' : World} {lo : Nat} {v : Value} {l : List Int} {S : Nat → Prop}
theorem Que.of_own (h : OwnI w lo v l) (hl : 0 < l.length) : Que w lo v l := by
  rcases h.2 with ⟨_, h0⟩ | ⟨g, cap, cur, rfl, hb, hg, h1, h2, h3, h4⟩
  · omega
  · refine ⟨g, 0, cap, cur, rfl, hb, hg, by omega, h1, fun j x hj => ?_⟩
    have : (ints l)[j]? = some (.int .i64 x) := by rw [ints_get, hj]; rfl
    rw [← h4, List.getElem?_take] at this
    split at this
    · rw [Nat.zero_add]; simpa using this
    · cases this
theorem Que.lt (h : Que w lo v l) {k : Nat} (hk : v.ownBlock = some k) : lo ≤ k ∧ k < w.heap.size := by
  obtain ⟨g, off, cap, cur, rfl, hb, hg, _⟩ := h
  have : g = k := by simpa [Value.ownBlock] using hk
  rw [← this]
  exact ⟨hb, hg.lt⟩
theorem Que.ne {t : TypeId} {g : Nat} {cs : Array Value} (h : Que w lo v l) (hg : Blk w g t cs) (hne : 3 ≠ t) : v.ownBlock ≠ some g := by
  obtain ⟨g', off, cap, cur, rfl, hb, hg', _⟩ := h
  intro e
  have : g' = g := by simpa [Value.ownBlock] using e
  exact Blk.ne_ hg' hg hne this
theorem Que.chg (h : Que w lo v l) (hc : Chg S w w') (hs : ∀ k, v.ownBlock = some k → ¬ S k) : Que w' lo v l := by
  obtain ⟨g, off, cap, cur, rfl, hb, hg, h1, h2, h3⟩ := h
  exact ⟨g, off, cap, cur, rfl, hb, hg.chg hc (hs g rfl), h1, h2, h3⟩
/-- its first one, and what is left -/
theorem Que.front {x : Int} (h : Que w lo v (x :: l)) : ∃ g off cap, v = .slice (some ⟨g, off, none⟩) (l.length + 1) cap ∧ l.length + 1 ≤ cap ∧ w.cell? ⟨g, off, none⟩ = some (.int .i64 x) ∧
    Que w lo (.slice (if cap = 1 then some ⟨g, off, none⟩ else some ⟨g, off + 1, none⟩) l.length (cap - 1)) l := by
  obtain ⟨g, off, cap, cur, rfl, hb, hg, h1, h2, h3⟩ := h
  rw [List.length_cons] at h2
  refine ⟨g, off, cap, rfl, h2, by rw [hg.cell]; exact h3 0 x rfl, ?_⟩
  by_cases hc : cap = 1
  · subst hc
    obtain rfl : l = [] := List.length_eq_zero_iff.1 (by omega)
    rw [if_pos rfl]
    exact ⟨g, off, 0, cur, rfl, hb, hg, by omega, by simp, fun j x hj => by simp at hj⟩
  · rw [if_neg hc]
    refine ⟨g, off + 1, cap - 1, cur, rfl, hb, hg, by omega, by omega, fun j y hj => ?_⟩
    rw [Nat.add_assoc, Nat.add_comm 1 j]
    exact h3 (j + 1) y (by simpa using hj)
theorem append_que (w : World) {ops : Array Oper} {rest : List Oper} {o : Oper} {a : Act} {Q : Exit → Act → World → Prop} (hgd : o.guard = none) (s x : Operand)
    (ho : o.op = .call { callee := .builtin .append, args := #[s, x], argTypes := #[24, 24] })
    (lo : Nat) (v : Value) (l : List Int) (hs : a.eval s = v) (hq : Que w lo v l)
    (ad : Addr) (c : Nat) (y : Int) (hx : a.eval x = .slice (some ad) 1 c) (hc : w.cell? (ad.add 0) = some (.int .i64 y))
    (hb : l.length ≤ 99999) (hbase : lo ≤ w.heap.size)
    (h : ∀ v' w', Que w' lo v' (l ++ [y]) → Chg (fun k => v.ownBlock = some k) w w' → (v'.ownBlock = v.ownBlock ∨ ∃ k, v'.ownBlock = some k ∧ w.heap.size ≤ k) → wpList Try.prog ops Q rest (a.put o.dst v') w') : wpList Try.prog ops Q (o :: rest) a w := by
  obtain ⟨g, off, cap, cur, rfl, hg0, hg, h1, h2, h3⟩ := hq
  obtain ⟨i, hi, hz0, hz1, hz2⟩ := info_parts intInfo
  refine wpList_append_arg w hgd s x _ ho 3 i _ 1 8 Try.underlying24 hi hz0 hz1 hz2 rfl (by omega) g off l.length cap (ints l) hs (by simp [ints]) (fun j u hj => ?_) ad 1 c [.int .i64 y] hx rfl (fun j u hj => ?_) (fun u hu => ?_) (fun hr j hj => ?_) (by simp only [maxLen]; omega) (by omega) (fun hr => ?_) (fun hr v' w' ow hgr => ?_)
  · rw [ints_get] at hj
    obtain ⟨z, hz, rfl⟩ := Option.map_eq_some_iff.1 hj
    rw [hg.cell]
    exact h3 j z hz
  · cases j with
    | zero => have : u = .int .i64 y := by simpa using hj.symm
              rw [this]; exact hc
    | succ j => simp at hj
  · have : u = .int .i64 y := by simpa using hu
    rw [this]; rfl
  · have hj0 : j = 0 := by simpa using hj
    subst hj0
    rw [hg.cell, Nat.mul_one, Nat.add_zero]
    exact ⟨by rw [Array.getElem?_eq_getElem (by omega)]; rfl, hg.frozen _⟩
  · have hset : w.setCells g (off + l.length * 1) [.int .i64 y] = w.setCell ⟨g, off + l.length, none⟩ (.int .i64 y) := by rw [Nat.mul_one]; rfl
    rw [hset]
    refine h _ _ ⟨g, off, cap, _, by rw [List.length_append]; rfl, hg0, hg.set_ (off + l.length) (.int .i64 y), by rw [Array.size_setIfInBounds]; exact h1, by rw [List.length_append]; exact hr, fun j z hj => ?_⟩ ((Chg.refl (fun k => (Value.slice (some ⟨g, off, none⟩) l.length cap).ownBlock = some k) w).setCell (p := ⟨g, off + l.length, none⟩) (fun _ => rfl) _) (.inl rfl)
    by_cases hjl : j < l.length
    · rw [List.getElem?_append_left hjl] at hj
      rw [Array.getElem?_setIfInBounds_ne (by omega)]
      exact h3 j z hj
    · have hjl2 : j = l.length := by
        rcases Nat.lt_or_ge j (l.length + 1) with h5 | h5
        · omega
        · rw [List.getElem?_eq_none (by rw [List.length_append]; exact h5)] at hj; cases hj
      subst hjl2
      have : z = y := by simpa using hj.symm
      rw [this, Array.getElem?_setIfInBounds_self_of_lt (by omega)]
  · have o2 : OwnI w' w.heap.size v' (l ++ [y]) := by
      unfold OwnI
      rw [List.length_append, ints_append]
      exact ow
    obtain ⟨g', _, _, _, e, hg', _⟩ := Que.of_own o2 (by simp)
    refine h v' w' (Que.of_own (own_mono o2 hbase) (by simp)) ((Chg.refl _ w).grown hgr fun k e _ => by cases e) (.inr ⟨g', by rw [e]; rfl, hg'⟩)
end
end Go.Proofs.Ytonopommbpkfgaa

/-
  Orders, rings and paths (plain; no condition).
-/
import Derived.Test.YtonopommbpkfgaaReachPlain
namespace Go.Proofs.Ytonopommbpkfgaa
namespace Topo
theorem sub_len : ∀ (l m : List Int), l.Nodup → (∀ y ∈ l, y ∈ m) → l.length ≤ m.length
  | [], _, _, _ => Nat.zero_le _
  | a :: l, m, nd, h => by
    have ha := h a (List.mem_cons_self ..)
    have nd2 := List.nodup_cons.1 nd
    have := sub_len l (m.erase a) nd2.2 fun y hy => (List.mem_erase_of_ne (fun e => nd2.1 (by rw [← e]; exact hy))).2 (h y (List.mem_cons_of_mem _ hy))
    rw [List.length_erase_of_mem ha] at this
    have h0 : 0 < m.length := List.length_pos_of_mem ha
    rw [List.length_cons]
    omega
section
variable {n : Nat} {ps : List (Int × Int)}
theorem Path.trans {a b c : Int} (h : Path n ps a b) (h' : Path n ps b c) : Path n ps a c := by
  induction h' with
  | one hm ho => exact .more h hm ho
  | more _ hm ho ih => exact .more ih hm ho
theorem Path.right {a b : Int} (h : Path n ps a b) : 0 ≤ b ∧ b < n := by
  cases h with
  | one hm ho => have := okP_iff.1 ho; simp only at this; omega
  | more _ hm ho => have := okP_iff.1 ho; simp only at this; omega
theorem Path.left {a b : Int} (h : Path n ps a b) : 0 ≤ a ∧ a < n := by
  induction h with
  | one hm ho => have := okP_iff.1 ho; simp only at this; omega
  | more _ _ _ ih => exact ih
variable {out : List Int} {x : Int} {a v : Nat → Int}
/-- one has come as soon as all ahead of it have -/
theorem Inv.in_iff (h : Inv n ps out [] [] x a v) {k : Nat} (hk : k < n) : (k : Int) ∈ out ↔ ∀ p ∈ ps, okP n p = true → p.2 = (k : Int) → p.1 ∈ out := by
  have h1 := h.zero k hk
  have h2 := h.cnt k hk
  rw [List.append_nil] at h1
  rw [h1, ← cnt_zero (n := n)]
  simp at h2
  omega
/-- all that lead to one come ahead of it -/
theorem ord_path (h : Ord n ps out) : ∀ (m : Nat) (o1 : List Int) (y : Int) (o2 : List Int), o1.length ≤ m → out = o1 ++ y :: o2 → ∀ z, Path n ps z y → z ∈ o1 := by
  intro m
  induction m with
  | zero =>
    intro o1 y o2 hl e z hz
    obtain rfl : o1 = [] := List.length_eq_zero_iff.1 (by omega)
    have := (h [] y o2 e).1
    cases hz with
    | one hm ho => exact this _ hm ho rfl
    | more _ hm ho => exact absurd (this _ hm ho rfl) (by simp)
  | succ m ih =>
    intro o1 y o2 hl e z hz
    have h1 := (h o1 y o2 e).1
    cases hz with
    | one hm ho => exact h1 _ hm ho rfl
    | more hp hm ho =>
      rename_i b
      have hb : b ∈ o1 := h1 _ hm ho rfl
      obtain ⟨s, t, rfl⟩ := List.append_of_mem hb
      have := ih s b (t ++ y :: o2) (by simp at hl; omega) (by rw [e]; simp) z hp
      exact List.mem_append_left _ this
theorem Inv.no_ring (h : Inv n ps out [] [] x a v) {y : Int} (hy : y ∈ out) : ¬ Path n ps y y := fun hp => by
  obtain ⟨s, t, e⟩ := List.append_of_mem hy
  have h1 := ord_path h.ord s.length s y t (Nat.le_refl _) e y hp
  have nd := h.nd
  rw [List.append_nil, e] at nd
  exact (List.nodup_append.1 nd).2.2 y h1 y (List.mem_cons_self ..) rfl
theorem Inv.path_in (h : Inv n ps out [] [] x a v) {y z : Int} (hy : y ∈ out) (hp : Path n ps z y) : z ∈ out := by
  obtain ⟨s, t, e⟩ := List.append_of_mem hy
  have := ord_path h.ord s.length s y t (Nat.le_refl _) e z hp
  rw [e]
  exact List.mem_append_left _ this
/-- one that can't come has a ring ahead of it -/
theorem Inv.back (h : Inv n ps out [] [] x a v) (k : Int) : ∀ (m : Nat) (c : Int) (V : List Int), n ≤ V.length + m → (0 ≤ c ∧ c < (n : Int)) → c ∉ out → (c = k ∨ Path n ps c k) → (c :: V).Nodup → (∀ y ∈ V, (0 ≤ y ∧ y < (n : Int)) ∧ Path n ps c y) →
    ∃ i, Path n ps i i ∧ (i = k ∨ Path n ps i k) := by
  intro m
  induction m with
  | zero =>
    intro c V hl hc _ _ nd hV
    have := nodup_len n (c :: V) nd fun y hy => by
      rcases List.mem_cons.1 hy with rfl | h1
      · exact hc
      · exact (hV y h1).1
    simp at this
    omega
  | succ m ih =>
    intro c V hl hc hno hck nd hV
    obtain ⟨q, rfl⟩ : ∃ q : Nat, c = (q : Int) := ⟨c.toNat, by omega⟩
    have h1 := mt (h.in_iff (k := q) (by omega)).2 hno
    obtain ⟨b, hm, ho, hp⟩ : ∃ b, (b, (q : Int)) ∈ ps ∧ okP n (b, (q : Int)) = true ∧ b ∉ out := by
      refine Classical.byContradiction fun hall => h1 fun p hm ho e => Classical.byContradiction fun hn => hall ⟨p.1, ?_, ?_, hn⟩
      · rw [← e]; exact hm
      · rw [← e]; exact ho
    have hb := okP_iff.1 ho
    simp only at hb
    have hbc : Path n ps b (q : Int) := .one hm ho
    have hbk : Path n ps b k := by
      rcases hck with e | e
      · rw [← e]; exact hbc
      · exact hbc.trans e
    by_cases e1 : b = (q : Int)
    · exact ⟨b, by rw [e1] at hbc ⊢; exact hbc, .inr hbk⟩
    · by_cases e2 : b ∈ V
      · exact ⟨b, hbc.trans (hV b e2).2, .inr hbk⟩
      · refine ih b ((q : Int) :: V) (by simp; omega) ⟨hb.1, hb.2.1⟩ hp (.inr hbk) (List.nodup_cons.2 ⟨by simp [e1, e2], nd⟩) fun y hy => ?_
        rcases List.mem_cons.1 hy with rfl | h2
        · exact ⟨hc, hbc⟩
        · exact ⟨(hV y h2).1, hbc.trans (hV y h2).2⟩
/-- one can't come: a ring leads to it, or it lies on one -/
theorem Inv.out_iff (h : Inv n ps out [] [] x a v) {k : Nat} (hk : k < n) : (k : Int) ∉ out ↔ ∃ i, Path n ps i i ∧ (i = (k : Int) ∨ Path n ps i k) := by
  constructor
  · intro hno
    exact h.back k n k [] (by simp) (by omega) hno (.inl rfl) (by simp) fun y hy => by cases hy
  · rintro ⟨i, hi, e⟩ hin
    rcases e with rfl | e
    · exact h.no_ring hin hi
    · exact h.no_ring (h.path_in hin e) hi
/-- all have come iff there is no ring -/
theorem Inv.full_iff (h : Inv n ps out [] [] x a v) : out.length = n ↔ ∀ i, ¬ Path n ps i i := by
  have nd := h.nd
  rw [List.append_nil] at nd
  constructor
  · intro hl i hi
    have hr := hi.right
    have hin : i ∈ out := by
      refine Classical.byContradiction fun hno => ?_
      have := nodup_len n (i :: out) (List.nodup_cons.2 ⟨hno, nd⟩) fun y hy => by
        rcases List.mem_cons.1 hy with rfl | h1
        · exact hr
        · exact h.inO y h1
      simp at this
      omega
    exact h.no_ring hin hi
  · intro hno
    have hall : ∀ k : Nat, k < n → (k : Int) ∈ out := fun k hk => Classical.byContradiction fun hn => by
      obtain ⟨i, hi, _⟩ := (h.out_iff hk).1 hn
      exact hno i hi
    have h1 : out.length ≤ n := by have := h.len; simpa using this
    have h2 : ((List.range n).map fun k : Nat => (k : Int)).length ≤ out.length := by
      refine sub_len _ _ (List.Pairwise.map _ (fun a b (h : a ≠ b) => by omega) List.nodup_range) fun y hy => ?_
      obtain ⟨k, hk, rfl⟩ := List.mem_map.1 hy
      exact hall k (List.mem_range.1 hk)
    simp at h2
    omega
end
end Topo
end Go.Proofs.Ytonopommbpkfgaa

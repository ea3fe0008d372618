/-
  Where two right trees are unlike, level by level: what Diff tells, and how many nodes it looks at (plain; no program).
-/
import Derived.Test.YtoddgakhiaokaaaMerkleRight
import Derived.Test.YtoddgakhiaokaaaSets
namespace Go.Proofs.Ytoddgakhiaokaaa
open Go.ChangeShapes Go.WideShapes Go.RowKit Go.Maps
namespace Merkle
/-- the nodes of a level that are unlike, below nodes that are -/
def lvl (T U : Lv) : Nat → List Int
  | 0 => unlike T U 0 [0]
  | l + 1 => unlike T U (l + 1) (spread (lvl T U l))
def cnt (T U : Lv) : Nat → Nat
  | 0 => 0
  | l + 1 => cnt T U l + (lvl T U l).length
theorem diffGo_lvl (T U : Lv) : ∀ (f l : Nat) (now : List Int) (n : Nat), unlike T U l now = lvl T U l → diffGo T U f l now n = (lvl T U (l + f), n + 16 * (cnt T U (l + f) - cnt T U l))
  | 0, l, now, n, h => by rw [diffGo, h]; simp
  | f + 1, l, now, n, h => by
    rw [diffGo, h, diffGo_lvl T U f (l + 1) _ _ rfl, spread_length, show l + 1 + f = l + (f + 1) by omega]
    have hmono : ∀ d a, cnt T U a ≤ cnt T U (a + d) := by
      intro d a
      induction d with
      | zero => exact Nat.le_refl _
      | succ d ih => exact Nat.le_trans ih (by rw [show a + (d + 1) = (a + d) + 1 by omega, cnt]; omega)
    have h1 := hmono f (l + 1)
    rw [show l + 1 + f = l + (f + 1) by omega] at h1
    have h2 : cnt T U (l + 1) = cnt T U l + (lvl T U l).length := rfl
    congr 1
    omega
theorem diff_lvl (T U : Lv) : diffF T U = (lvl T U 4, 1 + 16 * cnt T U 4) := diffGo_lvl T U 4 0 [0] 1 rfl
theorem lvl_low (T U : Lv) : ∀ l, ∀ x ∈ lvl T U l, 0 ≤ x ∧ x < ((16 ^ l : Nat) : Int)
  | 0, x, hx => by
    have := (List.mem_filter.1 hx).1
    simp at this
    subst this
    simp
  | l + 1, x, hx => spread_low (lvl_low T U l) x (List.mem_filter.1 hx).1
theorem lvl_len (T U : Lv) : ∀ l, (lvl T U l).length ≤ 16 ^ l
  | 0 => List.length_filter_le _ _
  | l + 1 => by
    refine Nat.le_trans (List.length_filter_le _ _) ?_
    rw [spread_length, Nat.pow_succ]
    have := lvl_len T U l
    omega
theorem spread_up {l : List Int} (h : l.Pairwise (· < ·)) : (spread l).Pairwise (· < ·) := by
  induction l with
  | nil => exact List.Pairwise.nil
  | cons a l ih =>
    rw [List.pairwise_cons] at h
    have e : spread (a :: l) = ((List.range 16).map fun (i : Nat) => a * 16 + i) ++ spread l := rfl
    rw [e, List.pairwise_append]
    refine ⟨?_, ih h.2, ?_⟩
    · rw [List.pairwise_map]
      exact List.pairwise_lt_range.imp fun hab => by omega
    · intro x hx y hy
      obtain ⟨i, hi, rfl⟩ := List.mem_map.1 hx
      obtain ⟨b, hb, hy⟩ := List.mem_flatMap.1 hy
      obtain ⟨j, hj, rfl⟩ := List.mem_map.1 hy
      have := h.1 b hb
      have := List.mem_range.1 hi
      omega
theorem lvl_up (T U : Lv) : ∀ l, (lvl T U l).Pairwise (· < ·)
  | 0 => List.Pairwise.filter _ (by simp)
  | l + 1 => List.Pairwise.filter _ (spread_up (lvl_up T U l))
theorem mem_spread {l : List Int} {x : Int} : x ∈ spread l ↔ ∃ a ∈ l, ∃ i : Nat, i < 16 ∧ a * 16 + i = x := by
  unfold spread
  rw [List.mem_flatMap]
  constructor
  · rintro ⟨a, ha, h⟩
    obtain ⟨i, hi, rfl⟩ := List.mem_map.1 h
    exact ⟨a, ha, i, List.mem_range.1 hi, rfl⟩
  · rintro ⟨a, ha, i, hi, rfl⟩
    exact ⟨a, ha, List.mem_map.2 ⟨i, List.mem_range.2 hi, rfl⟩⟩
theorem above_zero {key : Int} (h0 : 0 ≤ key) (h1 : key < 65536) : above key 0 = 0 := by unfold above; simp; omega
/-- a node above a key is told at its level just if all above it, and itself, are unlike -/
theorem mem_lvl {T U : Lv} {key : Int} (h0 : 0 ≤ key) (h1 : key < 65536) : ∀ l, l ≤ 4 → (above key l ∈ lvl T U l ↔ upto T U key (l + 1) = true)
  | 0, _ => by
    rw [above_zero h0 h1, lvl, unlike, List.mem_filter, upto_succ, above_zero h0 h1]
    simp [upto]
  | l + 1, hl => by
    have ih := mem_lvl (T := T) (U := U) h0 h1 l (by omega)
    rw [lvl, unlike, List.mem_filter, upto_succ, Bool.and_eq_true, ← ih, mem_spread]
    constructor
    · rintro ⟨⟨a, ha, i, hi, e⟩, hq⟩
      rw [above_up h0 (by omega) hi e] at ha
      exact ⟨ha, hq⟩
    · rintro ⟨ha, hq⟩
      obtain ⟨i, hi, e⟩ := above_child h0 (l := l) (by omega)
      exact ⟨⟨_, ha, i, hi, e.symm⟩, hq⟩
theorem mem_four {T U : Lv} {key : Int} (h0 : 0 ≤ key) (h1 : key < 65536) : key ∈ lvl T U 4 ↔ upto T U key 5 = true := by
  have := mem_lvl (T := T) (U := U) h0 h1 4 (Nat.le_refl _)
  rwa [above_leaf] at this
/-- below a node that has a sum there is a key -/
theorem has_key {T : Lv} (h : Right T) : ∀ (d l : Nat) (x : Int), l + d = 4 → 0 ≤ x → x < ((16 ^ l : Nat) : Int) → (T l x).isSome = true → ∃ k, 0 ≤ k ∧ k < 65536 ∧ above k l = x ∧ (T 4 k).isSome = true
  | 0, l, x, hl, h0, h1, hs => by
    obtain rfl : l = 4 := by omega
    exact ⟨x, h0, by simpa using h1, above_leaf x, hs⟩
  | d + 1, l, x, hl, h0, h1, hs => by
    rw [h.node l (by omega)] at hs
    unfold want at hs
    cases hq : someIn (T (l + 1)) x with
    | false => rw [hq] at hs; cases hs
    | true =>
      obtain ⟨i, hi, hsi⟩ := List.any_eq_true.1 hq
      have hi := List.mem_range.1 hi
      obtain ⟨k, k0, k1, hk, hk4⟩ := has_key h d (l + 1) (x * 16 + i) (by omega) (by omega) (by rw [Nat.pow_succ]; omega) hsi
      exact ⟨k, k0, k1, (above_up k0 (by omega) hi hk.symm).symm, hk4⟩
theorem lvl_key {T U : Lv} (ht : Right T) (hu : Right U) {l : Nat} (hl : l ≤ 4) {x : Int} (hx : x ∈ lvl T U l) : ∃ k, 0 ≤ k ∧ k < 65536 ∧ above k l = x ∧ ((T 4 k).isSome = true ∨ (U 4 k).isSome = true) := by
  obtain ⟨h0, h1⟩ := lvl_low T U l x hx
  have hne : sumAt T l x ≠ sumAt U l x := by
    cases l with
    | zero => simpa using (List.mem_filter.1 hx).2
    | succ l => simpa using (List.mem_filter.1 hx).2
  cases hT : T l x with
  | some c =>
    obtain ⟨k, k0, k1, hk, h4⟩ := has_key ht (4 - l) l x (by omega) h0 h1 (by rw [hT]; rfl)
    exact ⟨k, k0, k1, hk, .inl h4⟩
  | none =>
    cases hU : U l x with
    | some c =>
      obtain ⟨k, k0, k1, hk, h4⟩ := has_key hu (4 - l) l x (by omega) h0 h1 (by rw [hU]; rfl)
      exact ⟨k, k0, k1, hk, .inr h4⟩
    | none => exact absurd (by unfold sumAt; rw [hT, hU]) hne
def code (l : Nat) (x : Int) : Int := (l : Int) * 1048576 + x
/-- of a key: the codes of the nodes above it, at levels below v, that are told -/
def codeK (T U : Lv) (k : Int) (v : Nat) (c : Int) : Bool := (List.range v).any fun l => upto T U k (l + 1) && decide (l < 4) && decide (c = code l (above k l))
theorem codeK_succ (T U : Lv) (k : Int) (v : Nat) (c : Int) : codeK T U k (v + 1) c = (codeK T U k v c || (upto T U k (v + 1) && decide (v < 4) && decide (c = code v (above k v)))) := by
  unfold codeK
  rw [List.range_succ, List.any_append]
  simp
def codeB (T U : Lv) (ks : List Int) (c : Int) : Bool := ks.any fun k => codeK T U k 5 c
theorem codeB_succ {T U : Lv} {ks : List Int} {i : Nat} {k : Int} (h : ks[i]? = some k) (c : Int) : codeB T U (ks.take (i + 1)) c = (codeB T U (ks.take i) c || codeK T U k 5 c) := by
  unfold codeB
  rw [List.take_add_one, h, List.any_append]
  simp
def codesL (T U : Lv) : Nat → List Int
  | 0 => []
  | l + 1 => codesL T U l ++ (lvl T U l).map (code l)
theorem codes_len (T U : Lv) : ∀ l, (codesL T U l).length = cnt T U l
  | 0 => rfl
  | l + 1 => by rw [codesL, List.length_append, List.length_map, codes_len T U l, cnt]
theorem codes_low (T U : Lv) : ∀ l, l ≤ 4 → ∀ c ∈ codesL T U l, 0 ≤ c ∧ c < (l : Int) * 1048576
  | 0, _, c, h => by cases h
  | l + 1, hl, c, h => by
    rw [codesL, List.mem_append] at h
    rcases h with h | h
    · have := codes_low T U l (by omega) c h
      omega
    · obtain ⟨x, hx, rfl⟩ := List.mem_map.1 h
      have hb := lvl_low T U l x hx
      have : (16 : Nat) ^ l ≤ 65536 := Nat.le_trans (Nat.pow_le_pow_right (by omega) (show l ≤ 4 by omega)) (by decide)
      unfold code
      omega
theorem codes_nodup (T U : Lv) : ∀ l, l ≤ 4 → (codesL T U l).Nodup
  | 0, _ => List.nodup_nil
  | l + 1, hl => by
    rw [codesL, List.nodup_append]
    refine ⟨codes_nodup T U l (by omega), ?_, ?_⟩
    · rw [List.nodup_iff_pairwise_ne, List.pairwise_map]
      exact (lvl_up T U l).imp fun h => by unfold code; omega
    · intro a ha b hb
      have h1 := codes_low T U l (by omega) a ha
      obtain ⟨x, hx, rfl⟩ := List.mem_map.1 hb
      have := lvl_low T U l x hx
      unfold code
      omega
theorem mem_codes (T U : Lv) {c : Int} : ∀ l, c ∈ codesL T U l ↔ ∃ m, m < l ∧ ∃ x ∈ lvl T U m, c = code m x
  | 0 => by simp [codesL]
  | l + 1 => by
    rw [codesL, List.mem_append, mem_codes T U l, List.mem_map]
    constructor
    · rintro (⟨m, hm, h⟩ | ⟨x, hx, rfl⟩)
      · exact ⟨m, by omega, h⟩
      · exact ⟨l, by omega, x, hx, rfl⟩
    · rintro ⟨m, hm, x, hx, rfl⟩
      by_cases e : m = l
      · subst e; exact .inr ⟨x, hx, rfl⟩
      · exact .inl ⟨m, by omega, x, hx, rfl⟩
/-- of all keys, the codes are all nodes' that are told -/
theorem codes_all {T U : Lv} (ht : Right T) (hu : Right U) {ks : List Int} (hin : ∀ k ∈ ks, 0 ≤ k ∧ k < 65536) (hall : ∀ k, (T 4 k).isSome = true ∨ (U 4 k).isSome = true → k ∈ ks) (c : Int) : c ∈ codesL T U 4 ↔ (inKind .i64 c ∧ codeB T U ks c = true) := by
  constructor
  · intro hc
    refine ⟨inI64 (by have := codes_low T U 4 (Nat.le_refl _) c hc; omega) (by have := codes_low T U 4 (Nat.le_refl _) c hc; omega), ?_⟩
    obtain ⟨m, hm, x, hx, rfl⟩ := (mem_codes T U 4).1 hc
    obtain ⟨k, k0, k1, hk, h4⟩ := lvl_key ht hu (by omega) hx
    refine List.any_eq_true.2 ⟨k, hall k h4, List.any_eq_true.2 ⟨m, List.mem_range.2 (by omega), ?_⟩⟩
    rw [← hk] at hx ⊢
    rw [(mem_lvl k0 k1 m (by omega)).1 hx]
    simp [hm]
  · rintro ⟨_, hc⟩
    obtain ⟨k, hk, hc⟩ := List.any_eq_true.1 hc
    obtain ⟨m, hm, hc⟩ := List.any_eq_true.1 hc
    simp only [Bool.and_eq_true, decide_eq_true_eq] at hc
    obtain ⟨k0, k1⟩ := hin k hk
    exact (mem_codes T U 4).2 ⟨m, hc.1.2, above k m, (mem_lvl k0 k1 m (by omega)).2 hc.1.1, hc.2⟩
end Merkle
end Go.Proofs.Ytoddgakhiaokaaa

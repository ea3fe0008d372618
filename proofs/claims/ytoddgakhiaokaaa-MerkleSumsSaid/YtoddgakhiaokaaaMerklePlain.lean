/-
  Trees of sums as functions: a key put, all above it reckoned anew; where two trees are unlike (plain; no program).
-/
import Derived.Test.YtoddgakhiaokaaaMaps
namespace Go.Proofs.Ytoddgakhiaokaaa
namespace Merkle
/-- of each level, the sums of nodes that have keys below them -/
abbrev Lv := Nat → Int → Option Int
/-- how a node's sum is reckoned of the next level -/
abbrev Ns := (Int → Option Int) → Int → Int
def someIn (L : Int → Option Int) (at_ : Int) : Bool := (List.range 16).any fun (i : Nat) => (L (at_ * 16 + i)).isSome
def reckonF (ns : Ns) (T : Lv) (l : Nat) (at_ : Int) : Lv := fun m => if m = l then upd (T l) at_ (if someIn (T (l + 1)) at_ then some (ns (T (l + 1)) at_) else none) else T m
/-- the node above a key at level l -/
def above (key : Int) (l : Nat) : Int := key / 16 ^ (4 - l)
/-- all above a key reckoned anew, from level n - 1 to 0 -/
def climbF (ns : Ns) (T : Lv) (key : Int) : Nat → Lv
  | 0 => T
  | n + 1 => climbF ns (reckonF ns T n (above key n)) key n
def leafF (T : Lv) (key : Int) (v : Option Int) : Lv := fun m => if m = 4 then upd (T 4) key v else T m
def putF (ns : Ns) (T : Lv) (key sum : Int) : Lv := climbF ns (leafF T key (some sum)) key 4
def dropF (ns : Ns) (T : Lv) (key : Int) : Lv := climbF ns (leafF T key none) key 4
theorem reckon_off {ns : Ns} {T : Lv} {l m : Nat} {at_ x : Int} (h : m ≠ l ∨ x ≠ at_) : reckonF ns T l at_ m x = T m x := by
  unfold reckonF
  split
  · rename_i e
    subst e
    rw [upd, if_neg (h.resolve_left fun h => h rfl)]
  · rfl
theorem climb_off {ns : Ns} {key : Int} {l : Nat} {x : Int} (h : x ≠ above key l) : ∀ (n : Nat) (T : Lv), climbF ns T key n l x = T l x
  | 0, _ => rfl
  | n + 1, T => by
    rw [climbF, climb_off h n]
    by_cases e : l = n
    · subst e
      exact reckon_off (.inr h)
    · exact reckon_off (.inl e)
theorem climb_high {ns : Ns} {key : Int} {l : Nat} {x : Int} : ∀ (n : Nat) (T : Lv), n ≤ l → climbF ns T key n l x = T l x
  | 0, _, _ => rfl
  | n + 1, T, h => by
    rw [climbF, climb_high n _ (by omega)]
    exact reckon_off (.inl (by omega))
theorem above_leaf (key : Int) : above key 4 = key := by simp [above]
theorem put_off {ns : Ns} {T : Lv} {key s : Int} {l : Nat} {x : Int} (h : x ≠ above key l) : putF ns T key s l x = T l x := by
  unfold putF
  rw [climb_off h]
  unfold leafF
  split
  · rename_i e
    subst e
    rw [above_leaf] at h
    rw [upd, if_neg h]
  · rfl
theorem put_leaf {ns : Ns} {T : Lv} {key s : Int} : putF ns T key s 4 key = some s := by
  unfold putF
  rw [climb_high 4 _ (Nat.le_refl _)]
  simp [leafF, upd]
/-- a node's sum; 0: nothing is below it -/
def sumAt (T : Lv) (l : Nat) (x : Int) : Int := (T l x).getD 0
def unlike (T U : Lv) (l : Nat) (now : List Int) : List Int := now.filter fun x => sumAt T l x != sumAt U l x
def spread (now : List Int) : List Int := now.flatMap fun at_ => (List.range 16).map fun (i : Nat) => at_ * 16 + i
/-- what is left at each level: the nodes looked at, and those that are unlike at the last one -/
def diffGo (T U : Lv) : Nat → Nat → List Int → Nat → List Int × Nat
  | 0, l, now, looked => (unlike T U l now, looked)
  | f + 1, l, now, looked => diffGo T U f (l + 1) (spread (unlike T U l now)) (looked + (spread (unlike T U l now)).length)
def diffF (T U : Lv) : List Int × Nat := diffGo T U 4 0 [0] 1
theorem spread_nil : spread [] = [] := rfl
theorem diffGo_nil (T U : Lv) : ∀ (f l n : Nat), diffGo T U f l [] n = ([], n)
  | 0, l, n => rfl
  | f + 1, l, n => by
    rw [diffGo, show unlike T U l [] = [] from rfl, spread_nil, diffGo_nil T U f]
    rfl
theorem above_child {key : Int} (h0 : 0 ≤ key) {l : Nat} (hl : l < 4) : ∃ i : Nat, i < 16 ∧ above key (l + 1) = above key l * 16 + i := by
  unfold above
  obtain ⟨k, rfl⟩ := Int.eq_ofNat_of_zero_le h0
  have hp : (16 : Nat) ^ (4 - l) = 16 ^ (4 - (l + 1)) * 16 := by rw [← Nat.pow_succ]; congr 1; omega
  refine ⟨k / 16 ^ (4 - (l + 1)) % 16, Nat.mod_lt _ (by omega), ?_⟩
  have e1 : ((16 : Int) ^ (4 - (l + 1))) = ((16 ^ (4 - (l + 1)) : Nat) : Int) := by simp
  have e2 : ((16 : Int) ^ (4 - l)) = ((16 ^ (4 - l) : Nat) : Int) := by simp
  rw [e1, e2, hp]
  have := Nat.div_add_mod (k / 16 ^ (4 - (l + 1))) 16
  generalize hx : k / 16 ^ (4 - (l + 1)) = x at *
  have e3 : ((k : Int) / ((16 ^ (4 - (l + 1)) : Nat) : Int)) = (x : Int) := by rw [← hx]; rfl
  have e4 : ((k : Int) / ((16 ^ (4 - (l + 1)) * 16 : Nat) : Int)) = ((x / 16 : Nat) : Int) := by rw [← hx, Nat.div_div_eq_div_mul]; rfl
  first | (rw [e3, e4]; omega) | omega
/-- two trees that are unlike on the way to one key alone -/
def OnPath (T U : Lv) (key : Int) : Prop := ∀ l x, x ≠ above key l → sumAt T l x = sumAt U l x
theorem filter_path {α : Type} {p : α → Bool} {y : α} : ∀ {l : List α}, l.Pairwise (· ≠ ·) → (∀ x ∈ l, x ≠ y → p x = false) → y ∈ l → l.filter p = if p y then [y] else []
  | x :: l, hd, hp, hy => by
    rw [List.pairwise_cons] at hd
    by_cases e : x = y
    · subst e
      have hnil : l.filter p = [] := List.filter_eq_nil_iff.2 fun z hz => by
        rw [hp z (List.mem_cons_of_mem _ hz) fun e => hd.1 z hz e.symm]
        simp
      rw [List.filter_cons, hnil]
    · have hy' : y ∈ l := by
        rcases List.mem_cons.1 hy with h | h
        · exact absurd h.symm e
        · exact h
      rw [List.filter_cons, hp x (List.mem_cons_self ..) e]
      simp only [Bool.false_eq_true, if_false]
      exact filter_path hd.2 (fun z hz => hp z (List.mem_cons_of_mem _ hz)) hy'
theorem unlike_one {T U : Lv} {key : Int} (h : OnPath T U key) {l : Nat} {now : List Int} (hd : now.Pairwise (· ≠ ·)) (hm : above key l ∈ now) : unlike T U l now = if sumAt T l (above key l) != sumAt U l (above key l) then [above key l] else [] :=
  filter_path hd (fun x _ hx => by rw [h l x hx]; simp) hm
theorem spread_one (x : Int) : spread [x] = (List.range 16).map fun (i : Nat) => x * 16 + i := by simp [spread]
theorem spread_distinct (x : Int) : (spread [x]).Pairwise (· ≠ ·) := by
  rw [spread_one, List.pairwise_map]
  refine List.Pairwise.imp_of_mem ?_ List.nodup_range
  intro a b _ _ hab e
  exact hab (by omega)
theorem spread_len (x : Int) : (spread [x]).length = 16 := by simp [spread_one]
theorem spread_mem {key : Int} (h0 : 0 ≤ key) {l : Nat} (hl : l < 4) : above key (l + 1) ∈ spread [above key l] := by
  obtain ⟨i, hi, e⟩ := above_child h0 hl
  rw [spread_one, e]
  exact List.mem_map.2 ⟨i, List.mem_range.2 hi, rfl⟩
/-- are the sums above the key unlike, from level l on, at f levels? -/
def chain (T U : Lv) (key : Int) : Nat → Nat → Bool
  | 0, _ => true
  | f + 1, l => (sumAt T l (above key l) != sumAt U l (above key l)) && chain T U key f (l + 1)
theorem diffGo_path {T U : Lv} {key : Int} (h0 : 0 ≤ key) (h : OnPath T U key) (hleaf : sumAt T 4 key ≠ sumAt U 4 key) : ∀ (f l : Nat) (now : List Int) (n : Nat), f + l = 4 → now.Pairwise (· ≠ ·) → above key l ∈ now →
    (chain T U key f l = true → diffGo T U f l now n = ([key], n + 16 * f)) ∧ (chain T U key f l = false → (diffGo T U f l now n).1 = [] ∧ (diffGo T U f l now n).2 < n + 16 * f)
  | 0, l, now, n, hl, hd, hm => by
    obtain rfl : l = 4 := by omega
    refine ⟨fun _ => ?_, fun hc => by simp [chain] at hc⟩
    rw [diffGo, unlike_one h hd hm, above_leaf, if_pos (by simpa using hleaf)]
    rfl
  | f + 1, l, now, n, hl, hd, hm => by
    by_cases hu : (sumAt T l (above key l) != sumAt U l (above key l)) = true
    · have ih := diffGo_path h0 h hleaf f (l + 1) (spread [above key l]) (n + 16) (by omega) (spread_distinct _) (spread_mem h0 (by omega))
      rw [diffGo, unlike_one h hd hm, if_pos hu, spread_len]
      have hc : chain T U key (f + 1) l = chain T U key f (l + 1) := by rw [chain, hu, Bool.true_and]
      rw [hc]
      refine ⟨fun h => ?_, fun h => ?_⟩
      · rw [ih.1 h]
        congr 1
        omega
      · obtain ⟨a, b⟩ := ih.2 h
        exact ⟨a, by omega⟩
    · rw [diffGo, unlike_one h hd hm, if_neg hu, spread_nil, diffGo_nil]
      have hc : chain T U key (f + 1) l = false := by rw [chain]; simp at hu; simp [hu]
      refine ⟨(fun h => by rw [hc] at h; cases h), fun _ => ⟨rfl, ?_⟩⟩
      simp
theorem diff_path {T U : Lv} {key : Int} (h0 : 0 ≤ key) (h1 : key < 65536) (h : OnPath T U key) (hleaf : sumAt T 4 key ≠ sumAt U 4 key) :
    (chain T U key 4 0 = true → diffF T U = ([key], 65)) ∧ (chain T U key 4 0 = false → (diffF T U).1 = [] ∧ (diffF T U).2 < 65) := by
  have hz : above key 0 = 0 := by unfold above; simp; omega
  exact diffGo_path h0 h hleaf 4 0 [0] 1 rfl (by simp) (by rw [hz]; simp)
theorem put_path (ns : Ns) (T : Lv) (key a b : Int) : OnPath (putF ns T key a) (putF ns T key b) key := fun l x hx => by
  unfold sumAt
  rw [put_off hx, put_off hx]
end Merkle
end Go.Proofs.Ytoddgakhiaokaaa

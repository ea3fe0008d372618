/-
  Trees of sums that are right: each node's sum is what its children's tell; such a tree hangs on its keys' sums alone (plain; no program).
-/
import Derived.Test.YtoddgakhiaokaaaMerkleArgs
namespace Go.Proofs.Ytoddgakhiaokaaa
open Go.ChangeShapes Go.WideShapes Go.RowKit Go.Maps
namespace Merkle
theorem ns_local {L L' : Int → Option Int} {x : Int} (h : ∀ i : Nat, i < 16 → L (x * 16 + i) = L' (x * 16 + i)) : ns L x = ns L' x := by
  have : ∀ k, k ≤ 16 → chB L x k = chB L' x k := by
    intro k
    induction k with
    | zero => intro _; rfl
    | succ k ih =>
      intro hk
      rw [chB_succ, chB_succ, ih (by omega), h k (by omega)]
  unfold ns
  rw [this 16 (Nat.le_refl _)]
theorem some_local {L L' : Int → Option Int} {x : Int} (h : ∀ i : Nat, i < 16 → L (x * 16 + i) = L' (x * 16 + i)) : someIn L x = someIn L' x := by
  unfold someIn
  rw [Bool.eq_iff_iff, List.any_eq_true, List.any_eq_true]
  constructor
  · rintro ⟨i, hi, hs⟩
    exact ⟨i, hi, by rw [← h i (List.mem_range.1 hi)]; exact hs⟩
  · rintro ⟨i, hi, hs⟩
    exact ⟨i, hi, by rw [h i (List.mem_range.1 hi)]; exact hs⟩
/-- what a node's sum is to be, of its children's -/
def want (L : Int → Option Int) (x : Int) : Option Int := if someIn L x then some (ns L x) else none
theorem want_local {L L' : Int → Option Int} {x : Int} (h : ∀ i : Nat, i < 16 → L (x * 16 + i) = L' (x * 16 + i)) : want L x = want L' x := by
  unfold want
  rw [ns_local h, some_local h]
structure Right (T : Lv) : Prop where
  node : ∀ l, l < 4 → ∀ x, T l x = want (T (l + 1)) x
  leaf : ∀ x c, T 4 x = some c → 0 ≤ x ∧ x ≤ 65535 ∧ c ≠ 0
theorem right_nil : Right nilT := ⟨fun l _ x => by simp [want, someIn, nilT], fun x c h => by cases h⟩
theorem above_up {key : Int} (h0 : 0 ≤ key) {l : Nat} (hl : l < 4) {x : Int} {i : Nat} (hi : i < 16) (h : x * 16 + i = above key (l + 1)) : x = above key l := by
  obtain ⟨j, hj, e⟩ := above_child h0 hl
  omega
/-- right at all levels from n on, and at the others beside the way to a key -/
structure Mid (T : Lv) (key : Int) (n : Nat) : Prop where
  high : ∀ l, n ≤ l → l < 4 → ∀ x, T l x = want (T (l + 1)) x
  low : ∀ l, l < n → l < 4 → ∀ x, x ≠ above key l → T l x = want (T (l + 1)) x
theorem mid_step {T : Lv} {key : Int} (h0 : 0 ≤ key) {n : Nat} (hn : n < 4) (h : Mid T key (n + 1)) : Mid (reckonF ns T n (above key n)) key n := by
  have hsame : ∀ l, l ≠ n → reckonF ns T n (above key n) l = T l := fun l hl => by
    funext x
    exact reckon_off (.inl hl)
  constructor
  · intro l hl hl4 x
    by_cases e : l = n
    · subst e
      rw [hsame (l + 1) (by omega)]
      by_cases ex : x = above key l
      · subst ex
        unfold reckonF
        rw [if_pos rfl, upd, if_pos rfl]
        rfl
      · rw [reckon_off (.inr ex)]
        exact h.low l (by omega) hl4 x ex
    · rw [hsame l e, hsame (l + 1) (by omega)]
      exact h.high l (by omega) hl4 x
  · intro l hl hl4 x hx
    rw [hsame l (by omega)]
    rw [h.low l (by omega) hl4 x hx]
    by_cases e : l + 1 = n
    · subst e
      refine want_local fun i hi => (reckon_off (.inr fun e => hx (above_up h0 hl4 hi e))).symm
    · rw [hsame (l + 1) e]
theorem mid_climb {key : Int} (h0 : 0 ≤ key) : ∀ (n : Nat) (T : Lv), n ≤ 4 → Mid T key n → Mid (climbF ns T key n) key 0
  | 0, T, _, h => h
  | n + 1, T, hn, h => mid_climb h0 n _ (by omega) (mid_step h0 (by omega) h)
theorem climb_leaf (T : Lv) (key : Int) (v : Option Int) : climbF ns (leafF T key v) key 4 4 = upd (T 4) key v := by
  funext x
  rw [climb_high 4 _ (Nat.le_refl _)]
  unfold leafF
  rw [if_pos rfl]
theorem right_leaf {T : Lv} (h : Right T) {key : Int} (h0 : 0 ≤ key) (h1 : key ≤ 65535) (v : Option Int) (hv : v ≠ some 0) : Right (climbF ns (leafF T key v) key 4) := by
  have hm : Mid (leafF T key v) key 4 := by
    constructor
    · intro l h1 h2; omega
    · intro l hl _ x hx
      have hs : ∀ m, m ≠ 4 → leafF T key v m = T m := fun m hm => by unfold leafF; rw [if_neg hm]
      rw [hs l (by omega), h.node l hl]
      by_cases e : l + 1 = 4
      · refine want_local fun i hi => ?_
        have : leafF T key v (l + 1) = upd (T (l + 1)) key v := by unfold leafF; rw [if_pos e, e]
        rw [this, upd, if_neg]
        intro e2
        refine hx (above_up h0 hl hi (e2.trans ?_))
        rw [e, above_leaf]
      · rw [hs (l + 1) e]
  have hc := mid_climb h0 4 _ (Nat.le_refl _) hm
  refine ⟨fun l hl x => hc.high l (Nat.zero_le _) hl x, fun x c hx => ?_⟩
  rw [climb_leaf] at hx
  unfold upd at hx
  split at hx
  · rename_i e
    subst e
    exact ⟨h0, h1, fun e => hv (by rw [hx, e])⟩
  · exact h.leaf x c hx
theorem right_eq {T U : Lv} (ht : Right T) (hu : Right U) (h4 : T 4 = U 4) {l : Nat} (hl : l ≤ 4) : T l = U l := by
  have : ∀ d, d ≤ 4 → T (4 - d) = U (4 - d) := by
    intro d
    induction d with
    | zero => intro _; exact h4
    | succ d ih =>
      intro hd
      funext x
      rw [ht.node (4 - (d + 1)) (by omega), hu.node (4 - (d + 1)) (by omega), show 4 - (d + 1) + 1 = 4 - d by omega, ih (by omega)]
  have := this (4 - l) (by omega)
  rwa [show 4 - (4 - l) = l by omega] at this
theorem right_sum {T U : Lv} (ht : Right T) (hu : Right U) (h4 : T 4 = U 4) {l : Nat} (hl : l ≤ 4) (x : Int) : sumAt T l x = sumAt U l x := by
  unfold sumAt
  rw [right_eq ht hu h4 hl]
/-- a put, on the keys' sums -/
def putL (L : Int → Option Int) (a : Int × Nat) : Int → Option Int := if 0 ≤ a.1 ∧ a.1 ≤ 65535 ∧ a.2 ≠ 0 then upd L a.1 (some a.2) else L
theorem putS_leaf (T : Lv) (x : Int) (s : Nat) : putS T x s 4 = putL (T 4) (x, s) := by
  unfold putS putL
  split
  · exact climb_leaf T x _
  · rfl
theorem putS_right {T : Lv} (h : Right T) (x : Int) (s : Nat) : Right (putS T x s) := by
  unfold putS
  split
  · rename_i e
    exact right_leaf h e.1 e.2.1 _ (by intro e2; injection e2 with e2; exact e.2.2 (by omega))
  · exact h
/-- what a call of Drop leaves -/
def dropS (T : Lv) (x : Int) : Lv := if sumAt T 4 x = 0 then T else dropF ns T x
theorem leaf_zero {T : Lv} (h : Right T) {x : Int} (hs : sumAt T 4 x = 0) : T 4 x = none := by
  unfold sumAt at hs
  cases hx : T 4 x with
  | none => rfl
  | some c =>
    rw [hx] at hs
    exact absurd hs (h.leaf x c hx).2.2
theorem leaf_in {T : Lv} (h : Right T) {x : Int} (hs : sumAt T 4 x ≠ 0) : 0 ≤ x ∧ x ≤ 65535 := by
  unfold sumAt at hs
  cases hx : T 4 x with
  | none => rw [hx] at hs; exact absurd rfl hs
  | some c => exact ⟨(h.leaf x c hx).1, (h.leaf x c hx).2.1⟩
theorem upd_none {L : Int → Option Int} {x : Int} (h : L x = none) : upd L x none = L := by
  funext y
  unfold upd
  split
  · rename_i e
    rw [e, h]
  · rfl
theorem dropS_leaf {T : Lv} (h : Right T) (x : Int) : dropS T x 4 = upd (T 4) x none := by
  unfold dropS
  split
  · rename_i e
    rw [upd_none (leaf_zero h e)]
  · exact climb_leaf T x none
theorem dropS_right {T : Lv} (h : Right T) (x : Int) : Right (dropS T x) := by
  unfold dropS
  split
  · exact h
  · rename_i e
    exact right_leaf h (leaf_in h e).1 (leaf_in h e).2 none (by intro e; cases e)
/-! ### puts in another order -/
def noL : Int → Option Int := fun _ => none
theorem fold_or (l : List (Int × Nat)) : ∀ (L : Int → Option Int) (y : Int), l.foldl putL L y = (l.foldl putL noL y).or (L y) := by
  induction l with
  | nil => intro L y; rfl
  | cons a l ih =>
    intro L y
    rw [List.foldl_cons, List.foldl_cons, ih (putL L a), ih (putL noL a)]
    generalize l.foldl putL noL y = z
    unfold putL
    split
    · unfold upd
      split
      · cases z <;> rfl
      · cases z <;> rfl
    · cases z <;> rfl
/-- is a key put later on? -/
def laterB (a : Int × Nat) (l : List (Int × Nat)) : Bool := l.any fun b => decide (b.1 = a.1) && decide (b.2 ≠ 0)
theorem later_some {a : Int × Nat} (h0 : 0 ≤ a.1) (h1 : a.1 ≤ 65535) : ∀ {l : List (Int × Nat)}, (l.foldl putL noL a.1).isSome = laterB a l
  | [] => rfl
  | b :: l => by
    rw [List.foldl_cons, fold_or]
    have ih := later_some h0 h1 (l := l)
    have e : laterB a (b :: l) = ((decide (b.1 = a.1) && decide (b.2 ≠ 0)) || laterB a l) := rfl
    rw [e, ← ih]
    cases l.foldl putL noL a.1 with
    | some c => simp
    | none =>
      simp only [Option.or, Option.isSome_none, Bool.or_false]
      unfold putL
      by_cases hb : b.1 = a.1
      · by_cases h2 : b.2 = 0
        · rw [if_neg (by simp [h2])]; simp [noL, h2]
        · rw [if_pos ⟨by omega, by omega, h2⟩]; simp [upd, hb, h2]
      · split
        · simp [upd, noL, Ne.symm hb, hb]
        · simp [noL, hb]
theorem fold_back (a : Int × Nat) (l : List (Int × Nat)) : (a :: l).foldl putL noL = if laterB a l then l.foldl putL noL else putL (l.foldl putL noL) a := by
  funext y
  rw [List.foldl_cons, fold_or]
  by_cases hv : 0 ≤ a.1 ∧ a.1 ≤ 65535 ∧ a.2 ≠ 0
  · have hs := later_some hv.1 hv.2.1 (l := l)
    have hp : ∀ L, putL L a = upd L a.1 (some (a.2 : Int)) := fun L => by unfold putL; rw [if_pos hv]
    rw [hp, hp]
    cases hl : laterB a l with
    | true =>
      rw [hl] at hs
      rw [if_pos rfl]
      unfold upd
      split
      · rename_i e
        rw [e]
        cases hq : l.foldl putL noL a.1 with
        | none => rw [hq] at hs; cases hs
        | some c => rfl
      · cases l.foldl putL noL y <;> rfl
    | false =>
      rw [hl] at hs
      rw [if_neg (by simp)]
      unfold upd
      split
      · rename_i e
        rw [e]
        cases hq : l.foldl putL noL a.1 with
        | none => rfl
        | some c => rw [hq] at hs; cases hs
      · cases l.foldl putL noL y <;> rfl
  · have hp : ∀ L, putL L a = L := fun L => by unfold putL; rw [if_neg hv]
    rw [hp, hp]
    have : (l.foldl putL noL y).or (noL y) = l.foldl putL noL y := by cases l.foldl putL noL y <;> rfl
    rw [this]
    split <;> rfl
theorem sum_any (w : World) (lo b n : Nat) (gs : Nat → Nat) (T : Lv) (h : At w lo b gs n T) (x : Int) (h1 : -9223372036854775808 ≤ x) (h2 : x ≤ 9223372036854775807) :
    Calls Try.prog 17 #[ptr b, .int .i64 4, .int .i64 x] w fun e w' => e = .returned (.int .u32 (sumAt T 4 x)) ∧ w = w' := sum w lo b n gs T h 4 (by omega) x h1 h2
set_option maxHeartbeats 1000000 in
theorem drop_any (w : World) (lo b n : Nat) (gs : Nat → Nat) (T : Lv) (h : At w lo b gs n T) (hr : Right T) (x : Int) (h1 : -9223372036854775808 ≤ x) (h2 : x ≤ 9223372036854775807) (hn : n < 80000) :
    Calls Try.prog 12 #[ptr b, .int .i64 x] w fun e w' => e = .returned (.bool (T 4 x).isSome) ∧ At w' lo b gs (n + 5) (dropS T x) ∧ Chg (Foot gs) w w' := by
  by_cases hs : sumAt T 4 x = 0
  · have hl := leaf_zero hr hs
    have C := sum_any w lo b n gs T h x h1 h2
    rw [hs] at C
    have C := Lib.hid C
    rw [hl]
    unfold dropS
    rw [if_pos hs]
    have H := Lib.hid (h.mono (Nat.le_add_right n 5))
    clear h hs hl hr
    by_cases hx : x < 0
    · go_enter Try.func12, Try.ntmps12
      go_wp2
      go_ret
      exact ⟨rfl, H.out, Chg.refl _ _⟩
    · have hx' : decide (x < 0) = false := by simp; omega
      go_enter Try.func12, Try.ntmps12
      go_wp2_with fail
      refine C.out.mono ?_
      rintro e w1 ⟨rfl, rfl⟩
      go_wp2
      go_ret
      exact ⟨rfl, H.out, Chg.refl _ _⟩
  · obtain ⟨h0, h65⟩ := leaf_in hr hs
    obtain ⟨k, rfl⟩ := Int.eq_ofNat_of_zero_le h0
    unfold dropS
    rw [if_neg hs]
    have : (T 4 (k : Int)).isSome = true := by
      unfold sumAt at hs
      cases hq : T 4 (k : Int) with
      | none => rw [hq] at hs; exact absurd rfl hs
      | some c => rfl
    rw [this]
    exact drop_ok w lo b n gs T h k (by omega) hs hn
/-- the acts as a list -/
theorem choose_acts {w : World} {A : Option Addr} {n : Nat} (h : ∀ k, k < n → ∃ x s, ActAt w A k x s) : ∃ acts : List (Int × Nat), acts.length = n ∧ ∀ k a, acts[k]? = some a → ActAt w A k a.1 a.2 := by
  have h' : ∀ k, k < n → ∃ a : Int × Nat, ActAt w A k a.1 a.2 := fun k hk => by
    obtain ⟨x, s, h⟩ := h k hk
    exact ⟨(x, s), h⟩
  obtain ⟨f, hf⟩ := Deep.choose_lt h'
  refine ⟨(List.range n).map f, by simp, fun k a ha => ?_⟩
  have hk : k < n := by
    have := (List.getElem?_eq_some_iff.1 ha).1
    simpa using this
  rw [List.getElem?_map, List.getElem?_range hk] at ha
  injection ha with ha
  subst ha
  exact hf k hk
end Merkle
end Go.Proofs.Ytoddgakhiaokaaa

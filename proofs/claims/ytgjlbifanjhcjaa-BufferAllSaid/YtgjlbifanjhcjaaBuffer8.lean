/-
  What chapter 13's statements reckon: whether a vector knows a dot; what all peers know, one peer after the other (no condition).
-/
import Derived.Test.YtgjlbifanjhcjaaBuffer7
namespace Go.Proofs.Ytgjlbifanjhcjaa
open Go.ChangeShapes Go.WideShapes Go.RowKit Go.Deep
namespace Buf
open Vec
theorem dotF_split (r c : Int) : (r < 0 ∨ 16 ≤ r ∨ c < 1 ∨ 1048576 < c) ∨ (0 ≤ r ∧ r < 16 ∧ 1 ≤ c ∧ c ≤ 1048576) := by omega
set_option maxHeartbeats 400000 in
theorem lknows (w : World) (xs : List Int) (r n : Int) (hx : xs.length = 16) : Calls Try.prog 7 #[vec xs, dotV r n] w fun e w' => e = .returned (.bool (knowsF xs r n)) ∧ New w w' := by
  have b1 := (Blk.new w 27 (ints xs).toArray).alloc (.cells #[.int .i64 r, .int .i64 n] 29)
  have b2 := Blk.new1 w (.cells (ints xs).toArray 27) 29 #[.int .i64 r, .int .i64 n]
  have d0 := b2.cell 0
  have d1 := b2.cell 1
  simp only [List.getElem?_toArray, List.getElem?_cons_zero, List.getElem?_cons_succ] at d0 d1
  have nn := Lib.hid (((Chg.refl (fun _ => False) w).alloc (.cells (ints xs).toArray 27)).alloc (.cells #[.int .i64 r, .int .i64 n] 29))
  obtain ⟨q1, e1⟩ : ∃ q, decide (0 ≤ r) = q := ⟨_, rfl⟩
  obtain ⟨q2, e2⟩ : ∃ q, decide (r < 16) = q := ⟨_, rfl⟩
  obtain ⟨q3, e3⟩ : ∃ q, decide (1 ≤ n) = q := ⟨_, rfl⟩
  obtain ⟨q4, e4⟩ : ∃ q, decide (n ≤ 1048576) = q := ⟨_, rfl⟩
  obtain ⟨k, hk⟩ : ∃ k, knowsF xs r n = k := ⟨_, rfl⟩
  have hk2 : k = (q1 && q2 && q3 && q4 && decide (n ≤ xs.getD r.toNat 0)) := by rw [← hk, knowsF, dotF, e1, e2, e3, e4]
  rw [hk]
  cases q1
  · obtain rfl : k = false := by simpa using hk2
    clear b1 b2 hk hk2 e2 e3 e4
    go_enter Try.func7, Try.ntmps7
    go_wp2_with fail
    go_quiet (fail)
    go_wp2
    go_ret
    exact ⟨rfl, nn.out.drewN _⟩
  cases q2
  · obtain rfl : k = false := by simpa using hk2
    clear b1 b2 hk hk2 e3 e4
    go_enter Try.func7, Try.ntmps7
    go_wp2_with fail
    go_quiet (fail)
    go_wp2
    go_ret
    exact ⟨rfl, nn.out.drewN _⟩
  cases q3
  · obtain rfl : k = false := by simpa using hk2
    clear b1 b2 hk hk2 e4
    go_enter Try.func7, Try.ntmps7
    go_wp2_with fail
    go_quiet (fail)
    go_wp2
    go_ret
    exact ⟨rfl, nn.out.drewN _⟩
  cases q4
  · obtain rfl : k = false := by simpa using hk2
    clear b1 b2 hk hk2
    go_enter Try.func7, Try.ntmps7
    go_wp2_with fail
    go_quiet (fail)
    go_wp2
    go_ret
    exact ⟨rfl, nn.out.drewN _⟩
  have h1 : 0 ≤ r := by simpa using e1
  have h2 : r < 16 := by simpa using e2
  obtain ⟨i, rfl⟩ := Int.eq_ofNat_of_zero_le h1
  have ca := b1.cell i
  rw [List.getElem?_toArray, ints_get, get_getD (by omega)] at ca
  simp only [Option.map_some] at ca
  simp only [Bool.and_self, Bool.true_and, Int.toNat_natCast] at hk2
  obtain ⟨x, hxx⟩ : ∃ x, xs.getD i 0 = x := ⟨_, rfl⟩
  rw [hxx] at ca
  obtain rfl : k = decide (n ≤ x) := by rw [hk2]; exact decide_eq_decide.2 (by rw [← hxx])
  clear h1 hx b1 b2 hk hxx hk2
  go_enter Try.func7, Try.ntmps7
  go_wp2_with fail
  go_quiet (fail)
  go_wp2
  go_ret
  exact ⟨rfl, nn.out.drewN _⟩
def allV : List Int := List.replicate 16 1048576
theorem allV_fill : fillL 1048576 16 = allV := by decide +kernel
theorem allV_len : allV.length = 16 := by simp [allV]
/-- what each peer is known to know, when those below j told it -/
def acksL (j : Nat) : List (List Int) := (List.range 16).map fun i => if 1 ≤ i ∧ i < j then allV else zeros
theorem acksL_one : acksL 1 = zero16 := by decide +kernel
theorem acksL_get {j p : Nat} (hp : p < 16) : (acksL j)[p]? = some (if 1 ≤ p ∧ p < j then allV else zeros) := by simp [acksL, List.getElem?_range hp]
theorem join_allV : join zeros allV = allV := by decide +kernel
theorem acksL_set (p : Nat) (h1 : 1 ≤ p) (h2 : p < 16) : (acksL p).set p allV = acksL (p + 1) := by
  have : ∀ q : Fin 16, 1 ≤ q.val → (acksL q.val).set q.val allV = acksL (q.val + 1) := by decide +kernel
  exact this ⟨p, h2⟩ h1
theorem stab_allV (k : Nat) (h1 : 2 ≤ k) (h2 : k < 16) : stab 0 (acksL k) k = allV := by
  have : ∀ q : Fin 16, 2 ≤ q.val → stab 0 (acksL q.val) q.val = allV := by decide +kernel
  exact this ⟨k, h2⟩ h1
theorem knows_zeros (r c : Int) : knowsF zeros r c = false := by
  rcases dotF_split r c with h | ⟨h1, h2, h3, h4⟩
  · simp [knowsF, dotF_false (r := r) (n := c) (by omega)]
  · obtain ⟨i, rfl⟩ := Int.eq_ofNat_of_zero_le h1
    have : zeros.getD i 0 = 0 := by
      simp only [zeros, List.getD_eq_getElem?_getD, List.getElem?_replicate]
      split <;> rfl
    simp only [knowsF, Int.toNat_natCast, this]
    simp
    omega
theorem allF_not {k j : Nat} (hj : 1 ≤ j) (hjk : j < k) (hk : k < 16) (r c : Int) : allF k 0 (acksL j) r c = false :=
  all_false hjk (acksL_get (j := j) (p := j) (by omega)) (by omega) (by rw [if_neg (by omega)]; exact knows_zeros r c)
theorem allF_all {k : Nat} (h1 : 2 ≤ k) (h2 : k < 16) (r c : Int) : allF k 0 (acksL k) r c = knowsF allV r c := by
  cases hq : knowsF allV r c with
  | false => exact all_false (p := 1) (by omega) (acksL_get (j := k) (p := 1) (by omega)) (by omega) (by rw [if_pos (by omega)]; exact hq)
  | true =>
    refine all_true fun p hp => ?_
    by_cases e : p = 0
    · exact .inl e
    · right
      rw [List.getD_eq_getElem?_getD, acksL_get (by omega), if_pos (by omega)]
      exact hq
def someN (es : List Ev) : Nat := es.countP fun e => !knowsF allV e.r e.c
/-- the events that are left, when peers below p told that they know all -/
def left (k p : Nat) (es : List Ev) : List Ev := if p < k then es else es.filter fun e => !allF k 0 (acksL k) e.r e.c
theorem left_step {k p : Nat} (h1 : 1 ≤ p) (hp : p < k) (hk : k < 16) (es : List Ev) : es.filter (fun e => !allF k 0 (acksL (p + 1)) e.r e.c) = left k (p + 1) es := by
  unfold left
  by_cases h : p + 1 < k
  · rw [if_pos h]
    refine List.filter_eq_self.2 fun e _ => ?_
    rw [allF_not (by omega) h hk]
    rfl
  · rw [if_neg h, show p + 1 = k by omega]
theorem left_end {k : Nat} (h1 : 2 ≤ k) (h2 : k < 16) (es : List Ev) : (left k k es).length = someN es := by
  unfold left someN
  rw [if_neg (by omega), List.countP_eq_length_filter]
  congr 1
  refine List.filter_congr fun e _ => ?_
  rw [allF_all h1 h2]
theorem some_succ {es : List Ev} {i : Nat} {e : Ev} (h : es[i]? = some e) : someN (es.take (i + 1)) = someN (es.take i) + (if knowsF allV e.r e.c then 0 else 1) := by
  unfold someN
  rw [List.take_add_one, h, List.countP_append]
  cases hq : knowsF allV e.r e.c <;> simp [hq]
theorem Ev.Self.ne {e : Ev} (h : e.Self) (W : World) : (binOp .neq 35 e.val e.val).run Try.prog W = .ok (.bool false) W := by
  have := h W
  simp only [binOp, Sem.run_bind] at this ⊢
  cases hr : Sem.run Try.prog (Op.equal 35 e.val e.val) W with
  | ok r w' =>
    rw [hr] at this
    simp only [Result.andThen_ok, Sem.run_pure, Result.ok.injEq, Value.bool.injEq] at this
    obtain ⟨rfl, rfl⟩ := this
    rfl
  | halt x w' =>
    rw [hr] at this
    cases this
theorem neGuard {e : Ev} (x y : Operand) (W : World) : (eqGuard .neq 35 x y e.val e.val).run Try.prog W = .ok () W := by
  have h : Try.prog.eqGuardType Try.prog.depth 35 = false := by kernel_rfl
  simp [eqGuard, h]
end Buf
end Go.Proofs.Ytgjlbifanjhcjaa

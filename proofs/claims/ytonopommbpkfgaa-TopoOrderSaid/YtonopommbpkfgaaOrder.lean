/-
  topo's Order and Levels: the walks (no condition beyond the sizes).
-/
import Derived.Test.YtonopommbpkfgaaRun2
namespace Go.Proofs.Ytonopommbpkfgaa
open Go.ChangeShapes Go.WideShapes Go.RowKit Go.Deep Heap
namespace Topo
theorem right_yes (w : World) (n : Nat) (hn : n ≤ 256) : Calls Try.prog 13 #[.int .i64 (n : Int)] w fun e w' => e = .returned (.bool true) ∧ w' = w := by
  have h1 : (n : Int) ≤ 256 := by omega
  have h0 : (0 : Int) ≤ n := by omega
  have h2 : decide ((n : Int) ≥ 0) = true := by simp
  have h3 : decide ((n : Int) ≤ 256) = true := by simpa using h1
  go_enter Try.func13, Try.ntmps13
  go_wp2_with fail
  go_ret
  exact ⟨rfl, rfl⟩
theorem right_no (w : World) (n : Int) (hn : n < 0 ∨ 256 < n) : Calls Try.prog 13 #[.int .i64 n] w fun e w' => e = .returned (.bool false) ∧ w' = w := by
  by_cases h0 : 0 ≤ n
  · have h1 : ¬ n ≤ 256 := by omega
    clear hn
    go_enter Try.func13, Try.ntmps13
    go_wp2_with fail
    go_ret
    exact ⟨rfl, rfl⟩
  · clear hn
    go_enter Try.func13, Try.ntmps13
    go_wp2_with fail
    go_ret
    exact ⟨rfl, rfl⟩
theorem order_no (w : World) (n : Int) (hn : n < 0 ∨ 256 < n) (v : Value) : Calls Try.prog 8 #[.int .i64 n, v] w fun e w' => e = .returned (.tuple #[.slice none 0 0, .bool false]) ∧ w' = w := by
  have C := Lib.hid (right_no w n hn)
  clear hn
  go_enter Try.func8, Try.ntmps8
  go_wp2_with fail
  refine C.out.mono ?_
  rintro e w1 ⟨rfl, rfl⟩
  clear C
  go_wp2_with fail
  go_ret2
  exact ⟨rfl, rfl⟩
set_option maxHeartbeats 1000000 in
theorem order (w : World) (n m c : Nat) (hn : n ≤ 256) (A : Option Addr) (ps : List (Int × Int)) (hP : PAt w A ps) (hm : ps.length = m) (hf : m ≤ 200) :
    Calls Try.prog 8 #[.int .i64 (n : Int), .slice A m c] w fun e w' => ∃ v out x a V, e = .returned (.tuple #[v, .bool (decide (out.length = n))]) ∧ OwnI w' w.heap.size v (if out.length = n then out else []) ∧ Inv n ps out [] [] x a V ∧ New w w' := by
  have C := Lib.hid (right_yes w n hn)
  have CR := Lib.hid (run w n m c hn A ps hP hm hf)
  clear hP
  go_enter Try.func8, Try.ntmps8
  go_wp2_with fail
  refine C.out.mono ?_
  rintro e w1 ⟨rfl, rfl⟩
  clear C
  go_wp2_with fail
  refine CR.out.mono ?_
  rintro e w2 ⟨vo, gl, out, V, x, a, rfl, o2, _, inv, n2⟩
  obtain ⟨A2, c2, hv2⟩ := o2.form
  have hl := inv.len
  obtain ⟨L, hL⟩ : ∃ L, out.length = L := ⟨_, rfl⟩
  rw [hL] at hv2 hl
  subst hv2
  have HZ := Lib.hid (And.intro o2 (And.intro inv (And.intro n2 hL)))
  clear o2 inv n2 hL CR
  by_cases hlt : L < n
  · have h1 : (L : Int) < n := by omega
    go_wp2_with fail
    go_ret2
    have hne : ¬ out.length = n := by rw [HZ.out.2.2.2]; omega
    exact ⟨_, out, x, a, _, by rw [decide_eq_false hne]; rfl, by rw [if_neg hne]; exact OwnI.nil _ _, HZ.out.2.1, HZ.out.2.2.1⟩
  · have h1 : ¬ (L : Int) < n := by omega
    go_wp2_with fail
    go_ret2
    have he : out.length = n := by rw [HZ.out.2.2.2]; simp at hl; omega
    exact ⟨_, out, x, a, _, by rw [decide_eq_true he]; rfl, by rw [if_pos he]; exact HZ.out.1, HZ.out.2.1, HZ.out.2.2.1⟩
set_option maxHeartbeats 1000000 in
theorem levels (w : World) (n m c : Nat) (hn : n ≤ 256) (A : Option Addr) (ps : List (Int × Int)) (hP : PAt w A ps) (hm : ps.length = m) (hf : m ≤ 200) :
    Calls Try.prog 12 #[.int .i64 (n : Int), .slice A m c] w fun e w' => ∃ v out x a V V2, e = .returned (.tuple #[v, .bool (decide (out.length = n))]) ∧ OwnI w' w.heap.size v (if out.length = n then V2 else []) ∧ Inv n ps out [] [] x a V ∧
      (out.length = n → V2.length = n ∧ ∃ out2 x2 a2, Inv n ps out2 [] [] x2 a2 (fun k => V2.getD k 0)) ∧ New w w' := by
  have C := Lib.hid (order w n m c hn A ps hP hm hf)
  have HP := Lib.hid hP
  clear hP
  go_enter Try.func12, Try.ntmps12
  go_wp2_with fail
  refine C.out.mono ?_
  rintro e w1 ⟨v1, out, x, a, V, rfl, o1, inv, n1⟩
  have CR := Lib.hid (run w1 n m c hn A ps (HP.out.new n1) hm hf)
  have HI := Lib.hid (And.intro inv n1)
  clear C o1 inv n1
  by_cases he : out.length = n
  · have h1 : decide (out.length = n) = true := decide_eq_true he
    have HE := Lib.hid he
    rw [h1]
    clear he h1
    go_wp2_with fail
    refine CR.out.mono ?_
    rintro e w2 ⟨vo, gl, out2, V2, x2, a2, rfl, _, o2, inv2, n2⟩
    have HZ := Lib.hid (And.intro (own_mono o2 HI.out.2.size) (And.intro inv2 (HI.out.2.trans n2 fun _ _ => id)))
    clear inv2 o2 n2 CR
    go_wp2_with fail
    go_ret2
    exact ⟨_, out, x, a, V, V2, by rw [decide_eq_true HE.out]; rfl, by rw [if_pos HE.out]; exact HZ.out.1, HI.out.1, fun _ => ⟨(OwnI.lenA HZ.out.1).symm, out2, x2, a2, HZ.out.2.1⟩, HZ.out.2.2⟩
  · have h1 : decide (out.length = n) = false := decide_eq_false he
    have HE := Lib.hid he
    rw [h1]
    clear he h1 CR
    go_wp2_with fail
    go_ret2
    exact ⟨_, out, x, a, V, [], by rw [decide_eq_false HE.out]; rfl, by rw [if_neg HE.out]; exact OwnI.nil _ _, HI.out.1, fun e => (HE.out e).elim, HI.out.2⟩
end Topo
end Go.Proofs.Ytonopommbpkfgaa

/-
  event.Right, Bytes, Parse: what they compute (no condition beyond the sizes, and that MaxLen holds a number).
-/
import Derived.Test.YtjkjbbmbfobdaaaDoorEvOps
namespace Go.Proofs.YtjkjbbmbfobdaaaDoor
set_option linter.unusedSimpArgs false
set_option linter.unusedVariables false
open Go.ChangeShapes Go.WideShapes Go.RowKit Go.Deep
namespace Evt
open Val (elemB rightB JoinC)
open Vec Num
attribute [local go_sem ↓] loadDot loadVec loadRow0 storeRow0 loadOnly0 loadOnly1 loadOnly2
def chB (e : Ev) : Bool := changeB (e.n 18) (e.n 19) (e.t 20).data.toList (e.t 21).data.toList (e.t 22).data.toList (e.t 23).data.toList (e.n 24) (e.n 25) (e.t 26).data.toList
def rightE (e : Ev) : Bool := nextF (past e) (e.n 0) (e.n 1) && rightF (past e) && chB e
/-- what is asked of an event's texts and number -/
structure Fit (e : Ev) : Prop where
  t : ∀ i, (e.t i).size ≤ 1000000
  n : -9223372036854775808 ≤ e.n 25 ∧ e.n 25 ≤ 9223372036854775807
set_option maxHeartbeats 8000000 in
set_option maxRecDepth 20000 in
theorem right (hJ : JoinC) (w : World) (e : Ev) (h : Fit e) (hm : Val.MaxAt w) : Calls Tryd.prog 8 #[e.val] w fun x w' => x = .returned (.int .i64 (if rightE e = true then 0 else 1)) ∧ New w w' := by
  have n1 := (Chg.refl (fun _ => False) w).alloc (.cells e.cs.toArray 31)
  have B1 := Blk.new w 31 e.cs.toArray
  have CN : Calls Tryd.prog 19 #[e.pastV, e.dot] (w.alloc (.cells e.cs.toArray 31)) fun x w' => x = .returned (.bool (nextF (past e) (e.n 0) (e.n 1))) ∧ New (w.alloc (.cells e.cs.toArray 31)) w' := Vec.next_ _ (past e) (e.n 0) (e.n 1) rfl
  have CR : ∀ W, Calls Tryd.prog 20 #[e.pastV] W fun x w' => x = .returned (.bool (rightF (past e))) ∧ New W w' := fun W => Vec.right_ W (past e) rfl
  have CO := fun W => of_ W e
  have CC := fun W (hW : New w W) => change hJ W (e.n 18) (e.n 19) (e.t 20) (e.t 21) (e.t 22) (e.t 23) (e.n 24) (e.n 25) (e.t 26) ⟨h.t 20, h.t 21, h.t 22, h.t 23⟩ (h.t 26) h.n (hm.new hW)
  obtain ⟨xb, hx⟩ : ∃ x, nextF (past e) (e.n 0) (e.n 1) = x := ⟨_, rfl⟩
  obtain ⟨yb, hy⟩ : ∃ x, rightF (past e) = x := ⟨_, rfl⟩
  have hz : changeB (e.n 18) (e.n 19) (e.t 20).data.toList (e.t 21).data.toList (e.t 22).data.toList (e.t 23).data.toList (e.n 24) (e.n 25) (e.t 26).data.toList = chB e := rfl
  obtain ⟨zb, hzb⟩ : ∃ x, chB e = x := ⟨_, rfl⟩
  rw [hx] at CN
  simp only [hy] at CR
  simp only [hz, hzb] at CC
  have hr : rightE e = (xb && yb && zb) := by unfold rightE; rw [hx, hy, hzb]
  rw [hr]
  obtain ⟨q, hq⟩ : ∃ q : Int, (if zb = true then 0 else 1) = q := ⟨_, rfl⟩
  simp only [hq] at CC
  have HQ := Lib.hid hq
  clear hq
  have CN := Lib.hid CN
  have CR := Lib.hid CR
  have CO := Lib.hid CO
  have CC := Lib.hid CC
  have HB := Lib.hid B1
  have N1 := Lib.hid n1
  obtain ⟨l0, l2, _⟩ := blk_ev B1
  have g1 := B1.lt
  clear n1 B1 hx hy hz hzb hr h hm
  cases xb
  · go_enter Tryd.func8, Tryd.ntmps8
    go_wp2_with fail
    with_reducible refine CN.out.mono ?_
    rintro x w2 ⟨rfl, n2⟩
    have N2 := Lib.hid (N1.out.trans n2 fun _ _ => id)
    clear n2
    go_wp2_with fail
    go_ret
    exact ⟨rfl, N2.out⟩
  obtain ⟨q2, hq2⟩ : ∃ q : Int, (if (true && yb && zb) = true then 0 else 1) = q := ⟨_, rfl⟩
  rw [hq2]
  have HQ2 := Lib.hid hq2
  clear hq2
  cases yb
  · go_enter Tryd.func8, Tryd.ntmps8
    go_wp2_with fail
    with_reducible refine CN.out.mono ?_
    rintro x w2 ⟨rfl, n2⟩
    have N2 := Lib.hid (N1.out.trans n2 fun _ _ => id)
    have l3 := (blk_ev (HB.out.chg n2 id)).2.1
    clear n2
    go_wp2_with fail
    with_reducible refine (CR.out _).mono ?_
    rintro x w3 ⟨rfl, n3⟩
    have N3 := Lib.hid (N2.out.trans n3 fun _ _ => id)
    clear n3
    go_wp2_with fail
    go_ret
    exact ⟨by rw [← HQ2.out] <;> rfl, N3.out⟩
  · go_enter Tryd.func8, Tryd.ntmps8
    go_wp2_with fail
    with_reducible refine CN.out.mono ?_
    rintro x w2 ⟨rfl, n2⟩
    have N2 := Lib.hid (N1.out.trans n2 fun _ _ => id)
    have HB2 := Lib.hid (HB.out.chg n2 id)
    have l3 := (blk_ev HB2.out).2.1
    clear n2
    go_wp2_with fail
    with_reducible refine (CR.out _).mono ?_
    rintro x w3 ⟨rfl, n3⟩
    have N3 := Lib.hid (N2.out.trans n3 fun _ _ => id)
    have l4 := ldE (HB2.out.chg n3 id)
    clear n3
    go_wp2_with fail
    with_reducible refine (CO.out _).mono ?_
    rintro x w4 ⟨rfl, n4⟩
    have N4 := Lib.hid (N3.out.trans n4 fun _ _ => id)
    clear n4
    go_wp2_with fail
    with_reducible refine (CC.out _ N4.out).mono ?_
    rintro x w5 ⟨rfl, n5⟩
    have N5 := Lib.hid (N4.out.trans n5 fun _ _ => id)
    clear n5
    go_wp2_with fail
    go_ret
    exact ⟨by rw [← HQ2.out, Bool.true_and, Bool.true_and, HQ.out] <;> rfl, N5.out⟩
set_option maxHeartbeats 8000000 in
set_option maxRecDepth 20000 in
theorem bytes_ (hJ : JoinC) (w : World) (e : Ev) (h : Fit e) (hm : Val.MaxAt w) (hb : e.bytes.length ≤ 900000000) : Calls Tryd.prog 17 #[e.val] w fun x w' =>
    (if rightE e = true then ∃ v, x = .returned (.tuple #[v, .int .i64 0]) ∧ OwnB w' w.heap.size v e.bytes else x = .returned (.tuple #[.slice none 0 0, .int .i64 1])) ∧ New w w' := by
  have n1 := (Chg.refl (fun _ => False) w).alloc (.cells e.cs.toArray 31)
  have B1 := Blk.new w 31 e.cs.toArray
  have CR := Lib.hid (right hJ _ e h (hm.new n1))
  have l1 := ldE B1
  obtain ⟨r, hr⟩ : ∃ r, rightE e = r := ⟨_, rfl⟩
  rw [hr] at CR ⊢
  have HB := Lib.hid B1
  have N1 := Lib.hid n1
  have g1 := B1.lt
  have HF := Lib.hid (And.intro h hb)
  clear n1 B1 hr h hm hb
  cases r
  · go_enter Tryd.func17, Tryd.ntmps17
    go_wp2_with fail
    with_reducible refine CR.out.mono ?_
    rintro x w2 ⟨rfl, n2⟩
    have N2 := Lib.hid (N1.out.trans n2 fun _ _ => id)
    clear n2
    go_wp2_with fail
    go_ret2
    exact ⟨by simp, N2.out⟩
  · go_enter Tryd.func17, Tryd.ntmps17
    go_wp2_with fail
    with_reducible refine CR.out.mono ?_
    rintro x w2 ⟨rfl, n2⟩
    have N2 := Lib.hid (N1.out.trans n2 fun _ _ => id)
    have l2 := ldE (HB.out.chg n2 id)
    have C := Lib.hid (evput w2 w.heap.size (.slice none 0 0) [] OwnB.nil N2.out.size e (by simpa using HF.out.2) HF.out.1.t)
    unfold Puts at C
    clear n2
    go_wp2_with fail
    with_reducible refine C.out.mono ?_
    rintro x w3 ⟨v3, rfl, o3, c3, a3⟩
    rw [List.nil_append] at o3
    have HE := Lib.hid (And.intro o3 (N2.out.trans c3 fun i hi e => by cases e))
    clear o3 c3 a3 C
    go_wp2_with fail
    go_ret2
    exact ⟨⟨_, rfl, HE.out.1⟩, HE.out.2⟩
end Evt
end Go.Proofs.YtjkjbbmbfobdaaaDoor

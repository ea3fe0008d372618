/-
  EventBytes, walked: true.
-/
import Derived.Test.YtjkjbbmbfobdaaaDoorRightW
import Derived.Test.YtjkjbbmbfobdaaaDoorRefPut
namespace Go.Proofs.YtjkjbbmbfobdaaaDoor
set_option linter.unusedSimpArgs false
set_option linter.unusedVariables false
open Go.ChangeShapes Go.WideShapes Go.RowKit Go.Deep
namespace Evt
open Val (elemB rightB nameB JoinC)
open Vec Num
attribute [local go_sem ↓] loadDot loadVec loadRow0 storeRow0 loadOnly0 loadOnly1 loadOnly2
set_option maxHeartbeats 20000000 in
set_option maxRecDepth 100000 in
theorem bytesW (hJ : JoinC) (w : World) (hm : Val.MaxAt w) (e : Ev) (hc : Came e) :
    Calls Tryd.prog 4 #[e.val] w fun x w' => x = .returned (.bool true) ∧ New w w' := by
  have a1 := (Chg.refl (fun _ => False) w).alloc (.cells e.cs.toArray 31)
  have B1 := Blk.new w 31 e.cs.toArray
  have hz : ∀ W, (zeroValue 31).run Tryd.prog W = .ok (.agg zero.cs.toArray) W := fun W => by kernel_rfl
  have CF := Lib.hid (fixed hJ _ (hm.new a1))
  have H1 := Lib.hid (And.intro B1 a1)
  have HM := Lib.hid (And.intro hm (And.intro hJ hc))
  have g1 := B1.lt
  clear a1 B1 hm hJ hc
  go_enter Tryd.func4, Tryd.ntmps4
  go_wp2_with fail
  with_reducible refine CF.out.mono ?_
  rintro x w2 ⟨rfl, n2⟩
  have H2 := Lib.hid (And.intro (H1.out.1.chg n2 id) (H1.out.2.trans n2 fun _ _ => id))
  have CS := Lib.hid (short w2 e HM.out.2.2)
  have l2 := ldE H2.out.1
  have g2 := H2.out.1.lt
  clear n2 CF
  go_wp2_with fail
  with_reducible refine CS.out.mono ?_
  rintro x w3 ⟨rfl, n3⟩
  have H3 := Lib.hid (And.intro (H2.out.1.chg n3 id) (H2.out.2.trans n3 fun _ _ => id))
  have l3 := ldE H3.out.1
  have g3 := H3.out.1.lt
  clear n3 CS l2 g2
  obtain ⟨sh, hsh⟩ : ∃ b, decide (total e ≤ 300) = b := ⟨_, rfl⟩
  rw [hsh]
  cases sh
  · clear hsh
    go_wp2_with fail
    go_ret
    exact ⟨rfl, H3.out.2⟩
  have htot : total e ≤ 300 := by simpa using hsh
  have HT := Lib.hid htot
  have hlen := short_len htot
  have hfit := HM.out.2.2.fit htot
  have hsm := HM.out.2.2.small htot
  have HFS := Lib.hid (And.intro hfit hsm)
  have C := Lib.hid (refput w3 w3.heap.size (.slice none 0 0) [] OwnB.nil (Nat.le_refl _) e (by simp; omega) hfit.t)
  unfold Puts at C
  clear hsh htot hfit hsm
  go_wp2_with fail
  with_reducible refine C.out.mono ?_
  rintro x w4 ⟨v4, rfl, o4, c4, _⟩
  rw [List.nil_append] at o4
  have n4 : New w3 w4 := c4.mono fun _ _ h => by cases h
  have H4 := Lib.hid (And.intro (H3.out.1.chg n4 id) (And.intro (H3.out.2.trans n4 fun _ _ => id) o4))
  have C1 := Lib.hid (evput w4.drew w4.heap.size (.slice none 0 0) [] OwnB.nil (Nat.le_refl _) e (by simp; omega) HFS.out.1.t)
  unfold Puts at C1
  obtain ⟨bs, hbs⟩ : ∃ b : ByteArray, ⟨e.bytes.toArray⟩ = b := ⟨_, rfl⟩
  have HBS := Lib.hid hbs
  have F := Lib.hid (fun W (hW : New w4.drew W) => And.intro (ldE (H4.out.1.drew.chg hW id)) (by have := own_str (show OwnB w4.drew w3.heap.size v4 e.bytes from H4.out.2.2) hW; rw [hbs] at this; exact this))
  clear o4 c4 n4 C hbs l3 g3
  go_wp2_with fail
  refine grow_start (fun _ => False) (by kernel_rfl) ?_
  refine grow_take (i := 0) (oi := { dst := some 15, op := Op.load 31 (Operand.tmp 1), type := 31, pos := "law.go:54", after := #[], guard := none }) (v := ?_) rfl (by kernel_rfl) (by kernel_rfl) (by kernel_rfl) (by rfl) ?_ ?_; rotate_left; focus ((intro W hW; have fct := F.out W hW; go_simp) <;> with_reducible rfl)
  simp only [Act.put, List.setIfInBounds_toArray, List.set_cons_zero, List.set_cons_succ]
  refine grow_take (i := 3) (oi := { dst := some 18, op := Op.move (Operand.tmp 3), type := 43, pos := "law.go:54", after := #[], guard := none }) (v := ?_) rfl (by kernel_rfl) (by kernel_rfl) (by kernel_rfl) (by rfl) ?_ ?_; rotate_left; focus ((intro W hW; go_simp) <;> with_reducible rfl)
  simp only [Act.put, List.setIfInBounds_toArray, List.set_cons_zero, List.set_cons_succ]
  refine grow_take (i := 4) (oi := { dst := some 19, op := Op.convert 43 9 (Operand.tmp 18), type := 9, pos := "law.go:54", after := #[{ on := 3, ground := Ground.data }], guard := none }) (v := ?_) rfl (by kernel_rfl) (by kernel_rfl) (by kernel_rfl) (by rfl) ?_ ?_; rotate_left; focus ((intro W hW; have fct := F.out W hW; go_simp) <;> with_reducible rfl)
  simp only [Act.put, List.setIfInBounds_toArray, List.set_cons_zero, List.set_cons_succ]
  refine grow_next (i := 1) (oi := { dst := some 16, op := Op.call { callee := Callee.value (Operand.func 16), args := #[Operand.const (Value.slice none 0 0), Operand.tmp 15], argTypes := #[43, 31] }, type := 43, pos := "law.go:54", after := #[{ on := 0, ground := Ground.data }], guard := none }) (by kernel_rfl) rfl (by rfl) (fun K hK => ?_)
  go_simp
  with_reducible refine C1.out.mono ?_
  rintro x w5 ⟨v5, rfl, o5, c5, a5⟩
  refine hK _ _ (c5.mono fun _ _ h => by cases h) ?_
  clear hK K
  try simp only [Act.put, List.setIfInBounds_toArray, List.set_cons_zero, List.set_cons_succ]
  rw [List.nil_append] at o5
  have n5 : New w4.drew w5 := (c5.mono fun _ _ h => by cases h)
  have F5 := Lib.hid (fun W (hW : New w5 W) => And.intro (F.out W (n5.trans hW fun _ _ => id)) (by have := own_str o5 hW; rw [HBS.out] at this; exact this))
  refine grow_take (i := 2) (oi := { dst := some 17, op := Op.convert 43 9 (Operand.tmp 16), type := 9, pos := "law.go:54", after := #[{ on := 1, ground := Ground.data }], guard := none }) (v := ?_) rfl (by kernel_rfl) (by kernel_rfl) (by kernel_rfl) (by rfl) ?_ ?_; rotate_left; focus ((intro W hW; have fct := F5.out W hW; go_simp) <;> with_reducible rfl)
  simp only [Act.put, List.setIfInBounds_toArray, List.set_cons_zero, List.set_cons_succ]
  refine grow_take (i := 5) (oi := { dst := some 20, op := Op.binOp BinOp.neq 9 (Operand.tmp 17) (Operand.tmp 19) 9, type := 4, pos := "law.go:54", after := #[{ on := 2, ground := Ground.data }, { on := 4, ground := Ground.data }], guard := none }) (v := ?_) rfl (by kernel_rfl) (by kernel_rfl) (by kernel_rfl) (by rfl) ?_ ?_; rotate_left; focus ((intro W hW; have fct := F5.out W hW; go_simp) <;> with_reducible rfl)
  simp only [Act.put, List.setIfInBounds_toArray, List.set_cons_zero, List.set_cons_succ]
  refine grow_done (by kernel_rfl) ?_ _
  have H5 := Lib.hid (And.intro (H4.out.1.drew.chg n5 id) (And.intro (H4.out.2.1.drew.trans n5 fun _ _ => id) (own_chg (show OwnB w4.drew w3.heap.size v4 e.bytes from H4.out.2.2) n5 fun _ _ => id)))
  have l5 := ldE H5.out.1
  have g5 := H5.out.1.lt
  have C2 := fun W => rrightE W e HFS.out.2
  clear F F5 o5 c5 a5 n5 C1
  by_cases hr : rightE e = true
  · have CB := Lib.hid (bytes_yes HM.out.2.1 w5 e HFS.out.1 (HM.out.1.new H5.out.2.1) (by omega) hr)
    simp only [hr] at C2
    have C2 := Lib.hid C2
    have HR := Lib.hid hr
    clear hr
    obtain ⟨L, hL⟩ : ∃ L, e.bytes.length = L := ⟨_, rfl⟩
    rw [hL] at CB hlen
    have HL := Lib.hid hL
    clear hL
    go_wp2_with fail
    with_reducible refine CB.out.mono ?_
    rintro x w6 ⟨A, c, rfl, o6, n6⟩
    have hr6 : Reads w6 (fun b => b < w6.heap.size) 1 A L (u8s e.bytes) := by
      have h := Reads.of_own (show w6.ownsRow w5.heap.size 5 1 (.slice A L c) L (u8s e.bytes) from by have := o6; unfold OwnB at this; rw [HL.out] at this; exact this)
      exact h.mono fun b hb => hb.2.1
    have hcL : L ≤ c := by
      obtain ⟨A2, c2, h1, h2, _⟩ := o6.form
      injection h1 with _ h3 h4
      rw [HL.out] at h2
      omega
    have H6 := Lib.hid (And.intro (H5.out.1.chg n6 id) (And.intro (H5.out.2.1.trans n6 fun _ _ => id) (And.intro (own_chg H5.out.2.2 n6 fun _ _ => id) (And.intro hr6 o6))))
    have l6 := ldE H6.out.1
    have g6 := H6.out.1.lt
    clear n6 hr6 o6 CB l5 g5
    go_wp2_with fail
    with_reducible refine (C2.out _).mono ?_
    rintro x w7 ⟨rfl, n7⟩
    have hr7 := H6.out.2.2.2.1.chg n7 fun b hb => ⟨hb, id⟩
    have hr7 := hr7.mono (G := fun b => b < w7.heap.size) fun b hb => Nat.lt_of_lt_of_le hb n7.size
    have H7 := Lib.hid (And.intro (H6.out.1.chg n7 id) (And.intro (H6.out.2.1.trans n7 fun _ _ => id) (And.intro (own_chg H6.out.2.2.1 n7 fun _ _ => id) (own_chg H6.out.2.2.2.2 n7 fun _ _ => id))))
    have CP := parse HM.out.2.1 w7 _ A L c e.bytes hr7 (fun b hb => hb) (by omega) hcL (HM.out.1.new H7.out.2.1)
    rw [parse_bytes HR.out, val_evOf] at CP
    have CP := Lib.hid CP
    clear n7 hr7 l6 g6
    go_wp2_with fail
    with_reducible refine CP.out.mono ?_
    rintro x w8 ⟨rfl, n8⟩
    obtain ⟨w9, hst9, b9, n9, g9⟩ := new_ev w8 e
    have n89 := n8.trans n9 fun _ _ => id
    have H9 := Lib.hid (And.intro (H7.out.1.chg n89 id) (H7.out.2.1.trans n89 fun _ _ => id))
    have s1 : (convert 43 9 (.slice A L c)).run Tryd.prog w9 = .ok (.string bs) w9 := by
      have h := own_str (own_chg H7.out.2.2.2 n89 fun _ _ => id) (Chg.refl _ w9)
      rw [HBS.out] at h
      exact h
    have s2 : (convert 43 9 v4).run Tryd.prog w9 = .ok (.string bs) w9 := by
      have h := own_str (own_chg H7.out.2.2.1 n89 fun _ _ => id) (Chg.refl _ w9)
      rw [HBS.out] at h
      exact h
    obtain ⟨gb, hgb⟩ : ∃ g, w8.heap.size = g := ⟨_, rfl⟩
    rw [hgb] at hst9 g9 b9
    have l9 := ldE b9
    have l10 := ldE H9.out.1
    have hself := selfEv e
    have gg1 := b9.lt
    have gg2 := H9.out.1.lt
    clear n8 n9 n89 b9 CP
    go_wp2_with fail
    go_ret
    exact ⟨rfl, H9.out.2⟩
  · have hrf : rightE e = false := by simpa using hr
    have CB := Lib.hid (bytes_no HM.out.2.1 w5 e HFS.out.1 (HM.out.1.new H5.out.2.1) (by omega) hr)
    simp only [hrf] at C2
    have C2 := Lib.hid C2
    clear hr hrf
    go_wp2_with fail
    with_reducible refine CB.out.mono ?_
    rintro x w6 ⟨rfl, n6⟩
    have H6 := Lib.hid (And.intro (H5.out.1.chg n6 id) (H5.out.2.1.trans n6 fun _ _ => id))
    have l6 := ldE H6.out.1
    have g6 := H6.out.1.lt
    clear n6 CB l5 g5
    go_wp2_with fail
    with_reducible refine (C2.out _).mono ?_
    rintro x w7 ⟨rfl, n7⟩
    have N7 := Lib.hid (H6.out.2.trans n7 fun _ _ => id)
    clear n7
    go_wp2_with fail
    go_ret
    exact ⟨rfl, N7.out⟩
end Evt
end Go.Proofs.YtjkjbbmbfobdaaaDoor

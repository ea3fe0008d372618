/-
  MessageBytes, walked: true.
-/
import Derived.Test.YtkmkpdmjdfbpjaaGreatDoorJ17
namespace Go.Proofs.YtkmkpdmjdfbpjaaGreatDoor
set_option linter.unusedSimpArgs false
set_option linter.unusedVariables false
open Go.ChangeShapes Go.WideShapes Go.RowKit Go.Deep
namespace Msg
open Val (JoinC)
open Num Evt Vec
attribute [local go_sem ↓] loadRow0 storeRow0
attribute [local go_sem ↓] Evt.loadDot Evt.loadVec Evt.loadRow0 Evt.storeRow0 Evt.loadOnly0 Evt.loadOnly1 Evt.loadOnly2
set_option maxHeartbeats 20000000 in
set_option maxRecDepth 100000 in
theorem bytesW (hJ : JoinC) (w : World) (hm : Val.MaxAt w) (F : Nat → Prop) (m : Ms) (v : Value) (hv : RowE w F v m.es) (hF : ∀ b, F b → b < w.heap.size) (hc : ∀ e ∈ m.es, Came e) (hl : m.es.length ≤ 140737488351232) :
    Calls Tryz.prog 3 #[m.val v] w fun x w' => x = .returned (.bool true) ∧ New w w' := by
  have n1 := (Chg.refl (fun _ => False) w).alloc (.cells (m.cs v).toArray 26)
  have B1 := Blk.new w 26 (m.cs v).toArray
  have hz : ∀ W, (zeroValue 26).run Tryz.prog W = .ok (.agg (m0.cs (.slice none 0 0)).toArray) W := fun W => by kernel_rfl
  have CF := Lib.hid (fixed hJ _ (hm.new n1))
  have H1 := Lib.hid (And.intro B1 (And.intro n1 (hv.new n1)))
  have HM := Lib.hid (And.intro hm (And.intro hJ (And.intro hc (And.intro hl hF))))
  have g1 := B1.lt
  clear n1 B1 hm hJ hc hv hl hF
  go_enter Tryz.func3, Tryz.ntmps3
  go_wp2_with fail
  with_reducible refine CF.out.mono ?_
  rintro x w2 ⟨rfl, n2⟩
  have H2 := Lib.hid (And.intro (H1.out.1.chg n2 id) (And.intro (H1.out.2.1.trans n2 fun _ _ => id) (H1.out.2.2.new n2)))
  have CS := Lib.hid (few_ w2 F m v H2.out.2.2 HM.out.2.2.1 HM.out.2.2.2.1)
  have l2 := ldM H2.out.1
  have g2 := H2.out.1.lt
  clear n2 CF
  go_wp2_with fail
  with_reducible refine CS.out.mono ?_
  rintro x w3 ⟨rfl, n3⟩
  have H3 := Lib.hid (And.intro (H2.out.1.chg n3 id) (And.intro (H2.out.2.1.trans n3 fun _ _ => id) (H2.out.2.2.new n3)))
  have l3 := ldM H3.out.1
  have g3 := H3.out.1.lt
  clear n3 CS l2 g2
  obtain ⟨sh, hsh⟩ : ∃ b, fewB m = b := ⟨_, rfl⟩
  rw [hsh]
  cases sh
  · clear hsh
    go_wp2_with fail
    go_ret
    exact ⟨rfl, H3.out.2.1⟩
  have hfew := few_true hsh
  have hfit : ∀ e ∈ m.es, Fit e := fun e he => (HM.out.2.2.1 e he).fit (hfew.1 e he)
  have hsm : ∀ e ∈ m.es, Small e := fun e he => (HM.out.2.2.1 e he).small (hfew.1 e he)
  have hpl := small_payload hfew.1 hfew.2
  have hl30 := hfew.2
  have HX := Lib.hid (And.intro hfit (And.intro hsm (And.intro hpl hl30)))
  have CB := bytes_ HM.out.2.1 w3 F m v H3.out.2.2 (fun b hb => Nat.lt_of_lt_of_le (HM.out.2.2.2.2 b hb) H3.out.2.1.size) hfit (HM.out.1.new H3.out.2.1) (by omega) (by omega)
  by_cases hr : rightM m = true
  · rw [if_pos hr, if_pos hr] at CB
    have CB := Lib.hid CB
    obtain ⟨L, hL⟩ : ∃ L, (Frame.frameL (payload m)).length = L := ⟨_, rfl⟩
    have hL2 : L ≤ 18188 := by rw [← hL, Frame.frameL_length]; omega
    have HL := Lib.hid hL
    have HR := Lib.hid hr
    clear hr hL hsh hfew hfit hsm hpl
    go_wp2_with fail
    with_reducible refine CB.out.mono ?_
    rintro x w4 ⟨u4, rfl, o4, n4⟩
    obtain ⟨A, c, hv4, hc4, _⟩ := o4.form
    rw [HL.out] at hv4 hc4
    subst hv4
    have hr4 := (Reads.of_own (show w4.ownsRow w3.heap.size 5 1 (.slice A L c) L (u8s (Frame.frameL (payload m))) from by have := o4; unfold OwnB at this; rw [HL.out] at this; exact this)).mono (G := fun b => b < w4.heap.size) fun b hb => hb.2.1
    have H4 := Lib.hid (And.intro (H3.out.1.chg n4 id) (And.intro (H3.out.2.1.trans n4 fun _ _ => id) (And.intro (H3.out.2.2.new n4) (And.intro o4 hr4))))
    have l4 := ldM H4.out.1
    have g4 := H4.out.1.lt
    have CR := rright w4 F m v H4.out.2.2.1 HX.out.2.1 (by omega)
    rw [HR.out] at CR
    have CR := Lib.hid CR
    clear n4 o4 hr4 CB l3 g3
    go_wp2_with fail
    with_reducible refine CR.out.mono ?_
    rintro x w5 ⟨rfl, n5⟩
    have hr5 := (H4.out.2.2.2.2.chg n5 fun b hb => ⟨hb, id⟩).mono (G := fun b => b < w5.heap.size) fun b hb => Nat.lt_of_lt_of_le hb n5.size
    have H5 := Lib.hid (And.intro (H4.out.1.chg n5 id) (And.intro (H4.out.2.1.trans n5 fun _ _ => id) (And.intro (H4.out.2.2.1.new n5) (own_chg H4.out.2.2.2.1 n5 fun _ _ => id))))
    have CP := parse_ HM.out.2.1 w5 _ A L c _ hr5 (fun b hb => hb) (by omega) hc4 (HM.out.1.new H5.out.2.1)
    rw [(parse_frame HR.out (by have := HX.out.2.2.1; omega)).1, (parse_frame HR.out (by have := HX.out.2.2.1; omega)).2] at CP
    have CP := Lib.hid CP
    clear n5 hr5 l4 g4 CR
    go_wp2_with fail
    with_reducible refine CP.out.mono ?_
    rintro x w6 ⟨u6, rfl, o6, n6⟩
    have hval : ((some (back m)).getD m0).val u6 = (back m).val u6 := rfl
    obtain ⟨w7, hst7, b7, n7, g7⟩ := new_ms w6 (back m) u6 (by obtain ⟨_, _, h⟩ := o6.form; rw [h]; rfl)
    have n67 := n6.trans n7 fun _ _ => id
    have hro := RowE.of_own (own_chg o6 n7 fun _ _ => id)
    obtain ⟨gb, hgb⟩ : ∃ g, w6.heap.size = g := ⟨_, rfl⟩
    rw [hgb] at hst7 g7 b7
    have H7 := Lib.hid (And.intro (H5.out.1.chg n67 id) (And.intro (H5.out.2.1.trans n67 fun _ _ => id) (And.intro (H5.out.2.2.1.new n67) (And.intro (own_chg H5.out.2.2.2 n67 fun _ _ => id) (And.intro hro b7)))))
    have gg1 := b7.lt
    have gg2 := H7.out.1.lt
    obtain ⟨bs, hbs⟩ : ∃ b : ByteArray, ⟨(Frame.frameL (payload m)).toArray⟩ = b := ⟨_, rfl⟩
    have HBS := Lib.hid hbs
    have FA := Lib.hid (fun W (hW : New w7.drew W) => And.intro (ldM (H7.out.1.drew.chg hW id)) (And.intro (ldM (H7.out.2.2.2.2.2.drew.chg hW id)) (by have := own_str (show OwnB w7.drew w3.heap.size (.slice A L c) (Frame.frameL (payload m)) from H7.out.2.2.2.1) hW; rw [hbs] at this; exact this)))
    have C1 := right_ HM.out.2.1 w7.drew F m v (H7.out.2.2.1.new (Chg.refl _ _).drew) HX.out.1 (HM.out.1.new H7.out.2.1.drew) (by omega)
    rw [HR.out, if_pos rfl] at C1
    have C1 := Lib.hid C1
    have HV7 := Lib.hid (H7.out.2.2.1.new (Chg.refl _ _).drew)
    have HW7 := Lib.hid (H7.out.2.2.2.2.1.new (Chg.refl _ _).drew)
    clear o6 n6 n7 n67 b7 hro CP hbs
    go_wp2_with fail
    refine grow_start (fun _ => False) (by kernel_rfl) ?_
    refine grow_take (i := 0) (oi := { dst := some 37, op := Op.move (Operand.tmp 4), type := 30, pos := "law.go:46", after := #[], guard := none }) (v := ?_) rfl (by kernel_rfl) (by kernel_rfl) (by kernel_rfl) (by rfl) ?_ ?_; rotate_left; focus ((intro W hW; go_simp) <;> with_reducible rfl)
    simp only [Act.put, List.setIfInBounds_toArray, List.set_cons_zero, List.set_cons_succ]
    refine grow_take (i := 1) (oi := { dst := some 38, op := Op.binOp BinOp.eql 30 (Operand.tmp 37) (Operand.const (Value.int IntKind.i64 0)) 30, type := 4, pos := "law.go:46", after := #[{ on := 0, ground := Ground.data }], guard := none }) (v := ?_) rfl (by kernel_rfl) (by kernel_rfl) (by kernel_rfl) (by rfl) ?_ ?_; rotate_left; focus ((intro W hW; have fct := FA.out W hW; go_simp) <;> with_reducible rfl)
    simp only [Act.put, List.setIfInBounds_toArray, List.set_cons_zero, List.set_cons_succ]
    refine grow_take (i := 2) (oi := { dst := some 39, op := Op.move (Operand.tmp 38), type := 4, pos := "law.go:46", after := #[{ on := 1, ground := Ground.data }], guard := none }) (v := ?_) rfl (by kernel_rfl) (by kernel_rfl) (by kernel_rfl) (by rfl) ?_ ?_; rotate_left; focus ((intro W hW; go_simp) <;> with_reducible rfl)
    simp only [Act.put, List.setIfInBounds_toArray, List.set_cons_zero, List.set_cons_succ]
    first | (refine grow_take (i := 3) (oi := { dst := some 40, op := Op.load 26 (Operand.tmp 1), type := 26, pos := "law.go:46", after := #[{ on := 2, ground := Ground.guard }], guard := some (2, true) }) (v := ?_) rfl (by kernel_rfl) (by kernel_rfl) (by kernel_rfl) (by rfl) ?_ ?_; rotate_left; focus ((intro W hW; have fct := FA.out W hW; go_simp) <;> with_reducible rfl)) | refine grow_skip (i := 3) (oi := { dst := some 40, op := Op.load 26 (Operand.tmp 1), type := 26, pos := "law.go:46", after := #[{ on := 2, ground := Ground.guard }], guard := some (2, true) }) rfl (by kernel_rfl) (by kernel_rfl) (by kernel_rfl) (by rfl) ?_ | fail "op 3"
    simp only [Act.put, List.setIfInBounds_toArray, List.set_cons_zero, List.set_cons_succ]
    refine grow_next (i := 4) (oi := { dst := some 41, op := Op.call { callee := Callee.value (Operand.func 11), args := #[Operand.tmp 40], argTypes := #[26] }, type := 30, pos := "law.go:46", after := #[{ on := 3, ground := Ground.data }, { on := 2, ground := Ground.chain }, { on := 2, ground := Ground.guard }], guard := some (2, true) }) (by kernel_rfl) rfl (by rfl) (fun K hK => ?_)
    go_simp
    with_reducible refine C1.out.mono ?_
    rintro x wa ⟨rfl, na⟩
    refine hK _ _ na ?_
    clear hK K
    try simp only [Act.put, List.setIfInBounds_toArray, List.set_cons_zero, List.set_cons_succ]
    have Fb := Lib.hid (fun W (hW : New wa W) => FA.out W (na.trans hW fun _ _ => id))
    have C2 := Lib.hid (rbytes wa F m v (HV7.out.new na) (fun b hb => Nat.lt_of_lt_of_le (HM.out.2.2.2.2 b hb) (H7.out.2.1.drew.trans na fun _ _ => id).size) HX.out.1 (by omega) (by have := HX.out.2.2.1; omega))
    first | (refine grow_take (i := 5) (oi := { dst := some 42, op := Op.binOp BinOp.eql 30 (Operand.tmp 41) (Operand.const (Value.int IntKind.i64 0)) 30, type := 4, pos := "law.go:46", after := #[{ on := 4, ground := Ground.data }, { on := 2, ground := Ground.guard }], guard := some (2, true) }) (v := ?_) rfl (by kernel_rfl) (by kernel_rfl) (by kernel_rfl) (by rfl) ?_ ?_; rotate_left; focus ((intro W hW; have fct := Fb.out W hW; go_simp) <;> with_reducible rfl)) | refine grow_skip (i := 5) (oi := { dst := some 42, op := Op.binOp BinOp.eql 30 (Operand.tmp 41) (Operand.const (Value.int IntKind.i64 0)) 30, type := 4, pos := "law.go:46", after := #[{ on := 4, ground := Ground.data }, { on := 2, ground := Ground.guard }], guard := some (2, true) }) rfl (by kernel_rfl) (by kernel_rfl) (by kernel_rfl) (by rfl) ?_ | fail "op 5"
    simp only [Act.put, List.setIfInBounds_toArray, List.set_cons_zero, List.set_cons_succ]
    refine grow_take (i := 6) (oi := { dst := some 43, op := Op.pick (Operand.tmp 39) (Operand.tmp 42) (Operand.const (Value.bool false)), type := 4, pos := "law.go:46", after := #[{ on := 2, ground := Ground.data }, { on := 5, ground := Ground.data }], guard := none }) (v := ?_) rfl (by kernel_rfl) (by kernel_rfl) (by kernel_rfl) (by rfl) ?_ ?_; rotate_left; focus ((intro W hW; go_simp) <;> with_reducible rfl)
    simp only [Act.put, List.setIfInBounds_toArray, List.set_cons_zero, List.set_cons_succ]
    refine grow_take (i := 7) (oi := { dst := some 44, op := Op.move (Operand.tmp 43), type := 4, pos := "law.go:46", after := #[{ on := 6, ground := Ground.data }, { on := 4, ground := Ground.chain }], guard := none }) (v := ?_) rfl (by kernel_rfl) (by kernel_rfl) (by kernel_rfl) (by rfl) ?_ ?_; rotate_left; focus ((intro W hW; go_simp) <;> with_reducible rfl)
    simp only [Act.put, List.setIfInBounds_toArray, List.set_cons_zero, List.set_cons_succ]
    first | (refine grow_take (i := 8) (oi := { dst := some 45, op := Op.move (Operand.tmp 3), type := 29, pos := "law.go:46", after := #[{ on := 7, ground := Ground.guard }], guard := some (7, true) }) (v := ?_) rfl (by kernel_rfl) (by kernel_rfl) (by kernel_rfl) (by rfl) ?_ ?_; rotate_left; focus ((intro W hW; go_simp) <;> with_reducible rfl)) | refine grow_skip (i := 8) (oi := { dst := some 45, op := Op.move (Operand.tmp 3), type := 29, pos := "law.go:46", after := #[{ on := 7, ground := Ground.guard }], guard := some (7, true) }) rfl (by kernel_rfl) (by kernel_rfl) (by kernel_rfl) (by rfl) ?_ | fail "op 8"
    simp only [Act.put, List.setIfInBounds_toArray, List.set_cons_zero, List.set_cons_succ]
    first | (refine grow_take (i := 9) (oi := { dst := some 46, op := Op.convert 29 9 (Operand.tmp 45), type := 9, pos := "law.go:46", after := #[{ on := 8, ground := Ground.data }, { on := 7, ground := Ground.guard }], guard := some (7, true) }) (v := ?_) rfl (by kernel_rfl) (by kernel_rfl) (by kernel_rfl) (by rfl) ?_ ?_; rotate_left; focus ((intro W hW; have fct := Fb.out W hW; go_simp) <;> with_reducible rfl)) | refine grow_skip (i := 9) (oi := { dst := some 46, op := Op.convert 29 9 (Operand.tmp 45), type := 9, pos := "law.go:46", after := #[{ on := 8, ground := Ground.data }, { on := 7, ground := Ground.guard }], guard := some (7, true) }) rfl (by kernel_rfl) (by kernel_rfl) (by kernel_rfl) (by rfl) ?_ | fail "op 9"
    simp only [Act.put, List.setIfInBounds_toArray, List.set_cons_zero, List.set_cons_succ]
    first | (refine grow_take (i := 10) (oi := { dst := some 47, op := Op.load 26 (Operand.tmp 1), type := 26, pos := "law.go:46", after := #[{ on := 7, ground := Ground.guard }], guard := some (7, true) }) (v := ?_) rfl (by kernel_rfl) (by kernel_rfl) (by kernel_rfl) (by rfl) ?_ ?_; rotate_left; focus ((intro W hW; have fct := Fb.out W hW; go_simp) <;> with_reducible rfl)) | refine grow_skip (i := 10) (oi := { dst := some 47, op := Op.load 26 (Operand.tmp 1), type := 26, pos := "law.go:46", after := #[{ on := 7, ground := Ground.guard }], guard := some (7, true) }) rfl (by kernel_rfl) (by kernel_rfl) (by kernel_rfl) (by rfl) ?_ | fail "op 10"
    simp only [Act.put, List.setIfInBounds_toArray, List.set_cons_zero, List.set_cons_succ]
    refine grow_next (i := 11) (oi := { dst := some 48, op := Op.call { callee := Callee.value (Operand.func 13), args := #[Operand.tmp 47], argTypes := #[26] }, type := 29, pos := "law.go:46", after := #[{ on := 10, ground := Ground.data }, { on := 7, ground := Ground.chain }, { on := 7, ground := Ground.guard }], guard := some (7, true) }) (by kernel_rfl) rfl (by rfl) (fun K hK => ?_)
    go_simp
    with_reducible refine C2.out.mono ?_
    rintro x wb ⟨ub, rfl, ob, nb⟩
    refine hK _ _ nb ?_
    clear hK K
    try simp only [Act.put, List.setIfInBounds_toArray, List.set_cons_zero, List.set_cons_succ]
    have nab := na.trans nb fun _ _ => id
    have Fc := Lib.hid (fun W (hW : New wb W) => And.intro (FA.out W (nab.trans hW fun _ _ => id)) (by have := own_str ob hW; rw [HBS.out] at this; exact this))
    have C3 := rsame wb F _ m (back m) v u6 (HV7.out.new nab) (HW7.out.new nab) (by omega)
    rw [sameM_back] at C3
    have C3 := Lib.hid C3
    first | (refine grow_take (i := 12) (oi := { dst := some 49, op := Op.convert 29 9 (Operand.tmp 48), type := 9, pos := "law.go:46", after := #[{ on := 11, ground := Ground.data }, { on := 7, ground := Ground.guard }], guard := some (7, true) }) (v := ?_) rfl (by kernel_rfl) (by kernel_rfl) (by kernel_rfl) (by rfl) ?_ ?_; rotate_left; focus ((intro W hW; have fct := Fc.out W hW; go_simp) <;> with_reducible rfl)) | refine grow_skip (i := 12) (oi := { dst := some 49, op := Op.convert 29 9 (Operand.tmp 48), type := 9, pos := "law.go:46", after := #[{ on := 11, ground := Ground.data }, { on := 7, ground := Ground.guard }], guard := some (7, true) }) rfl (by kernel_rfl) (by kernel_rfl) (by kernel_rfl) (by rfl) ?_ | fail "op 12"
    simp only [Act.put, List.setIfInBounds_toArray, List.set_cons_zero, List.set_cons_succ]
    first | (refine grow_take (i := 13) (oi := { dst := some 50, op := Op.binOp BinOp.eql 9 (Operand.tmp 46) (Operand.tmp 49) 9, type := 4, pos := "law.go:46", after := #[{ on := 9, ground := Ground.data }, { on := 12, ground := Ground.data }, { on := 7, ground := Ground.guard }], guard := some (7, true) }) (v := ?_) rfl (by kernel_rfl) (by kernel_rfl) (by kernel_rfl) (by rfl) ?_ ?_; rotate_left; focus ((intro W hW; have fct := Fc.out W hW; go_simp) <;> with_reducible rfl)) | refine grow_skip (i := 13) (oi := { dst := some 50, op := Op.binOp BinOp.eql 9 (Operand.tmp 46) (Operand.tmp 49) 9, type := 4, pos := "law.go:46", after := #[{ on := 9, ground := Ground.data }, { on := 12, ground := Ground.data }, { on := 7, ground := Ground.guard }], guard := some (7, true) }) rfl (by kernel_rfl) (by kernel_rfl) (by kernel_rfl) (by rfl) ?_ | fail "op 13"
    simp only [Act.put, List.setIfInBounds_toArray, List.set_cons_zero, List.set_cons_succ]
    refine grow_take (i := 14) (oi := { dst := some 51, op := Op.pick (Operand.tmp 44) (Operand.tmp 50) (Operand.const (Value.bool false)), type := 4, pos := "law.go:46", after := #[{ on := 7, ground := Ground.data }, { on := 13, ground := Ground.data }], guard := none }) (v := ?_) rfl (by kernel_rfl) (by kernel_rfl) (by kernel_rfl) (by rfl) ?_ ?_; rotate_left; focus ((intro W hW; go_simp) <;> with_reducible rfl)
    simp only [Act.put, List.setIfInBounds_toArray, List.set_cons_zero, List.set_cons_succ]
    refine grow_take (i := 15) (oi := { dst := some 52, op := Op.move (Operand.tmp 51), type := 4, pos := "law.go:46", after := #[{ on := 14, ground := Ground.data }, { on := 11, ground := Ground.chain }], guard := none }) (v := ?_) rfl (by kernel_rfl) (by kernel_rfl) (by kernel_rfl) (by rfl) ?_ ?_; rotate_left; focus ((intro W hW; go_simp) <;> with_reducible rfl)
    simp only [Act.put, List.setIfInBounds_toArray, List.set_cons_zero, List.set_cons_succ]
    first | (refine grow_take (i := 16) (oi := { dst := some 53, op := Op.move (Operand.tmp 6), type := 30, pos := "law.go:46", after := #[{ on := 15, ground := Ground.guard }], guard := some (15, true) }) (v := ?_) rfl (by kernel_rfl) (by kernel_rfl) (by kernel_rfl) (by rfl) ?_ ?_; rotate_left; focus ((intro W hW; go_simp) <;> with_reducible rfl)) | refine grow_skip (i := 16) (oi := { dst := some 53, op := Op.move (Operand.tmp 6), type := 30, pos := "law.go:46", after := #[{ on := 15, ground := Ground.guard }], guard := some (15, true) }) rfl (by kernel_rfl) (by kernel_rfl) (by kernel_rfl) (by rfl) ?_ | fail "op 16"
    simp only [Act.put, List.setIfInBounds_toArray, List.set_cons_zero, List.set_cons_succ]
    first | (refine grow_take (i := 17) (oi := { dst := some 54, op := Op.binOp BinOp.eql 30 (Operand.tmp 53) (Operand.const (Value.int IntKind.i64 0)) 30, type := 4, pos := "law.go:46", after := #[{ on := 16, ground := Ground.data }, { on := 15, ground := Ground.guard }], guard := some (15, true) }) (v := ?_) rfl (by kernel_rfl) (by kernel_rfl) (by kernel_rfl) (by rfl) ?_ ?_; rotate_left; focus ((intro W hW; have fct := Fc.out W hW; go_simp) <;> with_reducible rfl)) | refine grow_skip (i := 17) (oi := { dst := some 54, op := Op.binOp BinOp.eql 30 (Operand.tmp 53) (Operand.const (Value.int IntKind.i64 0)) 30, type := 4, pos := "law.go:46", after := #[{ on := 16, ground := Ground.data }, { on := 15, ground := Ground.guard }], guard := some (15, true) }) rfl (by kernel_rfl) (by kernel_rfl) (by kernel_rfl) (by rfl) ?_ | fail "op 17"
    simp only [Act.put, List.setIfInBounds_toArray, List.set_cons_zero, List.set_cons_succ]
    refine grow_take (i := 18) (oi := { dst := some 55, op := Op.pick (Operand.tmp 52) (Operand.tmp 54) (Operand.const (Value.bool false)), type := 4, pos := "law.go:46", after := #[{ on := 15, ground := Ground.data }, { on := 17, ground := Ground.data }], guard := none }) (v := ?_) rfl (by kernel_rfl) (by kernel_rfl) (by kernel_rfl) (by rfl) ?_ ?_; rotate_left; focus ((intro W hW; go_simp) <;> with_reducible rfl)
    simp only [Act.put, List.setIfInBounds_toArray, List.set_cons_zero, List.set_cons_succ]
    refine grow_take (i := 19) (oi := { dst := some 56, op := Op.move (Operand.tmp 55), type := 4, pos := "law.go:46", after := #[{ on := 18, ground := Ground.data }, { on := 15, ground := Ground.chain }], guard := none }) (v := ?_) rfl (by kernel_rfl) (by kernel_rfl) (by kernel_rfl) (by rfl) ?_ ?_; rotate_left; focus ((intro W hW; go_simp) <;> with_reducible rfl)
    simp only [Act.put, List.setIfInBounds_toArray, List.set_cons_zero, List.set_cons_succ]
    first | (refine grow_take (i := 20) (oi := { dst := some 57, op := Op.load 26 (Operand.tmp 1), type := 26, pos := "law.go:46", after := #[{ on := 19, ground := Ground.guard }], guard := some (19, true) }) (v := ?_) rfl (by kernel_rfl) (by kernel_rfl) (by kernel_rfl) (by rfl) ?_ ?_; rotate_left; focus ((intro W hW; have fct := Fc.out W hW; go_simp) <;> with_reducible rfl)) | refine grow_skip (i := 20) (oi := { dst := some 57, op := Op.load 26 (Operand.tmp 1), type := 26, pos := "law.go:46", after := #[{ on := 19, ground := Ground.guard }], guard := some (19, true) }) rfl (by kernel_rfl) (by kernel_rfl) (by kernel_rfl) (by rfl) ?_ | fail "op 20"
    simp only [Act.put, List.setIfInBounds_toArray, List.set_cons_zero, List.set_cons_succ]
    first | (refine grow_take (i := 21) (oi := { dst := some 58, op := Op.load 26 (Operand.tmp 5), type := 26, pos := "law.go:46", after := #[{ on := 19, ground := Ground.guard }], guard := some (19, true) }) (v := ?_) rfl (by kernel_rfl) (by kernel_rfl) (by kernel_rfl) (by rfl) ?_ ?_; rotate_left; focus ((intro W hW; have fct := Fc.out W hW; go_simp) <;> with_reducible rfl)) | refine grow_skip (i := 21) (oi := { dst := some 58, op := Op.load 26 (Operand.tmp 5), type := 26, pos := "law.go:46", after := #[{ on := 19, ground := Ground.guard }], guard := some (19, true) }) rfl (by kernel_rfl) (by kernel_rfl) (by kernel_rfl) (by rfl) ?_ | fail "op 21"
    simp only [Act.put, List.setIfInBounds_toArray, List.set_cons_zero, List.set_cons_succ]
    refine grow_next (i := 22) (oi := { dst := some 59, op := Op.call { callee := Callee.value (Operand.func 14), args := #[Operand.tmp 57, Operand.tmp 58], argTypes := #[26, 26] }, type := 4, pos := "law.go:46", after := #[{ on := 20, ground := Ground.data }, { on := 21, ground := Ground.data }, { on := 19, ground := Ground.chain }, { on := 19, ground := Ground.guard }], guard := some (19, true) }) (by kernel_rfl) rfl (by rfl) (fun K hK => ?_)
    go_simp
    with_reducible refine C3.out.mono ?_
    rintro x wc ⟨rfl, nc⟩
    refine hK _ _ nc ?_
    clear hK K
    try simp only [Act.put, List.setIfInBounds_toArray, List.set_cons_zero, List.set_cons_succ]
    have ncc := nab.trans nc fun _ _ => id
    refine grow_take (i := 23) (oi := { dst := some 60, op := Op.pick (Operand.tmp 56) (Operand.tmp 59) (Operand.const (Value.bool false)), type := 4, pos := "law.go:46", after := #[{ on := 19, ground := Ground.data }, { on := 22, ground := Ground.data }], guard := none }) (v := ?_) rfl (by kernel_rfl) (by kernel_rfl) (by kernel_rfl) (by rfl) ?_ ?_; rotate_left; focus ((intro W hW; go_simp) <;> with_reducible rfl)
    simp only [Act.put, List.setIfInBounds_toArray, List.set_cons_zero, List.set_cons_succ]
    refine grow_take (i := 24) (oi := { dst := some 2, op := Op.assign (Operand.tmp 60), type := 4, pos := "law.go:46", after := #[{ on := 23, ground := Ground.data }, { on := 22, ground := Ground.chain }, { on := 0, ground := Ground.phase }, { on := 1, ground := Ground.phase }, { on := 2, ground := Ground.phase }, { on := 3, ground := Ground.phase }, { on := 4, ground := Ground.phase }, { on := 5, ground := Ground.phase }, { on := 6, ground := Ground.phase }, { on := 7, ground := Ground.phase }, { on := 8, ground := Ground.phase }, { on := 9, ground := Ground.phase }, { on := 10, ground := Ground.phase }, { on := 11, ground := Ground.phase }, { on := 12, ground := Ground.phase }, { on := 13, ground := Ground.phase }, { on := 14, ground := Ground.phase }, { on := 15, ground := Ground.phase }, { on := 16, ground := Ground.phase }, { on := 17, ground := Ground.phase }, { on := 18, ground := Ground.phase }, { on := 19, ground := Ground.phase }, { on := 20, ground := Ground.phase }, { on := 21, ground := Ground.phase }, { on := 22, ground := Ground.phase }, { on := 23, ground := Ground.phase }], guard := none }) (v := ?_) rfl (by kernel_rfl) (by kernel_rfl) (by kernel_rfl) (by rfl) ?_ ?_; rotate_left; focus ((intro W hW; go_simp) <;> with_reducible rfl)
    simp only [Act.put, List.setIfInBounds_toArray, List.set_cons_zero, List.set_cons_succ]
    refine grow_done (by kernel_rfl) ?_ _
    go_wp2_with fail
    go_ret
    exact ⟨rfl, H7.out.2.1.drew.trans ncc fun _ _ => id⟩
  · rw [if_neg hr, if_neg hr] at CB
    have CB := Lib.hid CB
    have hrf : rightM m = false := by simpa using hr
    have HR := Lib.hid hrf
    clear hr hrf hsh hfew hfit hsm hpl
    go_wp2_with fail
    with_reducible refine CB.out.mono ?_
    rintro x w4 ⟨u4, rfl, o4, n4⟩
    obtain ⟨A, c, hv4, hc4, _⟩ := o4.form
    have hv4 : u4 = .slice A 0 c := hv4
    subst hv4
    have H4 := Lib.hid (And.intro (H3.out.1.chg n4 id) (And.intro (H3.out.2.1.trans n4 fun _ _ => id) (H3.out.2.2.new n4)))
    have l4 := ldM H4.out.1
    have g4 := H4.out.1.lt
    have CR := rright w4 F m v H4.out.2.2 HX.out.2.1 (by omega)
    rw [HR.out] at CR
    have CR := Lib.hid CR
    clear n4 o4 CB l3 g3
    go_wp2_with fail
    with_reducible refine CR.out.mono ?_
    rintro x w5 ⟨rfl, n5⟩
    have H5 := Lib.hid (And.intro (H4.out.1.chg n5 id) (And.intro (H4.out.2.1.trans n5 fun _ _ => id) (H4.out.2.2.new n5)))
    have l5 := ldM H5.out.1
    have g5 := H5.out.1.lt
    have C1 := right_ HM.out.2.1 w5 F m v H5.out.2.2 HX.out.1 (HM.out.1.new H5.out.2.1) (by omega)
    rw [HR.out, if_neg (by decide)] at C1
    have C1 := Lib.hid C1
    clear n5 l4 g4 CR
    go_wp2_with fail
    with_reducible refine C1.out.mono ?_
    rintro x w6 ⟨rfl, n6⟩
    have N6 := Lib.hid (H5.out.2.1.trans n6 fun _ _ => id)
    clear n6
    go_wp2_with fail
    go_ret
    exact ⟨rfl, N6.out⟩
end Msg
end Go.Proofs.YtkmkpdmjdfbpjaaGreatDoor

/-
  hedgerowlaw10.DiskSpoils returns true for every input: a byte that is spoilt twice, likewise, is as it was; all others never change (no condition).
-/
import Derived.Test.YtjliioapiohciaaDiskLaw
import Derived.Test.YtjliioapiohciaaOpen
namespace Go.Proofs.Ytjliioapiohciaa
open Go.ChangeShapes Go.WideShapes Go.RowKit
namespace Disk
theorem sp1 (xs : List UInt8) (h : xs.length ≤ 500) : resetF fresh xs = ⟨xs, xs.length⟩ := by
  unfold resetF
  rw [if_neg (by omega)]
def spB (xs : List UInt8) (at_ : Int) (y : UInt8) : List UInt8 := if 0 ≤ at_ ∧ at_ < xs.length then turn xs at_.toNat y else xs
theorem sp2 (xs : List UInt8) (s : Nat) (at_ : Int) (y : UInt8) : spoilF ⟨xs, s⟩ at_ y = ⟨spB xs at_ y, s⟩ := by
  unfold spoilF spB
  split <;> rfl
theorem spB_length (xs : List UInt8) (at_ : Int) (y : UInt8) : (spB xs at_ y).length = xs.length := by
  unfold spB
  split
  · exact turn_length ..
  · rfl
theorem xor_twice (x y : UInt8) : x ^^^ y ^^^ y = x := by
  apply UInt8.toNat_inj.1
  simp [Nat.xor_assoc]
theorem turn_twice (xs : List UInt8) (i : Nat) (y : UInt8) : turn (turn xs i y) i y = xs := by
  unfold turn
  by_cases h : i < xs.length
  · rw [List.set_set]
    simp only [List.getD_eq_getElem?_getD, List.getElem?_set_self h, List.getElem?_eq_getElem h, Option.getD_some, xor_twice]
    exact List.set_getElem_self h
  · rw [List.set_eq_of_length_le (by simp; omega), List.set_eq_of_length_le (by omega)]
theorem sp3 (xs : List UInt8) (at_ : Int) (y : UInt8) : spB (spB xs at_ y) at_ y = xs := by
  by_cases h : 0 ≤ at_ ∧ at_ < xs.length
  · have e : spB xs at_ y = turn xs at_.toNat y := by unfold spB; rw [if_pos h]
    rw [e]
    unfold spB
    rw [turn_length, if_pos h, turn_twice]
  · have e : spB xs at_ y = xs := by unfold spB; rw [if_neg h]
    rw [e, e]
theorem spB_at (xs : List UInt8) (k : Nat) (y : UInt8) (hk : k < xs.length) : (spB xs (k : Int) y)[k]? = some (xs[k] ^^^ y) := by
  unfold spB
  rw [if_pos (by omega), Int.toNat_natCast, turn, List.getElem?_set_self hk]
  simp [List.getD_eq_getElem?_getD, hk]
theorem spB_ne (xs : List UInt8) (k : Nat) (at_ : Int) (y : UInt8) (hk : k < xs.length) (h : (k : Int) ≠ at_) : (spB xs at_ y)[k]? = some xs[k] := by
  unfold spB
  split
  · rw [turn, List.getElem?_set_ne (by omega), List.getElem?_eq_getElem hk]
  · exact List.getElem?_eq_getElem hk
set_option maxHeartbeats 4000000 in
set_option maxRecDepth 100000 in
theorem spoils (w : World) (A : Option Addr) (n c : Nat) (xs : List UInt8) (at_ : Int) (y : UInt8) (ha : -9223372036854775808 ≤ at_) (hA : at_ ≤ 9223372036854775807) (hn : n ≤ 140737488351232)
    (hl : Reads w (fun b => b < w.heap.size) 1 A n (u8s xs)) :
    Calls Try.prog 6 #[.slice A n c, .int .i64 at_, .int .u8 (y.toNat : Int)] w fun e w' => LawEnd w e w' := by
  by_cases hbig : 500 < (n : Int)
  · go_enter Try.func6, Try.ntmps6
    go_wp2_with fail
    refine (fixed _).mono ?_
    rintro e w1 ⟨rfl, n1⟩
    go_wp2
    go_ret
    exact ⟨rfl, n1⟩
  · have hx := hl.u8len
    have HX := Lib.hid hx
    have S1 := Lib.hid (sp1 xs (by omega))
    clear hx
    go_enter Try.func6, Try.ntmps6
    go_wp2_with fail
    refine (fixed _).mono ?_
    rintro e w1 ⟨rfl, n1⟩
    go_wp2_with fail
    refine (new_ _).mono ?_
    rintro e w2 ⟨rfl, h2, n2⟩
    have n12 := n1.trans n2 (fun _ _ => False.elim)
    go_wp2_with fail
    have k1 := reset _ _ _ _ _ h2 A n c xs _ (hl.chg n12 (fun b hb => ⟨hb, id⟩)) (by omega)
    rw [S1.out] at k1
    refine k1.mono ?_
    clear k1
    rintro e w3 ⟨rfl, v3, h3, c3, b3⟩
    have n3 := h2.newF n12 c3 n1.size
    clear h2 n2 n12 c3 b3
    have hlo := n1.size
    generalize w1.heap.size = b at *
    go_wp2_with fail
    have k1 := spoil _ _ _ _ _ h3 at_ y ha hA
    rw [sp2] at k1
    refine k1.mono ?_
    clear k1
    rintro e w4 ⟨rfl, h4, c4⟩
    have n4 := h3.newF n3 c4 hlo
    clear h3 n3 c4
    go_wp2_with fail
    refine (bytes _ _ _ _ _ h4).mono ?_
    rintro e w5 ⟨u, rfl, ho, c5⟩
    have n5 := n4.trans c5 (fun _ _ => False.elim)
    have h5 := h4.new c5
    obtain ⟨A2, d2, hu, _, _, _, hr5⟩ := ho.form
    have hl5 := hl.chg n5 (fun b hb => ⟨hb, id⟩)
    have hln : (spB xs at_ y).length = n := by rw [spB_length, HX.out]
    rw [hln] at hu hr5
    subst hu
    clear h4 n4 c5 ho
    go_wp2
    go_loopw [9, 27] (fun _ i wr => ∃ (k q : Nat), k ≤ n ∧ i = .int .i64 k ∧ wr = w5.drewN q) (fun _ i _ => n - (intOf i).toNat)
    case atStart => exact ⟨0, 0, by omega, rfl, rfl⟩
    case round =>
      obtain ⟨k, q, hk, rfl, rfl⟩ := hrel
      by_cases hlt : k < n
      · have hkx : k < xs.length := by rw [HX.out]; exact hlt
        obtain ⟨a1, x1, e1, _, hx1, hc1⟩ := hl5.byte hlt
        obtain ⟨a2, x2, e2, _, hx2, hc2⟩ := hr5.byte hlt
        subst e1 e2
        rw [List.getElem?_eq_getElem hkx] at hx1
        injection hx1 with hx1
        by_cases hat : (k : Int) = at_
        · subst hat
          rw [spB_at _ _ _ hkx, hx1] at hx2
          injection hx2 with hx2
          subst hx2
          have hxor := xor_u8 x1 y
          have b1 : ((k : Int) != (k : Int)) = false := by simp
          clear hx1 hl5 hr5 hln
          have hki : (k : Int) < n := by omega
          generalize x1 ^^^ y = z at *
          by_cases hz : ((z.toNat : Int) != (x1.toNat : Int)) = true
          · go_wp2_with fail
            go_quiet (fail)
            go_wp2
            go_roundw
            case rel => exact ⟨k + 1, _, by omega, by go_num, rfl⟩
            case measure => simp [intOf]; omega
          · have hz2 : ((z.toNat : Int) != (x1.toNat : Int)) = false := by simpa using hz
            clear hz
            go_wp2_with fail
            go_quiet (fail)
            go_wp2
            go_roundw
            case rel => exact ⟨k + 1, _, by omega, by go_num, rfl⟩
            case measure => simp [intOf]; omega
        · rw [spB_ne _ _ _ _ hkx hat, hx1] at hx2
          injection hx2 with hx2
          subst hx2
          have b1 : ((k : Int) == at_) = false := by simpa using hat
          have b2 : ((k : Int) != at_) = true := by simpa using hat
          have b3 : ((x1.toNat : Int) != (x1.toNat : Int)) = false := by simp
          have hki : (k : Int) < n := by omega
          clear hx1 hl5 hr5 hln
          go_wp2_with fail
          go_quiet (fail)
          go_wp2
          go_roundw
          case rel => exact ⟨k + 1, _, by omega, by go_num, rfl⟩
          case measure => simp [intOf]; omega
      · obtain rfl : k = n := by omega
        have h6 := h5.drewN q
        have n6 := n5.drewN q
        have hl6 := hl.chg n6 (fun b hb => ⟨hb, id⟩)
        clear h5 n5 hl5 hr5
        go_wp2_with fail
        generalize w5.drewN q = w6 at *
        have k1 := spoil _ _ _ _ _ h6 at_ y ha hA
        rw [sp2, sp3] at k1
        refine k1.mono ?_
        clear k1
        rintro e w7 ⟨rfl, h7, c7⟩
        have n7 := h6.newF n6 c7 hlo
        have F := Lib.hid (fun W (hW : New w7.drew W) => run_str (P := Try.prog) Try.underlying26 Try.underlying5 Try.underlying9 ((hl.chg n7 (fun b hb => ⟨hb, id⟩)).chg' ((Chg.refl _ w7).drew.trans hW (fun _ _ => id)) (fun _ _ => id) (by omega)) c)
        have C1 := Lib.hid (bytes _ _ _ _ _ h7.drew)
        have HN := Lib.hid n7
        have H7 := Lib.hid h7.drew
        clear h6 n6 hl6 c7 h7 n7
        go_wp2_with fail
        refine grow_start (fun _ => False) (by kernel_rfl) ?_
        refine grow_take (i := 0) (oi := { dst := some 67, op := Op.move (Operand.tmp 8), type := 26, pos := "law.go:150", after := #[], guard := none }) (v := ?_) rfl (by kernel_rfl) (by kernel_rfl) (by kernel_rfl) (by rfl) ?_ ?_; rotate_left; focus ((intro W hW; go_simp) <;> with_reducible rfl)
        simp only [Act.put, List.setIfInBounds_toArray, List.set_cons_zero, List.set_cons_succ]
        refine grow_take (i := 1) (oi := { dst := some 68, op := Op.call { callee := Callee.builtin Builtin.len, args := #[Operand.tmp 67], argTypes := #[26] }, type := 3, pos := "law.go:150", after := #[{ on := 0, ground := Ground.data }], guard := none }) (v := ?_) rfl (by kernel_rfl) (by kernel_rfl) (by kernel_rfl) (by rfl) ?_ ?_; rotate_left; focus ((intro W hW; have fct := F.out W hW; go_simp) <;> with_reducible rfl)
        simp only [Act.put, List.setIfInBounds_toArray, List.set_cons_zero, List.set_cons_succ]
        refine grow_take (i := 2) (oi := { dst := some 69, op := Op.move (Operand.tmp 0), type := 26, pos := "law.go:150", after := #[], guard := none }) (v := ?_) rfl (by kernel_rfl) (by kernel_rfl) (by kernel_rfl) (by rfl) ?_ ?_; rotate_left; focus ((intro W hW; go_simp) <;> with_reducible rfl)
        simp only [Act.put, List.setIfInBounds_toArray, List.set_cons_zero, List.set_cons_succ]
        refine grow_take (i := 3) (oi := { dst := some 70, op := Op.call { callee := Callee.builtin Builtin.len, args := #[Operand.tmp 69], argTypes := #[26] }, type := 3, pos := "law.go:150", after := #[{ on := 2, ground := Ground.data }], guard := none }) (v := ?_) rfl (by kernel_rfl) (by kernel_rfl) (by kernel_rfl) (by rfl) ?_ ?_; rotate_left; focus ((intro W hW; have fct := F.out W hW; go_simp) <;> with_reducible rfl)
        simp only [Act.put, List.setIfInBounds_toArray, List.set_cons_zero, List.set_cons_succ]
        refine grow_take (i := 4) (oi := { dst := some 71, op := Op.binOp BinOp.eql 3 (Operand.tmp 68) (Operand.tmp 70) 3, type := 4, pos := "law.go:150", after := #[{ on := 1, ground := Ground.data }, { on := 3, ground := Ground.data }], guard := none }) (v := ?_) rfl (by kernel_rfl) (by kernel_rfl) (by kernel_rfl) (by rfl) ?_ ?_; rotate_left; focus ((intro W hW; have fct := F.out W hW; go_simp) <;> with_reducible rfl)
        simp only [Act.put, List.setIfInBounds_toArray, List.set_cons_zero, List.set_cons_succ]
        refine grow_take (i := 5) (oi := { dst := some 72, op := Op.move (Operand.tmp 71), type := 4, pos := "law.go:150", after := #[{ on := 4, ground := Ground.data }], guard := none }) (v := ?_) rfl (by kernel_rfl) (by kernel_rfl) (by kernel_rfl) (by rfl) ?_ ?_; rotate_left; focus ((intro W hW; go_simp) <;> with_reducible rfl)
        simp only [Act.put, List.setIfInBounds_toArray, List.set_cons_zero, List.set_cons_succ]
        first | (refine grow_take (i := 6) (oi := { dst := some 73, op := Op.move (Operand.tmp 7), type := 24, pos := "law.go:150", after := #[{ on := 5, ground := Ground.guard }], guard := some (5, true) }) (v := ?_) rfl (by kernel_rfl) (by kernel_rfl) (by kernel_rfl) (by rfl) ?_ ?_; rotate_left; focus ((intro W hW; go_simp) <;> with_reducible rfl)) | refine grow_skip (i := 6) (oi := { dst := some 73, op := Op.move (Operand.tmp 7), type := 24, pos := "law.go:150", after := #[{ on := 5, ground := Ground.guard }], guard := some (5, true) }) rfl (by kernel_rfl) (by kernel_rfl) (by kernel_rfl) (by rfl) ?_ | fail "op 6"
        simp only [Act.put, List.setIfInBounds_toArray, List.set_cons_zero, List.set_cons_succ]
        first | (refine grow_take (i := 9) (oi := { dst := some 76, op := Op.move (Operand.tmp 0), type := 26, pos := "law.go:150", after := #[{ on := 5, ground := Ground.guard }], guard := some (5, true) }) (v := ?_) rfl (by kernel_rfl) (by kernel_rfl) (by kernel_rfl) (by rfl) ?_ ?_; rotate_left; focus ((intro W hW; go_simp) <;> with_reducible rfl)) | refine grow_skip (i := 9) (oi := { dst := some 76, op := Op.move (Operand.tmp 0), type := 26, pos := "law.go:150", after := #[{ on := 5, ground := Ground.guard }], guard := some (5, true) }) rfl (by kernel_rfl) (by kernel_rfl) (by kernel_rfl) (by rfl) ?_ | fail "op 9"
        simp only [Act.put, List.setIfInBounds_toArray, List.set_cons_zero, List.set_cons_succ]
        first | (refine grow_take (i := 10) (oi := { dst := some 77, op := Op.convert 26 9 (Operand.tmp 76), type := 9, pos := "law.go:150", after := #[{ on := 9, ground := Ground.data }, { on := 5, ground := Ground.guard }], guard := some (5, true) }) (v := ?_) rfl (by kernel_rfl) (by kernel_rfl) (by kernel_rfl) (by rfl) ?_ ?_; rotate_left; focus ((intro W hW; have fct := F.out W hW; go_simp) <;> with_reducible rfl)) | refine grow_skip (i := 10) (oi := { dst := some 77, op := Op.convert 26 9 (Operand.tmp 76), type := 9, pos := "law.go:150", after := #[{ on := 9, ground := Ground.data }, { on := 5, ground := Ground.guard }], guard := some (5, true) }) rfl (by kernel_rfl) (by kernel_rfl) (by kernel_rfl) (by rfl) ?_ | fail "op 10"
        simp only [Act.put, List.setIfInBounds_toArray, List.set_cons_zero, List.set_cons_succ]
        refine grow_next (i := 7) (oi := { dst := some 74, op := Op.call { callee := Callee.value (Operand.func 14), args := #[Operand.tmp 73], argTypes := #[24] }, type := 26, pos := "law.go:150", after := #[{ on := 6, ground := Ground.data }, { on := 5, ground := Ground.chain }, { on := 5, ground := Ground.guard }], guard := some (5, true) }) (by kernel_rfl) rfl (by rfl) (fun K hK => ?_)
        go_simp
        refine C1.out.mono ?_
        rintro e w8 ⟨u8, rfl, ho8, c8⟩
        refine hK _ _ c8 ?_
        clear hK K
        try simp only [Act.put, List.setIfInBounds_toArray, List.set_cons_zero, List.set_cons_succ]
        have F8 := Lib.hid (fun W (hW : New w8 W) => And.intro (F.out W (c8.trans hW (fun _ _ => id))) (bstrN ho8 hW))
        have h8 := H7.out.new c8
        have hn8 := HN.out.drew.trans c8 (fun _ _ => False.elim)
        have C2 := synced _ _ _ _ _ h8
        simp only [HX.out] at C2
        clear ho8 c8 h8
        first | (refine grow_take (i := 8) (oi := { dst := some 75, op := Op.convert 26 9 (Operand.tmp 74), type := 9, pos := "law.go:150", after := #[{ on := 7, ground := Ground.data }, { on := 5, ground := Ground.guard }], guard := some (5, true) }) (v := ?_) rfl (by kernel_rfl) (by kernel_rfl) (by kernel_rfl) (by rfl) ?_ ?_; rotate_left; focus ((intro W hW; have fct := F8.out W hW; go_simp) <;> with_reducible rfl)) | refine grow_skip (i := 8) (oi := { dst := some 75, op := Op.convert 26 9 (Operand.tmp 74), type := 9, pos := "law.go:150", after := #[{ on := 7, ground := Ground.data }, { on := 5, ground := Ground.guard }], guard := some (5, true) }) rfl (by kernel_rfl) (by kernel_rfl) (by kernel_rfl) (by rfl) ?_ | fail "op 8"
        simp only [Act.put, List.setIfInBounds_toArray, List.set_cons_zero, List.set_cons_succ]
        first | (refine grow_take (i := 11) (oi := { dst := some 78, op := Op.binOp BinOp.eql 9 (Operand.tmp 75) (Operand.tmp 77) 9, type := 4, pos := "law.go:150", after := #[{ on := 8, ground := Ground.data }, { on := 10, ground := Ground.data }, { on := 5, ground := Ground.guard }], guard := some (5, true) }) (v := ?_) rfl (by kernel_rfl) (by kernel_rfl) (by kernel_rfl) (by rfl) ?_ ?_; rotate_left; focus ((intro W hW; have fct := F8.out W hW; go_simp) <;> with_reducible rfl)) | refine grow_skip (i := 11) (oi := { dst := some 78, op := Op.binOp BinOp.eql 9 (Operand.tmp 75) (Operand.tmp 77) 9, type := 4, pos := "law.go:150", after := #[{ on := 8, ground := Ground.data }, { on := 10, ground := Ground.data }, { on := 5, ground := Ground.guard }], guard := some (5, true) }) rfl (by kernel_rfl) (by kernel_rfl) (by kernel_rfl) (by rfl) ?_ | fail "op 11"
        simp only [Act.put, List.setIfInBounds_toArray, List.set_cons_zero, List.set_cons_succ]
        refine grow_take (i := 12) (oi := { dst := some 79, op := Op.pick (Operand.tmp 72) (Operand.tmp 78) (Operand.const (Value.bool false)), type := 4, pos := "law.go:150", after := #[{ on := 5, ground := Ground.data }, { on := 11, ground := Ground.data }], guard := none }) (v := ?_) rfl (by kernel_rfl) (by kernel_rfl) (by kernel_rfl) (by rfl) ?_ ?_; rotate_left; focus ((intro W hW; go_simp) <;> with_reducible rfl)
        simp only [Act.put, List.setIfInBounds_toArray, List.set_cons_zero, List.set_cons_succ]
        refine grow_take (i := 13) (oi := { dst := some 80, op := Op.move (Operand.tmp 79), type := 4, pos := "law.go:150", after := #[{ on := 12, ground := Ground.data }, { on := 7, ground := Ground.chain }], guard := none }) (v := ?_) rfl (by kernel_rfl) (by kernel_rfl) (by kernel_rfl) (by rfl) ?_ ?_; rotate_left; focus ((intro W hW; go_simp) <;> with_reducible rfl)
        simp only [Act.put, List.setIfInBounds_toArray, List.set_cons_zero, List.set_cons_succ]
        first | (refine grow_take (i := 14) (oi := { dst := some 81, op := Op.move (Operand.tmp 7), type := 24, pos := "law.go:150", after := #[{ on := 13, ground := Ground.guard }], guard := some (13, true) }) (v := ?_) rfl (by kernel_rfl) (by kernel_rfl) (by kernel_rfl) (by rfl) ?_ ?_; rotate_left; focus ((intro W hW; go_simp) <;> with_reducible rfl)) | refine grow_skip (i := 14) (oi := { dst := some 81, op := Op.move (Operand.tmp 7), type := 24, pos := "law.go:150", after := #[{ on := 13, ground := Ground.guard }], guard := some (13, true) }) rfl (by kernel_rfl) (by kernel_rfl) (by kernel_rfl) (by rfl) ?_ | fail "op 14"
        simp only [Act.put, List.setIfInBounds_toArray, List.set_cons_zero, List.set_cons_succ]
        first | (refine grow_take (i := 16) (oi := { dst := some 83, op := Op.move (Operand.tmp 0), type := 26, pos := "law.go:150", after := #[{ on := 13, ground := Ground.guard }], guard := some (13, true) }) (v := ?_) rfl (by kernel_rfl) (by kernel_rfl) (by kernel_rfl) (by rfl) ?_ ?_; rotate_left; focus ((intro W hW; go_simp) <;> with_reducible rfl)) | refine grow_skip (i := 16) (oi := { dst := some 83, op := Op.move (Operand.tmp 0), type := 26, pos := "law.go:150", after := #[{ on := 13, ground := Ground.guard }], guard := some (13, true) }) rfl (by kernel_rfl) (by kernel_rfl) (by kernel_rfl) (by rfl) ?_ | fail "op 16"
        simp only [Act.put, List.setIfInBounds_toArray, List.set_cons_zero, List.set_cons_succ]
        first | (refine grow_take (i := 17) (oi := { dst := some 84, op := Op.call { callee := Callee.builtin Builtin.len, args := #[Operand.tmp 83], argTypes := #[26] }, type := 3, pos := "law.go:150", after := #[{ on := 16, ground := Ground.data }, { on := 13, ground := Ground.guard }], guard := some (13, true) }) (v := ?_) rfl (by kernel_rfl) (by kernel_rfl) (by kernel_rfl) (by rfl) ?_ ?_; rotate_left; focus ((intro W hW; have fct := F8.out W hW; go_simp) <;> with_reducible rfl)) | refine grow_skip (i := 17) (oi := { dst := some 84, op := Op.call { callee := Callee.builtin Builtin.len, args := #[Operand.tmp 83], argTypes := #[26] }, type := 3, pos := "law.go:150", after := #[{ on := 16, ground := Ground.data }, { on := 13, ground := Ground.guard }], guard := some (13, true) }) rfl (by kernel_rfl) (by kernel_rfl) (by kernel_rfl) (by rfl) ?_ | fail "op 17"
        simp only [Act.put, List.setIfInBounds_toArray, List.set_cons_zero, List.set_cons_succ]
        refine grow_next (i := 15) (oi := { dst := some 82, op := Op.call { callee := Callee.value (Operand.func 15), args := #[Operand.tmp 81], argTypes := #[24] }, type := 3, pos := "law.go:150", after := #[{ on := 14, ground := Ground.data }, { on := 13, ground := Ground.chain }, { on := 13, ground := Ground.guard }], guard := some (13, true) }) (by kernel_rfl) rfl (by rfl) (fun K hK => ?_)
        go_simp
        refine C2.mono ?_
        rintro e w9 ⟨rfl, rfl⟩
        refine hK _ _ (Chg.refl _ _) ?_
        clear hK K
        try simp only [Act.put, List.setIfInBounds_toArray, List.set_cons_zero, List.set_cons_succ]
        skip
        first | (refine grow_take (i := 18) (oi := { dst := some 85, op := Op.binOp BinOp.eql 3 (Operand.tmp 82) (Operand.tmp 84) 3, type := 4, pos := "law.go:150", after := #[{ on := 15, ground := Ground.data }, { on := 17, ground := Ground.data }, { on := 13, ground := Ground.guard }], guard := some (13, true) }) (v := ?_) rfl (by kernel_rfl) (by kernel_rfl) (by kernel_rfl) (by rfl) ?_ ?_; rotate_left; focus ((intro W hW; have fct := F8.out W hW; go_simp) <;> with_reducible rfl)) | refine grow_skip (i := 18) (oi := { dst := some 85, op := Op.binOp BinOp.eql 3 (Operand.tmp 82) (Operand.tmp 84) 3, type := 4, pos := "law.go:150", after := #[{ on := 15, ground := Ground.data }, { on := 17, ground := Ground.data }, { on := 13, ground := Ground.guard }], guard := some (13, true) }) rfl (by kernel_rfl) (by kernel_rfl) (by kernel_rfl) (by rfl) ?_ | fail "op 18"
        simp only [Act.put, List.setIfInBounds_toArray, List.set_cons_zero, List.set_cons_succ]
        refine grow_take (i := 19) (oi := { dst := some 86, op := Op.pick (Operand.tmp 80) (Operand.tmp 85) (Operand.const (Value.bool false)), type := 4, pos := "law.go:150", after := #[{ on := 13, ground := Ground.data }, { on := 18, ground := Ground.data }], guard := none }) (v := ?_) rfl (by kernel_rfl) (by kernel_rfl) (by kernel_rfl) (by rfl) ?_ ?_; rotate_left; focus ((intro W hW; go_simp) <;> with_reducible rfl)
        simp only [Act.put, List.setIfInBounds_toArray, List.set_cons_zero, List.set_cons_succ]
        refine grow_take (i := 20) (oi := { dst := some 6, op := Op.assign (Operand.tmp 86), type := 4, pos := "law.go:150", after := #[{ on := 19, ground := Ground.data }, { on := 15, ground := Ground.chain }, { on := 0, ground := Ground.phase }, { on := 1, ground := Ground.phase }, { on := 2, ground := Ground.phase }, { on := 3, ground := Ground.phase }, { on := 4, ground := Ground.phase }, { on := 5, ground := Ground.phase }, { on := 6, ground := Ground.phase }, { on := 7, ground := Ground.phase }, { on := 8, ground := Ground.phase }, { on := 9, ground := Ground.phase }, { on := 10, ground := Ground.phase }, { on := 11, ground := Ground.phase }, { on := 12, ground := Ground.phase }, { on := 13, ground := Ground.phase }, { on := 14, ground := Ground.phase }, { on := 15, ground := Ground.phase }, { on := 16, ground := Ground.phase }, { on := 17, ground := Ground.phase }, { on := 18, ground := Ground.phase }, { on := 19, ground := Ground.phase }], guard := none }) (v := ?_) rfl (by kernel_rfl) (by kernel_rfl) (by kernel_rfl) (by rfl) ?_ ?_; rotate_left; focus ((intro W hW; go_simp) <;> with_reducible rfl)
        simp only [Act.put, List.setIfInBounds_toArray, List.set_cons_zero, List.set_cons_succ]
        refine grow_done (by kernel_rfl) ?_ _
        go_wp2
        go_ret
        exact ⟨rfl, hn8⟩

theorem spoils_args {H : Type} {enc : TypeId × Value → H} {W : World} {base : Nat} {args : Array Value} {ds : List (DataW H)} {ps : List MemPlace}
    (hval : ∀ (j : Nat) t v, Try.f6.params[j]? = some t → args[j]? = some v → Value.okWide Try.prog W .any base t v)
    (hw : ∀ (j : Nat) t d, Try.f6.params.toList[j]? = some t → ds[j]? = some d → ∀ n ∈ d.weights Try.prog t, n ≤ reachBytes)
    (hA : DataW.TrodAll enc Try.prog W 0 (fun _ => true) true Try.f6.params.toList args.toList ds ps) :
    Calls Try.prog 6 args W fun e w' => LawEnd W e w' := by
  rw [Try.params6] at hA hval hw
  obtain ⟨v0, v1, v2, d0, d1, d2, p0, p1, p2, rfl, rfl, rfl, h0, h1, h2⟩ := trodAll_three hA
  have o0 := hval 0 _ v0 rfl rfl
  have q0 := hw 0 _ d0 rfl rfl
  have o1 := hval 1 _ v1 rfl rfl
  have q1 := hw 1 _ d1 rfl rfl
  have o2 := hval 2 _ v2 rfl rfl
  have q2 := hw 2 _ d2 rfl rfl
  obtain ⟨A, n, c, xs, rfl, _, hnc, hc, hl⟩ := open_u8s Try.underlying26 Try.underlying5 (by kernel_rfl) (by kernel_rfl) (cells_slice Try.underlying26 o0) q0 h0
  obtain ⟨at_, rfl, ha1, ha2⟩ := open_i64 Try.underlying3 o1 h1
  obtain ⟨y, rfl⟩ := open_u8 Try.underlying5 o2 h2
  exact spoils W A n c xs at_ y ha1 ha2 (by omega) hl
end Disk

namespace lawDiskSpoils
theorem own : ownKnob Try.prog.godebug = none := by kernel_rfl
theorem laidOut : laidOutB Try.prog = true := by kernel_rfl
theorem reads : ∀ t ∈ Try.f6.params.toList, Try.prog.readableRec t = true ∧ t < Try.prog.types.size := by
  have h : (Try.f6.params.toList.all fun t => Try.prog.readableRec t && decide (t < Try.prog.types.size)) = true := by kernel_rfl
  intro t ht
  have := List.all_eq_true.1 h t ht
  simpa using this
theorem spec {H : Type} (ds : List (DataW H)) (h : ds.length = 3) : Rows.diskSpoilsSpec.fn H ds = { results := [.lit (.bool true)], args := ds } := by
  match ds, h with
  | [d1, d2, d3], _ => rfl
theorem trodAll_len {H : Type} {enc : TypeId × Value → H} {P : Program} {w : World} {base : Nat} {sp : Nat → Bool} {held : Bool} : ∀ (ts : List TypeId) (vs : List Value) (ds : List (DataW H)) (ps : List MemPlace),
    DataW.TrodAll enc P w base sp held ts vs ds ps → ds.length = ts.length
  | [], _, _, _, h => by
    obtain ⟨_, rfl, _⟩ := trodAll_nil h
    rfl
  | _ :: ts, _, _, _, h => by
    obtain ⟨_, vs, _, ds, _, _, _, rfl, _, _, hr⟩ := trodAll_cons h
    simp [trodAll_len ts vs ds _ hr]
theorem contract (H : Type) (enc : TypeId × Value → H) (W : World) (base : Nat) (args : Array Value) (ds gs : List (DataW H)) (before : List MemPlace)
    (hval : ∀ (j : Nat) t v, Try.f6.params[j]? = some t → args[j]? = some v → Value.okWide Try.prog W .any base t v)
    (hW : DataW.Whole enc Try.prog Try.f6.params.toList Rows.diskSpoilsSpec.vars false W args.toList ds gs before)
    (hz : (DataW.weightsEach Try.prog (Try.f6.params.toList ++ Rows.diskSpoilsSpec.plain.varTypes Try.prog) (ds ++ gs)).all (· ≤ reachBytes) = true) :
    Calls Try.prog 6 args W fun e W' => ∃ v, e = .returned v ∧ Rows.diskSpoilsSpec.post enc Try.prog Try.f6 false true false false W args v W' := by
  obtain ⟨p, q, hA, hV, _⟩ := id hW
  have hlen : ds.length = 3 := (trodAll_len _ _ _ _ hA).trans (by kernel_rfl)
  have hV1 : DataW.TrodVars enc Try.prog W (fun _ => true) [] gs q := hV
  obtain ⟨rfl, rfl⟩ := trodVars_none hV1
  have hw : ∀ (j : Nat) t d, Try.f6.params.toList[j]? = some t → ds[j]? = some d → ∀ n ∈ d.weights Try.prog t, n ≤ reachBytes := by
    intro j t d ht hd n hn
    rw [List.append_nil] at hz
    have hlt : j < Try.f6.params.toList.length := (List.getElem?_eq_some_iff.1 ht).1
    have := List.all_eq_true.1 hz n (DataW.weights_mem_each (by rw [List.getElem?_append_left hlt]; exact ht) hd n hn)
    simpa using this
  refine (Disk.spoils_args hval hw hA).mono fun e W' ⟨he, hn⟩ => ?_
  exact ⟨_, he, law_post laidOut (tb := 4) rfl Try.underlying4 reads rfl hW (spec ds hlen) hn.below⟩
set_option maxRecDepth 100000 in
theorem lifted (os : Os) (started : os.Started) (H : Type) (enc : TypeId × Value → H) :
    ReturnsInHanded {} Try.checked os 6 .any (Rows.diskSpoilsSpec.pre6 enc Try.prog Try.f6 Rows.diskSpoilsRow.domain false) (Rows.diskSpoilsSpec.post enc Try.prog Try.f6 false true false false) := by
  refine returnsInHanded_of_change_sized (C := Try.checked) own started (by kernel_rfl) Try.func6
    (ChangeSpec.witness6 (enc := enc) (C := Try.checked) (s := Rows.diskSpoilsSpec) false ⟨#[], #[.slice none 0 0, .int .i64 0, .int .u8 0], []⟩ 60 (by kernel_rfl) (by kernel_rfl) (by kernel_rfl) (by kernel_rfl)) ?_
  intro W base args ds gs before hval hW _ hz _
  exact contract H enc W base args ds gs before hval hW hz
theorem proved : Rows.DiskSpoilsSaid :=
  OpenClaim.holds_of_wide 6 Try.f6 rfl rfl rfl rfl rfl rfl rfl ⟨rfl, rfl, rfl, rfl, rfl⟩ rfl rfl rfl rfl rfl (by kernel_rfl) Try.func6 (by kernel_rfl)
    (of_decide_eq_true (by kernel_rfl)) (by unfold Func.isWrapper; first | (rw [if_pos (by decide +kernel)]; kernel_rfl) | (rw [if_neg (by decide +kernel)]; exact ⟨rfl, rfl⟩))
    (fun os started H enc _ => lifted os started H enc)
end lawDiskSpoils
end Go.Proofs.Ytjliioapiohciaa

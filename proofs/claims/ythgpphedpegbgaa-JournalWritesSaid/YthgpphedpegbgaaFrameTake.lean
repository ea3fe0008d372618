/-
  What the program's frame package computes, the second part: the payload at the beginning of any bytes (no condition beyond the sizes).
-/
import Derived.Test.YthgpphedpegbgaaFrame
import Derived.Test.YthgpphedpegbgaaClone
namespace Go.Proofs.Ythgpphedpegbgaa
open Go.ChangeShapes Go.WideShapes Go.RowKit
namespace Frame
theorem or3 (x y z : Nat) (hx : x < 256) (hy : y < 256) (hz : z < 256) : bits .or .i64 (bits .or .i64 (x : Int) ((y : Int) * 256)) ((z : Int) * 65536) = ((x + 256 * y + 65536 * z : Nat) : Int) := by
  have e1 : ((y : Int) * 256) = ((y * 256 : Nat) : Int) := by omega
  have e2 : ((z : Int) * 65536) = ((z * 65536 : Nat) : Int) := by omega
  rw [e1, e2, i64_or_nat x (y * 256) (by omega) (by omega), or_mul x y 8 256 (by decide) (by omega), i64_or_nat _ _ (by omega) (by omega), or_mul _ z 16 65536 (by decide) (by omega)]
  omega
set_option maxHeartbeats 4000000 in
theorem take (w : World) (F : Nat → Prop) (A : Option Addr) (n c : Nat) (l : List UInt8) (hl : Reads w F 1 A n (u8s l)) (hF : ∀ b, F b → b < w.heap.size) (hnc : n ≤ c) (hc : n ≤ 140737488351232) :
    Calls Try.prog 36 #[.slice A n c] w fun e w' => ∃ v, e = .returned (.tuple #[v, .int .i64 (takeN l : Int), .int .i64 (takeE l)]) ∧ OwnB w' w.heap.size v (takeP l) ∧ New w w' := by
  have hln := hl.u8len
  by_cases h4 : (n : Int) < 4
  · have hE := takeE_short (l := l) (by omega)
    have hb := bad hE (by omega)
    rw [hE, hb.1, hb.2]
    clear hE hb hl hln
    go_enter Try.func36, Try.ntmps36
    go_wp2
    go_ret3
    exact ⟨_, rfl, OwnB.nil, Chg.refl _ _⟩
  · obtain ⟨ad, x0, rfl, hF0, hx0, c0⟩ := hl.byte (k := 0) (by omega)
    obtain ⟨_, x1, e1, _, hx1, c1⟩ := hl.byte (k := 1) (by omega)
    injection e1 with e1
    subst e1
    obtain ⟨_, x2, e2, _, hx2, c2⟩ := hl.byte (k := 2) (by omega)
    injection e2 with e2
    subst e2
    have hlen : lenOf l = x0.toNat + 256 * x1.toNat + 65536 * x2.toNat := by
      simp [lenOf, List.getD_eq_getElem?_getD, hx0, hx1, hx2]
    have hlt := lenOf_lt l
    have b0 := UInt8.toNat_lt x0
    have b1 := UInt8.toNat_lt x1
    have b2 := UInt8.toNat_lt x2
    have i0 : 0 < n := by omega
    have i1 : (1 : Int) < n := by omega
    have i2 : (2 : Int) < n := by omega
    have c0' : w.cell? ad = some (.int .u8 (x0.toNat : Int)) := by rw [← c0]; simp [Addr.add]
    have c1' : w.cell? ⟨ad.block, ad.off + 1, none⟩ = some (.int .u8 (x1.toNat : Int)) := c1
    have c2' : w.cell? ⟨ad.block, ad.off + 2, none⟩ = some (.int .u8 (x2.toNat : Int)) := c2
    have ew0 : IntKind.i64.wrap (x0.toNat : Int) = (x0.toNat : Int) := IntWalk.i64_in _ (by omega)
    have ew1 : IntKind.i64.wrap (x1.toNat : Int) = (x1.toNat : Int) := IntWalk.i64_in _ (by omega)
    have ew2 : IntKind.i64.wrap (x2.toNat : Int) = (x2.toNat : Int) := IntWalk.i64_in _ (by omega)
    have hor := or3 x0.toNat x1.toNat x2.toNat b0 b1 b2
    rw [← hlen] at hor
    have HLn := Lib.hid hln
    have hsl4 : ∀ W, (Instr.sliceAt 36 (.slice (some ad) n c) none (some (.int .i64 4)) none).run Try.prog W = .ok (.slice (some ad) 4 c) W := fun W => slice_u8_to (some ad) n c 4 (by omega) W
    have HX := Lib.hid (And.intro hlen (And.intro hx0 (And.intro hx1 hx2)))
    obtain ⟨m, hm⟩ : ∃ m, lenOf l = m := ⟨_, rfl⟩
    rw [hm] at hor hlt
    have HM := Lib.hid hm
    clear hx0 hx1 hx2 hlen hln c0 c1 c2 hm
    have hpre : ∀ w' : World, New w w' → Reads w' F 1 (some ad) n (u8s l) := fun _ h => hl.chg' h (fun _ _ => id) (by omega)
    have HP := Lib.hid hpre
    go_enter Try.func36, Try.ntmps36
    go_wp2
    go_quiet (fail)
    go_wp2
    have hn1 := (Chg.refl (fun _ => False) w).drewN nq
    generalize w.drewN nq = w1 at *
    clear c0' c1' c2' ew0 ew1 ew2 hor hl hpre
    by_cases hh : (headL m == l.take 4) = true
    · have HH := Lib.hid hh
      clear hh
      refine grow_start (fun _ => False) (by kernel_rfl) ?_
      refine grow_take (i := 0) (oi := { dst := some 29, op := Op.move (Operand.tmp 5), type := 3, pos := "frame.go:39", after := #[], guard := none }) (v := ?_) rfl (by kernel_rfl) (by kernel_rfl) (by kernel_rfl) (by rfl) ?_ ?_; rotate_left; focus ((intro W hW; go_simp) <;> with_reducible rfl)
      simp only [Act.put, List.setIfInBounds_toArray, List.set_cons_zero, List.set_cons_succ]
      refine grow_take (i := 2) (oi := { dst := some 31, op := Op.move (Operand.tmp 0), type := 36, pos := "frame.go:39", after := #[], guard := none }) (v := ?_) rfl (by kernel_rfl) (by kernel_rfl) (by kernel_rfl) (by rfl) ?_ ?_; rotate_left; focus ((intro W hW; go_simp) <;> with_reducible rfl)
      simp only [Act.put, List.setIfInBounds_toArray, List.set_cons_zero, List.set_cons_succ]
      refine grow_take (i := 3) (oi := { dst := some 32, op := Op.slice 36 (Operand.tmp 31) none (some (Operand.const (Value.int IntKind.i64 4))) none, type := 36, pos := "frame.go:39", after := #[{ on := 2, ground := Ground.data }], guard := none }) (v := ?_) rfl (by kernel_rfl) (by kernel_rfl) (by kernel_rfl) (by rfl) ?_ ?_; rotate_left; focus ((intro W hW; go_simp) <;> with_reducible rfl)
      simp only [Act.put, List.setIfInBounds_toArray, List.set_cons_zero, List.set_cons_succ]
      refine grow_next (i := 1) (oi := { dst := some 30, op := Op.call { callee := Callee.value (Operand.func 37), args := #[Operand.tmp 29], argTypes := #[3] }, type := 36, pos := "frame.go:39", after := #[{ on := 0, ground := Ground.data }], guard := none }) (by kernel_rfl) rfl (by rfl) (fun K hK => ?_)
      go_simp
      refine (head _ m).mono ?_
      rintro e w2 ⟨rfl, rfl⟩
      refine hK _ _ ((Chg.refl _ _).alloc _) ?_
      clear hK K
      try simp only [Act.put, List.setIfInBounds_toArray, List.set_cons_zero, List.set_cons_succ]
      skip
      refine grow_next (i := 4) (oi := { dst := some 33, op := Op.call { callee := Callee.value (Operand.func 40), args := #[Operand.tmp 30, Operand.tmp 32], argTypes := #[36, 36] }, type := 4, pos := "frame.go:39", after := #[{ on := 1, ground := Ground.data }, { on := 3, ground := Ground.data }, { on := 1, ground := Ground.chain }], guard := none }) (by kernel_rfl) rfl (by rfl) (fun K hK => ?_)
      go_simp
      have k1 := equal _ _ _ _ _ 4 4 4 c _ _ (reads_lit w1.drew (headL m) (0, 0) 5) ((HP.out _ ((hn1.drew).alloc (.cells (u8s (headL m)).toArray 5))).takeB (k := 4) (by omega))
      rw [HH.out] at k1
      refine k1.mono ?_
      clear k1
      rintro e w3 ⟨rfl, rfl⟩
      refine hK _ _ (Chg.refl _ _) ?_
      clear hK K
      try simp only [Act.put, List.setIfInBounds_toArray, List.set_cons_zero, List.set_cons_succ]
      skip
      refine grow_take (i := 5) (oi := { dst := some 34, op := Op.unOp UnOp.not 4 (Operand.tmp 33), type := 4, pos := "frame.go:39", after := #[{ on := 4, ground := Ground.data }], guard := none }) (v := ?_) rfl (by kernel_rfl) (by kernel_rfl) (by kernel_rfl) (by rfl) ?_ ?_; rotate_left; focus ((intro W hW; go_simp) <;> with_reducible rfl)
      simp only [Act.put, List.setIfInBounds_toArray, List.set_cons_zero, List.set_cons_succ]
      refine grow_take (i := 6) (oi := { dst := some 28, op := Op.assign (Operand.tmp 34), type := 4, pos := "frame.go:39", after := #[{ on := 5, ground := Ground.data }, { on := 4, ground := Ground.chain }], guard := none }) (v := ?_) rfl (by kernel_rfl) (by kernel_rfl) (by kernel_rfl) (by rfl) ?_ ?_; rotate_left; focus ((intro W hW; go_simp) <;> with_reducible rfl)
      simp only [Act.put, List.setIfInBounds_toArray, List.set_cons_zero, List.set_cons_succ]
      refine grow_done (by kernel_rfl) ?_ _
      have hn2 := (hn1.drew).alloc (.cells (u8s (headL m)).toArray 5)
      have hd1 : headL (lenOf l) = l.take 4 := by rw [HM.out]; exact eq_of_beq HH.out
      have HD := Lib.hid hd1
      clear hd1
      generalize w1.drew.alloc (.cells (u8s (headL m)).toArray 5) = w2 at *
      by_cases hm1 : 1048576 < (m : Int)
      · have hE := takeE_long (l := l) (by rw [HLn.out]; omega) HD.out (by rw [HM.out]; omega)
        have HE := Lib.hid (And.intro hE (bad hE (by omega)))
        clear hE
        go_wp2
        go_ret3
        exact ⟨_, by rw [HE.out.1, HE.out.2.1]; rfl, by rw [HE.out.2.2]; exact OwnB.nil, hn2⟩
      · by_cases hm2 : (n : Int) < 4 + (m : Int) + 4
        · have hE := takeE_cut (l := l) (by rw [HLn.out]; omega) HD.out (by rw [HM.out]; omega) (by rw [HLn.out, HM.out]; omega)
          have HE := Lib.hid (And.intro hE (bad hE (by omega)))
          clear hE
          go_wp2
          go_ret3
          exact ⟨_, by rw [HE.out.1, HE.out.2.1]; rfl, by rw [HE.out.2.2]; exact OwnB.nil, hn2⟩
        · have hc4 : ¬ c = 4 := by omega
          have hcm : ¬ c = m + 4 := by omega
          have hsl1 : ∀ W, (Instr.sliceAt 36 (.slice (some ad) n c) (some (.int .i64 4)) (some (.int .i64 (4 + (m : Int)))) none).run Try.prog W = .ok (.slice (some (ad.add 4)) m (c - 4)) W := fun W => by
            have := slice_u8_mid (some ad) n c 4 (m + 4) (by omega) (by omega) W
            rw [if_neg hc4, show ((m + 4 : Nat) : Int) = 4 + (m : Int) by omega, show m + 4 - 4 = m by omega] at this
            exact this
          have hsl2 : ∀ W, (Instr.sliceAt 36 (.slice (some ad) n c) (some (.int .i64 (4 + (m : Int)))) (some (.int .i64 (4 + (m : Int) + 4))) none).run Try.prog W = .ok (.slice (some (ad.add (m + 4))) 4 (c - (m + 4))) W := fun W => by
            have := slice_u8_mid (some ad) n c (m + 4) (m + 8) (by omega) (by omega) W
            rw [if_neg hcm, show ((m + 4 : Nat) : Int) = 4 + (m : Int) by omega, show ((m + 8 : Nat) : Int) = 4 + (m : Int) + 4 by omega, show m + 8 - (m + 4) = 4 by omega] at this
            exact this
          have hr1 : ∀ w' : World, New w w' → Reads w' F 1 (some (ad.add 4)) m (u8s ((l.take (m + 4)).drop 4)) := fun _ h => by
            have := ((HP.out _ h).takeB (k := m + 4) (by omega)).cutB (k := 4) (c := c) (by omega) (by omega)
            rw [if_neg hc4, show m + 4 - 4 = m by omega] at this
            exact this
          have hr2 : ∀ w' : World, New w w' → Reads w' F 1 (some (ad.add (m + 4))) 4 (u8s ((l.take (m + 8)).drop (m + 4))) := fun _ h => by
            have := ((HP.out _ h).takeB (k := m + 8) (by omega)).cutB (k := m + 4) (c := c) (by omega) (by omega)
            rw [if_neg hcm, show m + 8 - (m + 4) = 4 by omega] at this
            exact this
          have ew9 : IntKind.i64.wrap (4 + (m : Int) + 4) = 4 + (m : Int) + 4 := IntWalk.i64_in _ (by omega)
          have R1 := Lib.hid hr1
          have R2 := Lib.hid hr2
          have hs := Crc.sum_lt ((l.take (m + 4)).drop 4)
          have hFs : ∀ w' : World, New w w' → ∀ b, F b → b < w'.heap.size := fun _ h b hb => Nat.lt_of_lt_of_le (hF b hb) h.size
          have HF := Lib.hid hFs
          have HS := Lib.hid hs
          clear hr1 hr2 hs hFs
          go_wp2
          have hn3 := hn2.drew
          by_cases hq : (crcL ((l.take (m + 4)).drop 4) == (l.take (m + 8)).drop (m + 4)) = true
          · have HQ := Lib.hid hq
            clear hq
            refine grow_start (fun _ => False) (by kernel_rfl) ?_
            refine grow_take (i := 0) (oi := { dst := some 45, op := Op.move (Operand.tmp 0), type := 36, pos := "frame.go:45", after := #[], guard := none }) (v := ?_) rfl (by kernel_rfl) (by kernel_rfl) (by kernel_rfl) (by rfl) ?_ ?_; rotate_left; focus ((intro W hW; go_simp) <;> with_reducible rfl)
            simp only [Act.put, List.setIfInBounds_toArray, List.set_cons_zero, List.set_cons_succ]
            refine grow_take (i := 1) (oi := { dst := some 46, op := Op.move (Operand.tmp 6), type := 3, pos := "frame.go:45", after := #[], guard := none }) (v := ?_) rfl (by kernel_rfl) (by kernel_rfl) (by kernel_rfl) (by rfl) ?_ ?_; rotate_left; focus ((intro W hW; go_simp) <;> with_reducible rfl)
            simp only [Act.put, List.setIfInBounds_toArray, List.set_cons_zero, List.set_cons_succ]
            refine grow_take (i := 2) (oi := { dst := some 47, op := Op.slice 36 (Operand.tmp 45) (some (Operand.const (Value.int IntKind.i64 4))) (some (Operand.tmp 46)) none, type := 36, pos := "frame.go:45", after := #[{ on := 0, ground := Ground.data }, { on := 1, ground := Ground.data }], guard := none }) (v := ?_) rfl (by kernel_rfl) (by kernel_rfl) (by kernel_rfl) (by rfl) ?_ ?_; rotate_left; focus ((intro W hW; go_simp) <;> with_reducible rfl)
            simp only [Act.put, List.setIfInBounds_toArray, List.set_cons_zero, List.set_cons_succ]
            refine grow_take (i := 5) (oi := { dst := some 50, op := Op.move (Operand.tmp 0), type := 36, pos := "frame.go:45", after := #[], guard := none }) (v := ?_) rfl (by kernel_rfl) (by kernel_rfl) (by kernel_rfl) (by rfl) ?_ ?_; rotate_left; focus ((intro W hW; go_simp) <;> with_reducible rfl)
            simp only [Act.put, List.setIfInBounds_toArray, List.set_cons_zero, List.set_cons_succ]
            refine grow_take (i := 6) (oi := { dst := some 51, op := Op.move (Operand.tmp 6), type := 3, pos := "frame.go:45", after := #[], guard := none }) (v := ?_) rfl (by kernel_rfl) (by kernel_rfl) (by kernel_rfl) (by rfl) ?_ ?_; rotate_left; focus ((intro W hW; go_simp) <;> with_reducible rfl)
            simp only [Act.put, List.setIfInBounds_toArray, List.set_cons_zero, List.set_cons_succ]
            refine grow_take (i := 7) (oi := { dst := some 52, op := Op.move (Operand.tmp 6), type := 3, pos := "frame.go:45", after := #[], guard := none }) (v := ?_) rfl (by kernel_rfl) (by kernel_rfl) (by kernel_rfl) (by rfl) ?_ ?_; rotate_left; focus ((intro W hW; go_simp) <;> with_reducible rfl)
            simp only [Act.put, List.setIfInBounds_toArray, List.set_cons_zero, List.set_cons_succ]
            refine grow_take (i := 8) (oi := { dst := some 53, op := Op.binOp BinOp.add 3 (Operand.tmp 52) (Operand.const (Value.int IntKind.i64 4)) 3, type := 3, pos := "frame.go:45", after := #[{ on := 7, ground := Ground.data }], guard := none }) (v := ?_) rfl (by kernel_rfl) (by kernel_rfl) (by kernel_rfl) (by rfl) ?_ ?_; rotate_left; focus ((intro W hW; go_simp) <;> with_reducible rfl)
            simp only [Act.put, List.setIfInBounds_toArray, List.set_cons_zero, List.set_cons_succ]
            refine grow_take (i := 9) (oi := { dst := some 54, op := Op.slice 36 (Operand.tmp 50) (some (Operand.tmp 51)) (some (Operand.tmp 53)) none, type := 36, pos := "frame.go:45", after := #[{ on := 5, ground := Ground.data }, { on := 6, ground := Ground.data }, { on := 8, ground := Ground.data }], guard := none }) (v := ?_) rfl (by kernel_rfl) (by kernel_rfl) (by kernel_rfl) (by rfl) ?_ ?_; rotate_left; focus ((intro W hW; go_simp) <;> with_reducible rfl)
            simp only [Act.put, List.setIfInBounds_toArray, List.set_cons_zero, List.set_cons_succ]
            refine grow_next (i := 3) (oi := { dst := some 48, op := Op.call { callee := Callee.value (Operand.func 39), args := #[Operand.tmp 47], argTypes := #[36] }, type := 59, pos := "frame.go:45", after := #[{ on := 2, ground := Ground.data }], guard := none }) (by kernel_rfl) rfl (by rfl) (fun K hK => ?_)
            go_simp
            refine (Crc.of_ _ F (some (ad.add 4)) m (c - 4) _ (R1.out _ hn3) (HF.out _ hn3) (by simp [maxLen]; omega)).mono ?_
            rintro e w4 ⟨rfl, hn4⟩
            refine hK _ _ hn4 ?_
            clear hK K
            try simp only [Act.put, List.setIfInBounds_toArray, List.set_cons_zero, List.set_cons_succ]
            have hn5 := hn3.trans hn4 (fun _ _ => id)
            clear hn4
            refine grow_next (i := 4) (oi := { dst := some 49, op := Op.call { callee := Callee.value (Operand.func 38), args := #[Operand.tmp 48], argTypes := #[59] }, type := 36, pos := "frame.go:45", after := #[{ on := 3, ground := Ground.data }, { on := 3, ground := Ground.chain }], guard := none }) (by kernel_rfl) rfl (by rfl) (fun K hK => ?_)
            go_simp
            refine (Crc.bytes _ _ HS.out).mono ?_
            rintro e w5 ⟨rfl, rfl⟩
            refine hK _ _ ((Chg.refl _ _).alloc _) ?_
            clear hK K
            try simp only [Act.put, List.setIfInBounds_toArray, List.set_cons_zero, List.set_cons_succ]
            skip
            refine grow_next (i := 10) (oi := { dst := some 55, op := Op.call { callee := Callee.value (Operand.func 40), args := #[Operand.tmp 49, Operand.tmp 54], argTypes := #[36, 36] }, type := 4, pos := "frame.go:45", after := #[{ on := 4, ground := Ground.data }, { on := 9, ground := Ground.data }, { on := 4, ground := Ground.chain }], guard := none }) (by kernel_rfl) rfl (by rfl) (fun K hK => ?_)
            go_simp
            have k1 := equal _ _ _ _ _ 4 4 4 (c - (m + 4)) _ _ (reads_lit w4 (crcL ((l.take (m + 4)).drop 4)) (0, 0) 70) (R2.out _ (hn5.alloc (.cells (u8s (crcL ((l.take (m + 4)).drop 4))).toArray 70)))
            rw [HQ.out] at k1
            refine k1.mono ?_
            clear k1
            rintro e w6 ⟨rfl, rfl⟩
            refine hK _ _ (Chg.refl _ _) ?_
            clear hK K
            try simp only [Act.put, List.setIfInBounds_toArray, List.set_cons_zero, List.set_cons_succ]
            skip
            refine grow_take (i := 11) (oi := { dst := some 56, op := Op.unOp UnOp.not 4 (Operand.tmp 55), type := 4, pos := "frame.go:45", after := #[{ on := 10, ground := Ground.data }], guard := none }) (v := ?_) rfl (by kernel_rfl) (by kernel_rfl) (by kernel_rfl) (by rfl) ?_ ?_; rotate_left; focus ((intro W hW; go_simp) <;> with_reducible rfl)
            simp only [Act.put, List.setIfInBounds_toArray, List.set_cons_zero, List.set_cons_succ]
            refine grow_take (i := 12) (oi := { dst := some 44, op := Op.assign (Operand.tmp 56), type := 4, pos := "frame.go:45", after := #[{ on := 11, ground := Ground.data }, { on := 10, ground := Ground.chain }], guard := none }) (v := ?_) rfl (by kernel_rfl) (by kernel_rfl) (by kernel_rfl) (by rfl) ?_ ?_; rotate_left; focus ((intro W hW; go_simp) <;> with_reducible rfl)
            simp only [Act.put, List.setIfInBounds_toArray, List.set_cons_zero, List.set_cons_succ]
            refine grow_done (by kernel_rfl) ?_ _
            have hn6 := hn5.alloc (.cells (u8s (crcL ((l.take (m + 4)).drop 4))).toArray 70)
            have hE := takeE_ok (l := l) (by rw [HLn.out]; omega) HD.out (by rw [HM.out]; omega) (by rw [HLn.out, HM.out]; omega) (by rw [HM.out]; exact eq_of_beq HQ.out)
            have HE := Lib.hid (show takeE l = 0 ∧ takeN l = m + 8 ∧ takeP l = (l.take (m + 4)).drop 4 by
              refine ⟨hE, ?_, ?_⟩
              · unfold takeN; rw [if_pos hE, HM.out]
              · unfold takeP; rw [if_pos hE, HM.out])
            clear hE hn5
            generalize w4.alloc (.cells (u8s (crcL ((l.take (m + 4)).drop 4))).toArray 70) = w5 at *
            go_wp2_with fail
            refine (bytes_clone _ (some (ad.add 4)) m (c - 4) _ F (R1.out _ hn6) (by omega)).mono ?_
            rintro e w6 ⟨v, rfl, ho, hn7⟩
            go_wp2
            go_ret3
            refine ⟨v, ?_, ?_, hn6.trans hn7 (fun _ _ => id)⟩
            · rw [HE.out.1, HE.out.2.1, show ((m + 8 : Nat) : Int) = 4 + (m : Int) + 4 by omega]
              rfl
            · rw [HE.out.2.2]
              exact own_mono ho hn6.size
          · have hq' : (crcL ((l.take (m + 4)).drop 4) == (l.take (m + 8)).drop (m + 4)) = false := by simpa using hq
            have HQ := Lib.hid hq'
            clear hq hq'
            refine grow_start (fun _ => False) (by kernel_rfl) ?_
            refine grow_take (i := 0) (oi := { dst := some 45, op := Op.move (Operand.tmp 0), type := 36, pos := "frame.go:45", after := #[], guard := none }) (v := ?_) rfl (by kernel_rfl) (by kernel_rfl) (by kernel_rfl) (by rfl) ?_ ?_; rotate_left; focus ((intro W hW; go_simp) <;> with_reducible rfl)
            simp only [Act.put, List.setIfInBounds_toArray, List.set_cons_zero, List.set_cons_succ]
            refine grow_take (i := 1) (oi := { dst := some 46, op := Op.move (Operand.tmp 6), type := 3, pos := "frame.go:45", after := #[], guard := none }) (v := ?_) rfl (by kernel_rfl) (by kernel_rfl) (by kernel_rfl) (by rfl) ?_ ?_; rotate_left; focus ((intro W hW; go_simp) <;> with_reducible rfl)
            simp only [Act.put, List.setIfInBounds_toArray, List.set_cons_zero, List.set_cons_succ]
            refine grow_take (i := 2) (oi := { dst := some 47, op := Op.slice 36 (Operand.tmp 45) (some (Operand.const (Value.int IntKind.i64 4))) (some (Operand.tmp 46)) none, type := 36, pos := "frame.go:45", after := #[{ on := 0, ground := Ground.data }, { on := 1, ground := Ground.data }], guard := none }) (v := ?_) rfl (by kernel_rfl) (by kernel_rfl) (by kernel_rfl) (by rfl) ?_ ?_; rotate_left; focus ((intro W hW; go_simp) <;> with_reducible rfl)
            simp only [Act.put, List.setIfInBounds_toArray, List.set_cons_zero, List.set_cons_succ]
            refine grow_take (i := 5) (oi := { dst := some 50, op := Op.move (Operand.tmp 0), type := 36, pos := "frame.go:45", after := #[], guard := none }) (v := ?_) rfl (by kernel_rfl) (by kernel_rfl) (by kernel_rfl) (by rfl) ?_ ?_; rotate_left; focus ((intro W hW; go_simp) <;> with_reducible rfl)
            simp only [Act.put, List.setIfInBounds_toArray, List.set_cons_zero, List.set_cons_succ]
            refine grow_take (i := 6) (oi := { dst := some 51, op := Op.move (Operand.tmp 6), type := 3, pos := "frame.go:45", after := #[], guard := none }) (v := ?_) rfl (by kernel_rfl) (by kernel_rfl) (by kernel_rfl) (by rfl) ?_ ?_; rotate_left; focus ((intro W hW; go_simp) <;> with_reducible rfl)
            simp only [Act.put, List.setIfInBounds_toArray, List.set_cons_zero, List.set_cons_succ]
            refine grow_take (i := 7) (oi := { dst := some 52, op := Op.move (Operand.tmp 6), type := 3, pos := "frame.go:45", after := #[], guard := none }) (v := ?_) rfl (by kernel_rfl) (by kernel_rfl) (by kernel_rfl) (by rfl) ?_ ?_; rotate_left; focus ((intro W hW; go_simp) <;> with_reducible rfl)
            simp only [Act.put, List.setIfInBounds_toArray, List.set_cons_zero, List.set_cons_succ]
            refine grow_take (i := 8) (oi := { dst := some 53, op := Op.binOp BinOp.add 3 (Operand.tmp 52) (Operand.const (Value.int IntKind.i64 4)) 3, type := 3, pos := "frame.go:45", after := #[{ on := 7, ground := Ground.data }], guard := none }) (v := ?_) rfl (by kernel_rfl) (by kernel_rfl) (by kernel_rfl) (by rfl) ?_ ?_; rotate_left; focus ((intro W hW; go_simp) <;> with_reducible rfl)
            simp only [Act.put, List.setIfInBounds_toArray, List.set_cons_zero, List.set_cons_succ]
            refine grow_take (i := 9) (oi := { dst := some 54, op := Op.slice 36 (Operand.tmp 50) (some (Operand.tmp 51)) (some (Operand.tmp 53)) none, type := 36, pos := "frame.go:45", after := #[{ on := 5, ground := Ground.data }, { on := 6, ground := Ground.data }, { on := 8, ground := Ground.data }], guard := none }) (v := ?_) rfl (by kernel_rfl) (by kernel_rfl) (by kernel_rfl) (by rfl) ?_ ?_; rotate_left; focus ((intro W hW; go_simp) <;> with_reducible rfl)
            simp only [Act.put, List.setIfInBounds_toArray, List.set_cons_zero, List.set_cons_succ]
            refine grow_next (i := 3) (oi := { dst := some 48, op := Op.call { callee := Callee.value (Operand.func 39), args := #[Operand.tmp 47], argTypes := #[36] }, type := 59, pos := "frame.go:45", after := #[{ on := 2, ground := Ground.data }], guard := none }) (by kernel_rfl) rfl (by rfl) (fun K hK => ?_)
            go_simp
            refine (Crc.of_ _ F (some (ad.add 4)) m (c - 4) _ (R1.out _ hn3) (HF.out _ hn3) (by simp [maxLen]; omega)).mono ?_
            rintro e w4 ⟨rfl, hn4⟩
            refine hK _ _ hn4 ?_
            clear hK K
            try simp only [Act.put, List.setIfInBounds_toArray, List.set_cons_zero, List.set_cons_succ]
            have hn5 := hn3.trans hn4 (fun _ _ => id)
            clear hn4
            refine grow_next (i := 4) (oi := { dst := some 49, op := Op.call { callee := Callee.value (Operand.func 38), args := #[Operand.tmp 48], argTypes := #[59] }, type := 36, pos := "frame.go:45", after := #[{ on := 3, ground := Ground.data }, { on := 3, ground := Ground.chain }], guard := none }) (by kernel_rfl) rfl (by rfl) (fun K hK => ?_)
            go_simp
            refine (Crc.bytes _ _ HS.out).mono ?_
            rintro e w5 ⟨rfl, rfl⟩
            refine hK _ _ ((Chg.refl _ _).alloc _) ?_
            clear hK K
            try simp only [Act.put, List.setIfInBounds_toArray, List.set_cons_zero, List.set_cons_succ]
            skip
            refine grow_next (i := 10) (oi := { dst := some 55, op := Op.call { callee := Callee.value (Operand.func 40), args := #[Operand.tmp 49, Operand.tmp 54], argTypes := #[36, 36] }, type := 4, pos := "frame.go:45", after := #[{ on := 4, ground := Ground.data }, { on := 9, ground := Ground.data }, { on := 4, ground := Ground.chain }], guard := none }) (by kernel_rfl) rfl (by rfl) (fun K hK => ?_)
            go_simp
            have k1 := equal _ _ _ _ _ 4 4 4 (c - (m + 4)) _ _ (reads_lit w4 (crcL ((l.take (m + 4)).drop 4)) (0, 0) 70) (R2.out _ (hn5.alloc (.cells (u8s (crcL ((l.take (m + 4)).drop 4))).toArray 70)))
            rw [HQ.out] at k1
            refine k1.mono ?_
            clear k1
            rintro e w6 ⟨rfl, rfl⟩
            refine hK _ _ (Chg.refl _ _) ?_
            clear hK K
            try simp only [Act.put, List.setIfInBounds_toArray, List.set_cons_zero, List.set_cons_succ]
            skip
            refine grow_take (i := 11) (oi := { dst := some 56, op := Op.unOp UnOp.not 4 (Operand.tmp 55), type := 4, pos := "frame.go:45", after := #[{ on := 10, ground := Ground.data }], guard := none }) (v := ?_) rfl (by kernel_rfl) (by kernel_rfl) (by kernel_rfl) (by rfl) ?_ ?_; rotate_left; focus ((intro W hW; go_simp) <;> with_reducible rfl)
            simp only [Act.put, List.setIfInBounds_toArray, List.set_cons_zero, List.set_cons_succ]
            refine grow_take (i := 12) (oi := { dst := some 44, op := Op.assign (Operand.tmp 56), type := 4, pos := "frame.go:45", after := #[{ on := 11, ground := Ground.data }, { on := 10, ground := Ground.chain }], guard := none }) (v := ?_) rfl (by kernel_rfl) (by kernel_rfl) (by kernel_rfl) (by rfl) ?_ ?_; rotate_left; focus ((intro W hW; go_simp) <;> with_reducible rfl)
            simp only [Act.put, List.setIfInBounds_toArray, List.set_cons_zero, List.set_cons_succ]
            refine grow_done (by kernel_rfl) ?_ _
            have hn6 := hn5.alloc (.cells (u8s (crcL ((l.take (m + 4)).drop 4))).toArray 70)
            have hE := takeE_sum (l := l) (by rw [HLn.out]; omega) HD.out (by rw [HM.out]; omega) (by rw [HLn.out, HM.out]; omega) (by rw [HM.out]; exact beq_eq_false_iff_ne.1 HQ.out)
            have HE := Lib.hid (And.intro hE (bad hE (by omega)))
            clear hE hn5
            generalize w4.alloc (.cells (u8s (crcL ((l.take (m + 4)).drop 4))).toArray 70) = w5 at *
            go_wp2
            go_ret3
            exact ⟨_, by rw [HE.out.1, HE.out.2.1]; rfl, by rw [HE.out.2.2]; exact OwnB.nil, hn6⟩
    · have hh' : (headL m == l.take 4) = false := by simpa using hh
      have HH := Lib.hid hh'
      clear hh hh'
      refine grow_start (fun _ => False) (by kernel_rfl) ?_
      refine grow_take (i := 0) (oi := { dst := some 29, op := Op.move (Operand.tmp 5), type := 3, pos := "frame.go:39", after := #[], guard := none }) (v := ?_) rfl (by kernel_rfl) (by kernel_rfl) (by kernel_rfl) (by rfl) ?_ ?_; rotate_left; focus ((intro W hW; go_simp) <;> with_reducible rfl)
      simp only [Act.put, List.setIfInBounds_toArray, List.set_cons_zero, List.set_cons_succ]
      refine grow_take (i := 2) (oi := { dst := some 31, op := Op.move (Operand.tmp 0), type := 36, pos := "frame.go:39", after := #[], guard := none }) (v := ?_) rfl (by kernel_rfl) (by kernel_rfl) (by kernel_rfl) (by rfl) ?_ ?_; rotate_left; focus ((intro W hW; go_simp) <;> with_reducible rfl)
      simp only [Act.put, List.setIfInBounds_toArray, List.set_cons_zero, List.set_cons_succ]
      refine grow_take (i := 3) (oi := { dst := some 32, op := Op.slice 36 (Operand.tmp 31) none (some (Operand.const (Value.int IntKind.i64 4))) none, type := 36, pos := "frame.go:39", after := #[{ on := 2, ground := Ground.data }], guard := none }) (v := ?_) rfl (by kernel_rfl) (by kernel_rfl) (by kernel_rfl) (by rfl) ?_ ?_; rotate_left; focus ((intro W hW; go_simp) <;> with_reducible rfl)
      simp only [Act.put, List.setIfInBounds_toArray, List.set_cons_zero, List.set_cons_succ]
      refine grow_next (i := 1) (oi := { dst := some 30, op := Op.call { callee := Callee.value (Operand.func 37), args := #[Operand.tmp 29], argTypes := #[3] }, type := 36, pos := "frame.go:39", after := #[{ on := 0, ground := Ground.data }], guard := none }) (by kernel_rfl) rfl (by rfl) (fun K hK => ?_)
      go_simp
      refine (head _ m).mono ?_
      rintro e w2 ⟨rfl, rfl⟩
      refine hK _ _ ((Chg.refl _ _).alloc _) ?_
      clear hK K
      try simp only [Act.put, List.setIfInBounds_toArray, List.set_cons_zero, List.set_cons_succ]
      skip
      refine grow_next (i := 4) (oi := { dst := some 33, op := Op.call { callee := Callee.value (Operand.func 40), args := #[Operand.tmp 30, Operand.tmp 32], argTypes := #[36, 36] }, type := 4, pos := "frame.go:39", after := #[{ on := 1, ground := Ground.data }, { on := 3, ground := Ground.data }, { on := 1, ground := Ground.chain }], guard := none }) (by kernel_rfl) rfl (by rfl) (fun K hK => ?_)
      go_simp
      have k1 := equal _ _ _ _ _ 4 4 4 c _ _ (reads_lit w1.drew (headL m) (0, 0) 5) ((HP.out _ ((hn1.drew).alloc (.cells (u8s (headL m)).toArray 5))).takeB (k := 4) (by omega))
      rw [HH.out] at k1
      refine k1.mono ?_
      clear k1
      rintro e w3 ⟨rfl, rfl⟩
      refine hK _ _ (Chg.refl _ _) ?_
      clear hK K
      try simp only [Act.put, List.setIfInBounds_toArray, List.set_cons_zero, List.set_cons_succ]
      skip
      refine grow_take (i := 5) (oi := { dst := some 34, op := Op.unOp UnOp.not 4 (Operand.tmp 33), type := 4, pos := "frame.go:39", after := #[{ on := 4, ground := Ground.data }], guard := none }) (v := ?_) rfl (by kernel_rfl) (by kernel_rfl) (by kernel_rfl) (by rfl) ?_ ?_; rotate_left; focus ((intro W hW; go_simp) <;> with_reducible rfl)
      simp only [Act.put, List.setIfInBounds_toArray, List.set_cons_zero, List.set_cons_succ]
      refine grow_take (i := 6) (oi := { dst := some 28, op := Op.assign (Operand.tmp 34), type := 4, pos := "frame.go:39", after := #[{ on := 5, ground := Ground.data }, { on := 4, ground := Ground.chain }], guard := none }) (v := ?_) rfl (by kernel_rfl) (by kernel_rfl) (by kernel_rfl) (by rfl) ?_ ?_; rotate_left; focus ((intro W hW; go_simp) <;> with_reducible rfl)
      simp only [Act.put, List.setIfInBounds_toArray, List.set_cons_zero, List.set_cons_succ]
      refine grow_done (by kernel_rfl) ?_ _
      have hn2 := (hn1.drew).alloc (.cells (u8s (headL m)).toArray 5)
      have hd1 : headL (lenOf l) ≠ l.take 4 := by rw [HM.out]; exact beq_eq_false_iff_ne.1 HH.out
      have hE := takeE_head (l := l) (by rw [HLn.out]; omega) hd1
      have HE := Lib.hid (And.intro hE (bad hE (by omega)))
      clear hd1 hE
      generalize w1.drew.alloc (.cells (u8s (headL m)).toArray 5) = w2 at *
      go_wp2
      go_ret3
      exact ⟨_, by rw [HE.out.1, HE.out.2.1]; rfl, by rw [HE.out.2.2]; exact OwnB.nil, hn2⟩
end Frame
end Go.Proofs.Ythgpphedpegbgaa

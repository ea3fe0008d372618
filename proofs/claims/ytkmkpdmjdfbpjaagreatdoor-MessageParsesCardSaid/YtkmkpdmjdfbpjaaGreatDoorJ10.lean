/-
  What the program's frame package and the document's reference make of a payload: its frame behind what is there (no condition beyond the sizes).
-/
import Derived.Test.YtkmkpdmjdfbpjaaGreatDoorJ9
/- What the program's frame package computes, the second part: the payload at the beginning of any bytes (no condition beyond the sizes). -/
namespace Go.Proofs.YtkmkpdmjdfbpjaaGreatDoor
open Go.ChangeShapes Go.WideShapes Go.RowKit
namespace Frame
theorem or3 (x y z : Nat) (hx : x < 256) (hy : y < 256) (hz : z < 256) : bits .or .i64 (bits .or .i64 (x : Int) ((y : Int) * 256)) ((z : Int) * 65536) = ((x + 256 * y + 65536 * z : Nat) : Int) := by
  have e1 : ((y : Int) * 256) = ((y * 256 : Nat) : Int) := by omega
  have e2 : ((z : Int) * 65536) = ((z * 65536 : Nat) : Int) := by omega
  rw [e1, e2, i64_or_nat x (y * 256) (by omega) (by omega), or_mul x y 8 256 (by decide) (by omega), i64_or_nat _ _ (by omega) (by omega), or_mul _ z 16 65536 (by decide) (by omega)]
  omega
set_option maxHeartbeats 4000000 in
theorem take (w : World) (F : Nat → Prop) (A : Option Addr) (n c : Nat) (l : List UInt8) (hl : Reads w F 1 A n (u8s l)) (hF : ∀ b, F b → b < w.heap.size) (hnc : n ≤ c) (hc : n ≤ 140737488351232) :
    Calls Tryz.prog 49 #[.slice A n c] w fun e w' => ∃ v, e = .returned (.tuple #[v, .int .i64 (takeN l : Int), .int .i64 (takeE l)]) ∧ OwnB w' w.heap.size v (takeP l) ∧ New w w' := by
  have hln := hl.u8len
  by_cases h4 : (n : Int) < 4
  · have hE := takeE_short (l := l) (by omega)
    have hb := bad hE (by omega)
    rw [hE, hb.1, hb.2]
    clear hE hb hl hln
    go_enter Tryz.func49, Tryz.ntmps49
    go_wp2
    go_ret3
    exact ⟨_, rfl, OwnB.nil, Chg.refl _ _⟩
  · obtain ⟨ad, x0, rfl, hF0, hx0, c0⟩ := hl.byte (k := 0) (by omega)
    obtain ⟨_, x1, e1, _, hx1, c1⟩ := hl.byte (k := 1) (by omega)
    injection e1 with e1
    subst e1
    obtain ⟨_, x2, e2, _, hx2, c2⟩ := hl.byte (k := 2) (by omega)
    injection e2 with e2
    subst e2
    have hlen : lenOf l = x0.toNat + 256 * x1.toNat + 65536 * x2.toNat := by
      simp [lenOf, List.getD_eq_getElem?_getD, hx0, hx1, hx2]
    have hlt := lenOf_lt l
    have b0 := UInt8.toNat_lt x0
    have b1 := UInt8.toNat_lt x1
    have b2 := UInt8.toNat_lt x2
    have i0 : 0 < n := by omega
    have i1 : (1 : Int) < n := by omega
    have i2 : (2 : Int) < n := by omega
    have c0' : w.cell? ad = some (.int .u8 (x0.toNat : Int)) := by rw [← c0]; simp [Addr.add]
    have c1' : w.cell? ⟨ad.block, ad.off + 1, none⟩ = some (.int .u8 (x1.toNat : Int)) := c1
    have c2' : w.cell? ⟨ad.block, ad.off + 2, none⟩ = some (.int .u8 (x2.toNat : Int)) := c2
    have ew0 : IntKind.i64.wrap (x0.toNat : Int) = (x0.toNat : Int) := IntWalk.i64_in _ (by omega)
    have ew1 : IntKind.i64.wrap (x1.toNat : Int) = (x1.toNat : Int) := IntWalk.i64_in _ (by omega)
    have ew2 : IntKind.i64.wrap (x2.toNat : Int) = (x2.toNat : Int) := IntWalk.i64_in _ (by omega)
    have hor := or3 x0.toNat x1.toNat x2.toNat b0 b1 b2
    rw [← hlen] at hor
    have HLn := Lib.hid hln
    have hsl4 : ∀ W, (Instr.sliceAt 29 (.slice (some ad) n c) none (some (.int .i64 4)) none).run Tryz.prog W = .ok (.slice (some ad) 4 c) W := fun W => slice_u8_to (some ad) n c 4 (by omega) W
    have HX := Lib.hid (And.intro hlen (And.intro hx0 (And.intro hx1 hx2)))
    obtain ⟨m, hm⟩ : ∃ m, lenOf l = m := ⟨_, rfl⟩
    rw [hm] at hor hlt
    have HM := Lib.hid hm
    clear hx0 hx1 hx2 hlen hln c0 c1 c2 hm
    have hpre : ∀ w' : World, New w w' → Reads w' F 1 (some ad) n (u8s l) := fun _ h => hl.chg' h (fun _ _ => id) (by omega)
    have HP := Lib.hid hpre
    go_enter Tryz.func49, Tryz.ntmps49
    go_wp2
    go_quiet (fail)
    go_wp2
    have hn1 := (Chg.refl (fun _ => False) w).drewN nq
    generalize w.drewN nq = w1 at *
    clear c0' c1' c2' ew0 ew1 ew2 hor hl hpre
    by_cases hh : (headL m == l.take 4) = true
    · have HH := Lib.hid hh
      clear hh
      refine grow_start (fun _ => False) (by kernel_rfl) ?_
      refine grow_take (i := 0) (oi := { dst := some 29, op := Op.move (Operand.tmp 5), type := 3, pos := "frame.go:39", after := #[], guard := none }) (v := ?_) rfl (by kernel_rfl) (by kernel_rfl) (by kernel_rfl) (by rfl) ?_ ?_; rotate_left; focus ((intro W hW; go_simp) <;> with_reducible rfl)
      simp only [Act.put, List.setIfInBounds_toArray, List.set_cons_zero, List.set_cons_succ]
      refine grow_take (i := 2) (oi := { dst := some 31, op := Op.move (Operand.tmp 0), type := 29, pos := "frame.go:39", after := #[], guard := none }) (v := ?_) rfl (by kernel_rfl) (by kernel_rfl) (by kernel_rfl) (by rfl) ?_ ?_; rotate_left; focus ((intro W hW; go_simp) <;> with_reducible rfl)
      simp only [Act.put, List.setIfInBounds_toArray, List.set_cons_zero, List.set_cons_succ]
      refine grow_take (i := 3) (oi := { dst := some 32, op := Op.slice 29 (Operand.tmp 31) none (some (Operand.const (Value.int IntKind.i64 4))) none, type := 29, pos := "frame.go:39", after := #[{ on := 2, ground := Ground.data }], guard := none }) (v := ?_) rfl (by kernel_rfl) (by kernel_rfl) (by kernel_rfl) (by rfl) ?_ ?_; rotate_left; focus ((intro W hW; go_simp) <;> with_reducible rfl)
      simp only [Act.put, List.setIfInBounds_toArray, List.set_cons_zero, List.set_cons_succ]
      refine grow_next (i := 1) (oi := { dst := some 30, op := Op.call { callee := Callee.value (Operand.func 39), args := #[Operand.tmp 29], argTypes := #[3] }, type := 29, pos := "frame.go:39", after := #[{ on := 0, ground := Ground.data }], guard := none }) (by kernel_rfl) rfl (by rfl) (fun K hK => ?_)
      go_simp
      refine (head _ m).mono ?_
      rintro e w2 ⟨rfl, rfl⟩
      refine hK _ _ ((Chg.refl _ _).alloc _) ?_
      clear hK K
      try simp only [Act.put, List.setIfInBounds_toArray, List.set_cons_zero, List.set_cons_succ]
      skip
      refine grow_next (i := 4) (oi := { dst := some 33, op := Op.call { callee := Callee.value (Operand.func 68), args := #[Operand.tmp 30, Operand.tmp 32], argTypes := #[29, 29] }, type := 4, pos := "frame.go:39", after := #[{ on := 1, ground := Ground.data }, { on := 3, ground := Ground.data }, { on := 1, ground := Ground.chain }], guard := none }) (by kernel_rfl) rfl (by rfl) (fun K hK => ?_)
      go_simp
      have k1 := equal _ _ _ _ _ 4 4 4 c _ _ (reads_lit w1.drew (headL m) (0, 0) 5) ((HP.out _ ((hn1.drew).alloc (.cells (u8s (headL m)).toArray 5))).takeB (k := 4) (by omega))
      rw [HH.out] at k1
      refine k1.mono ?_
      clear k1
      rintro e w3 ⟨rfl, rfl⟩
      refine hK _ _ (Chg.refl _ _) ?_
      clear hK K
      try simp only [Act.put, List.setIfInBounds_toArray, List.set_cons_zero, List.set_cons_succ]
      skip
      refine grow_take (i := 5) (oi := { dst := some 34, op := Op.unOp UnOp.not 4 (Operand.tmp 33), type := 4, pos := "frame.go:39", after := #[{ on := 4, ground := Ground.data }], guard := none }) (v := ?_) rfl (by kernel_rfl) (by kernel_rfl) (by kernel_rfl) (by rfl) ?_ ?_; rotate_left; focus ((intro W hW; go_simp) <;> with_reducible rfl)
      simp only [Act.put, List.setIfInBounds_toArray, List.set_cons_zero, List.set_cons_succ]
      refine grow_take (i := 6) (oi := { dst := some 28, op := Op.assign (Operand.tmp 34), type := 4, pos := "frame.go:39", after := #[{ on := 5, ground := Ground.data }, { on := 4, ground := Ground.chain }], guard := none }) (v := ?_) rfl (by kernel_rfl) (by kernel_rfl) (by kernel_rfl) (by rfl) ?_ ?_; rotate_left; focus ((intro W hW; go_simp) <;> with_reducible rfl)
      simp only [Act.put, List.setIfInBounds_toArray, List.set_cons_zero, List.set_cons_succ]
      refine grow_done (by kernel_rfl) ?_ _
      have hn2 := (hn1.drew).alloc (.cells (u8s (headL m)).toArray 5)
      have hd1 : headL (lenOf l) = l.take 4 := by rw [HM.out]; exact eq_of_beq HH.out
      have HD := Lib.hid hd1
      clear hd1
      generalize w1.drew.alloc (.cells (u8s (headL m)).toArray 5) = w2 at *
      by_cases hm1 : 1048576 < (m : Int)
      · have hE := takeE_long (l := l) (by rw [HLn.out]; omega) HD.out (by rw [HM.out]; omega)
        have HE := Lib.hid (And.intro hE (bad hE (by omega)))
        clear hE
        go_wp2
        go_ret3
        exact ⟨_, by rw [HE.out.1, HE.out.2.1]; rfl, by rw [HE.out.2.2]; exact OwnB.nil, hn2⟩
      · by_cases hm2 : (n : Int) < 4 + (m : Int) + 4
        · have hE := takeE_cut (l := l) (by rw [HLn.out]; omega) HD.out (by rw [HM.out]; omega) (by rw [HLn.out, HM.out]; omega)
          have HE := Lib.hid (And.intro hE (bad hE (by omega)))
          clear hE
          go_wp2
          go_ret3
          exact ⟨_, by rw [HE.out.1, HE.out.2.1]; rfl, by rw [HE.out.2.2]; exact OwnB.nil, hn2⟩
        · have hc4 : ¬ c = 4 := by omega
          have hcm : ¬ c = m + 4 := by omega
          have hsl1 : ∀ W, (Instr.sliceAt 29 (.slice (some ad) n c) (some (.int .i64 4)) (some (.int .i64 (4 + (m : Int)))) none).run Tryz.prog W = .ok (.slice (some (ad.add 4)) m (c - 4)) W := fun W => by
            have := slice_u8_mid (some ad) n c 4 (m + 4) (by omega) (by omega) W
            rw [if_neg hc4, show ((m + 4 : Nat) : Int) = 4 + (m : Int) by omega, show m + 4 - 4 = m by omega] at this
            exact this
          have hsl2 : ∀ W, (Instr.sliceAt 29 (.slice (some ad) n c) (some (.int .i64 (4 + (m : Int)))) (some (.int .i64 (4 + (m : Int) + 4))) none).run Tryz.prog W = .ok (.slice (some (ad.add (m + 4))) 4 (c - (m + 4))) W := fun W => by
            have := slice_u8_mid (some ad) n c (m + 4) (m + 8) (by omega) (by omega) W
            rw [if_neg hcm, show ((m + 4 : Nat) : Int) = 4 + (m : Int) by omega, show ((m + 8 : Nat) : Int) = 4 + (m : Int) + 4 by omega, show m + 8 - (m + 4) = 4 by omega] at this
            exact this
          have hr1 : ∀ w' : World, New w w' → Reads w' F 1 (some (ad.add 4)) m (u8s ((l.take (m + 4)).drop 4)) := fun _ h => by
            have := ((HP.out _ h).takeB (k := m + 4) (by omega)).cutB (k := 4) (c := c) (by omega) (by omega)
            rw [if_neg hc4, show m + 4 - 4 = m by omega] at this
            exact this
          have hr2 : ∀ w' : World, New w w' → Reads w' F 1 (some (ad.add (m + 4))) 4 (u8s ((l.take (m + 8)).drop (m + 4))) := fun _ h => by
            have := ((HP.out _ h).takeB (k := m + 8) (by omega)).cutB (k := m + 4) (c := c) (by omega) (by omega)
            rw [if_neg hcm, show m + 8 - (m + 4) = 4 by omega] at this
            exact this
          have ew9 : IntKind.i64.wrap (4 + (m : Int) + 4) = 4 + (m : Int) + 4 := IntWalk.i64_in _ (by omega)
          have R1 := Lib.hid hr1
          have R2 := Lib.hid hr2
          have hs := Crc.sum_lt ((l.take (m + 4)).drop 4)
          have hFs : ∀ w' : World, New w w' → ∀ b, F b → b < w'.heap.size := fun _ h b hb => Nat.lt_of_lt_of_le (hF b hb) h.size
          have HF := Lib.hid hFs
          have HS := Lib.hid hs
          clear hr1 hr2 hs hFs
          go_wp2
          have hn3 := hn2.drew
          by_cases hq : (crcL ((l.take (m + 4)).drop 4) == (l.take (m + 8)).drop (m + 4)) = true
          · have HQ := Lib.hid hq
            clear hq
            refine grow_start (fun _ => False) (by kernel_rfl) ?_
            refine grow_take (i := 0) (oi := { dst := some 45, op := Op.move (Operand.tmp 0), type := 29, pos := "frame.go:45", after := #[], guard := none }) (v := ?_) rfl (by kernel_rfl) (by kernel_rfl) (by kernel_rfl) (by rfl) ?_ ?_; rotate_left; focus ((intro W hW; go_simp) <;> with_reducible rfl)
            simp only [Act.put, List.setIfInBounds_toArray, List.set_cons_zero, List.set_cons_succ]
            refine grow_take (i := 1) (oi := { dst := some 46, op := Op.move (Operand.tmp 6), type := 3, pos := "frame.go:45", after := #[], guard := none }) (v := ?_) rfl (by kernel_rfl) (by kernel_rfl) (by kernel_rfl) (by rfl) ?_ ?_; rotate_left; focus ((intro W hW; go_simp) <;> with_reducible rfl)
            simp only [Act.put, List.setIfInBounds_toArray, List.set_cons_zero, List.set_cons_succ]
            refine grow_take (i := 2) (oi := { dst := some 47, op := Op.slice 29 (Operand.tmp 45) (some (Operand.const (Value.int IntKind.i64 4))) (some (Operand.tmp 46)) none, type := 29, pos := "frame.go:45", after := #[{ on := 0, ground := Ground.data }, { on := 1, ground := Ground.data }], guard := none }) (v := ?_) rfl (by kernel_rfl) (by kernel_rfl) (by kernel_rfl) (by rfl) ?_ ?_; rotate_left; focus ((intro W hW; go_simp) <;> with_reducible rfl)
            simp only [Act.put, List.setIfInBounds_toArray, List.set_cons_zero, List.set_cons_succ]
            refine grow_take (i := 5) (oi := { dst := some 50, op := Op.move (Operand.tmp 0), type := 29, pos := "frame.go:45", after := #[], guard := none }) (v := ?_) rfl (by kernel_rfl) (by kernel_rfl) (by kernel_rfl) (by rfl) ?_ ?_; rotate_left; focus ((intro W hW; go_simp) <;> with_reducible rfl)
            simp only [Act.put, List.setIfInBounds_toArray, List.set_cons_zero, List.set_cons_succ]
            refine grow_take (i := 6) (oi := { dst := some 51, op := Op.move (Operand.tmp 6), type := 3, pos := "frame.go:45", after := #[], guard := none }) (v := ?_) rfl (by kernel_rfl) (by kernel_rfl) (by kernel_rfl) (by rfl) ?_ ?_; rotate_left; focus ((intro W hW; go_simp) <;> with_reducible rfl)
            simp only [Act.put, List.setIfInBounds_toArray, List.set_cons_zero, List.set_cons_succ]
            refine grow_take (i := 7) (oi := { dst := some 52, op := Op.move (Operand.tmp 6), type := 3, pos := "frame.go:45", after := #[], guard := none }) (v := ?_) rfl (by kernel_rfl) (by kernel_rfl) (by kernel_rfl) (by rfl) ?_ ?_; rotate_left; focus ((intro W hW; go_simp) <;> with_reducible rfl)
            simp only [Act.put, List.setIfInBounds_toArray, List.set_cons_zero, List.set_cons_succ]
            refine grow_take (i := 8) (oi := { dst := some 53, op := Op.binOp BinOp.add 3 (Operand.tmp 52) (Operand.const (Value.int IntKind.i64 4)) 3, type := 3, pos := "frame.go:45", after := #[{ on := 7, ground := Ground.data }], guard := none }) (v := ?_) rfl (by kernel_rfl) (by kernel_rfl) (by kernel_rfl) (by rfl) ?_ ?_; rotate_left; focus ((intro W hW; go_simp) <;> with_reducible rfl)
            simp only [Act.put, List.setIfInBounds_toArray, List.set_cons_zero, List.set_cons_succ]
            refine grow_take (i := 9) (oi := { dst := some 54, op := Op.slice 29 (Operand.tmp 50) (some (Operand.tmp 51)) (some (Operand.tmp 53)) none, type := 29, pos := "frame.go:45", after := #[{ on := 5, ground := Ground.data }, { on := 6, ground := Ground.data }, { on := 8, ground := Ground.data }], guard := none }) (v := ?_) rfl (by kernel_rfl) (by kernel_rfl) (by kernel_rfl) (by rfl) ?_ ?_; rotate_left; focus ((intro W hW; go_simp) <;> with_reducible rfl)
            simp only [Act.put, List.setIfInBounds_toArray, List.set_cons_zero, List.set_cons_succ]
            refine grow_next (i := 3) (oi := { dst := some 48, op := Op.call { callee := Callee.value (Operand.func 41), args := #[Operand.tmp 47], argTypes := #[29] }, type := 74, pos := "frame.go:45", after := #[{ on := 2, ground := Ground.data }], guard := none }) (by kernel_rfl) rfl (by rfl) (fun K hK => ?_)
            go_simp
            refine (Crc.of_ _ F (some (ad.add 4)) m (c - 4) _ (R1.out _ hn3) (HF.out _ hn3) (by simp [maxLen]; omega)).mono ?_
            rintro e w4 ⟨rfl, hn4⟩
            refine hK _ _ hn4 ?_
            clear hK K
            try simp only [Act.put, List.setIfInBounds_toArray, List.set_cons_zero, List.set_cons_succ]
            have hn5 := hn3.trans hn4 (fun _ _ => id)
            clear hn4
            refine grow_next (i := 4) (oi := { dst := some 49, op := Op.call { callee := Callee.value (Operand.func 40), args := #[Operand.tmp 48], argTypes := #[74] }, type := 29, pos := "frame.go:45", after := #[{ on := 3, ground := Ground.data }, { on := 3, ground := Ground.chain }], guard := none }) (by kernel_rfl) rfl (by rfl) (fun K hK => ?_)
            go_simp
            refine (Crc.bytes _ _ HS.out).mono ?_
            rintro e w5 ⟨rfl, rfl⟩
            refine hK _ _ ((Chg.refl _ _).alloc _) ?_
            clear hK K
            try simp only [Act.put, List.setIfInBounds_toArray, List.set_cons_zero, List.set_cons_succ]
            skip
            refine grow_next (i := 10) (oi := { dst := some 55, op := Op.call { callee := Callee.value (Operand.func 68), args := #[Operand.tmp 49, Operand.tmp 54], argTypes := #[29, 29] }, type := 4, pos := "frame.go:45", after := #[{ on := 4, ground := Ground.data }, { on := 9, ground := Ground.data }, { on := 4, ground := Ground.chain }], guard := none }) (by kernel_rfl) rfl (by rfl) (fun K hK => ?_)
            go_simp
            have k1 := equal _ _ _ _ _ 4 4 4 (c - (m + 4)) _ _ (reads_lit w4 (crcL ((l.take (m + 4)).drop 4)) (0, 0) 94) (R2.out _ (hn5.alloc (.cells (u8s (crcL ((l.take (m + 4)).drop 4))).toArray 94)))
            rw [HQ.out] at k1
            refine k1.mono ?_
            clear k1
            rintro e w6 ⟨rfl, rfl⟩
            refine hK _ _ (Chg.refl _ _) ?_
            clear hK K
            try simp only [Act.put, List.setIfInBounds_toArray, List.set_cons_zero, List.set_cons_succ]
            skip
            refine grow_take (i := 11) (oi := { dst := some 56, op := Op.unOp UnOp.not 4 (Operand.tmp 55), type := 4, pos := "frame.go:45", after := #[{ on := 10, ground := Ground.data }], guard := none }) (v := ?_) rfl (by kernel_rfl) (by kernel_rfl) (by kernel_rfl) (by rfl) ?_ ?_; rotate_left; focus ((intro W hW; go_simp) <;> with_reducible rfl)
            simp only [Act.put, List.setIfInBounds_toArray, List.set_cons_zero, List.set_cons_succ]
            refine grow_take (i := 12) (oi := { dst := some 44, op := Op.assign (Operand.tmp 56), type := 4, pos := "frame.go:45", after := #[{ on := 11, ground := Ground.data }, { on := 10, ground := Ground.chain }], guard := none }) (v := ?_) rfl (by kernel_rfl) (by kernel_rfl) (by kernel_rfl) (by rfl) ?_ ?_; rotate_left; focus ((intro W hW; go_simp) <;> with_reducible rfl)
            simp only [Act.put, List.setIfInBounds_toArray, List.set_cons_zero, List.set_cons_succ]
            refine grow_done (by kernel_rfl) ?_ _
            have hn6 := hn5.alloc (.cells (u8s (crcL ((l.take (m + 4)).drop 4))).toArray 94)
            have hE := takeE_ok (l := l) (by rw [HLn.out]; omega) HD.out (by rw [HM.out]; omega) (by rw [HLn.out, HM.out]; omega) (by rw [HM.out]; exact eq_of_beq HQ.out)
            have HE := Lib.hid (show takeE l = 0 ∧ takeN l = m + 8 ∧ takeP l = (l.take (m + 4)).drop 4 by
              refine ⟨hE, ?_, ?_⟩
              · unfold takeN; rw [if_pos hE, HM.out]
              · unfold takeP; rw [if_pos hE, HM.out])
            clear hE hn5
            generalize w4.alloc (.cells (u8s (crcL ((l.take (m + 4)).drop 4))).toArray 94) = w5 at *
            go_wp2_with fail
            refine (bytes_clone _ (some (ad.add 4)) m (c - 4) _ F (R1.out _ hn6) (by omega)).mono ?_
            rintro e w6 ⟨v, rfl, ho, hn7⟩
            go_wp2
            go_ret3
            refine ⟨v, ?_, ?_, hn6.trans hn7 (fun _ _ => id)⟩
            · rw [HE.out.1, HE.out.2.1, show ((m + 8 : Nat) : Int) = 4 + (m : Int) + 4 by omega]
              rfl
            · rw [HE.out.2.2]
              exact own_mono ho hn6.size
          · have hq' : (crcL ((l.take (m + 4)).drop 4) == (l.take (m + 8)).drop (m + 4)) = false := by simpa using hq
            have HQ := Lib.hid hq'
            clear hq hq'
            refine grow_start (fun _ => False) (by kernel_rfl) ?_
            refine grow_take (i := 0) (oi := { dst := some 45, op := Op.move (Operand.tmp 0), type := 29, pos := "frame.go:45", after := #[], guard := none }) (v := ?_) rfl (by kernel_rfl) (by kernel_rfl) (by kernel_rfl) (by rfl) ?_ ?_; rotate_left; focus ((intro W hW; go_simp) <;> with_reducible rfl)
            simp only [Act.put, List.setIfInBounds_toArray, List.set_cons_zero, List.set_cons_succ]
            refine grow_take (i := 1) (oi := { dst := some 46, op := Op.move (Operand.tmp 6), type := 3, pos := "frame.go:45", after := #[], guard := none }) (v := ?_) rfl (by kernel_rfl) (by kernel_rfl) (by kernel_rfl) (by rfl) ?_ ?_; rotate_left; focus ((intro W hW; go_simp) <;> with_reducible rfl)
            simp only [Act.put, List.setIfInBounds_toArray, List.set_cons_zero, List.set_cons_succ]
            refine grow_take (i := 2) (oi := { dst := some 47, op := Op.slice 29 (Operand.tmp 45) (some (Operand.const (Value.int IntKind.i64 4))) (some (Operand.tmp 46)) none, type := 29, pos := "frame.go:45", after := #[{ on := 0, ground := Ground.data }, { on := 1, ground := Ground.data }], guard := none }) (v := ?_) rfl (by kernel_rfl) (by kernel_rfl) (by kernel_rfl) (by rfl) ?_ ?_; rotate_left; focus ((intro W hW; go_simp) <;> with_reducible rfl)
            simp only [Act.put, List.setIfInBounds_toArray, List.set_cons_zero, List.set_cons_succ]
            refine grow_take (i := 5) (oi := { dst := some 50, op := Op.move (Operand.tmp 0), type := 29, pos := "frame.go:45", after := #[], guard := none }) (v := ?_) rfl (by kernel_rfl) (by kernel_rfl) (by kernel_rfl) (by rfl) ?_ ?_; rotate_left; focus ((intro W hW; go_simp) <;> with_reducible rfl)
            simp only [Act.put, List.setIfInBounds_toArray, List.set_cons_zero, List.set_cons_succ]
            refine grow_take (i := 6) (oi := { dst := some 51, op := Op.move (Operand.tmp 6), type := 3, pos := "frame.go:45", after := #[], guard := none }) (v := ?_) rfl (by kernel_rfl) (by kernel_rfl) (by kernel_rfl) (by rfl) ?_ ?_; rotate_left; focus ((intro W hW; go_simp) <;> with_reducible rfl)
            simp only [Act.put, List.setIfInBounds_toArray, List.set_cons_zero, List.set_cons_succ]
            refine grow_take (i := 7) (oi := { dst := some 52, op := Op.move (Operand.tmp 6), type := 3, pos := "frame.go:45", after := #[], guard := none }) (v := ?_) rfl (by kernel_rfl) (by kernel_rfl) (by kernel_rfl) (by rfl) ?_ ?_; rotate_left; focus ((intro W hW; go_simp) <;> with_reducible rfl)
            simp only [Act.put, List.setIfInBounds_toArray, List.set_cons_zero, List.set_cons_succ]
            refine grow_take (i := 8) (oi := { dst := some 53, op := Op.binOp BinOp.add 3 (Operand.tmp 52) (Operand.const (Value.int IntKind.i64 4)) 3, type := 3, pos := "frame.go:45", after := #[{ on := 7, ground := Ground.data }], guard := none }) (v := ?_) rfl (by kernel_rfl) (by kernel_rfl) (by kernel_rfl) (by rfl) ?_ ?_; rotate_left; focus ((intro W hW; go_simp) <;> with_reducible rfl)
            simp only [Act.put, List.setIfInBounds_toArray, List.set_cons_zero, List.set_cons_succ]
            refine grow_take (i := 9) (oi := { dst := some 54, op := Op.slice 29 (Operand.tmp 50) (some (Operand.tmp 51)) (some (Operand.tmp 53)) none, type := 29, pos := "frame.go:45", after := #[{ on := 5, ground := Ground.data }, { on := 6, ground := Ground.data }, { on := 8, ground := Ground.data }], guard := none }) (v := ?_) rfl (by kernel_rfl) (by kernel_rfl) (by kernel_rfl) (by rfl) ?_ ?_; rotate_left; focus ((intro W hW; go_simp) <;> with_reducible rfl)
            simp only [Act.put, List.setIfInBounds_toArray, List.set_cons_zero, List.set_cons_succ]
            refine grow_next (i := 3) (oi := { dst := some 48, op := Op.call { callee := Callee.value (Operand.func 41), args := #[Operand.tmp 47], argTypes := #[29] }, type := 74, pos := "frame.go:45", after := #[{ on := 2, ground := Ground.data }], guard := none }) (by kernel_rfl) rfl (by rfl) (fun K hK => ?_)
            go_simp
            refine (Crc.of_ _ F (some (ad.add 4)) m (c - 4) _ (R1.out _ hn3) (HF.out _ hn3) (by simp [maxLen]; omega)).mono ?_
            rintro e w4 ⟨rfl, hn4⟩
            refine hK _ _ hn4 ?_
            clear hK K
            try simp only [Act.put, List.setIfInBounds_toArray, List.set_cons_zero, List.set_cons_succ]
            have hn5 := hn3.trans hn4 (fun _ _ => id)
            clear hn4
            refine grow_next (i := 4) (oi := { dst := some 49, op := Op.call { callee := Callee.value (Operand.func 40), args := #[Operand.tmp 48], argTypes := #[74] }, type := 29, pos := "frame.go:45", after := #[{ on := 3, ground := Ground.data }, { on := 3, ground := Ground.chain }], guard := none }) (by kernel_rfl) rfl (by rfl) (fun K hK => ?_)
            go_simp
            refine (Crc.bytes _ _ HS.out).mono ?_
            rintro e w5 ⟨rfl, rfl⟩
            refine hK _ _ ((Chg.refl _ _).alloc _) ?_
            clear hK K
            try simp only [Act.put, List.setIfInBounds_toArray, List.set_cons_zero, List.set_cons_succ]
            skip
            refine grow_next (i := 10) (oi := { dst := some 55, op := Op.call { callee := Callee.value (Operand.func 68), args := #[Operand.tmp 49, Operand.tmp 54], argTypes := #[29, 29] }, type := 4, pos := "frame.go:45", after := #[{ on := 4, ground := Ground.data }, { on := 9, ground := Ground.data }, { on := 4, ground := Ground.chain }], guard := none }) (by kernel_rfl) rfl (by rfl) (fun K hK => ?_)
            go_simp
            have k1 := equal _ _ _ _ _ 4 4 4 (c - (m + 4)) _ _ (reads_lit w4 (crcL ((l.take (m + 4)).drop 4)) (0, 0) 94) (R2.out _ (hn5.alloc (.cells (u8s (crcL ((l.take (m + 4)).drop 4))).toArray 94)))
            rw [HQ.out] at k1
            refine k1.mono ?_
            clear k1
            rintro e w6 ⟨rfl, rfl⟩
            refine hK _ _ (Chg.refl _ _) ?_
            clear hK K
            try simp only [Act.put, List.setIfInBounds_toArray, List.set_cons_zero, List.set_cons_succ]
            skip
            refine grow_take (i := 11) (oi := { dst := some 56, op := Op.unOp UnOp.not 4 (Operand.tmp 55), type := 4, pos := "frame.go:45", after := #[{ on := 10, ground := Ground.data }], guard := none }) (v := ?_) rfl (by kernel_rfl) (by kernel_rfl) (by kernel_rfl) (by rfl) ?_ ?_; rotate_left; focus ((intro W hW; go_simp) <;> with_reducible rfl)
            simp only [Act.put, List.setIfInBounds_toArray, List.set_cons_zero, List.set_cons_succ]
            refine grow_take (i := 12) (oi := { dst := some 44, op := Op.assign (Operand.tmp 56), type := 4, pos := "frame.go:45", after := #[{ on := 11, ground := Ground.data }, { on := 10, ground := Ground.chain }], guard := none }) (v := ?_) rfl (by kernel_rfl) (by kernel_rfl) (by kernel_rfl) (by rfl) ?_ ?_; rotate_left; focus ((intro W hW; go_simp) <;> with_reducible rfl)
            simp only [Act.put, List.setIfInBounds_toArray, List.set_cons_zero, List.set_cons_succ]
            refine grow_done (by kernel_rfl) ?_ _
            have hn6 := hn5.alloc (.cells (u8s (crcL ((l.take (m + 4)).drop 4))).toArray 94)
            have hE := takeE_sum (l := l) (by rw [HLn.out]; omega) HD.out (by rw [HM.out]; omega) (by rw [HLn.out, HM.out]; omega) (by rw [HM.out]; exact beq_eq_false_iff_ne.1 HQ.out)
            have HE := Lib.hid (And.intro hE (bad hE (by omega)))
            clear hE hn5
            generalize w4.alloc (.cells (u8s (crcL ((l.take (m + 4)).drop 4))).toArray 94) = w5 at *
            go_wp2
            go_ret3
            exact ⟨_, by rw [HE.out.1, HE.out.2.1]; rfl, by rw [HE.out.2.2]; exact OwnB.nil, hn6⟩
    · have hh' : (headL m == l.take 4) = false := by simpa using hh
      have HH := Lib.hid hh'
      clear hh hh'
      refine grow_start (fun _ => False) (by kernel_rfl) ?_
      refine grow_take (i := 0) (oi := { dst := some 29, op := Op.move (Operand.tmp 5), type := 3, pos := "frame.go:39", after := #[], guard := none }) (v := ?_) rfl (by kernel_rfl) (by kernel_rfl) (by kernel_rfl) (by rfl) ?_ ?_; rotate_left; focus ((intro W hW; go_simp) <;> with_reducible rfl)
      simp only [Act.put, List.setIfInBounds_toArray, List.set_cons_zero, List.set_cons_succ]
      refine grow_take (i := 2) (oi := { dst := some 31, op := Op.move (Operand.tmp 0), type := 29, pos := "frame.go:39", after := #[], guard := none }) (v := ?_) rfl (by kernel_rfl) (by kernel_rfl) (by kernel_rfl) (by rfl) ?_ ?_; rotate_left; focus ((intro W hW; go_simp) <;> with_reducible rfl)
      simp only [Act.put, List.setIfInBounds_toArray, List.set_cons_zero, List.set_cons_succ]
      refine grow_take (i := 3) (oi := { dst := some 32, op := Op.slice 29 (Operand.tmp 31) none (some (Operand.const (Value.int IntKind.i64 4))) none, type := 29, pos := "frame.go:39", after := #[{ on := 2, ground := Ground.data }], guard := none }) (v := ?_) rfl (by kernel_rfl) (by kernel_rfl) (by kernel_rfl) (by rfl) ?_ ?_; rotate_left; focus ((intro W hW; go_simp) <;> with_reducible rfl)
      simp only [Act.put, List.setIfInBounds_toArray, List.set_cons_zero, List.set_cons_succ]
      refine grow_next (i := 1) (oi := { dst := some 30, op := Op.call { callee := Callee.value (Operand.func 39), args := #[Operand.tmp 29], argTypes := #[3] }, type := 29, pos := "frame.go:39", after := #[{ on := 0, ground := Ground.data }], guard := none }) (by kernel_rfl) rfl (by rfl) (fun K hK => ?_)
      go_simp
      refine (head _ m).mono ?_
      rintro e w2 ⟨rfl, rfl⟩
      refine hK _ _ ((Chg.refl _ _).alloc _) ?_
      clear hK K
      try simp only [Act.put, List.setIfInBounds_toArray, List.set_cons_zero, List.set_cons_succ]
      skip
      refine grow_next (i := 4) (oi := { dst := some 33, op := Op.call { callee := Callee.value (Operand.func 68), args := #[Operand.tmp 30, Operand.tmp 32], argTypes := #[29, 29] }, type := 4, pos := "frame.go:39", after := #[{ on := 1, ground := Ground.data }, { on := 3, ground := Ground.data }, { on := 1, ground := Ground.chain }], guard := none }) (by kernel_rfl) rfl (by rfl) (fun K hK => ?_)
      go_simp
      have k1 := equal _ _ _ _ _ 4 4 4 c _ _ (reads_lit w1.drew (headL m) (0, 0) 5) ((HP.out _ ((hn1.drew).alloc (.cells (u8s (headL m)).toArray 5))).takeB (k := 4) (by omega))
      rw [HH.out] at k1
      refine k1.mono ?_
      clear k1
      rintro e w3 ⟨rfl, rfl⟩
      refine hK _ _ (Chg.refl _ _) ?_
      clear hK K
      try simp only [Act.put, List.setIfInBounds_toArray, List.set_cons_zero, List.set_cons_succ]
      skip
      refine grow_take (i := 5) (oi := { dst := some 34, op := Op.unOp UnOp.not 4 (Operand.tmp 33), type := 4, pos := "frame.go:39", after := #[{ on := 4, ground := Ground.data }], guard := none }) (v := ?_) rfl (by kernel_rfl) (by kernel_rfl) (by kernel_rfl) (by rfl) ?_ ?_; rotate_left; focus ((intro W hW; go_simp) <;> with_reducible rfl)
      simp only [Act.put, List.setIfInBounds_toArray, List.set_cons_zero, List.set_cons_succ]
      refine grow_take (i := 6) (oi := { dst := some 28, op := Op.assign (Operand.tmp 34), type := 4, pos := "frame.go:39", after := #[{ on := 5, ground := Ground.data }, { on := 4, ground := Ground.chain }], guard := none }) (v := ?_) rfl (by kernel_rfl) (by kernel_rfl) (by kernel_rfl) (by rfl) ?_ ?_; rotate_left; focus ((intro W hW; go_simp) <;> with_reducible rfl)
      simp only [Act.put, List.setIfInBounds_toArray, List.set_cons_zero, List.set_cons_succ]
      refine grow_done (by kernel_rfl) ?_ _
      have hn2 := (hn1.drew).alloc (.cells (u8s (headL m)).toArray 5)
      have hd1 : headL (lenOf l) ≠ l.take 4 := by rw [HM.out]; exact beq_eq_false_iff_ne.1 HH.out
      have hE := takeE_head (l := l) (by rw [HLn.out]; omega) hd1
      have HE := Lib.hid (And.intro hE (bad hE (by omega)))
      clear hd1 hE
      generalize w1.drew.alloc (.cells (u8s (headL m)).toArray 5) = w2 at *
      go_wp2
      go_ret3
      exact ⟨_, by rw [HE.out.1, HE.out.2.1]; rfl, by rw [HE.out.2.2]; exact OwnB.nil, hn2⟩
end Frame
end Go.Proofs.YtkmkpdmjdfbpjaaGreatDoor

/- What the document's reference computes of the payload at the beginning of any bytes: the same (no condition beyond the sizes). -/
namespace Go.Proofs.YtkmkpdmjdfbpjaaGreatDoor
open Go.ChangeShapes Go.WideShapes Go.RowKit
namespace Frame
/-- v is a slice of the bytes p, in blocks that meet F -/
def Part (w : World) (F : Nat → Prop) (v : Value) (p : List UInt8) : Prop := ∃ A c, v = .slice A p.length c ∧ p.length ≤ c ∧ Reads w F 1 A p.length (u8s p)
theorem Part.nil (w : World) (F : Nat → Prop) : Part w F (.slice none 0 0) [] := ⟨none, 0, rfl, Nat.le_refl _, Reads.none_ _⟩
theorem Part.of_own {w : World} {base : Nat} {v : Value} {p : List UInt8} (h : OwnB w base v p) : Part w (fun b => base ≤ b ∧ b < w.heap.size) v p := by
  obtain ⟨A, c, rfl, hl, _, _, hr⟩ := h.form
  exact ⟨A, c, rfl, hl, hr.mono fun b hb => ⟨hb.1, hb.2.1⟩⟩
theorem Part.new {w w' : World} {F : Nat → Prop} {v : Value} {p : List UInt8} (h : Part w F v p) (hc : New w w') : Part w' F v p := by
  obtain ⟨A, c, rfl, hl, hr⟩ := h
  exact ⟨A, c, rfl, hl, hr.chg' hc (fun _ _ => id) (by omega)⟩
theorem Part.mono {w : World} {F G : Nat → Prop} {v : Value} {p : List UInt8} (h : Part w F v p) (hFG : ∀ b, F b → G b) : Part w G v p := by
  obtain ⟨A, c, rfl, hl, hr⟩ := h
  exact ⟨A, c, rfl, hl, hr.mono hFG⟩
/-- string(b) of a literal that lies in block g -/
theorem lit_str {w W : World} {g n : Nat} {l : List UInt8} {t : TypeId} (hg : w.heap.size = g) (hn : l.length = n) (hW : New (w.alloc (.cells (u8s l).toArray t)) W) :
    (convert 29 9 (.slice (some ⟨g, 0, none⟩) n n)).run Tryz.prog W = .ok (.string ⟨l.toArray⟩) W := by
  subst hg
  subst hn
  exact run_str (P := Tryz.prog) Tryz.underlying29 Tryz.underlying5 Tryz.underlying9 ((reads_lit w l (0, 0) t).chg' hW (fun _ _ => id) (by omega)) l.length
theorem beq_bne {xs ys : List UInt8} {b : Bool} (h : (xs == ys) = b) : (xs != ys) = !b := by rw [← h]; rfl
end Frame
end Go.Proofs.YtkmkpdmjdfbpjaaGreatDoor

/- What the program's frame package and the document's reference make of a payload: its frame behind what is there (no condition beyond the sizes). -/
namespace Go.Proofs.YtkmkpdmjdfbpjaaGreatDoor
open Go.ChangeShapes Go.WideShapes Go.RowKit
namespace Frame
theorem Reads.kept {w w' : World} {F : Nat → Prop} {A : Option Addr} {n : Nat} {l : List UInt8} {row : Option Nat} (h : Reads w F 1 A n (u8s l)) (hg : w.grownBy w' row) (hF : ∀ b, F b → b < w.heap.size ∧ row ≠ some b) : Reads w' F 1 A n (u8s l) :=
  h.keep fun b hb => hg.block b (hF b hb).1 fun e => (hF b hb).2 e.symm
set_option maxHeartbeats 4000000 in
theorem put (w : World) (base : Nat) (v : Value) (bs : List UInt8) (F : Nat → Prop) (A : Option Addr) (n c : Nat) (p : List UInt8) (hv : OwnB w base v bs) (hbase : base ≤ w.heap.size) (hl : Reads w F 1 A n (u8s p)) (hF : ∀ b, F b → b < w.heap.size ∧ v.ownBlock ≠ some b)
    (hb : bs.length + n + 8 ≤ 1099511627776) :
    Calls Tryz.prog 20 #[v, .slice A n c] w fun e w' => ∃ v', e = .returned v' ∧ OwnB w' base v' (bs ++ frameL p) ∧ Chg (fun k => v.ownBlock = some k) w w' ∧ ∀ k, v'.ownBlock = some k → v.ownBlock = some k ∨ w.heap.size ≤ k := by
  have hln := hl.u8len
  have HV := Lib.hid hv
  have HLn := Lib.hid hln
  have hvlt := fun k hk => (own_lt hv (k := k) hk).2
  have hfr : frameL p = headL n ++ p ++ crcL p := by unfold frameL; rw [hln]
  have HFR := Lib.hid hfr
  clear hv hln hfr
  go_enter Tryz.func20, Tryz.ntmps20
  go_wp2_with fail
  refine (head _ n).mono ?_
  rintro e w1 ⟨rfl, rfl⟩
  have hn1 : New w (w.alloc (.cells (u8s (headL n)).toArray 5)) := (Chg.refl _ _).alloc _
  have ho1 := own_chg HV.out hn1 fun _ _ => id
  have hr1 := reads_lit w (headL n) (0, 0) 5
  have hl1 := hl.chg' hn1 (fun _ _ => id) (by omega)
  have hsz1 : (w.alloc (.cells (u8s (headL n)).toArray 5)).heap.size = w.heap.size + 1 := by simp
  generalize w.alloc (.cells (u8s (headL n)).toArray 5) = w1 at *
  go_wp2_with (at_builtin; refine stop ?_)
  delta Stop
  refine append_u8 _ rfl _ _ rfl base v bs rfl ho1 (fun b => b = w.heap.size) (some ⟨w.heap.size, 0, none⟩) 4 4 (headL n) rfl hr1 (by omega) (by omega) ?_
  intro v2 w2 ho2 hg2 hat2
  have hc2 : Chg (fun k => v.ownBlock = some k) w w2 := (hn1.mono fun _ _ => False.elim).grown hg2 fun g e _ => e
  have hv2 : ∀ k, v2.ownBlock = some k → v.ownBlock = some k ∨ w.heap.size ≤ k := fun k hk => by
    rcases hat2 with e | e
    · exact .inl (e ▸ hk)
    · rw [e] at hk
      injection hk with hk
      exact .inr (by omega)
  have hl2 : Reads w2 F 1 A n (u8s p) := Reads.kept hl1 hg2 fun b hb => ⟨by have := (hF b hb).1; omega, (hF b hb).2⟩
  have hF2 : ∀ b, F b → b < w2.heap.size ∧ v2.ownBlock ≠ some b := fun b hb => ⟨by have := (hF b hb).1; have := hg2.size; omega, fun e => by
    rcases hv2 b e with h | h
    · exact (hF b hb).2 h
    · have := (hF b hb).1; omega⟩
  have hs2 := hc2.size
  clear hn1 ho1 hr1 hl1 hg2 hat2 hsz1
  have hlen2 : (bs ++ headL n).length = bs.length + 4 := by rw [List.length_append]; rfl
  have HLEN2 := Lib.hid hlen2
  clear hlen2
  go_wp2_with (at_builtin; refine stop ?_)
  delta Stop
  refine append_u8 _ rfl _ _ rfl base v2 (bs ++ headL n) rfl ho2 F A n c p rfl hl2 (by rw [HLEN2.out]; omega) (by omega) ?_
  intro v3 w3 ho3 hg3 hat3
  have hc3 : Chg (fun k => v.ownBlock = some k) w w3 := hc2.grown hg3 fun g e hlt => by
    rcases hv2 g e with h | h
    · exact h
    · omega
  have hv3 : ∀ k, v3.ownBlock = some k → v.ownBlock = some k ∨ w.heap.size ≤ k := fun k hk => by
    rcases hat3 with e | e
    · exact hv2 k (e ▸ hk)
    · rw [e] at hk
      injection hk with hk
      exact .inr (by omega)
  have hl3 : Reads w3 F 1 A n (u8s p) := Reads.kept hl2 hg3 hF2
  have hs3 := hg3.size
  have hF3 : ∀ b, F b → b < w3.heap.size ∧ v3.ownBlock ≠ some b := fun b hb => ⟨by have := (hF2 b hb).1; omega, fun e => by
    rcases hv3 b e with h | h
    · exact (hF b hb).2 h
    · have := (hF b hb).1; omega⟩
  clear hc2 hv2 hl2 hF2 ho2 hg3 hat3
  go_wp2_with fail
  refine (Crc.of_ w3 F A n c p hl3 (fun b hb => (hF3 b hb).1) (by simp only [maxLen]; omega)).mono ?_
  rintro e w4 ⟨rfl, hn4⟩
  have hc4 := hc3.trans hn4 fun _ _ => False.elim
  have ho4 := own_chg ho3 hn4 fun _ _ => id
  have hs4 := hn4.size
  go_wp2_with fail
  refine (Crc.bytes w4 _ (Crc.sum_lt p)).mono ?_
  rintro e w5 ⟨rfl, rfl⟩
  have hr5 := reads_lit w4 (Crc.sumBytes (Crc.sum p)) (0, 0) 94
  have hn5 : New w4 (w4.alloc (.cells (u8s (Crc.sumBytes (Crc.sum p))).toArray 94)) := (Chg.refl _ _).alloc _
  have hc5 := hc4.trans hn5 fun _ _ => False.elim
  have ho5 := own_chg ho4 hn5 fun _ _ => id
  have hs5 := hn5.size
  have hlen3 : (bs ++ headL n ++ p).length = bs.length + 4 + n := by rw [List.length_append, HLEN2.out, HLn.out]
  have HLEN3 := Lib.hid hlen3
  clear hlen3 hc4 ho4 hn4 hn5 hc3 ho3 hl3 hF3
  generalize w4.alloc (.cells (u8s (Crc.sumBytes (Crc.sum p))).toArray 94) = w5 at *
  go_wp2_with (at_builtin; refine stop ?_)
  delta Stop
  refine append_u8 _ rfl _ _ rfl base v3 (bs ++ headL n ++ p) rfl ho5 (fun b => b = w4.heap.size) (some ⟨w4.heap.size, 0, none⟩) 4 4 (Crc.sumBytes (Crc.sum p)) rfl hr5 (by rw [HLEN3.out]; omega) (by omega) ?_
  intro v6 w6 ho6 hg6 hat6
  have hc6 : Chg (fun k => v.ownBlock = some k) w w6 := hc5.grown hg6 fun g e hlt => by
    rcases hv3 g e with h | h
    · exact h
    · omega
  have hv6 : ∀ k, v6.ownBlock = some k → v.ownBlock = some k ∨ w.heap.size ≤ k := fun k hk => by
    rcases hat6 with e | e
    · exact hv3 k (e ▸ hk)
    · rw [e] at hk
      injection hk with hk
      exact .inr (by omega)
  clear hg6 hat6 hr5 ho5 hc5 hv3
  go_wp2
  go_ret
  refine ⟨v6, rfl, ?_, hc6, hv6⟩
  have e : bs ++ frameL p = bs ++ headL n ++ p ++ Crc.sumBytes (Crc.sum p) := by
    rw [HFR.out]
    simp only [List.append_assoc]
    rfl
  rw [e]
  exact ho6

set_option maxHeartbeats 4000000 in
theorem ref_put (w : World) (F G : Nat → Prop) (B A : Option Addr) (m d n c : Nat) (bs p : List UInt8) (hb : Reads w G 1 B m (u8s bs)) (hl : Reads w F 1 A n (u8s p)) (hG : ∀ b, G b → b < w.heap.size) (hF : ∀ b, F b → b < w.heap.size)
    (hbd : m + n + 8 ≤ 1099511627776) :
    Calls Tryz.prog 31 #[.slice B m d, .slice A n c] w fun e w' => ∃ v', e = .returned v' ∧ OwnB w' w.heap.size v' (bs ++ frameL p) ∧ New w w' := by
  have hln := hl.u8len
  have hbn := hb.u8len
  have hfr : frameL p = headL n ++ p ++ crcL p := by unfold frameL; rw [hln]
  have HFR := Lib.hid hfr
  have HLn := Lib.hid hln
  have HBn := Lib.hid hbn
  clear hln hfr hbn
  go_enter Tryz.func31, Tryz.ntmps31
  go_wp2_with fail
  refine (ref_head _ n (by omega)).mono ?_
  rintro e w1 ⟨rfl, rfl⟩
  have hn1 : New w (w.alloc (.cells (u8s (headL n)).toArray 5)) := (Chg.refl _ _).alloc _
  have ho1 : OwnB (w.alloc (.cells (u8s (headL n)).toArray 5)) w.heap.size (.slice (some ⟨w.heap.size, 0, none⟩) 4 4) (headL n) := OwnB.lit (headL n) (Nat.le_refl _) (by simp [headL, maxLen])
  have hs1 : (w.alloc (.cells (u8s (headL n)).toArray 5)).heap.size = w.heap.size + 1 := by simp
  have hl1 := hl.chg' hn1 (fun _ _ => id) (by omega)
  have hb1 := hb.chg' hn1 (fun _ _ => id) (by omega)
  generalize w.alloc (.cells (u8s (headL n)).toArray 5) = w1 at *
  go_wp2_with (at_builtin; refine stop ?_)
  delta Stop
  refine append_u8 _ rfl _ _ rfl w.heap.size _ (headL n) rfl ho1 F A n c p rfl hl1 (by rw [headL_length]; omega) (by omega) ?_
  intro v2 w2 ho2 hg2 hat2
  have hn2 : New w w2 := hn1.grown hg2 fun g e hlt => by
    have := (own_lt ho1 e).1
    omega
  have hl2 := hl.chg' hn2 (fun _ _ => id) (by omega)
  have hb2 := hb.chg' hn2 (fun _ _ => id) (by omega)
  have hs2 := hn2.size
  clear hl1 hb1 hn1 ho1 hg2 hat2
  obtain ⟨A2, c2, hv2, _, _, _, hr2⟩ := ho2.form
  have hl2n : (headL n ++ p).length = 4 + n := by rw [List.length_append, headL_length, HLn.out]
  rw [hl2n] at hv2 hr2
  subst hv2
  have HL2 := Lib.hid hl2n
  clear hl2n
  go_wp2_with (at_builtin; refine stop ?_)
  delta Stop
  refine append_u8 _ rfl _ _ rfl w2.heap.size _ [] rfl (OwnB.empty (Nat.le_refl _)) G B m d bs rfl (hb2.chg' ((Chg.refl (fun _ => False) w2).alloc _) (fun _ _ => id) (by omega)) (by simp; omega) (by simp) ?_
  intro v3 w3 ho3 hg3 hat3
  rw [List.nil_append] at ho3
  have hn3 : New w2 w3 := ((Chg.refl (fun _ => False) w2).alloc _).grown hg3 fun g e hlt => by
    have := ((OwnB.empty (w := w2) (Nat.le_refl _)).lt g e).1
    omega
  have hr3 := hr2.chg' hn3 (fun _ _ => id) (by omega)
  have hl3 := hl2.chg' hn3 (fun _ _ => id) (by omega)
  have hs3 := hn3.size
  have hnn3 := hn2.trans hn3 fun _ _ => id
  clear hr2 hg3 hat3 hl2 hb2 ho2
  go_wp2_with (at_builtin; refine stop ?_)
  delta Stop
  refine append_u8 _ rfl _ _ rfl w2.heap.size v3 bs rfl ho3 _ A2 (4 + n) c2 (headL n ++ p) rfl hr3 (by rw [HBn.out]; omega) (by omega) ?_
  intro v4 w4 ho4 hg4 hat4
  have hn4 : New w w4 := hnn3.grown hg4 fun g e hlt => by
    have := (own_lt ho3 e).1
    omega
  have hl4 := hl.chg' hn4 (fun _ _ => id) (by omega)
  have hs4 := hn4.size
  have hs34 := hg4.size
  clear hr3 hl3 hg4 hat4 hnn3 hn3 ho3 hn2
  go_wp2_with fail
  refine (Crc.ref_of w4 F A n c p hl4 (by simp only [maxLen]; omega)).mono ?_
  rintro e w5 ⟨rfl, hw5⟩
  have hn5 : New w4 w5 := hw5 ▸ Chg.refl _ _
  have ho5 := own_chg ho4 hn5 fun _ _ => id
  clear hw5 ho4
  have hnn5 := hn4.trans hn5 fun _ _ => id
  have hs5 := hnn5.size
  have hs45 := hn5.size
  clear hn4 hn5
  go_wp2_with fail
  refine (Crc.ref_bytes w5 _ (Crc.sum_lt p)).mono ?_
  rintro e w6 ⟨rfl, rfl⟩
  have hr6 := reads_lit w5 (Crc.sumBytes (Crc.sum p)) (0, 0) 5
  have hn6 : New w5 (w5.alloc (.cells (u8s (Crc.sumBytes (Crc.sum p))).toArray 5)) := (Chg.refl _ _).alloc _
  have ho6 := own_chg ho5 hn6 fun _ _ => id
  have hnn6 := hnn5.trans hn6 fun _ _ => id
  have hs6 := hn6.size
  have hl6 : (bs ++ (headL n ++ p)).length = m + (4 + n) := by rw [List.length_append, HL2.out, HBn.out]
  have HL6 := Lib.hid hl6
  clear hl6 ho5 hn6 hnn5
  generalize w5.alloc (.cells (u8s (Crc.sumBytes (Crc.sum p))).toArray 5) = w6 at *
  go_wp2_with (at_builtin; refine stop ?_)
  delta Stop
  refine append_u8 _ rfl _ _ rfl w2.heap.size v4 (bs ++ (headL n ++ p)) rfl ho6 (fun b => b = w5.heap.size) (some ⟨w5.heap.size, 0, none⟩) 4 4 (Crc.sumBytes (Crc.sum p)) rfl hr6 (by rw [HL6.out]; omega) (by omega) ?_
  intro v7 w7 ho7 hg7 hat7
  have hn7 : New w w7 := hnn6.grown hg7 fun g e hlt => by
    have := (own_lt ho6 e).1
    omega
  clear hr6 hg7 hat7 ho6 hnn6
  go_wp2
  go_ret
  refine ⟨v7, rfl, ?_, hn7⟩
  have e : bs ++ frameL p = bs ++ (headL n ++ p) ++ Crc.sumBytes (Crc.sum p) := by
    rw [HFR.out]
    simp only [List.append_assoc]
    rfl
  rw [e]
  exact own_mono ho7 hs2

end Frame
end Go.Proofs.YtkmkpdmjdfbpjaaGreatDoor

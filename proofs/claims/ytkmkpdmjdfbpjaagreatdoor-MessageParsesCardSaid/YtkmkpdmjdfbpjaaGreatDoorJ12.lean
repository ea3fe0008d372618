/-
  Events held against each other (no condition).
-/
import Derived.Test.YtkmkpdmjdfbpjaaGreatDoorJ11
/- The document's reference: one frame told (no condition beyond the sizes). -/
namespace Go.Proofs.YtkmkpdmjdfbpjaaGreatDoor
open Go.ChangeShapes Go.WideShapes Go.RowKit
namespace Frame
set_option maxHeartbeats 4000000 in
theorem ref_take (w : World) (F : Nat → Prop) (A : Option Addr) (n c : Nat) (l : List UInt8) (hl : Reads w F 1 A n (u8s l)) (hF : ∀ b, F b → b < w.heap.size) (hnc : n ≤ c) (hc : n ≤ 140737488351232) :
    Calls Tryz.prog 33 #[.slice A n c] w fun e w' => ∃ v, e = .returned (.tuple #[v, .int .i64 (takeN l : Int), .int .i64 (takeE l)]) ∧ Part w' F v (takeP l) ∧ New w w' := by
  have hln := hl.u8len
  by_cases h4 : (n : Int) < 4
  · have hE := takeE_short (l := l) (by omega)
    have hb := bad hE (by omega)
    rw [hE, hb.1, hb.2]
    clear hE hb hl hln
    go_enter Tryz.func33, Tryz.ntmps33
    go_wp2
    go_ret3
    exact ⟨_, rfl, Part.nil _ _, Chg.refl _ _⟩
  · obtain ⟨ad, x0, rfl, hF0, hx0, c0⟩ := hl.byte (k := 0) (by omega)
    obtain ⟨_, x1, e1, _, hx1, c1⟩ := hl.byte (k := 1) (by omega)
    injection e1 with e1
    subst e1
    obtain ⟨_, x2, e2, _, hx2, c2⟩ := hl.byte (k := 2) (by omega)
    injection e2 with e2
    subst e2
    have hlen : lenOf l = x0.toNat + 256 * x1.toNat + 65536 * x2.toNat := by
      simp [lenOf, List.getD_eq_getElem?_getD, hx0, hx1, hx2]
    have hlt := lenOf_lt l
    have b0 := UInt8.toNat_lt x0
    have b1 := UInt8.toNat_lt x1
    have b2 := UInt8.toNat_lt x2
    have i0 : 0 < n := by omega
    have i1 : (1 : Int) < n := by omega
    have i2 : (2 : Int) < n := by omega
    have c0' : w.cell? ad = some (.int .u8 (x0.toNat : Int)) := by rw [← c0]; simp [Addr.add]
    have c1' : w.cell? ⟨ad.block, ad.off + 1, none⟩ = some (.int .u8 (x1.toNat : Int)) := c1
    have c2' : w.cell? ⟨ad.block, ad.off + 2, none⟩ = some (.int .u8 (x2.toNat : Int)) := c2
    have ew0 : IntKind.i64.wrap (x0.toNat : Int) = (x0.toNat : Int) := IntWalk.i64_in _ (by omega)
    have ew1 : IntKind.i64.wrap (x1.toNat : Int) = (x1.toNat : Int) := IntWalk.i64_in _ (by omega)
    have ew2 : IntKind.i64.wrap (x2.toNat : Int) = (x2.toNat : Int) := IntWalk.i64_in _ (by omega)
    have HLn := Lib.hid hln
    have hsl4 : ∀ W, (Instr.sliceAt 29 (.slice (some ad) n c) none (some (.int .i64 4)) none).run Tryz.prog W = .ok (.slice (some ad) 4 c) W := fun W => slice_u8_to (some ad) n c 4 (by omega) W
    have HX := Lib.hid (And.intro hlen (And.intro hx0 (And.intro hx1 hx2)))
    obtain ⟨m, hm⟩ : ∃ m, lenOf l = m := ⟨_, rfl⟩
    rw [hm] at hlt
    have hor : (x0.toNat : Int) + 256 * (x1.toNat : Int) + 65536 * (x2.toNat : Int) = (m : Int) := by omega
    have ea1 : IntKind.i64.wrap (256 * (x1.toNat : Int)) = 256 * (x1.toNat : Int) := IntWalk.i64_in _ (by omega)
    have ea2 : IntKind.i64.wrap (65536 * (x2.toNat : Int)) = 65536 * (x2.toNat : Int) := IntWalk.i64_in _ (by omega)
    have ea3 : IntKind.i64.wrap ((x0.toNat : Int) + 256 * (x1.toNat : Int)) = (x0.toNat : Int) + 256 * (x1.toNat : Int) := IntWalk.i64_in _ (by omega)
    have ea4 : IntKind.i64.wrap ((x0.toNat : Int) + 256 * (x1.toNat : Int) + 65536 * (x2.toNat : Int)) = (x0.toNat : Int) + 256 * (x1.toNat : Int) + 65536 * (x2.toNat : Int) := IntWalk.i64_in _ (by omega)
    have HM := Lib.hid hm
    clear hx0 hx1 hx2 hlen hln c0 c1 c2 hm
    have hpre : ∀ w' : World, New w w' → Reads w' F 1 (some ad) n (u8s l) := fun _ h => hl.chg' h (fun _ _ => id) (by omega)
    have HP := Lib.hid hpre
    go_enter Tryz.func33, Tryz.ntmps33
    go_wp2
    go_quiet (fail)
    go_wp2
    have hn1 := (Chg.refl (fun _ => False) w).drewN nq
    generalize w.drewN nq = w1 at *
    clear c0' c1' c2' ew0 ew1 ew2 hor hl hpre ea1 ea2 ea3 ea4
    by_cases hh : (headL m == l.take 4) = true
    · have HH := Lib.hid hh
      clear hh
      have FA := Lib.hid (fun W (hW : New w1.drew W) => run_str (P := Tryz.prog) Tryz.underlying29 Tryz.underlying5 Tryz.underlying9 ((HP.out W (hn1.drew.trans hW (fun _ _ => id))).takeB (k := 4) (by omega)) c)
      refine grow_start (fun _ => False) (by kernel_rfl) ?_
      refine grow_take (i := 0) (oi := { dst := some 25, op := Op.move (Operand.tmp 5), type := 3, pos := "ref.go:27", after := #[], guard := none }) (v := ?_) rfl (by kernel_rfl) (by kernel_rfl) (by kernel_rfl) (by rfl) ?_ ?_; rotate_left; focus ((intro W hW; go_simp) <;> with_reducible rfl)
      simp only [Act.put, List.setIfInBounds_toArray, List.set_cons_zero, List.set_cons_succ]
      refine grow_take (i := 3) (oi := { dst := some 28, op := Op.move (Operand.tmp 0), type := 29, pos := "ref.go:27", after := #[], guard := none }) (v := ?_) rfl (by kernel_rfl) (by kernel_rfl) (by kernel_rfl) (by rfl) ?_ ?_; rotate_left; focus ((intro W hW; go_simp) <;> with_reducible rfl)
      simp only [Act.put, List.setIfInBounds_toArray, List.set_cons_zero, List.set_cons_succ]
      refine grow_take (i := 4) (oi := { dst := some 29, op := Op.slice 29 (Operand.tmp 28) none (some (Operand.const (Value.int IntKind.i64 4))) none, type := 29, pos := "ref.go:27", after := #[{ on := 3, ground := Ground.data }], guard := none }) (v := ?_) rfl (by kernel_rfl) (by kernel_rfl) (by kernel_rfl) (by rfl) ?_ ?_; rotate_left; focus ((intro W hW; have fct := FA.out W hW; go_simp) <;> with_reducible rfl)
      simp only [Act.put, List.setIfInBounds_toArray, List.set_cons_zero, List.set_cons_succ]
      refine grow_take (i := 5) (oi := { dst := some 30, op := Op.convert 29 9 (Operand.tmp 29), type := 9, pos := "ref.go:27", after := #[{ on := 4, ground := Ground.data }], guard := none }) (v := ?_) rfl (by kernel_rfl) (by kernel_rfl) (by kernel_rfl) (by rfl) ?_ ?_; rotate_left; focus ((intro W hW; have fct := FA.out W hW; go_simp) <;> with_reducible rfl)
      simp only [Act.put, List.setIfInBounds_toArray, List.set_cons_zero, List.set_cons_succ]
      refine grow_next (i := 1) (oi := { dst := some 26, op := Op.call { callee := Callee.value (Operand.func 54), args := #[Operand.tmp 25], argTypes := #[3] }, type := 29, pos := "ref.go:27", after := #[{ on := 0, ground := Ground.data }], guard := none }) (by kernel_rfl) rfl (by rfl) (fun K hK => ?_)
      go_simp
      refine (ref_head _ m (by omega)).mono ?_
      rintro e w2 ⟨rfl, rfl⟩
      refine hK _ _ ((Chg.refl _ _).alloc _) ?_
      clear hK K
      try simp only [Act.put, List.setIfInBounds_toArray, List.set_cons_zero, List.set_cons_succ]
      have F1 := Lib.hid (fun W (hW : New (w1.drew.alloc (.cells (u8s (headL m)).toArray 5)) W) => And.intro (And.intro HH.out (beq_bne HH.out)) (And.intro (FA.out W (((Chg.refl (fun _ => False) w1.drew).alloc (.cells (u8s (headL m)).toArray 5)).trans hW (fun _ _ => id))) (lit_str (w := w1.drew) (l := headL m) (g := w1.heap.size) (n := 4) rfl rfl hW)))
      refine grow_take (i := 2) (oi := { dst := some 27, op := Op.convert 29 9 (Operand.tmp 26), type := 9, pos := "ref.go:27", after := #[{ on := 1, ground := Ground.data }], guard := none }) (v := ?_) rfl (by kernel_rfl) (by kernel_rfl) (by kernel_rfl) (by rfl) ?_ ?_; rotate_left; focus ((intro W hW; have fct := F1.out W hW; go_simp) <;> with_reducible rfl)
      simp only [Act.put, List.setIfInBounds_toArray, List.set_cons_zero, List.set_cons_succ]
      refine grow_take (i := 6) (oi := { dst := some 31, op := Op.binOp BinOp.neq 9 (Operand.tmp 27) (Operand.tmp 30) 9, type := 4, pos := "ref.go:27", after := #[{ on := 2, ground := Ground.data }, { on := 5, ground := Ground.data }], guard := none }) (v := ?_) rfl (by kernel_rfl) (by kernel_rfl) (by kernel_rfl) (by rfl) ?_ ?_; rotate_left; focus ((intro W hW; have fct := F1.out W hW; go_simp) <;> with_reducible rfl)
      simp only [Act.put, List.setIfInBounds_toArray, List.set_cons_zero, List.set_cons_succ]
      refine grow_done (by kernel_rfl) ?_ _
      have hn2 := (hn1.drew).alloc (.cells (u8s (headL m)).toArray 5)
      have hd1 : headL (lenOf l) = l.take 4 := by rw [HM.out]; exact eq_of_beq HH.out
      have HD := Lib.hid hd1
      clear hd1
      generalize w1.drew.alloc (.cells (u8s (headL m)).toArray 5) = w2 at *
      by_cases hm1 : 1048576 < (m : Int)
      · have hE := takeE_long (l := l) (by rw [HLn.out]; omega) HD.out (by rw [HM.out]; omega)
        have HE := Lib.hid (And.intro hE (bad hE (by omega)))
        clear hE
        go_wp2
        go_ret3
        exact ⟨_, by rw [HE.out.1, HE.out.2.1]; rfl, by rw [HE.out.2.2]; exact Part.nil _ _, hn2⟩
      · by_cases hm2 : (n : Int) < (m : Int) + 8
        · have hE := takeE_cut (l := l) (by rw [HLn.out]; omega) HD.out (by rw [HM.out]; omega) (by rw [HLn.out, HM.out]; omega)
          have HE := Lib.hid (And.intro hE (bad hE (by omega)))
          clear hE
          go_wp2
          go_ret3
          exact ⟨_, by rw [HE.out.1, HE.out.2.1]; rfl, by rw [HE.out.2.2]; exact Part.nil _ _, hn2⟩
        · have hc4 : ¬ c = 4 := by omega
          have hcm : ¬ c = m + 4 := by omega
          have hsl1 : ∀ W, (Instr.sliceAt 29 (.slice (some ad) n c) (some (.int .i64 4)) (some (.int .i64 ((m : Int) + 4))) none).run Tryz.prog W = .ok (.slice (some (ad.add 4)) m (c - 4)) W := fun W => by
            have := slice_u8_mid (some ad) n c 4 (m + 4) (by omega) (by omega) W
            rw [if_neg hc4, show ((m + 4 : Nat) : Int) = (m : Int) + 4 by omega, show m + 4 - 4 = m by omega] at this
            exact this
          have hsl2 : ∀ W, (Instr.sliceAt 29 (.slice (some ad) n c) (some (.int .i64 ((m : Int) + 4))) (some (.int .i64 ((m : Int) + 8))) none).run Tryz.prog W = .ok (.slice (some (ad.add (m + 4))) 4 (c - (m + 4))) W := fun W => by
            have := slice_u8_mid (some ad) n c (m + 4) (m + 8) (by omega) (by omega) W
            rw [if_neg hcm, show ((m + 4 : Nat) : Int) = (m : Int) + 4 by omega, show ((m + 8 : Nat) : Int) = (m : Int) + 8 by omega, show m + 8 - (m + 4) = 4 by omega] at this
            exact this
          have hr1 : ∀ w' : World, New w w' → Reads w' F 1 (some (ad.add 4)) m (u8s ((l.take (m + 4)).drop 4)) := fun _ h => by
            have := ((HP.out _ h).takeB (k := m + 4) (by omega)).cutB (k := 4) (c := c) (by omega) (by omega)
            rw [if_neg hc4, show m + 4 - 4 = m by omega] at this
            exact this
          have hr2 : ∀ w' : World, New w w' → Reads w' F 1 (some (ad.add (m + 4))) 4 (u8s ((l.take (m + 8)).drop (m + 4))) := fun _ h => by
            have := ((HP.out _ h).takeB (k := m + 8) (by omega)).cutB (k := m + 4) (c := c) (by omega) (by omega)
            rw [if_neg hcm, show m + 8 - (m + 4) = 4 by omega] at this
            exact this
          have ew9 : IntKind.i64.wrap ((m : Int) + 8) = (m : Int) + 8 := IntWalk.i64_in _ (by omega)
          have ew8 : IntKind.i64.wrap ((m : Int) + 4) = (m : Int) + 4 := IntWalk.i64_in _ (by omega)
          generalize ad.add 4 = a1 at *
          generalize ad.add (m + 4) = a2 at *
          have R1 := Lib.hid hr1
          have R2 := Lib.hid hr2
          have hs := Crc.sum_lt ((l.take (m + 4)).drop 4)
          have hFs : ∀ w' : World, New w w' → ∀ b, F b → b < w'.heap.size := fun _ h b hb => Nat.lt_of_lt_of_le (hF b hb) h.size
          have HF := Lib.hid hFs
          have HS := Lib.hid hs
          clear hr1 hr2 hs hFs
          go_wp2
          have hn3 := hn2.drew
          by_cases hq : (crcL ((l.take (m + 4)).drop 4) == (l.take (m + 8)).drop (m + 4)) = true
          · have HQ := Lib.hid hq
            clear hq
            have FB := Lib.hid (fun W (hW : New w2.drew W) => run_str (P := Tryz.prog) Tryz.underlying29 Tryz.underlying5 Tryz.underlying9 (R2.out W (hn3.trans hW (fun _ _ => id))) (c - (m + 4)))
            refine grow_start (fun _ => False) (by kernel_rfl) ?_
            refine grow_take (i := 0) (oi := { dst := some 39, op := Op.move (Operand.tmp 0), type := 29, pos := "ref.go:36", after := #[], guard := none }) (v := ?_) rfl (by kernel_rfl) (by kernel_rfl) (by kernel_rfl) (by rfl) ?_ ?_; rotate_left; focus ((intro W hW; go_simp) <;> with_reducible rfl)
            simp only [Act.put, List.setIfInBounds_toArray, List.set_cons_zero, List.set_cons_succ]
            refine grow_take (i := 1) (oi := { dst := some 40, op := Op.move (Operand.tmp 5), type := 3, pos := "ref.go:36", after := #[], guard := none }) (v := ?_) rfl (by kernel_rfl) (by kernel_rfl) (by kernel_rfl) (by rfl) ?_ ?_; rotate_left; focus ((intro W hW; go_simp) <;> with_reducible rfl)
            simp only [Act.put, List.setIfInBounds_toArray, List.set_cons_zero, List.set_cons_succ]
            refine grow_take (i := 2) (oi := { dst := some 41, op := Op.binOp BinOp.add 3 (Operand.tmp 40) (Operand.const (Value.int IntKind.i64 4)) 3, type := 3, pos := "ref.go:36", after := #[{ on := 1, ground := Ground.data }], guard := none }) (v := ?_) rfl (by kernel_rfl) (by kernel_rfl) (by kernel_rfl) (by rfl) ?_ ?_; rotate_left; focus ((intro W hW; have fct := FB.out W hW; go_simp) <;> with_reducible rfl)
            simp only [Act.put, List.setIfInBounds_toArray, List.set_cons_zero, List.set_cons_succ]
            refine grow_take (i := 3) (oi := { dst := some 42, op := Op.slice 29 (Operand.tmp 39) (some (Operand.const (Value.int IntKind.i64 4))) (some (Operand.tmp 41)) none, type := 29, pos := "ref.go:36", after := #[{ on := 0, ground := Ground.data }, { on := 2, ground := Ground.data }], guard := none }) (v := ?_) rfl (by kernel_rfl) (by kernel_rfl) (by kernel_rfl) (by rfl) ?_ ?_; rotate_left; focus ((intro W hW; have fct := FB.out W hW; go_simp) <;> with_reducible rfl)
            simp only [Act.put, List.setIfInBounds_toArray, List.set_cons_zero, List.set_cons_succ]
            refine grow_take (i := 7) (oi := { dst := some 46, op := Op.move (Operand.tmp 0), type := 29, pos := "ref.go:36", after := #[], guard := none }) (v := ?_) rfl (by kernel_rfl) (by kernel_rfl) (by kernel_rfl) (by rfl) ?_ ?_; rotate_left; focus ((intro W hW; go_simp) <;> with_reducible rfl)
            simp only [Act.put, List.setIfInBounds_toArray, List.set_cons_zero, List.set_cons_succ]
            refine grow_take (i := 8) (oi := { dst := some 47, op := Op.move (Operand.tmp 5), type := 3, pos := "ref.go:36", after := #[], guard := none }) (v := ?_) rfl (by kernel_rfl) (by kernel_rfl) (by kernel_rfl) (by rfl) ?_ ?_; rotate_left; focus ((intro W hW; go_simp) <;> with_reducible rfl)
            simp only [Act.put, List.setIfInBounds_toArray, List.set_cons_zero, List.set_cons_succ]
            refine grow_take (i := 9) (oi := { dst := some 48, op := Op.binOp BinOp.add 3 (Operand.tmp 47) (Operand.const (Value.int IntKind.i64 4)) 3, type := 3, pos := "ref.go:36", after := #[{ on := 8, ground := Ground.data }], guard := none }) (v := ?_) rfl (by kernel_rfl) (by kernel_rfl) (by kernel_rfl) (by rfl) ?_ ?_; rotate_left; focus ((intro W hW; have fct := FB.out W hW; go_simp) <;> with_reducible rfl)
            simp only [Act.put, List.setIfInBounds_toArray, List.set_cons_zero, List.set_cons_succ]
            refine grow_take (i := 10) (oi := { dst := some 49, op := Op.move (Operand.tmp 5), type := 3, pos := "ref.go:36", after := #[], guard := none }) (v := ?_) rfl (by kernel_rfl) (by kernel_rfl) (by kernel_rfl) (by rfl) ?_ ?_; rotate_left; focus ((intro W hW; go_simp) <;> with_reducible rfl)
            simp only [Act.put, List.setIfInBounds_toArray, List.set_cons_zero, List.set_cons_succ]
            refine grow_take (i := 11) (oi := { dst := some 50, op := Op.binOp BinOp.add 3 (Operand.tmp 49) (Operand.const (Value.int IntKind.i64 8)) 3, type := 3, pos := "ref.go:36", after := #[{ on := 10, ground := Ground.data }], guard := none }) (v := ?_) rfl (by kernel_rfl) (by kernel_rfl) (by kernel_rfl) (by rfl) ?_ ?_; rotate_left; focus ((intro W hW; have fct := FB.out W hW; go_simp) <;> with_reducible rfl)
            simp only [Act.put, List.setIfInBounds_toArray, List.set_cons_zero, List.set_cons_succ]
            refine grow_take (i := 12) (oi := { dst := some 51, op := Op.slice 29 (Operand.tmp 46) (some (Operand.tmp 48)) (some (Operand.tmp 50)) none, type := 29, pos := "ref.go:36", after := #[{ on := 7, ground := Ground.data }, { on := 9, ground := Ground.data }, { on := 11, ground := Ground.data }], guard := none }) (v := ?_) rfl (by kernel_rfl) (by kernel_rfl) (by kernel_rfl) (by rfl) ?_ ?_; rotate_left; focus ((intro W hW; have fct := FB.out W hW; go_simp) <;> with_reducible rfl)
            simp only [Act.put, List.setIfInBounds_toArray, List.set_cons_zero, List.set_cons_succ]
            refine grow_take (i := 13) (oi := { dst := some 52, op := Op.convert 29 9 (Operand.tmp 51), type := 9, pos := "ref.go:36", after := #[{ on := 12, ground := Ground.data }], guard := none }) (v := ?_) rfl (by kernel_rfl) (by kernel_rfl) (by kernel_rfl) (by rfl) ?_ ?_; rotate_left; focus ((intro W hW; have fct := FB.out W hW; go_simp) <;> with_reducible rfl)
            simp only [Act.put, List.setIfInBounds_toArray, List.set_cons_zero, List.set_cons_succ]
            refine grow_next (i := 4) (oi := { dst := some 43, op := Op.call { callee := Callee.value (Operand.func 56), args := #[Operand.tmp 42], argTypes := #[29] }, type := 74, pos := "ref.go:36", after := #[{ on := 3, ground := Ground.data }], guard := none }) (by kernel_rfl) rfl (by rfl) (fun K hK => ?_)
            go_simp
            refine (Crc.ref_of _ F (some a1) m (c - 4) _ (R1.out _ hn3) (by simp [maxLen]; omega)).mono ?_
            rintro e w4 ⟨rfl, hw4⟩
            have hn4 : New w2.drew w4 := hw4 ▸ Chg.refl _ _
            clear hw4
            refine hK _ _ hn4 ?_
            clear hK K
            try simp only [Act.put, List.setIfInBounds_toArray, List.set_cons_zero, List.set_cons_succ]
            have hn5 := hn3.trans hn4 (fun _ _ => id)
            have FC := Lib.hid (fun W (hW : New w4 W) => FB.out W (hn4.trans hW (fun _ _ => id)))
            clear hn4
            refine grow_next (i := 5) (oi := { dst := some 44, op := Op.call { callee := Callee.value (Operand.func 55), args := #[Operand.tmp 43], argTypes := #[74] }, type := 29, pos := "ref.go:36", after := #[{ on := 4, ground := Ground.data }, { on := 4, ground := Ground.chain }], guard := none }) (by kernel_rfl) rfl (by rfl) (fun K hK => ?_)
            go_simp
            refine (Crc.ref_bytes _ _ HS.out).mono ?_
            rintro e w5 ⟨rfl, rfl⟩
            refine hK _ _ ((Chg.refl _ _).alloc _) ?_
            clear hK K
            try simp only [Act.put, List.setIfInBounds_toArray, List.set_cons_zero, List.set_cons_succ]
            have F2 := Lib.hid (fun W (hW : New (w4.alloc (.cells (u8s (crcL ((l.take (m + 4)).drop 4))).toArray 5)) W) => And.intro (And.intro HQ.out (beq_bne HQ.out)) (And.intro (FC.out W (((Chg.refl (fun _ => False) w4).alloc (.cells (u8s (crcL ((l.take (m + 4)).drop 4))).toArray 5)).trans hW (fun _ _ => id))) (lit_str (w := w4) (l := crcL ((l.take (m + 4)).drop 4)) (g := w4.heap.size) (n := 4) rfl rfl hW)))
            refine grow_take (i := 6) (oi := { dst := some 45, op := Op.convert 29 9 (Operand.tmp 44), type := 9, pos := "ref.go:36", after := #[{ on := 5, ground := Ground.data }], guard := none }) (v := ?_) rfl (by kernel_rfl) (by kernel_rfl) (by kernel_rfl) (by rfl) ?_ ?_; rotate_left; focus ((intro W hW; have fct := F2.out W hW; go_simp) <;> with_reducible rfl)
            simp only [Act.put, List.setIfInBounds_toArray, List.set_cons_zero, List.set_cons_succ]
            refine grow_take (i := 14) (oi := { dst := some 53, op := Op.binOp BinOp.neq 9 (Operand.tmp 45) (Operand.tmp 52) 9, type := 4, pos := "ref.go:36", after := #[{ on := 6, ground := Ground.data }, { on := 13, ground := Ground.data }], guard := none }) (v := ?_) rfl (by kernel_rfl) (by kernel_rfl) (by kernel_rfl) (by rfl) ?_ ?_; rotate_left; focus ((intro W hW; have fct := F2.out W hW; go_simp) <;> with_reducible rfl)
            simp only [Act.put, List.setIfInBounds_toArray, List.set_cons_zero, List.set_cons_succ]
            refine grow_done (by kernel_rfl) ?_ _
            have hn6 := hn5.alloc (.cells (u8s (Crc.sumBytes (Crc.sum ((l.take (m + 4)).drop 4)))).toArray 5)
            have hE := takeE_ok (l := l) (by rw [HLn.out]; omega) HD.out (by rw [HM.out]; omega) (by rw [HLn.out, HM.out]; omega) (by rw [HM.out]; exact eq_of_beq HQ.out)
            have HE := Lib.hid (show takeE l = 0 ∧ takeN l = m + 8 ∧ takeP l = (l.take (m + 4)).drop 4 by
              refine ⟨hE, ?_, ?_⟩
              · unfold takeN; rw [if_pos hE, HM.out]
              · unfold takeP; rw [if_pos hE, HM.out])
            clear hE hn5
            generalize w4.alloc (.cells (u8s (Crc.sumBytes (Crc.sum ((l.take (m + 4)).drop 4)))).toArray 5) = w5 at *
            go_wp2
            go_ret3
            refine ⟨.slice (some a1) m (c - 4), ?_, ?_, hn6⟩
            · rw [HE.out.1, HE.out.2.1, show ((m + 8 : Nat) : Int) = (m : Int) + 8 by omega]
              rfl
            · rw [HE.out.2.2]
              have hr := R1.out _ hn6
              have hl := hr.u8len
              exact ⟨_, _, by rw [hl], by omega, by rw [hl]; exact hr⟩
          · have hq' : (crcL ((l.take (m + 4)).drop 4) == (l.take (m + 8)).drop (m + 4)) = false := by simpa using hq
            have HQ := Lib.hid hq'
            clear hq hq'
            have FB := Lib.hid (fun W (hW : New w2.drew W) => run_str (P := Tryz.prog) Tryz.underlying29 Tryz.underlying5 Tryz.underlying9 (R2.out W (hn3.trans hW (fun _ _ => id))) (c - (m + 4)))
            refine grow_start (fun _ => False) (by kernel_rfl) ?_
            refine grow_take (i := 0) (oi := { dst := some 39, op := Op.move (Operand.tmp 0), type := 29, pos := "ref.go:36", after := #[], guard := none }) (v := ?_) rfl (by kernel_rfl) (by kernel_rfl) (by kernel_rfl) (by rfl) ?_ ?_; rotate_left; focus ((intro W hW; go_simp) <;> with_reducible rfl)
            simp only [Act.put, List.setIfInBounds_toArray, List.set_cons_zero, List.set_cons_succ]
            refine grow_take (i := 1) (oi := { dst := some 40, op := Op.move (Operand.tmp 5), type := 3, pos := "ref.go:36", after := #[], guard := none }) (v := ?_) rfl (by kernel_rfl) (by kernel_rfl) (by kernel_rfl) (by rfl) ?_ ?_; rotate_left; focus ((intro W hW; go_simp) <;> with_reducible rfl)
            simp only [Act.put, List.setIfInBounds_toArray, List.set_cons_zero, List.set_cons_succ]
            refine grow_take (i := 2) (oi := { dst := some 41, op := Op.binOp BinOp.add 3 (Operand.tmp 40) (Operand.const (Value.int IntKind.i64 4)) 3, type := 3, pos := "ref.go:36", after := #[{ on := 1, ground := Ground.data }], guard := none }) (v := ?_) rfl (by kernel_rfl) (by kernel_rfl) (by kernel_rfl) (by rfl) ?_ ?_; rotate_left; focus ((intro W hW; have fct := FB.out W hW; go_simp) <;> with_reducible rfl)
            simp only [Act.put, List.setIfInBounds_toArray, List.set_cons_zero, List.set_cons_succ]
            refine grow_take (i := 3) (oi := { dst := some 42, op := Op.slice 29 (Operand.tmp 39) (some (Operand.const (Value.int IntKind.i64 4))) (some (Operand.tmp 41)) none, type := 29, pos := "ref.go:36", after := #[{ on := 0, ground := Ground.data }, { on := 2, ground := Ground.data }], guard := none }) (v := ?_) rfl (by kernel_rfl) (by kernel_rfl) (by kernel_rfl) (by rfl) ?_ ?_; rotate_left; focus ((intro W hW; have fct := FB.out W hW; go_simp) <;> with_reducible rfl)
            simp only [Act.put, List.setIfInBounds_toArray, List.set_cons_zero, List.set_cons_succ]
            refine grow_take (i := 7) (oi := { dst := some 46, op := Op.move (Operand.tmp 0), type := 29, pos := "ref.go:36", after := #[], guard := none }) (v := ?_) rfl (by kernel_rfl) (by kernel_rfl) (by kernel_rfl) (by rfl) ?_ ?_; rotate_left; focus ((intro W hW; go_simp) <;> with_reducible rfl)
            simp only [Act.put, List.setIfInBounds_toArray, List.set_cons_zero, List.set_cons_succ]
            refine grow_take (i := 8) (oi := { dst := some 47, op := Op.move (Operand.tmp 5), type := 3, pos := "ref.go:36", after := #[], guard := none }) (v := ?_) rfl (by kernel_rfl) (by kernel_rfl) (by kernel_rfl) (by rfl) ?_ ?_; rotate_left; focus ((intro W hW; go_simp) <;> with_reducible rfl)
            simp only [Act.put, List.setIfInBounds_toArray, List.set_cons_zero, List.set_cons_succ]
            refine grow_take (i := 9) (oi := { dst := some 48, op := Op.binOp BinOp.add 3 (Operand.tmp 47) (Operand.const (Value.int IntKind.i64 4)) 3, type := 3, pos := "ref.go:36", after := #[{ on := 8, ground := Ground.data }], guard := none }) (v := ?_) rfl (by kernel_rfl) (by kernel_rfl) (by kernel_rfl) (by rfl) ?_ ?_; rotate_left; focus ((intro W hW; have fct := FB.out W hW; go_simp) <;> with_reducible rfl)
            simp only [Act.put, List.setIfInBounds_toArray, List.set_cons_zero, List.set_cons_succ]
            refine grow_take (i := 10) (oi := { dst := some 49, op := Op.move (Operand.tmp 5), type := 3, pos := "ref.go:36", after := #[], guard := none }) (v := ?_) rfl (by kernel_rfl) (by kernel_rfl) (by kernel_rfl) (by rfl) ?_ ?_; rotate_left; focus ((intro W hW; go_simp) <;> with_reducible rfl)
            simp only [Act.put, List.setIfInBounds_toArray, List.set_cons_zero, List.set_cons_succ]
            refine grow_take (i := 11) (oi := { dst := some 50, op := Op.binOp BinOp.add 3 (Operand.tmp 49) (Operand.const (Value.int IntKind.i64 8)) 3, type := 3, pos := "ref.go:36", after := #[{ on := 10, ground := Ground.data }], guard := none }) (v := ?_) rfl (by kernel_rfl) (by kernel_rfl) (by kernel_rfl) (by rfl) ?_ ?_; rotate_left; focus ((intro W hW; have fct := FB.out W hW; go_simp) <;> with_reducible rfl)
            simp only [Act.put, List.setIfInBounds_toArray, List.set_cons_zero, List.set_cons_succ]
            refine grow_take (i := 12) (oi := { dst := some 51, op := Op.slice 29 (Operand.tmp 46) (some (Operand.tmp 48)) (some (Operand.tmp 50)) none, type := 29, pos := "ref.go:36", after := #[{ on := 7, ground := Ground.data }, { on := 9, ground := Ground.data }, { on := 11, ground := Ground.data }], guard := none }) (v := ?_) rfl (by kernel_rfl) (by kernel_rfl) (by kernel_rfl) (by rfl) ?_ ?_; rotate_left; focus ((intro W hW; have fct := FB.out W hW; go_simp) <;> with_reducible rfl)
            simp only [Act.put, List.setIfInBounds_toArray, List.set_cons_zero, List.set_cons_succ]
            refine grow_take (i := 13) (oi := { dst := some 52, op := Op.convert 29 9 (Operand.tmp 51), type := 9, pos := "ref.go:36", after := #[{ on := 12, ground := Ground.data }], guard := none }) (v := ?_) rfl (by kernel_rfl) (by kernel_rfl) (by kernel_rfl) (by rfl) ?_ ?_; rotate_left; focus ((intro W hW; have fct := FB.out W hW; go_simp) <;> with_reducible rfl)
            simp only [Act.put, List.setIfInBounds_toArray, List.set_cons_zero, List.set_cons_succ]
            refine grow_next (i := 4) (oi := { dst := some 43, op := Op.call { callee := Callee.value (Operand.func 56), args := #[Operand.tmp 42], argTypes := #[29] }, type := 74, pos := "ref.go:36", after := #[{ on := 3, ground := Ground.data }], guard := none }) (by kernel_rfl) rfl (by rfl) (fun K hK => ?_)
            go_simp
            refine (Crc.ref_of _ F (some a1) m (c - 4) _ (R1.out _ hn3) (by simp [maxLen]; omega)).mono ?_
            rintro e w4 ⟨rfl, hw4⟩
            have hn4 : New w2.drew w4 := hw4 ▸ Chg.refl _ _
            clear hw4
            refine hK _ _ hn4 ?_
            clear hK K
            try simp only [Act.put, List.setIfInBounds_toArray, List.set_cons_zero, List.set_cons_succ]
            have hn5 := hn3.trans hn4 (fun _ _ => id)
            have FC := Lib.hid (fun W (hW : New w4 W) => FB.out W (hn4.trans hW (fun _ _ => id)))
            clear hn4
            refine grow_next (i := 5) (oi := { dst := some 44, op := Op.call { callee := Callee.value (Operand.func 55), args := #[Operand.tmp 43], argTypes := #[74] }, type := 29, pos := "ref.go:36", after := #[{ on := 4, ground := Ground.data }, { on := 4, ground := Ground.chain }], guard := none }) (by kernel_rfl) rfl (by rfl) (fun K hK => ?_)
            go_simp
            refine (Crc.ref_bytes _ _ HS.out).mono ?_
            rintro e w5 ⟨rfl, rfl⟩
            refine hK _ _ ((Chg.refl _ _).alloc _) ?_
            clear hK K
            try simp only [Act.put, List.setIfInBounds_toArray, List.set_cons_zero, List.set_cons_succ]
            have F2 := Lib.hid (fun W (hW : New (w4.alloc (.cells (u8s (crcL ((l.take (m + 4)).drop 4))).toArray 5)) W) => And.intro (And.intro HQ.out (beq_bne HQ.out)) (And.intro (FC.out W (((Chg.refl (fun _ => False) w4).alloc (.cells (u8s (crcL ((l.take (m + 4)).drop 4))).toArray 5)).trans hW (fun _ _ => id))) (lit_str (w := w4) (l := crcL ((l.take (m + 4)).drop 4)) (g := w4.heap.size) (n := 4) rfl rfl hW)))
            refine grow_take (i := 6) (oi := { dst := some 45, op := Op.convert 29 9 (Operand.tmp 44), type := 9, pos := "ref.go:36", after := #[{ on := 5, ground := Ground.data }], guard := none }) (v := ?_) rfl (by kernel_rfl) (by kernel_rfl) (by kernel_rfl) (by rfl) ?_ ?_; rotate_left; focus ((intro W hW; have fct := F2.out W hW; go_simp) <;> with_reducible rfl)
            simp only [Act.put, List.setIfInBounds_toArray, List.set_cons_zero, List.set_cons_succ]
            refine grow_take (i := 14) (oi := { dst := some 53, op := Op.binOp BinOp.neq 9 (Operand.tmp 45) (Operand.tmp 52) 9, type := 4, pos := "ref.go:36", after := #[{ on := 6, ground := Ground.data }, { on := 13, ground := Ground.data }], guard := none }) (v := ?_) rfl (by kernel_rfl) (by kernel_rfl) (by kernel_rfl) (by rfl) ?_ ?_; rotate_left; focus ((intro W hW; have fct := F2.out W hW; go_simp) <;> with_reducible rfl)
            simp only [Act.put, List.setIfInBounds_toArray, List.set_cons_zero, List.set_cons_succ]
            refine grow_done (by kernel_rfl) ?_ _
            have hn6 := hn5.alloc (.cells (u8s (Crc.sumBytes (Crc.sum ((l.take (m + 4)).drop 4)))).toArray 5)
            have hE := takeE_sum (l := l) (by rw [HLn.out]; omega) HD.out (by rw [HM.out]; omega) (by rw [HLn.out, HM.out]; omega) (by rw [HM.out]; exact beq_eq_false_iff_ne.1 HQ.out)
            have HE := Lib.hid (And.intro hE (bad hE (by omega)))
            clear hE hn5
            generalize w4.alloc (.cells (u8s (Crc.sumBytes (Crc.sum ((l.take (m + 4)).drop 4)))).toArray 5) = w5 at *
            go_wp2
            go_ret3
            exact ⟨_, by rw [HE.out.1, HE.out.2.1]; rfl, by rw [HE.out.2.2]; exact Part.nil _ _, hn6⟩
    · have hh' : (headL m == l.take 4) = false := by simpa using hh
      have HH := Lib.hid hh'
      clear hh hh'
      have FA := Lib.hid (fun W (hW : New w1.drew W) => run_str (P := Tryz.prog) Tryz.underlying29 Tryz.underlying5 Tryz.underlying9 ((HP.out W (hn1.drew.trans hW (fun _ _ => id))).takeB (k := 4) (by omega)) c)
      refine grow_start (fun _ => False) (by kernel_rfl) ?_
      refine grow_take (i := 0) (oi := { dst := some 25, op := Op.move (Operand.tmp 5), type := 3, pos := "ref.go:27", after := #[], guard := none }) (v := ?_) rfl (by kernel_rfl) (by kernel_rfl) (by kernel_rfl) (by rfl) ?_ ?_; rotate_left; focus ((intro W hW; go_simp) <;> with_reducible rfl)
      simp only [Act.put, List.setIfInBounds_toArray, List.set_cons_zero, List.set_cons_succ]
      refine grow_take (i := 3) (oi := { dst := some 28, op := Op.move (Operand.tmp 0), type := 29, pos := "ref.go:27", after := #[], guard := none }) (v := ?_) rfl (by kernel_rfl) (by kernel_rfl) (by kernel_rfl) (by rfl) ?_ ?_; rotate_left; focus ((intro W hW; go_simp) <;> with_reducible rfl)
      simp only [Act.put, List.setIfInBounds_toArray, List.set_cons_zero, List.set_cons_succ]
      refine grow_take (i := 4) (oi := { dst := some 29, op := Op.slice 29 (Operand.tmp 28) none (some (Operand.const (Value.int IntKind.i64 4))) none, type := 29, pos := "ref.go:27", after := #[{ on := 3, ground := Ground.data }], guard := none }) (v := ?_) rfl (by kernel_rfl) (by kernel_rfl) (by kernel_rfl) (by rfl) ?_ ?_; rotate_left; focus ((intro W hW; have fct := FA.out W hW; go_simp) <;> with_reducible rfl)
      simp only [Act.put, List.setIfInBounds_toArray, List.set_cons_zero, List.set_cons_succ]
      refine grow_take (i := 5) (oi := { dst := some 30, op := Op.convert 29 9 (Operand.tmp 29), type := 9, pos := "ref.go:27", after := #[{ on := 4, ground := Ground.data }], guard := none }) (v := ?_) rfl (by kernel_rfl) (by kernel_rfl) (by kernel_rfl) (by rfl) ?_ ?_; rotate_left; focus ((intro W hW; have fct := FA.out W hW; go_simp) <;> with_reducible rfl)
      simp only [Act.put, List.setIfInBounds_toArray, List.set_cons_zero, List.set_cons_succ]
      refine grow_next (i := 1) (oi := { dst := some 26, op := Op.call { callee := Callee.value (Operand.func 54), args := #[Operand.tmp 25], argTypes := #[3] }, type := 29, pos := "ref.go:27", after := #[{ on := 0, ground := Ground.data }], guard := none }) (by kernel_rfl) rfl (by rfl) (fun K hK => ?_)
      go_simp
      refine (ref_head _ m (by omega)).mono ?_
      rintro e w2 ⟨rfl, rfl⟩
      refine hK _ _ ((Chg.refl _ _).alloc _) ?_
      clear hK K
      try simp only [Act.put, List.setIfInBounds_toArray, List.set_cons_zero, List.set_cons_succ]
      have F1 := Lib.hid (fun W (hW : New (w1.drew.alloc (.cells (u8s (headL m)).toArray 5)) W) => And.intro (And.intro HH.out (beq_bne HH.out)) (And.intro (FA.out W (((Chg.refl (fun _ => False) w1.drew).alloc (.cells (u8s (headL m)).toArray 5)).trans hW (fun _ _ => id))) (lit_str (w := w1.drew) (l := headL m) (g := w1.heap.size) (n := 4) rfl rfl hW)))
      refine grow_take (i := 2) (oi := { dst := some 27, op := Op.convert 29 9 (Operand.tmp 26), type := 9, pos := "ref.go:27", after := #[{ on := 1, ground := Ground.data }], guard := none }) (v := ?_) rfl (by kernel_rfl) (by kernel_rfl) (by kernel_rfl) (by rfl) ?_ ?_; rotate_left; focus ((intro W hW; have fct := F1.out W hW; go_simp) <;> with_reducible rfl)
      simp only [Act.put, List.setIfInBounds_toArray, List.set_cons_zero, List.set_cons_succ]
      refine grow_take (i := 6) (oi := { dst := some 31, op := Op.binOp BinOp.neq 9 (Operand.tmp 27) (Operand.tmp 30) 9, type := 4, pos := "ref.go:27", after := #[{ on := 2, ground := Ground.data }, { on := 5, ground := Ground.data }], guard := none }) (v := ?_) rfl (by kernel_rfl) (by kernel_rfl) (by kernel_rfl) (by rfl) ?_ ?_; rotate_left; focus ((intro W hW; have fct := F1.out W hW; go_simp) <;> with_reducible rfl)
      simp only [Act.put, List.setIfInBounds_toArray, List.set_cons_zero, List.set_cons_succ]
      refine grow_done (by kernel_rfl) ?_ _
      have hn2 := (hn1.drew).alloc (.cells (u8s (headL m)).toArray 5)
      have hd1 : headL (lenOf l) ≠ l.take 4 := by rw [HM.out]; exact beq_eq_false_iff_ne.1 HH.out
      have hE := takeE_head (l := l) (by rw [HLn.out]; omega) hd1
      have HE := Lib.hid (And.intro hE (bad hE (by omega)))
      clear hd1 hE
      generalize w1.drew.alloc (.cells (u8s (headL m)).toArray 5) = w2 at *
      go_wp2
      go_ret3
      exact ⟨_, by rw [HE.out.1, HE.out.2.1]; rfl, by rw [HE.out.2.2]; exact Part.nil _ _, hn2⟩
end Frame
end Go.Proofs.YtkmkpdmjdfbpjaaGreatDoor

/- What the program tells of one frame alone (no condition beyond the sizes). -/
namespace Go.Proofs.YtkmkpdmjdfbpjaaGreatDoor
open Go.ChangeShapes Go.WideShapes Go.RowKit
namespace Frame
/-- what is wrong of one frame, and its payload -/
def wholeE (l : List UInt8) : Int := if takeE l ≠ 0 then takeE l else if takeN l < l.length then 2 else 0
def wholeP (l : List UInt8) : List UInt8 := if takeE l = 0 ∧ takeN l = l.length then takeP l else []
set_option maxHeartbeats 800000 in
theorem whole (w : World) (F : Nat → Prop) (A : Option Addr) (n c : Nat) (l : List UInt8) (hl : Reads w F 1 A n (u8s l)) (hF : ∀ b, F b → b < w.heap.size) (hnc : n ≤ c) (hc : n ≤ 140737488351232) :
    Calls Tryz.prog 29 #[.slice A n c] w fun e w' => ∃ v, e = .returned (.tuple #[v, .int .i64 (wholeE l)]) ∧ OwnB w' w.heap.size v (wholeP l) ∧ New w w' := by
  have hln := hl.u8len
  have hle := takeN_le l
  have C := Lib.hid (take w F A n c l hl hF hnc hc)
  by_cases hE : takeE l = 0
  · by_cases hN : takeN l = l.length
    · have h1 : wholeE l = 0 ∧ wholeP l = takeP l := by
        unfold wholeE wholeP
        rw [if_neg (fun h => h hE), if_neg (by omega), if_pos ⟨hE, hN⟩]
        exact ⟨rfl, rfl⟩
      rw [h1.1, h1.2]
      have c1 := C.out
      rw [hE, hN, hln] at c1
      have C2 := Lib.hid c1
      clear hl hln hle C hE hN h1 c1
      go_enter Tryz.func29, Tryz.ntmps29
      go_wp2_with fail
      refine C2.out.mono ?_
      rintro e w1 ⟨v, rfl, ho, hn⟩
      go_wp2
      go_ret2
      exact ⟨v, rfl, ho, hn⟩
    · have h1 : wholeE l = 2 ∧ wholeP l = [] := by
        unfold wholeE wholeP
        rw [if_neg (fun h => h hE), if_pos (by omega), if_neg (fun h => hN h.2)]
        exact ⟨rfl, rfl⟩
      rw [h1.1, h1.2]
      have hlt : (takeN l : Int) < n := by omega
      have c1 := C.out
      rw [hE] at c1
      have C2 := Lib.hid c1
      clear hl hln hle C hE hN h1 c1
      generalize takeN l = N at *
      go_enter Tryz.func29, Tryz.ntmps29
      go_wp2_with fail
      refine C2.out.mono ?_
      rintro e w1 ⟨v, rfl, ho, hn⟩
      go_wp2
      go_ret2
      exact ⟨_, rfl, OwnB.nil, hn⟩
  · have h1 : wholeE l = takeE l ∧ wholeP l = [] := by
      unfold wholeE wholeP
      rw [if_pos hE, if_neg (fun h => hE h.1)]
      exact ⟨rfl, rfl⟩
    rw [h1.1, h1.2]
    have hb : (takeE l != 0) = true := by simpa using hE
    clear hl hln hle hE h1
    generalize takeE l = E at *
    generalize takeN l = N at *
    go_enter Tryz.func29, Tryz.ntmps29
    go_wp2_with fail
    refine C.out.mono ?_
    rintro e w1 ⟨v, rfl, ho, hn⟩
    go_wp2
    go_ret2
    exact ⟨_, rfl, OwnB.nil, hn⟩
end Frame
end Go.Proofs.YtkmkpdmjdfbpjaaGreatDoor

/- message.Parse: the message that any bytes tell (no condition beyond the sizes, and that MaxLen holds a number). -/
namespace Go.Proofs.YtkmkpdmjdfbpjaaGreatDoor
set_option linter.unusedSimpArgs false
set_option linter.unusedVariables false
open Go.ChangeShapes Go.WideShapes Go.RowKit Go.Deep
namespace Msg
open Val (JoinC)
open Num Evt Vec
attribute [local go_sem ↓] loadRow0 storeRow0
attribute [local go_sem ↓] Evt.loadDot Evt.loadVec Evt.loadRow0 Evt.storeRow0 Evt.loadOnly0 Evt.loadOnly1 Evt.loadOnly2
/-- no message -/
def m0 : Ms := msOf [] []
/-- the message of a payload, if it may be -/
def payM (p : List UInt8) : Option Ms := (readM p).bind fun m => if rightM m = true then some m else none
/-- the message that bytes tell -/
def parseM (l : List UInt8) : Option Ms := if Frame.wholeE l = 0 then payM (Frame.wholeP l) else none
def parseE (l : List UInt8) : Int := if Frame.wholeE l = 0 then (if (parseM l).isSome = true then 0 else 2) else Frame.wholeE l
theorem wholeP_len (l : List UInt8) : (Frame.wholeP l).length ≤ l.length := by
  unfold Frame.wholeP
  split
  · unfold Frame.takeP
    split
    · simp only [List.length_drop, List.length_take]; omega
    · exact Nat.zero_le _
  · exact Nat.zero_le _
/-- a message stored in a variable just made -/
theorem new_ms (w : World) (m : Ms) (u : Value) (hu : u.oneCell' = true) : ∃ W, (StoreRow 26 ⟨w.heap.size, 0, none⟩ (m.val u)).run Tryz.prog (w.alloc (.cells (m0.cs (.slice none 0 0)).toArray 26)) = .ok () W ∧ Blk W w.heap.size 26 (m.cs u).toArray ∧ New w W ∧ w.heap.size < (w.alloc (.cells (m0.cs (.slice none 0 0)).toArray 26)).heap.size := by
  have bz := Blk.new w 26 (m0.cs (.slice none 0 0)).toArray
  have hst := stM m0 m (.slice none 0 0) u bz hu
  exact ⟨_, hst.1, hst.2, Chg.setCells (S := fun _ => False) (a := w) (g := w.heap.size) (m.cs u) 0 _ ((Chg.refl (fun _ => False) w).alloc (.cells (m0.cs (.slice none 0 0)).toArray 26)) (fun h => by omega), bz.lt⟩
set_option maxHeartbeats 8000000 in
set_option maxRecDepth 20000 in
theorem parse_ (hJ : JoinC) (w : World) (F : Nat → Prop) (A : Option Addr) (n cp : Nat) (l : List UInt8) (hr : Reads w F 1 A n (u8s l)) (hF : ∀ b, F b → b < w.heap.size) (hn : n ≤ 1000000) (hcp : n ≤ cp) (hm : Val.MaxAt w) :
    Calls Tryz.prog 12 #[.slice A n cp] w fun x w' => ∃ u, x = .returned (.tuple #[((parseM l).getD m0).val u, .int .i64 (parseE l)]) ∧ OwnE w' w.heap.size u ((parseM l).getD m0).es ∧ New w w' := by
  have hz : ∀ W, (zeroValue 26).run Tryz.prog W = .ok (.agg (m0.cs (.slice none 0 0)).toArray) W := fun W => by kernel_rfl
  have n1 := (Chg.refl (fun _ => False) w).alloc (.cells (m0.cs (.slice none 0 0)).toArray 26)
  have B1 := Blk.new w 26 (m0.cs (.slice none 0 0)).toArray
  have hln := hr.u8len
  have C1 := Lib.hid (Frame.whole _ F A n cp l (hr.chg n1 fun b hb => ⟨hF b hb, id⟩) (fun b hb => by have := hF b hb; have := n1.size; omega) hcp (by omega))
  have HM := Lib.hid (And.intro hm n1)
  have HB := Lib.hid B1
  have g1 := B1.lt
  have HPL := Lib.hid (show (Frame.wholeP l).length ≤ 1000000 by have := wholeP_len l; omega)
  have hpe : (parseM l = if Frame.wholeE l = 0 then payM (Frame.wholeP l) else none) ∧ parseE l = if Frame.wholeE l = 0 then (if (parseM l).isSome = true then 0 else 2) else Frame.wholeE l := ⟨rfl, rfl⟩
  obtain ⟨P, hP⟩ : ∃ P, parseM l = P := ⟨_, rfl⟩
  obtain ⟨E, hE⟩ : ∃ P, parseE l = P := ⟨_, rfl⟩
  rw [hP, hE] at hpe
  rw [hP, hE]
  obtain ⟨p, hp⟩ : ∃ p, Frame.wholeP l = p := ⟨_, rfl⟩
  rw [hp] at hpe C1 HPL
  obtain ⟨we, hwe⟩ : ∃ p, Frame.wholeE l = p := ⟨_, rfl⟩
  rw [hwe] at hpe C1
  clear n1 B1 hr hF hln hm hP hE hp hwe hn hcp
  go_enter Tryz.func12, Tryz.ntmps12
  go_upto_region 1 with fail
  obtain ⟨g, hg⟩ : ∃ g, w.heap.size = g := ⟨_, rfl⟩
  have HG := Lib.hid hg
  generalize hw1 : w.alloc (.cells (m0.cs (.slice none 0 0)).toArray 26) = w1 at *
  rw [hg] at HB g1 ⊢
  clear hw1 hg
  go_wp2_with fail
  with_reducible refine C1.out.mono ?_
  rintro x w2 ⟨v, rfl, ho2, n2⟩
  have HB2 := Lib.hid (HB.out.chg n2 id)
  have N2 := Lib.hid (HM.out.2.trans n2 fun _ _ => id)
  have O2 := Lib.hid ho2
  clear ho2 n2 C1
  by_cases hw0 : we = 0
  · subst hw0
    rw [if_pos rfl, if_pos rfl] at hpe
    obtain ⟨Av, cv, hv, hlc, _⟩ := O2.out.form
    have HRV := O2.out
    rw [hv] at HRV
    subst hv
    have C2 := Lib.hid (read_ hJ w2 _ Av p.length cv p (Reads.of_own HRV) (fun b hb => hb.2.1) HPL.out hlc (HM.out.1.new N2.out))
    have HPE := Lib.hid hpe
    clear HRV hlc hpe
    go_wp2_with fail
    with_reducible refine C2.out.mono ?_
    rintro x w3 ⟨m, u, ok, rfl, hu, hfit, hlen, hrm, n3⟩
    have hu1 : u.oneCell' = true := by obtain ⟨A', c', h⟩ := hu.form; rw [h]; rfl
    obtain ⟨W, hst, b4, n4, g4⟩ := new_ms w3 m u hu1
    have HU := Lib.hid (And.intro (own_chg hu n4 fun _ _ => id) b4)
    have HB4 := Lib.hid ((HB2.out.chg n3 id).chg n4 id)
    have N4 := Lib.hid ((N2.out.trans n3 fun _ _ => id).trans n4 fun _ _ => id)
    have hl4 := ldM b4
    have gg4 := b4.lt
    have ggg := HB4.out.lt
    have HX := Lib.hid (And.intro hfit hlen)
    have hrow := RowE.of_own (own_chg hu n4 fun _ _ => id)
    have CR := right_ hJ W _ m u hrow hfit (HM.out.1.new N4.out) (by omega)
    clear n3 n4 hu hfit hlen b4 C2
    cases ok
    · have HPE := Lib.hid (show P = none ∧ E = 2 by
        have h1 : payM p = none := by unfold payM; rw [hrm]; rfl
        rw [h1] at HPE
        exact ⟨HPE.out.1, by rw [HPE.out.2, HPE.out.1]; rfl⟩)
      clear hrm CR
      have hs0 := stM m0 m0 (.slice none 0 0) (.slice none 0 0) HB4.out rfl
      have hs1 := hs0.1
      have gg := (HB4.out).lt
      have c5 := Chg.setCells (S := fun _ => False) (a := w) (g := g) (m0.cs (.slice none 0 0)) 0 _ (N4.out) (fun h => by have := HG.out; omega)
      have HZ := Lib.hid (And.intro hs0.2 c5)
      clear hs0 c5
      go_wp2_with fail
      refine bodyPost_ret (resMI rfl _ _ g 26 m0 (.slice none 0 0) rfl ?hblk) rfl ?hpost
      case hblk => exact HZ.out.1
      case hpost => exact ⟨.slice none 0 0, by rw [HPE.out.1, HPE.out.2] <;> rfl, by rw [HPE.out.1]; exact OwnE.nil _ _, HZ.out.2⟩
    · obtain ⟨r, hr⟩ : ∃ r, rightM m = r := ⟨_, rfl⟩
      rw [hr] at CR
      have CR := Lib.hid CR
      have h1 : payM p = if r = true then some m else none := by unfold payM; rw [hrm, ← hr]; rfl
      rw [h1] at HPE
      clear hrm h1 hr hrow
      cases r
      · have hpe2 : P = none ∧ E = 2 := ⟨HPE.out.1, by rw [HPE.out.2, HPE.out.1]; rfl⟩
        clear HPE
        have HPE := Lib.hid hpe2
        clear hpe2
        go_wp2_with fail
        with_reducible refine CR.out.mono ?_
        rintro x w5 ⟨rfl, n5⟩
        have HB5 := Lib.hid (HB4.out.chg n5 id)
        have N5 := Lib.hid (N4.out.trans n5 fun _ _ => id)
        clear n5
        have hs0 := stM m0 m0 (.slice none 0 0) (.slice none 0 0) HB5.out rfl
        have hs1 := hs0.1
        have gg := (HB5.out).lt
        have c5 := Chg.setCells (S := fun _ => False) (a := w) (g := g) (m0.cs (.slice none 0 0)) 0 _ (N5.out) (fun h => by have := HG.out; omega)
        have HZ := Lib.hid (And.intro hs0.2 c5)
        clear hs0 c5
        go_wp2_with fail
        refine bodyPost_ret (resMI rfl _ _ g 26 m0 (.slice none 0 0) rfl ?hblk) rfl ?hpost
        case hblk => exact HZ.out.1
        case hpost => exact ⟨.slice none 0 0, by rw [HPE.out.1, HPE.out.2] <;> rfl, by rw [HPE.out.1]; exact OwnE.nil _ _, HZ.out.2⟩
      · have hpe2 : P = some m ∧ E = 0 := ⟨HPE.out.1, by rw [HPE.out.2, HPE.out.1]; rfl⟩
        clear HPE
        have HPE := Lib.hid hpe2
        clear hpe2
        go_wp2_with fail
        with_reducible refine CR.out.mono ?_
        rintro x w5 ⟨rfl, n5⟩
        have HB5 := Lib.hid (HB4.out.chg n5 id)
        have HU5 := Lib.hid (And.intro (own_chg HU.out.1 n5 fun _ _ => id) (HU.out.2.chg n5 id))
        have N5 := Lib.hid (N4.out.trans n5 fun _ _ => id)
        have hl5 := ldM HU5.out.2
        have gg5 := HU5.out.2.lt
        clear n5
        have hs0 := stM m0 m (.slice none 0 0) u HB5.out hu1
        have hs1 := hs0.1
        have gg := HB5.out.lt
        have c5 := Chg.setCells (S := fun _ => False) (a := w) (g := g) (m.cs u) 0 _ N5.out (fun h => by have := HG.out; omega)
        have c6 := (Chg.refl (fun b => b = g) w5).setCells (g := g) (m.cs u) 0 _ (fun _ => rfl)
        have HZ := Lib.hid (And.intro hs0.2 (And.intro c5 (own_mono (base' := w.heap.size) (own_chg HU5.out.1 c6 fun k hk e => own_ne HU5.out.1 HB5.out (by decide) (e ▸ hk)) N2.out.size)))
        clear hs0 c5 c6
        go_wp2_with fail
        refine bodyPost_ret (resMI rfl _ _ g 26 m u rfl ?hblk) rfl ?hpost
        case hblk => exact HZ.out.1
        case hpost => exact ⟨u, by rw [HPE.out.1, HPE.out.2] <;> rfl, by rw [HPE.out.1]; exact HZ.out.2.2, HZ.out.2.1⟩
  · rw [if_neg hw0, if_neg hw0] at hpe
    have HPE := Lib.hid hpe
    have hwb : (we != 0) = true := by simpa using hw0
    clear hpe
    have hs0 := stM m0 m0 (.slice none 0 0) (.slice none 0 0) HB2.out rfl
    have hs1 := hs0.1
    have gg := (HB2.out).lt
    have c5 := Chg.setCells (S := fun _ => False) (a := w) (g := g) (m0.cs (.slice none 0 0)) 0 _ (N2.out) (fun h => by have := HG.out; omega)
    have HZ := Lib.hid (And.intro hs0.2 c5)
    clear hs0 c5
    go_wp2_with fail
    refine bodyPost_ret (resMI rfl _ _ g 26 m0 (.slice none 0 0) rfl ?hblk) rfl ?hpost
    case hblk => exact HZ.out.1
    case hpost => exact ⟨.slice none 0 0, by rw [HPE.out.1, HPE.out.2] <;> rfl, by rw [HPE.out.1]; exact OwnE.nil _ _, HZ.out.2⟩
end Msg
end Go.Proofs.YtkmkpdmjdfbpjaaGreatDoor

/- Events held against each other (no condition). -/
namespace Go.Proofs.YtkmkpdmjdfbpjaaGreatDoor
set_option linter.unusedSimpArgs false
set_option linter.unusedVariables false
open Go.ChangeShapes Go.WideShapes Go.RowKit Go.Deep
namespace Evt
section
variable {P : Program}
theorem eqF_cons {d : Nat} {xs ys : Array Value} {f : Field} {fs : List Field} {a b : Value} {r R : Bool} {w : World} (hn : f.name ≠ "_") (ha : (part f.type xs f.offset).run P w = .ok a w) (hb : (part f.type ys f.offset).run P w = .ok b w)
    (hr : (Op.equalIn d f.type a b).run P w = .ok r w) (hR : (Op.eqFields d xs ys fs).run P w = .ok R w) : (Op.eqFields d xs ys (f :: fs)).run P w = .ok (r && R) w := by
  unfold Op.eqFields
  rw [if_pos hn]
  simp only [Sem.run_bind, ha, hb, hr, Result.andThen_ok]
  cases r
  · rfl
  · simp only [Bool.not_true, Bool.false_eq_true, if_false, hR, Bool.true_and]
end
theorem eqS_int (d : Nat) (a b : Int) (w : World) : (Op.equalIn (d + 1) 3 (.int .i64 a) (.int .i64 b)).run Tryz.prog w = .ok (a == b) w := run_equalIn_int w d _ .i64 .i64 a b Tryz.underlying3
theorem eqS_str (d : Nat) (a b : ByteArray) (w : World) : (Op.equalIn (d + 1) 9 (.string a) (.string b)).run Tryz.prog w = .ok (a.data.toList == b.data.toList) w := by
  rw [run_equalIn_string w d _ a b Tryz.underlying9, Val.toList_data, Val.toList_data]
def eqDot (a b : Ev) : Bool := (a.n 0 == b.n 0) && ((a.n 1 == b.n 1) && true)
def eqElem (a b : Ev) : Bool := (a.n 19 == b.n 19) && ((a.t 20).data.toList == (b.t 20).data.toList && ((a.t 21).data.toList == (b.t 21).data.toList && ((a.t 22).data.toList == (b.t 22).data.toList && ((a.t 23).data.toList == (b.t 23).data.toList && true))))
def eqVal (a b : Ev) : Bool := (a.n 24 == b.n 24) && ((a.n 25 == b.n 25) && ((a.t 26).data.toList == (b.t 26).data.toList && true))
def eqE (a b : Ev) : Bool := eqDot a b && ((past a == past b) && ((a.n 18 == b.n 18) && (eqElem a b && (eqVal a b && true))))
set_option maxRecDepth 100000 in
theorem eqS_dot (d : Nat) (a b : Ev) (w : World) : (Op.equalIn (d + 2) 42 (.agg #[.int .i64 (a.n 0), .int .i64 (a.n 1)]) (.agg #[.int .i64 (b.n 0), .int .i64 (b.n 1)])).run Tryz.prog w = .ok (eqDot a b) w := by
  rw [run_equalIn_struct w (d + 1) _ _ _ (by kernel_rfl) (by kernel_rfl)]
  exact eqF_cons (by decide) (by kernel_rfl) (by kernel_rfl) (eqS_int d _ _ w) (eqF_cons (by decide) (by kernel_rfl) (by kernel_rfl) (eqS_int d _ _ w) rfl)
set_option maxRecDepth 100000 in
theorem eqS_elem (d : Nat) (a b : Ev) (w : World) : (Op.equalIn (d + 2) 44 (.agg #[.int .i64 (a.n 19), .string (a.t 20), .string (a.t 21), .string (a.t 22), .string (a.t 23)]) (.agg #[.int .i64 (b.n 19), .string (b.t 20), .string (b.t 21), .string (b.t 22), .string (b.t 23)])).run Tryz.prog w = .ok (eqElem a b) w := by
  rw [run_equalIn_struct w (d + 1) _ _ _ (by kernel_rfl) (by kernel_rfl)]
  exact eqF_cons (by decide) (by kernel_rfl) (by kernel_rfl) (eqS_int d _ _ w) (eqF_cons (by decide) (by kernel_rfl) (by kernel_rfl) (eqS_str d _ _ w) (eqF_cons (by decide) (by kernel_rfl) (by kernel_rfl) (eqS_str d _ _ w) (eqF_cons (by decide) (by kernel_rfl) (by kernel_rfl) (eqS_str d _ _ w) (eqF_cons (by decide) (by kernel_rfl) (by kernel_rfl) (eqS_str d _ _ w) rfl))))
set_option maxRecDepth 100000 in
theorem eqS_val (d : Nat) (a b : Ev) (w : World) : (Op.equalIn (d + 2) 46 (.agg #[.int .i64 (a.n 24), .int .i64 (a.n 25), .string (a.t 26)]) (.agg #[.int .i64 (b.n 24), .int .i64 (b.n 25), .string (b.t 26)])).run Tryz.prog w = .ok (eqVal a b) w := by
  rw [run_equalIn_struct w (d + 1) _ _ _ (by kernel_rfl) (by kernel_rfl)]
  exact eqF_cons (by decide) (by kernel_rfl) (by kernel_rfl) (eqS_int d _ _ w) (eqF_cons (by decide) (by kernel_rfl) (by kernel_rfl) (eqS_int d _ _ w) (eqF_cons (by decide) (by kernel_rfl) (by kernel_rfl) (eqS_str d _ _ w) rfl))
theorem eqS_past (d : Nat) (a b : Ev) (w : World) : (Op.equalIn (d + 2) 23 (.agg (ints (past a)).toArray) (.agg (ints (past b)).toArray)).run Tryz.prog w = .ok (past a == past b) w :=
  run_equalIn_ints (P := Tryz.prog) d Tryz.underlying23 Tryz.underlying3 Vec.intInfo.1 Vec.intInfo.2 _ _ rfl rfl w
set_option maxRecDepth 100000 in
theorem eqS_ev (d : Nat) (a b : Ev) (w : World) : (Op.equalIn (d + 3) 48 a.val b.val).run Tryz.prog w = .ok (eqE a b) w := by
  rw [run_equalIn_struct w (d + 2) _ _ _ (by kernel_rfl) (by kernel_rfl)]
  exact eqF_cons (by decide) (by kernel_rfl) (by kernel_rfl) (eqS_dot d a b w) (eqF_cons (by decide) (by kernel_rfl) (by kernel_rfl) (eqS_past d a b w) (eqF_cons (by decide) (by kernel_rfl) (by kernel_rfl) (eqS_int (d + 1) _ _ w) (eqF_cons (by decide) (by kernel_rfl) (by kernel_rfl) (eqS_elem d a b w) (eqF_cons (by decide) (by kernel_rfl) (by kernel_rfl) (eqS_val d a b w) rfl))))
/-- != on events -/
theorem neqE (a b : Ev) (w : World) : (binOp .neq 48 a.val b.val).run Tryz.prog w = .ok (.bool (!eqE a b)) w := by
  unfold Ev.val
  rw [run_neq_struct]
  have := eqS_ev 9997 a b w
  unfold Ev.val at this
  rw [show (10000 : Nat) = 9997 + 3 from rfl, this]
  rfl
theorem eqE_iff (a b : Ev) : eqE a b = true ↔ a.items = b.items := by
  simp only [eqE, eqDot, eqElem, eqVal, past, Ev.items, Bool.and_eq_true, beq_iff_eq, List.cons.injEq, Num.It.n.injEq, Num.It.z.injEq, Num.It.t.injEq, and_true]
  constructor
  · rintro ⟨⟨h0, h1⟩, ⟨h2, h3, h4, h5, h6, h7, h8, h9, h10, h11, h12, h13, h14, h15, h16, h17⟩, h18, ⟨h19, h20, h21, h22, h23⟩, h24, h25, h26⟩
    exact ⟨h0, h1, h2, h3, h4, h5, h6, h7, h8, h9, h10, h11, h12, h13, h14, h15, h16, h17, h18, h19, h20, h21, h22, h23, h24, h25, h26⟩
  · rintro ⟨h0, h1, h2, h3, h4, h5, h6, h7, h8, h9, h10, h11, h12, h13, h14, h15, h16, h17, h18, h19, h20, h21, h22, h23, h24, h25, h26⟩
    exact ⟨⟨h0, h1⟩, ⟨h2, h3, h4, h5, h6, h7, h8, h9, h10, h11, h12, h13, h14, h15, h16, h17⟩, h18, ⟨h19, h20, h21, h22, h23⟩, h24, h25, h26⟩
theorem eqE_refl (a : Ev) : eqE a a = true := (eqE_iff a a).2 rfl
end Evt
end Go.Proofs.YtkmkpdmjdfbpjaaGreatDoor

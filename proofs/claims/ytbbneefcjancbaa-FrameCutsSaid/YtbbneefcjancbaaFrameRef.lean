/-
  What the document's reference computes of the payload at the beginning of any bytes: the same (no condition beyond the sizes).
-/
import Derived.Test.YtbbneefcjancbaaFrameTake
namespace Go.Proofs.Ytbbneefcjancbaa
open Go.ChangeShapes Go.WideShapes Go.RowKit
namespace Frame
/-- v is a slice of the bytes p, in blocks that meet F -/
def Part (w : World) (F : Nat → Prop) (v : Value) (p : List UInt8) : Prop := ∃ A c, v = .slice A p.length c ∧ p.length ≤ c ∧ Reads w F 1 A p.length (u8s p)
theorem Part.nil (w : World) (F : Nat → Prop) : Part w F (.slice none 0 0) [] := ⟨none, 0, rfl, Nat.le_refl _, Reads.none_ _⟩
theorem Part.of_own {w : World} {base : Nat} {v : Value} {p : List UInt8} (h : OwnB w base v p) : Part w (fun b => base ≤ b ∧ b < w.heap.size) v p := by
  obtain ⟨A, c, rfl, hl, _, _, hr⟩ := h.form
  exact ⟨A, c, rfl, hl, hr.mono fun b hb => ⟨hb.1, hb.2.1⟩⟩
theorem Part.new {w w' : World} {F : Nat → Prop} {v : Value} {p : List UInt8} (h : Part w F v p) (hc : New w w') : Part w' F v p := by
  obtain ⟨A, c, rfl, hl, hr⟩ := h
  exact ⟨A, c, rfl, hl, hr.chg' hc (fun _ _ => id) (by omega)⟩
theorem Part.mono {w : World} {F G : Nat → Prop} {v : Value} {p : List UInt8} (h : Part w F v p) (hFG : ∀ b, F b → G b) : Part w G v p := by
  obtain ⟨A, c, rfl, hl, hr⟩ := h
  exact ⟨A, c, rfl, hl, hr.mono hFG⟩
/-- string(b) of a literal that lies in block g -/
theorem lit_str {w W : World} {g n : Nat} {l : List UInt8} {t : TypeId} (hg : w.heap.size = g) (hn : l.length = n) (hW : New (w.alloc (.cells (u8s l).toArray t)) W) :
    (convert 22 9 (.slice (some ⟨g, 0, none⟩) n n)).run Try.prog W = .ok (.string ⟨l.toArray⟩) W := by
  subst hg
  subst hn
  exact run_str (P := Try.prog) Try.underlying22 Try.underlying5 Try.underlying9 ((reads_lit w l (0, 0) t).chg' hW (fun _ _ => id) (by omega)) l.length
theorem beq_bne {xs ys : List UInt8} {b : Bool} (h : (xs == ys) = b) : (xs != ys) = !b := by rw [← h]; rfl
set_option maxHeartbeats 4000000 in
theorem ref_take (w : World) (F : Nat → Prop) (A : Option Addr) (n c : Nat) (l : List UInt8) (hl : Reads w F 1 A n (u8s l)) (hF : ∀ b, F b → b < w.heap.size) (hnc : n ≤ c) (hc : n ≤ 140737488351232) :
    Calls Try.prog 9 #[.slice A n c] w fun e w' => ∃ v, e = .returned (.tuple #[v, .int .i64 (takeN l : Int), .int .i64 (takeE l)]) ∧ Part w' F v (takeP l) ∧ New w w' := by
  have hln := hl.u8len
  by_cases h4 : (n : Int) < 4
  · have hE := takeE_short (l := l) (by omega)
    have hb := bad hE (by omega)
    rw [hE, hb.1, hb.2]
    clear hE hb hl hln
    go_enter Try.func9, Try.ntmps9
    go_wp2
    go_ret3
    exact ⟨_, rfl, Part.nil _ _, Chg.refl _ _⟩
  · obtain ⟨ad, x0, rfl, hF0, hx0, c0⟩ := hl.byte (k := 0) (by omega)
    obtain ⟨_, x1, e1, _, hx1, c1⟩ := hl.byte (k := 1) (by omega)
    injection e1 with e1
    subst e1
    obtain ⟨_, x2, e2, _, hx2, c2⟩ := hl.byte (k := 2) (by omega)
    injection e2 with e2
    subst e2
    have hlen : lenOf l = x0.toNat + 256 * x1.toNat + 65536 * x2.toNat := by
      simp [lenOf, List.getD_eq_getElem?_getD, hx0, hx1, hx2]
    have hlt := lenOf_lt l
    have b0 := UInt8.toNat_lt x0
    have b1 := UInt8.toNat_lt x1
    have b2 := UInt8.toNat_lt x2
    have i0 : 0 < n := by omega
    have i1 : (1 : Int) < n := by omega
    have i2 : (2 : Int) < n := by omega
    have c0' : w.cell? ad = some (.int .u8 (x0.toNat : Int)) := by rw [← c0]; simp [Addr.add]
    have c1' : w.cell? ⟨ad.block, ad.off + 1, none⟩ = some (.int .u8 (x1.toNat : Int)) := c1
    have c2' : w.cell? ⟨ad.block, ad.off + 2, none⟩ = some (.int .u8 (x2.toNat : Int)) := c2
    have ew0 : IntKind.i64.wrap (x0.toNat : Int) = (x0.toNat : Int) := IntWalk.i64_in _ (by omega)
    have ew1 : IntKind.i64.wrap (x1.toNat : Int) = (x1.toNat : Int) := IntWalk.i64_in _ (by omega)
    have ew2 : IntKind.i64.wrap (x2.toNat : Int) = (x2.toNat : Int) := IntWalk.i64_in _ (by omega)
    have HLn := Lib.hid hln
    have hsl4 : ∀ W, (Instr.sliceAt 22 (.slice (some ad) n c) none (some (.int .i64 4)) none).run Try.prog W = .ok (.slice (some ad) 4 c) W := fun W => slice_u8_to (some ad) n c 4 (by omega) W
    have HX := Lib.hid (And.intro hlen (And.intro hx0 (And.intro hx1 hx2)))
    obtain ⟨m, hm⟩ : ∃ m, lenOf l = m := ⟨_, rfl⟩
    rw [hm] at hlt
    have hor : (x0.toNat : Int) + 256 * (x1.toNat : Int) + 65536 * (x2.toNat : Int) = (m : Int) := by omega
    have ea1 : IntKind.i64.wrap (256 * (x1.toNat : Int)) = 256 * (x1.toNat : Int) := IntWalk.i64_in _ (by omega)
    have ea2 : IntKind.i64.wrap (65536 * (x2.toNat : Int)) = 65536 * (x2.toNat : Int) := IntWalk.i64_in _ (by omega)
    have ea3 : IntKind.i64.wrap ((x0.toNat : Int) + 256 * (x1.toNat : Int)) = (x0.toNat : Int) + 256 * (x1.toNat : Int) := IntWalk.i64_in _ (by omega)
    have ea4 : IntKind.i64.wrap ((x0.toNat : Int) + 256 * (x1.toNat : Int) + 65536 * (x2.toNat : Int)) = (x0.toNat : Int) + 256 * (x1.toNat : Int) + 65536 * (x2.toNat : Int) := IntWalk.i64_in _ (by omega)
    have HM := Lib.hid hm
    clear hx0 hx1 hx2 hlen hln c0 c1 c2 hm
    have hpre : ∀ w' : World, New w w' → Reads w' F 1 (some ad) n (u8s l) := fun _ h => hl.chg' h (fun _ _ => id) (by omega)
    have HP := Lib.hid hpre
    go_enter Try.func9, Try.ntmps9
    go_wp2
    go_quiet (fail)
    go_wp2
    have hn1 := (Chg.refl (fun _ => False) w).drewN nq
    generalize w.drewN nq = w1 at *
    clear c0' c1' c2' ew0 ew1 ew2 hor hl hpre ea1 ea2 ea3 ea4
    by_cases hh : (headL m == l.take 4) = true
    · have HH := Lib.hid hh
      clear hh
      have FA := Lib.hid (fun W (hW : New w1.drew W) => run_str (P := Try.prog) Try.underlying22 Try.underlying5 Try.underlying9 ((HP.out W (hn1.drew.trans hW (fun _ _ => id))).takeB (k := 4) (by omega)) c)
      refine grow_start (fun _ => False) (by kernel_rfl) ?_
      refine grow_take (i := 0) (oi := { dst := some 25, op := Op.move (Operand.tmp 5), type := 3, pos := "ref.go:27", after := #[], guard := none }) (v := ?_) rfl (by kernel_rfl) (by kernel_rfl) (by kernel_rfl) (by rfl) ?_ ?_; rotate_left; focus ((intro W hW; go_simp) <;> with_reducible rfl)
      simp only [Act.put, List.setIfInBounds_toArray, List.set_cons_zero, List.set_cons_succ]
      refine grow_take (i := 3) (oi := { dst := some 28, op := Op.move (Operand.tmp 0), type := 22, pos := "ref.go:27", after := #[], guard := none }) (v := ?_) rfl (by kernel_rfl) (by kernel_rfl) (by kernel_rfl) (by rfl) ?_ ?_; rotate_left; focus ((intro W hW; go_simp) <;> with_reducible rfl)
      simp only [Act.put, List.setIfInBounds_toArray, List.set_cons_zero, List.set_cons_succ]
      refine grow_take (i := 4) (oi := { dst := some 29, op := Op.slice 22 (Operand.tmp 28) none (some (Operand.const (Value.int IntKind.i64 4))) none, type := 22, pos := "ref.go:27", after := #[{ on := 3, ground := Ground.data }], guard := none }) (v := ?_) rfl (by kernel_rfl) (by kernel_rfl) (by kernel_rfl) (by rfl) ?_ ?_; rotate_left; focus ((intro W hW; have fct := FA.out W hW; go_simp) <;> with_reducible rfl)
      simp only [Act.put, List.setIfInBounds_toArray, List.set_cons_zero, List.set_cons_succ]
      refine grow_take (i := 5) (oi := { dst := some 30, op := Op.convert 22 9 (Operand.tmp 29), type := 9, pos := "ref.go:27", after := #[{ on := 4, ground := Ground.data }], guard := none }) (v := ?_) rfl (by kernel_rfl) (by kernel_rfl) (by kernel_rfl) (by rfl) ?_ ?_; rotate_left; focus ((intro W hW; have fct := FA.out W hW; go_simp) <;> with_reducible rfl)
      simp only [Act.put, List.setIfInBounds_toArray, List.set_cons_zero, List.set_cons_succ]
      refine grow_next (i := 1) (oi := { dst := some 26, op := Op.call { callee := Callee.value (Operand.func 22), args := #[Operand.tmp 25], argTypes := #[3] }, type := 22, pos := "ref.go:27", after := #[{ on := 0, ground := Ground.data }], guard := none }) (by kernel_rfl) rfl (by rfl) (fun K hK => ?_)
      go_simp
      refine (ref_head _ m (by omega)).mono ?_
      rintro e w2 ⟨rfl, rfl⟩
      refine hK _ _ ((Chg.refl _ _).alloc _) ?_
      clear hK K
      try simp only [Act.put, List.setIfInBounds_toArray, List.set_cons_zero, List.set_cons_succ]
      have F1 := Lib.hid (fun W (hW : New (w1.drew.alloc (.cells (u8s (headL m)).toArray 5)) W) => And.intro (And.intro HH.out (beq_bne HH.out)) (And.intro (FA.out W (((Chg.refl (fun _ => False) w1.drew).alloc (.cells (u8s (headL m)).toArray 5)).trans hW (fun _ _ => id))) (lit_str (w := w1.drew) (l := headL m) (g := w1.heap.size) (n := 4) rfl rfl hW)))
      refine grow_take (i := 2) (oi := { dst := some 27, op := Op.convert 22 9 (Operand.tmp 26), type := 9, pos := "ref.go:27", after := #[{ on := 1, ground := Ground.data }], guard := none }) (v := ?_) rfl (by kernel_rfl) (by kernel_rfl) (by kernel_rfl) (by rfl) ?_ ?_; rotate_left; focus ((intro W hW; have fct := F1.out W hW; go_simp) <;> with_reducible rfl)
      simp only [Act.put, List.setIfInBounds_toArray, List.set_cons_zero, List.set_cons_succ]
      refine grow_take (i := 6) (oi := { dst := some 31, op := Op.binOp BinOp.neq 9 (Operand.tmp 27) (Operand.tmp 30) 9, type := 4, pos := "ref.go:27", after := #[{ on := 2, ground := Ground.data }, { on := 5, ground := Ground.data }], guard := none }) (v := ?_) rfl (by kernel_rfl) (by kernel_rfl) (by kernel_rfl) (by rfl) ?_ ?_; rotate_left; focus ((intro W hW; have fct := F1.out W hW; go_simp) <;> with_reducible rfl)
      simp only [Act.put, List.setIfInBounds_toArray, List.set_cons_zero, List.set_cons_succ]
      refine grow_done (by kernel_rfl) ?_ _
      have hn2 := (hn1.drew).alloc (.cells (u8s (headL m)).toArray 5)
      have hd1 : headL (lenOf l) = l.take 4 := by rw [HM.out]; exact eq_of_beq HH.out
      have HD := Lib.hid hd1
      clear hd1
      generalize w1.drew.alloc (.cells (u8s (headL m)).toArray 5) = w2 at *
      by_cases hm1 : 1048576 < (m : Int)
      · have hE := takeE_long (l := l) (by rw [HLn.out]; omega) HD.out (by rw [HM.out]; omega)
        have HE := Lib.hid (And.intro hE (bad hE (by omega)))
        clear hE
        go_wp2
        go_ret3
        exact ⟨_, by rw [HE.out.1, HE.out.2.1]; rfl, by rw [HE.out.2.2]; exact Part.nil _ _, hn2⟩
      · by_cases hm2 : (n : Int) < (m : Int) + 8
        · have hE := takeE_cut (l := l) (by rw [HLn.out]; omega) HD.out (by rw [HM.out]; omega) (by rw [HLn.out, HM.out]; omega)
          have HE := Lib.hid (And.intro hE (bad hE (by omega)))
          clear hE
          go_wp2
          go_ret3
          exact ⟨_, by rw [HE.out.1, HE.out.2.1]; rfl, by rw [HE.out.2.2]; exact Part.nil _ _, hn2⟩
        · have hc4 : ¬ c = 4 := by omega
          have hcm : ¬ c = m + 4 := by omega
          have hsl1 : ∀ W, (Instr.sliceAt 22 (.slice (some ad) n c) (some (.int .i64 4)) (some (.int .i64 ((m : Int) + 4))) none).run Try.prog W = .ok (.slice (some (ad.add 4)) m (c - 4)) W := fun W => by
            have := slice_u8_mid (some ad) n c 4 (m + 4) (by omega) (by omega) W
            rw [if_neg hc4, show ((m + 4 : Nat) : Int) = (m : Int) + 4 by omega, show m + 4 - 4 = m by omega] at this
            exact this
          have hsl2 : ∀ W, (Instr.sliceAt 22 (.slice (some ad) n c) (some (.int .i64 ((m : Int) + 4))) (some (.int .i64 ((m : Int) + 8))) none).run Try.prog W = .ok (.slice (some (ad.add (m + 4))) 4 (c - (m + 4))) W := fun W => by
            have := slice_u8_mid (some ad) n c (m + 4) (m + 8) (by omega) (by omega) W
            rw [if_neg hcm, show ((m + 4 : Nat) : Int) = (m : Int) + 4 by omega, show ((m + 8 : Nat) : Int) = (m : Int) + 8 by omega, show m + 8 - (m + 4) = 4 by omega] at this
            exact this
          have hr1 : ∀ w' : World, New w w' → Reads w' F 1 (some (ad.add 4)) m (u8s ((l.take (m + 4)).drop 4)) := fun _ h => by
            have := ((HP.out _ h).takeB (k := m + 4) (by omega)).cutB (k := 4) (c := c) (by omega) (by omega)
            rw [if_neg hc4, show m + 4 - 4 = m by omega] at this
            exact this
          have hr2 : ∀ w' : World, New w w' → Reads w' F 1 (some (ad.add (m + 4))) 4 (u8s ((l.take (m + 8)).drop (m + 4))) := fun _ h => by
            have := ((HP.out _ h).takeB (k := m + 8) (by omega)).cutB (k := m + 4) (c := c) (by omega) (by omega)
            rw [if_neg hcm, show m + 8 - (m + 4) = 4 by omega] at this
            exact this
          have ew9 : IntKind.i64.wrap ((m : Int) + 8) = (m : Int) + 8 := IntWalk.i64_in _ (by omega)
          have ew8 : IntKind.i64.wrap ((m : Int) + 4) = (m : Int) + 4 := IntWalk.i64_in _ (by omega)
          generalize ad.add 4 = a1 at *
          generalize ad.add (m + 4) = a2 at *
          have R1 := Lib.hid hr1
          have R2 := Lib.hid hr2
          have hs := Crc.sum_lt ((l.take (m + 4)).drop 4)
          have hFs : ∀ w' : World, New w w' → ∀ b, F b → b < w'.heap.size := fun _ h b hb => Nat.lt_of_lt_of_le (hF b hb) h.size
          have HF := Lib.hid hFs
          have HS := Lib.hid hs
          clear hr1 hr2 hs hFs
          go_wp2
          have hn3 := hn2.drew
          by_cases hq : (crcL ((l.take (m + 4)).drop 4) == (l.take (m + 8)).drop (m + 4)) = true
          · have HQ := Lib.hid hq
            clear hq
            have FB := Lib.hid (fun W (hW : New w2.drew W) => run_str (P := Try.prog) Try.underlying22 Try.underlying5 Try.underlying9 (R2.out W (hn3.trans hW (fun _ _ => id))) (c - (m + 4)))
            refine grow_start (fun _ => False) (by kernel_rfl) ?_
            refine grow_take (i := 0) (oi := { dst := some 39, op := Op.move (Operand.tmp 0), type := 22, pos := "ref.go:36", after := #[], guard := none }) (v := ?_) rfl (by kernel_rfl) (by kernel_rfl) (by kernel_rfl) (by rfl) ?_ ?_; rotate_left; focus ((intro W hW; go_simp) <;> with_reducible rfl)
            simp only [Act.put, List.setIfInBounds_toArray, List.set_cons_zero, List.set_cons_succ]
            refine grow_take (i := 1) (oi := { dst := some 40, op := Op.move (Operand.tmp 5), type := 3, pos := "ref.go:36", after := #[], guard := none }) (v := ?_) rfl (by kernel_rfl) (by kernel_rfl) (by kernel_rfl) (by rfl) ?_ ?_; rotate_left; focus ((intro W hW; go_simp) <;> with_reducible rfl)
            simp only [Act.put, List.setIfInBounds_toArray, List.set_cons_zero, List.set_cons_succ]
            refine grow_take (i := 2) (oi := { dst := some 41, op := Op.binOp BinOp.add 3 (Operand.tmp 40) (Operand.const (Value.int IntKind.i64 4)) 3, type := 3, pos := "ref.go:36", after := #[{ on := 1, ground := Ground.data }], guard := none }) (v := ?_) rfl (by kernel_rfl) (by kernel_rfl) (by kernel_rfl) (by rfl) ?_ ?_; rotate_left; focus ((intro W hW; have fct := FB.out W hW; go_simp) <;> with_reducible rfl)
            simp only [Act.put, List.setIfInBounds_toArray, List.set_cons_zero, List.set_cons_succ]
            refine grow_take (i := 3) (oi := { dst := some 42, op := Op.slice 22 (Operand.tmp 39) (some (Operand.const (Value.int IntKind.i64 4))) (some (Operand.tmp 41)) none, type := 22, pos := "ref.go:36", after := #[{ on := 0, ground := Ground.data }, { on := 2, ground := Ground.data }], guard := none }) (v := ?_) rfl (by kernel_rfl) (by kernel_rfl) (by kernel_rfl) (by rfl) ?_ ?_; rotate_left; focus ((intro W hW; have fct := FB.out W hW; go_simp) <;> with_reducible rfl)
            simp only [Act.put, List.setIfInBounds_toArray, List.set_cons_zero, List.set_cons_succ]
            refine grow_take (i := 7) (oi := { dst := some 46, op := Op.move (Operand.tmp 0), type := 22, pos := "ref.go:36", after := #[], guard := none }) (v := ?_) rfl (by kernel_rfl) (by kernel_rfl) (by kernel_rfl) (by rfl) ?_ ?_; rotate_left; focus ((intro W hW; go_simp) <;> with_reducible rfl)
            simp only [Act.put, List.setIfInBounds_toArray, List.set_cons_zero, List.set_cons_succ]
            refine grow_take (i := 8) (oi := { dst := some 47, op := Op.move (Operand.tmp 5), type := 3, pos := "ref.go:36", after := #[], guard := none }) (v := ?_) rfl (by kernel_rfl) (by kernel_rfl) (by kernel_rfl) (by rfl) ?_ ?_; rotate_left; focus ((intro W hW; go_simp) <;> with_reducible rfl)
            simp only [Act.put, List.setIfInBounds_toArray, List.set_cons_zero, List.set_cons_succ]
            refine grow_take (i := 9) (oi := { dst := some 48, op := Op.binOp BinOp.add 3 (Operand.tmp 47) (Operand.const (Value.int IntKind.i64 4)) 3, type := 3, pos := "ref.go:36", after := #[{ on := 8, ground := Ground.data }], guard := none }) (v := ?_) rfl (by kernel_rfl) (by kernel_rfl) (by kernel_rfl) (by rfl) ?_ ?_; rotate_left; focus ((intro W hW; have fct := FB.out W hW; go_simp) <;> with_reducible rfl)
            simp only [Act.put, List.setIfInBounds_toArray, List.set_cons_zero, List.set_cons_succ]
            refine grow_take (i := 10) (oi := { dst := some 49, op := Op.move (Operand.tmp 5), type := 3, pos := "ref.go:36", after := #[], guard := none }) (v := ?_) rfl (by kernel_rfl) (by kernel_rfl) (by kernel_rfl) (by rfl) ?_ ?_; rotate_left; focus ((intro W hW; go_simp) <;> with_reducible rfl)
            simp only [Act.put, List.setIfInBounds_toArray, List.set_cons_zero, List.set_cons_succ]
            refine grow_take (i := 11) (oi := { dst := some 50, op := Op.binOp BinOp.add 3 (Operand.tmp 49) (Operand.const (Value.int IntKind.i64 8)) 3, type := 3, pos := "ref.go:36", after := #[{ on := 10, ground := Ground.data }], guard := none }) (v := ?_) rfl (by kernel_rfl) (by kernel_rfl) (by kernel_rfl) (by rfl) ?_ ?_; rotate_left; focus ((intro W hW; have fct := FB.out W hW; go_simp) <;> with_reducible rfl)
            simp only [Act.put, List.setIfInBounds_toArray, List.set_cons_zero, List.set_cons_succ]
            refine grow_take (i := 12) (oi := { dst := some 51, op := Op.slice 22 (Operand.tmp 46) (some (Operand.tmp 48)) (some (Operand.tmp 50)) none, type := 22, pos := "ref.go:36", after := #[{ on := 7, ground := Ground.data }, { on := 9, ground := Ground.data }, { on := 11, ground := Ground.data }], guard := none }) (v := ?_) rfl (by kernel_rfl) (by kernel_rfl) (by kernel_rfl) (by rfl) ?_ ?_; rotate_left; focus ((intro W hW; have fct := FB.out W hW; go_simp) <;> with_reducible rfl)
            simp only [Act.put, List.setIfInBounds_toArray, List.set_cons_zero, List.set_cons_succ]
            refine grow_take (i := 13) (oi := { dst := some 52, op := Op.convert 22 9 (Operand.tmp 51), type := 9, pos := "ref.go:36", after := #[{ on := 12, ground := Ground.data }], guard := none }) (v := ?_) rfl (by kernel_rfl) (by kernel_rfl) (by kernel_rfl) (by rfl) ?_ ?_; rotate_left; focus ((intro W hW; have fct := FB.out W hW; go_simp) <;> with_reducible rfl)
            simp only [Act.put, List.setIfInBounds_toArray, List.set_cons_zero, List.set_cons_succ]
            refine grow_next (i := 4) (oi := { dst := some 43, op := Op.call { callee := Callee.value (Operand.func 24), args := #[Operand.tmp 42], argTypes := #[22] }, type := 44, pos := "ref.go:36", after := #[{ on := 3, ground := Ground.data }], guard := none }) (by kernel_rfl) rfl (by rfl) (fun K hK => ?_)
            go_simp
            refine (Crc.ref_of _ F (some a1) m (c - 4) _ (R1.out _ hn3) (by simp [maxLen]; omega)).mono ?_
            rintro e w4 ⟨rfl, hw4⟩
            have hn4 : New w2.drew w4 := hw4 ▸ Chg.refl _ _
            clear hw4
            refine hK _ _ hn4 ?_
            clear hK K
            try simp only [Act.put, List.setIfInBounds_toArray, List.set_cons_zero, List.set_cons_succ]
            have hn5 := hn3.trans hn4 (fun _ _ => id)
            have FC := Lib.hid (fun W (hW : New w4 W) => FB.out W (hn4.trans hW (fun _ _ => id)))
            clear hn4
            refine grow_next (i := 5) (oi := { dst := some 44, op := Op.call { callee := Callee.value (Operand.func 23), args := #[Operand.tmp 43], argTypes := #[44] }, type := 22, pos := "ref.go:36", after := #[{ on := 4, ground := Ground.data }, { on := 4, ground := Ground.chain }], guard := none }) (by kernel_rfl) rfl (by rfl) (fun K hK => ?_)
            go_simp
            refine (Crc.ref_bytes _ _ HS.out).mono ?_
            rintro e w5 ⟨rfl, rfl⟩
            refine hK _ _ ((Chg.refl _ _).alloc _) ?_
            clear hK K
            try simp only [Act.put, List.setIfInBounds_toArray, List.set_cons_zero, List.set_cons_succ]
            have F2 := Lib.hid (fun W (hW : New (w4.alloc (.cells (u8s (crcL ((l.take (m + 4)).drop 4))).toArray 5)) W) => And.intro (And.intro HQ.out (beq_bne HQ.out)) (And.intro (FC.out W (((Chg.refl (fun _ => False) w4).alloc (.cells (u8s (crcL ((l.take (m + 4)).drop 4))).toArray 5)).trans hW (fun _ _ => id))) (lit_str (w := w4) (l := crcL ((l.take (m + 4)).drop 4)) (g := w4.heap.size) (n := 4) rfl rfl hW)))
            refine grow_take (i := 6) (oi := { dst := some 45, op := Op.convert 22 9 (Operand.tmp 44), type := 9, pos := "ref.go:36", after := #[{ on := 5, ground := Ground.data }], guard := none }) (v := ?_) rfl (by kernel_rfl) (by kernel_rfl) (by kernel_rfl) (by rfl) ?_ ?_; rotate_left; focus ((intro W hW; have fct := F2.out W hW; go_simp) <;> with_reducible rfl)
            simp only [Act.put, List.setIfInBounds_toArray, List.set_cons_zero, List.set_cons_succ]
            refine grow_take (i := 14) (oi := { dst := some 53, op := Op.binOp BinOp.neq 9 (Operand.tmp 45) (Operand.tmp 52) 9, type := 4, pos := "ref.go:36", after := #[{ on := 6, ground := Ground.data }, { on := 13, ground := Ground.data }], guard := none }) (v := ?_) rfl (by kernel_rfl) (by kernel_rfl) (by kernel_rfl) (by rfl) ?_ ?_; rotate_left; focus ((intro W hW; have fct := F2.out W hW; go_simp) <;> with_reducible rfl)
            simp only [Act.put, List.setIfInBounds_toArray, List.set_cons_zero, List.set_cons_succ]
            refine grow_done (by kernel_rfl) ?_ _
            have hn6 := hn5.alloc (.cells (u8s (Crc.sumBytes (Crc.sum ((l.take (m + 4)).drop 4)))).toArray 5)
            have hE := takeE_ok (l := l) (by rw [HLn.out]; omega) HD.out (by rw [HM.out]; omega) (by rw [HLn.out, HM.out]; omega) (by rw [HM.out]; exact eq_of_beq HQ.out)
            have HE := Lib.hid (show takeE l = 0 ∧ takeN l = m + 8 ∧ takeP l = (l.take (m + 4)).drop 4 by
              refine ⟨hE, ?_, ?_⟩
              · unfold takeN; rw [if_pos hE, HM.out]
              · unfold takeP; rw [if_pos hE, HM.out])
            clear hE hn5
            generalize w4.alloc (.cells (u8s (Crc.sumBytes (Crc.sum ((l.take (m + 4)).drop 4)))).toArray 5) = w5 at *
            go_wp2
            go_ret3
            refine ⟨.slice (some a1) m (c - 4), ?_, ?_, hn6⟩
            · rw [HE.out.1, HE.out.2.1, show ((m + 8 : Nat) : Int) = (m : Int) + 8 by omega]
              rfl
            · rw [HE.out.2.2]
              have hr := R1.out _ hn6
              have hl := hr.u8len
              exact ⟨_, _, by rw [hl], by omega, by rw [hl]; exact hr⟩
          · have hq' : (crcL ((l.take (m + 4)).drop 4) == (l.take (m + 8)).drop (m + 4)) = false := by simpa using hq
            have HQ := Lib.hid hq'
            clear hq hq'
            have FB := Lib.hid (fun W (hW : New w2.drew W) => run_str (P := Try.prog) Try.underlying22 Try.underlying5 Try.underlying9 (R2.out W (hn3.trans hW (fun _ _ => id))) (c - (m + 4)))
            refine grow_start (fun _ => False) (by kernel_rfl) ?_
            refine grow_take (i := 0) (oi := { dst := some 39, op := Op.move (Operand.tmp 0), type := 22, pos := "ref.go:36", after := #[], guard := none }) (v := ?_) rfl (by kernel_rfl) (by kernel_rfl) (by kernel_rfl) (by rfl) ?_ ?_; rotate_left; focus ((intro W hW; go_simp) <;> with_reducible rfl)
            simp only [Act.put, List.setIfInBounds_toArray, List.set_cons_zero, List.set_cons_succ]
            refine grow_take (i := 1) (oi := { dst := some 40, op := Op.move (Operand.tmp 5), type := 3, pos := "ref.go:36", after := #[], guard := none }) (v := ?_) rfl (by kernel_rfl) (by kernel_rfl) (by kernel_rfl) (by rfl) ?_ ?_; rotate_left; focus ((intro W hW; go_simp) <;> with_reducible rfl)
            simp only [Act.put, List.setIfInBounds_toArray, List.set_cons_zero, List.set_cons_succ]
            refine grow_take (i := 2) (oi := { dst := some 41, op := Op.binOp BinOp.add 3 (Operand.tmp 40) (Operand.const (Value.int IntKind.i64 4)) 3, type := 3, pos := "ref.go:36", after := #[{ on := 1, ground := Ground.data }], guard := none }) (v := ?_) rfl (by kernel_rfl) (by kernel_rfl) (by kernel_rfl) (by rfl) ?_ ?_; rotate_left; focus ((intro W hW; have fct := FB.out W hW; go_simp) <;> with_reducible rfl)
            simp only [Act.put, List.setIfInBounds_toArray, List.set_cons_zero, List.set_cons_succ]
            refine grow_take (i := 3) (oi := { dst := some 42, op := Op.slice 22 (Operand.tmp 39) (some (Operand.const (Value.int IntKind.i64 4))) (some (Operand.tmp 41)) none, type := 22, pos := "ref.go:36", after := #[{ on := 0, ground := Ground.data }, { on := 2, ground := Ground.data }], guard := none }) (v := ?_) rfl (by kernel_rfl) (by kernel_rfl) (by kernel_rfl) (by rfl) ?_ ?_; rotate_left; focus ((intro W hW; have fct := FB.out W hW; go_simp) <;> with_reducible rfl)
            simp only [Act.put, List.setIfInBounds_toArray, List.set_cons_zero, List.set_cons_succ]
            refine grow_take (i := 7) (oi := { dst := some 46, op := Op.move (Operand.tmp 0), type := 22, pos := "ref.go:36", after := #[], guard := none }) (v := ?_) rfl (by kernel_rfl) (by kernel_rfl) (by kernel_rfl) (by rfl) ?_ ?_; rotate_left; focus ((intro W hW; go_simp) <;> with_reducible rfl)
            simp only [Act.put, List.setIfInBounds_toArray, List.set_cons_zero, List.set_cons_succ]
            refine grow_take (i := 8) (oi := { dst := some 47, op := Op.move (Operand.tmp 5), type := 3, pos := "ref.go:36", after := #[], guard := none }) (v := ?_) rfl (by kernel_rfl) (by kernel_rfl) (by kernel_rfl) (by rfl) ?_ ?_; rotate_left; focus ((intro W hW; go_simp) <;> with_reducible rfl)
            simp only [Act.put, List.setIfInBounds_toArray, List.set_cons_zero, List.set_cons_succ]
            refine grow_take (i := 9) (oi := { dst := some 48, op := Op.binOp BinOp.add 3 (Operand.tmp 47) (Operand.const (Value.int IntKind.i64 4)) 3, type := 3, pos := "ref.go:36", after := #[{ on := 8, ground := Ground.data }], guard := none }) (v := ?_) rfl (by kernel_rfl) (by kernel_rfl) (by kernel_rfl) (by rfl) ?_ ?_; rotate_left; focus ((intro W hW; have fct := FB.out W hW; go_simp) <;> with_reducible rfl)
            simp only [Act.put, List.setIfInBounds_toArray, List.set_cons_zero, List.set_cons_succ]
            refine grow_take (i := 10) (oi := { dst := some 49, op := Op.move (Operand.tmp 5), type := 3, pos := "ref.go:36", after := #[], guard := none }) (v := ?_) rfl (by kernel_rfl) (by kernel_rfl) (by kernel_rfl) (by rfl) ?_ ?_; rotate_left; focus ((intro W hW; go_simp) <;> with_reducible rfl)
            simp only [Act.put, List.setIfInBounds_toArray, List.set_cons_zero, List.set_cons_succ]
            refine grow_take (i := 11) (oi := { dst := some 50, op := Op.binOp BinOp.add 3 (Operand.tmp 49) (Operand.const (Value.int IntKind.i64 8)) 3, type := 3, pos := "ref.go:36", after := #[{ on := 10, ground := Ground.data }], guard := none }) (v := ?_) rfl (by kernel_rfl) (by kernel_rfl) (by kernel_rfl) (by rfl) ?_ ?_; rotate_left; focus ((intro W hW; have fct := FB.out W hW; go_simp) <;> with_reducible rfl)
            simp only [Act.put, List.setIfInBounds_toArray, List.set_cons_zero, List.set_cons_succ]
            refine grow_take (i := 12) (oi := { dst := some 51, op := Op.slice 22 (Operand.tmp 46) (some (Operand.tmp 48)) (some (Operand.tmp 50)) none, type := 22, pos := "ref.go:36", after := #[{ on := 7, ground := Ground.data }, { on := 9, ground := Ground.data }, { on := 11, ground := Ground.data }], guard := none }) (v := ?_) rfl (by kernel_rfl) (by kernel_rfl) (by kernel_rfl) (by rfl) ?_ ?_; rotate_left; focus ((intro W hW; have fct := FB.out W hW; go_simp) <;> with_reducible rfl)
            simp only [Act.put, List.setIfInBounds_toArray, List.set_cons_zero, List.set_cons_succ]
            refine grow_take (i := 13) (oi := { dst := some 52, op := Op.convert 22 9 (Operand.tmp 51), type := 9, pos := "ref.go:36", after := #[{ on := 12, ground := Ground.data }], guard := none }) (v := ?_) rfl (by kernel_rfl) (by kernel_rfl) (by kernel_rfl) (by rfl) ?_ ?_; rotate_left; focus ((intro W hW; have fct := FB.out W hW; go_simp) <;> with_reducible rfl)
            simp only [Act.put, List.setIfInBounds_toArray, List.set_cons_zero, List.set_cons_succ]
            refine grow_next (i := 4) (oi := { dst := some 43, op := Op.call { callee := Callee.value (Operand.func 24), args := #[Operand.tmp 42], argTypes := #[22] }, type := 44, pos := "ref.go:36", after := #[{ on := 3, ground := Ground.data }], guard := none }) (by kernel_rfl) rfl (by rfl) (fun K hK => ?_)
            go_simp
            refine (Crc.ref_of _ F (some a1) m (c - 4) _ (R1.out _ hn3) (by simp [maxLen]; omega)).mono ?_
            rintro e w4 ⟨rfl, hw4⟩
            have hn4 : New w2.drew w4 := hw4 ▸ Chg.refl _ _
            clear hw4
            refine hK _ _ hn4 ?_
            clear hK K
            try simp only [Act.put, List.setIfInBounds_toArray, List.set_cons_zero, List.set_cons_succ]
            have hn5 := hn3.trans hn4 (fun _ _ => id)
            have FC := Lib.hid (fun W (hW : New w4 W) => FB.out W (hn4.trans hW (fun _ _ => id)))
            clear hn4
            refine grow_next (i := 5) (oi := { dst := some 44, op := Op.call { callee := Callee.value (Operand.func 23), args := #[Operand.tmp 43], argTypes := #[44] }, type := 22, pos := "ref.go:36", after := #[{ on := 4, ground := Ground.data }, { on := 4, ground := Ground.chain }], guard := none }) (by kernel_rfl) rfl (by rfl) (fun K hK => ?_)
            go_simp
            refine (Crc.ref_bytes _ _ HS.out).mono ?_
            rintro e w5 ⟨rfl, rfl⟩
            refine hK _ _ ((Chg.refl _ _).alloc _) ?_
            clear hK K
            try simp only [Act.put, List.setIfInBounds_toArray, List.set_cons_zero, List.set_cons_succ]
            have F2 := Lib.hid (fun W (hW : New (w4.alloc (.cells (u8s (crcL ((l.take (m + 4)).drop 4))).toArray 5)) W) => And.intro (And.intro HQ.out (beq_bne HQ.out)) (And.intro (FC.out W (((Chg.refl (fun _ => False) w4).alloc (.cells (u8s (crcL ((l.take (m + 4)).drop 4))).toArray 5)).trans hW (fun _ _ => id))) (lit_str (w := w4) (l := crcL ((l.take (m + 4)).drop 4)) (g := w4.heap.size) (n := 4) rfl rfl hW)))
            refine grow_take (i := 6) (oi := { dst := some 45, op := Op.convert 22 9 (Operand.tmp 44), type := 9, pos := "ref.go:36", after := #[{ on := 5, ground := Ground.data }], guard := none }) (v := ?_) rfl (by kernel_rfl) (by kernel_rfl) (by kernel_rfl) (by rfl) ?_ ?_; rotate_left; focus ((intro W hW; have fct := F2.out W hW; go_simp) <;> with_reducible rfl)
            simp only [Act.put, List.setIfInBounds_toArray, List.set_cons_zero, List.set_cons_succ]
            refine grow_take (i := 14) (oi := { dst := some 53, op := Op.binOp BinOp.neq 9 (Operand.tmp 45) (Operand.tmp 52) 9, type := 4, pos := "ref.go:36", after := #[{ on := 6, ground := Ground.data }, { on := 13, ground := Ground.data }], guard := none }) (v := ?_) rfl (by kernel_rfl) (by kernel_rfl) (by kernel_rfl) (by rfl) ?_ ?_; rotate_left; focus ((intro W hW; have fct := F2.out W hW; go_simp) <;> with_reducible rfl)
            simp only [Act.put, List.setIfInBounds_toArray, List.set_cons_zero, List.set_cons_succ]
            refine grow_done (by kernel_rfl) ?_ _
            have hn6 := hn5.alloc (.cells (u8s (Crc.sumBytes (Crc.sum ((l.take (m + 4)).drop 4)))).toArray 5)
            have hE := takeE_sum (l := l) (by rw [HLn.out]; omega) HD.out (by rw [HM.out]; omega) (by rw [HLn.out, HM.out]; omega) (by rw [HM.out]; exact beq_eq_false_iff_ne.1 HQ.out)
            have HE := Lib.hid (And.intro hE (bad hE (by omega)))
            clear hE hn5
            generalize w4.alloc (.cells (u8s (Crc.sumBytes (Crc.sum ((l.take (m + 4)).drop 4)))).toArray 5) = w5 at *
            go_wp2
            go_ret3
            exact ⟨_, by rw [HE.out.1, HE.out.2.1]; rfl, by rw [HE.out.2.2]; exact Part.nil _ _, hn6⟩
    · have hh' : (headL m == l.take 4) = false := by simpa using hh
      have HH := Lib.hid hh'
      clear hh hh'
      have FA := Lib.hid (fun W (hW : New w1.drew W) => run_str (P := Try.prog) Try.underlying22 Try.underlying5 Try.underlying9 ((HP.out W (hn1.drew.trans hW (fun _ _ => id))).takeB (k := 4) (by omega)) c)
      refine grow_start (fun _ => False) (by kernel_rfl) ?_
      refine grow_take (i := 0) (oi := { dst := some 25, op := Op.move (Operand.tmp 5), type := 3, pos := "ref.go:27", after := #[], guard := none }) (v := ?_) rfl (by kernel_rfl) (by kernel_rfl) (by kernel_rfl) (by rfl) ?_ ?_; rotate_left; focus ((intro W hW; go_simp) <;> with_reducible rfl)
      simp only [Act.put, List.setIfInBounds_toArray, List.set_cons_zero, List.set_cons_succ]
      refine grow_take (i := 3) (oi := { dst := some 28, op := Op.move (Operand.tmp 0), type := 22, pos := "ref.go:27", after := #[], guard := none }) (v := ?_) rfl (by kernel_rfl) (by kernel_rfl) (by kernel_rfl) (by rfl) ?_ ?_; rotate_left; focus ((intro W hW; go_simp) <;> with_reducible rfl)
      simp only [Act.put, List.setIfInBounds_toArray, List.set_cons_zero, List.set_cons_succ]
      refine grow_take (i := 4) (oi := { dst := some 29, op := Op.slice 22 (Operand.tmp 28) none (some (Operand.const (Value.int IntKind.i64 4))) none, type := 22, pos := "ref.go:27", after := #[{ on := 3, ground := Ground.data }], guard := none }) (v := ?_) rfl (by kernel_rfl) (by kernel_rfl) (by kernel_rfl) (by rfl) ?_ ?_; rotate_left; focus ((intro W hW; have fct := FA.out W hW; go_simp) <;> with_reducible rfl)
      simp only [Act.put, List.setIfInBounds_toArray, List.set_cons_zero, List.set_cons_succ]
      refine grow_take (i := 5) (oi := { dst := some 30, op := Op.convert 22 9 (Operand.tmp 29), type := 9, pos := "ref.go:27", after := #[{ on := 4, ground := Ground.data }], guard := none }) (v := ?_) rfl (by kernel_rfl) (by kernel_rfl) (by kernel_rfl) (by rfl) ?_ ?_; rotate_left; focus ((intro W hW; have fct := FA.out W hW; go_simp) <;> with_reducible rfl)
      simp only [Act.put, List.setIfInBounds_toArray, List.set_cons_zero, List.set_cons_succ]
      refine grow_next (i := 1) (oi := { dst := some 26, op := Op.call { callee := Callee.value (Operand.func 22), args := #[Operand.tmp 25], argTypes := #[3] }, type := 22, pos := "ref.go:27", after := #[{ on := 0, ground := Ground.data }], guard := none }) (by kernel_rfl) rfl (by rfl) (fun K hK => ?_)
      go_simp
      refine (ref_head _ m (by omega)).mono ?_
      rintro e w2 ⟨rfl, rfl⟩
      refine hK _ _ ((Chg.refl _ _).alloc _) ?_
      clear hK K
      try simp only [Act.put, List.setIfInBounds_toArray, List.set_cons_zero, List.set_cons_succ]
      have F1 := Lib.hid (fun W (hW : New (w1.drew.alloc (.cells (u8s (headL m)).toArray 5)) W) => And.intro (And.intro HH.out (beq_bne HH.out)) (And.intro (FA.out W (((Chg.refl (fun _ => False) w1.drew).alloc (.cells (u8s (headL m)).toArray 5)).trans hW (fun _ _ => id))) (lit_str (w := w1.drew) (l := headL m) (g := w1.heap.size) (n := 4) rfl rfl hW)))
      refine grow_take (i := 2) (oi := { dst := some 27, op := Op.convert 22 9 (Operand.tmp 26), type := 9, pos := "ref.go:27", after := #[{ on := 1, ground := Ground.data }], guard := none }) (v := ?_) rfl (by kernel_rfl) (by kernel_rfl) (by kernel_rfl) (by rfl) ?_ ?_; rotate_left; focus ((intro W hW; have fct := F1.out W hW; go_simp) <;> with_reducible rfl)
      simp only [Act.put, List.setIfInBounds_toArray, List.set_cons_zero, List.set_cons_succ]
      refine grow_take (i := 6) (oi := { dst := some 31, op := Op.binOp BinOp.neq 9 (Operand.tmp 27) (Operand.tmp 30) 9, type := 4, pos := "ref.go:27", after := #[{ on := 2, ground := Ground.data }, { on := 5, ground := Ground.data }], guard := none }) (v := ?_) rfl (by kernel_rfl) (by kernel_rfl) (by kernel_rfl) (by rfl) ?_ ?_; rotate_left; focus ((intro W hW; have fct := F1.out W hW; go_simp) <;> with_reducible rfl)
      simp only [Act.put, List.setIfInBounds_toArray, List.set_cons_zero, List.set_cons_succ]
      refine grow_done (by kernel_rfl) ?_ _
      have hn2 := (hn1.drew).alloc (.cells (u8s (headL m)).toArray 5)
      have hd1 : headL (lenOf l) ≠ l.take 4 := by rw [HM.out]; exact beq_eq_false_iff_ne.1 HH.out
      have hE := takeE_head (l := l) (by rw [HLn.out]; omega) hd1
      have HE := Lib.hid (And.intro hE (bad hE (by omega)))
      clear hd1 hE
      generalize w1.drew.alloc (.cells (u8s (headL m)).toArray 5) = w2 at *
      go_wp2
      go_ret3
      exact ⟨_, by rw [HE.out.1, HE.out.2.1]; rfl, by rw [HE.out.2.2]; exact Part.nil _ _, hn2⟩
end Frame
end Go.Proofs.Ytbbneefcjancbaa

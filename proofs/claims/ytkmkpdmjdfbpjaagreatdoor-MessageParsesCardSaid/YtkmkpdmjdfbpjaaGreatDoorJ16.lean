/-
  The document's reference: which messages may be (no condition beyond the sizes).
-/
import Derived.Test.YtkmkpdmjdfbpjaaGreatDoorJ15
/- The document's Put of events (no condition beyond the sizes). -/
namespace Go.Proofs.YtkmkpdmjdfbpjaaGreatDoor
set_option linter.unusedSimpArgs false
set_option linter.unusedVariables false
open Go.ChangeShapes Go.WideShapes Go.RowKit Go.Deep
namespace Evt
open Num
attribute [local go_sem ↓] loadDot loadVec loadRow0 storeRow0
theorem past_get (e : Ev) {i : Nat} (h : i < 16) : (past e).getD i 0 = e.n (2 + i) := by
  rcases (show i = 0 ∨ i = 1 ∨ i = 2 ∨ i = 3 ∨ i = 4 ∨ i = 5 ∨ i = 6 ∨ i = 7 ∨ i = 8 ∨ i = 9 ∨ i = 10 ∨ i = 11 ∨ i = 12 ∨ i = 13 ∨ i = 14 ∨ i = 15 by omega) with rfl | rfl | rfl | rfl | rfl | rfl | rfl | rfl | rfl | rfl | rfl | rfl | rfl | rfl | rfl | rfl <;> rfl
set_option maxHeartbeats 20000000 in
set_option maxRecDepth 20000 in
theorem refput (w : World) (base : Nat) (v : Value) (l : List UInt8) (hv : OwnB w base v l) (hbase : base ≤ w.heap.size) (e : Ev) (hb : l.length + e.bytes.length ≤ 900000000) (hs : ∀ i, (e.t i).size ≤ 1000000) :
    Calls Tryz.prog 58 #[v, e.val] w fun x w' => Puts w base v (l ++ e.bytes) x w' := by
  unfold Puts
  have a1 := (Chg.refl (fun _ => False) w).alloc (.cells e.cs.toArray 48)
  have B1 := Blk.new w 48 e.cs.toArray
  have hvlt := fun k hk => (own_lt hv (k := k) hk).2
  have HV := Lib.hid (And.intro (own_chg hv a1 fun _ _ => id) (And.intro a1 (And.intro B1 hvlt)))
  have hg0 := B1.lt
  have HS := Lib.hid hs
  have HB := Lib.hid hb
  clear hv a1 B1 hvlt hs hb
  go_enter Tryz.func58, Tryz.ntmps58
  go_wp2_with fail
  obtain ⟨g, hg⟩ : ∃ g, w.heap.size = g := ⟨_, rfl⟩
  have hsz : (w.alloc (.cells e.cs.toArray 48)).heap.size = g + 1 := by simp [hg]
  generalize w.alloc (.cells e.cs.toArray 48) = wA at *
  rw [hg] at HV hg0 ⊢
  have HVL := Lib.hid HV.out.2.2.2
  have F := Lib.hid (fun W (hW : Chg (fun k => v.ownBlock = some k ∨ wA.heap.size ≤ k) wA.drew W) => (⟨((HV.out.2.2.1.drew).chg hW (by
      rintro (h | h)
      · have := HVL.out g h; omega
      · omega)).cell 0, ((HV.out.2.2.1.drew).chg hW (by
      rintro (h | h)
      · have := HVL.out g h; omega
      · omega)).cell 1⟩ : W.cell? ⟨g, 0, none⟩ = some (.int .i64 (e.n 0)) ∧ W.cell? ⟨g, 1, none⟩ = some (.int .i64 (e.n 1))))
  have H := Lib.hid (PutAt.mk (w := wA) (base := base) (v := v) (l := l) (x := []) (by rw [List.append_nil]; exact HV.out.1) (Chg.refl (fun k => v.ownBlock = some k) wA) (fun k hk => .inl hk))
  have C1 := Lib.hid (rput wA.drew base _ _ H.out.drew.own (by show base ≤ wA.heap.size; omega) (by rw [List.append_nil]; have := HB.out; omega) (e.n 0))
  unfold Puts at C1
  refine grow_start (fun k => v.ownBlock = some k ∨ wA.heap.size ≤ k) (by kernel_rfl) ?_
  refine grow_take (i := 0) (oi := { dst := some 9, op := Op.move (Operand.tmp 0), type := 29, pos := "ref.go:44", after := #[], guard := none }) (v := ?_) rfl (by kernel_rfl) (by kernel_rfl) (by kernel_rfl) (by rfl) ?_ ?_; rotate_left; focus ((intro W hW; go_simp) <;> with_reducible rfl)
  simp only [Act.put, List.setIfInBounds_toArray, List.set_cons_zero, List.set_cons_succ]
  refine grow_take (i := 1) (oi := { dst := some 10, op := Op.fieldAddr 48 (Operand.tmp 3) 0, type := 0, pos := "ref.go:44", after := #[], guard := none }) (v := ?_) rfl (by kernel_rfl) (by kernel_rfl) (by kernel_rfl) (by rfl) ?_ ?_; rotate_left; focus ((intro W hW; go_simp) <;> with_reducible rfl)
  simp only [Act.put, List.setIfInBounds_toArray, List.set_cons_zero, List.set_cons_succ]
  refine grow_take (i := 2) (oi := { dst := some 11, op := Op.fieldAddr 42 (Operand.tmp 10) 0, type := 0, pos := "ref.go:44", after := #[{ on := 1, ground := Ground.data }], guard := none }) (v := ?_) rfl (by kernel_rfl) (by kernel_rfl) (by kernel_rfl) (by rfl) ?_ ?_; rotate_left; focus ((intro W hW; go_simp) <;> with_reducible rfl)
  simp only [Act.put, List.setIfInBounds_toArray, List.set_cons_zero, List.set_cons_succ]
  refine grow_take (i := 3) (oi := { dst := some 12, op := Op.load 3 (Operand.tmp 11), type := 3, pos := "ref.go:44", after := #[{ on := 2, ground := Ground.data }], guard := none }) (v := ?_) rfl (by kernel_rfl) (by kernel_rfl) (by kernel_rfl) (by rfl) ?_ ?_; rotate_left; focus ((intro W hW; have fct := F.out W hW; go_simp) <;> with_reducible rfl)
  simp only [Act.put, List.setIfInBounds_toArray, List.set_cons_zero, List.set_cons_succ]
  refine grow_take (i := 5) (oi := { dst := some 14, op := Op.fieldAddr 48 (Operand.tmp 3) 0, type := 0, pos := "ref.go:44", after := #[], guard := none }) (v := ?_) rfl (by kernel_rfl) (by kernel_rfl) (by kernel_rfl) (by rfl) ?_ ?_; rotate_left; focus ((intro W hW; go_simp) <;> with_reducible rfl)
  simp only [Act.put, List.setIfInBounds_toArray, List.set_cons_zero, List.set_cons_succ]
  refine grow_take (i := 6) (oi := { dst := some 15, op := Op.fieldAddr 42 (Operand.tmp 14) 1, type := 0, pos := "ref.go:44", after := #[{ on := 5, ground := Ground.data }], guard := none }) (v := ?_) rfl (by kernel_rfl) (by kernel_rfl) (by kernel_rfl) (by rfl) ?_ ?_; rotate_left; focus ((intro W hW; go_simp) <;> with_reducible rfl)
  simp only [Act.put, List.setIfInBounds_toArray, List.set_cons_zero, List.set_cons_succ]
  refine grow_take (i := 7) (oi := { dst := some 16, op := Op.load 3 (Operand.tmp 15), type := 3, pos := "ref.go:44", after := #[{ on := 6, ground := Ground.data }], guard := none }) (v := ?_) rfl (by kernel_rfl) (by kernel_rfl) (by kernel_rfl) (by rfl) ?_ ?_; rotate_left; focus ((intro W hW; have fct := F.out W hW; go_simp) <;> with_reducible rfl)
  simp only [Act.put, List.setIfInBounds_toArray, List.set_cons_zero, List.set_cons_succ]
  refine grow_next (i := 4) (oi := { dst := some 13, op := Op.call { callee := Callee.value (Operand.func 57), args := #[Operand.tmp 9, Operand.tmp 12], argTypes := #[29, 3] }, type := 29, pos := "ref.go:44", after := #[{ on := 0, ground := Ground.data }, { on := 3, ground := Ground.data }], guard := none }) (by kernel_rfl) rfl (by rfl) (fun K hK => ?_)
  go_simp
  with_reducible refine C1.out.mono ?_
  rintro x w7 ⟨u7, rfl, o7, c7, a7⟩
  refine hK _ _ (c7.mono fun _ _ h => .inl h) ?_
  clear hK K
  try simp only [Act.put, List.setIfInBounds_toArray, List.set_cons_zero, List.set_cons_succ]
  have h7 := H.out.drew.then_ o7 c7 a7
  have C2 := Lib.hid (rput w7 base _ _ h7.own (by have := h7.chg.size; omega) (by rw [List.length_append, List.nil_append]; have := HB.out; have := putB_len (e.n 0); omega) (e.n 1))
  unfold Puts at C2
  refine grow_next (i := 8) (oi := { dst := some 17, op := Op.call { callee := Callee.value (Operand.func 57), args := #[Operand.tmp 13, Operand.tmp 16], argTypes := #[29, 3] }, type := 29, pos := "ref.go:44", after := #[{ on := 4, ground := Ground.data }, { on := 7, ground := Ground.data }, { on := 4, ground := Ground.chain }], guard := none }) (by kernel_rfl) rfl (by rfl) (fun K hK => ?_)
  go_simp
  with_reducible refine C2.out.mono ?_
  rintro x w8 ⟨u8, rfl, o8, c8, a8⟩
  refine hK _ _ (c8.mono fun k _ h => a7 k h) ?_
  clear hK K
  try simp only [Act.put, List.setIfInBounds_toArray, List.set_cons_zero, List.set_cons_succ]
  have h8 := h7.then_ o8 c8 a8
  refine grow_take (i := 9) (oi := { dst := some 0, op := Op.assign (Operand.tmp 17), type := 29, pos := "ref.go:44", after := #[{ on := 8, ground := Ground.data }, { on := 8, ground := Ground.chain }, { on := 0, ground := Ground.phase }, { on := 1, ground := Ground.phase }, { on := 2, ground := Ground.phase }, { on := 3, ground := Ground.phase }, { on := 4, ground := Ground.phase }, { on := 5, ground := Ground.phase }, { on := 6, ground := Ground.phase }, { on := 7, ground := Ground.phase }, { on := 8, ground := Ground.phase }], guard := none }) (v := ?_) rfl (by kernel_rfl) (by kernel_rfl) (by kernel_rfl) (by rfl) ?_ ?_; rotate_left; focus ((intro W hW; go_simp) <;> with_reducible rfl)
  simp only [Act.put, List.setIfInBounds_toArray, List.set_cons_zero, List.set_cons_succ]
  refine grow_done (by kernel_rfl) ?_ _
  have H8 : PutAt wA base v l (putAll (e.items.take 2)) w8 u8 := by
    have e1 : putAll (e.items.take 1) = _ := put_one (e := e) (i := 0) rfl
    have e2 : putAll (e.items.take 2) = _ := put_one (e := e) (i := 1) rfl
    rw [e2, e1]
    exact h8
  have HP := Lib.hid H8
  have HN := Lib.hid HV.out.2.1
  have hs3 : g + 1 ≤ wA.heap.size := by omega
  have HI2 := Lib.hid HV.out.2.2.1
  have HGB8 := Lib.hid (HI2.out.chg H8.chg (fun e => by have := HVL.out g e; omega))
  have lv := (blk_ev HGB8.out).2.1
  have g8l := HGB8.out.lt
  clear H8 h8 h7 c7 c8 a7 a8 o7 o8 C1 C2 F HV H hg0
  go_wp2_with fail
  go_loopw [0, 20] (fun bv iv wr => ∃ (i : Nat) (u : Value), i ≤ 16 ∧ bv = u ∧ iv = .int .i64 i ∧ PutAt wA base v l (putAll (e.items.take (2 + i))) wr u) (fun _ iv _ => 16 - (intOf iv).toNat)
  case atStart => exact ⟨0, _, by omega, rfl, by go_num, HP.out⟩
  case round =>
    obtain ⟨i, u, hi, rfl, rfl, hp⟩ := hrel
    have hsr := hp.chg.size
    by_cases hlt : i < 16
    · have hli : (i : Int) < 16 := by omega
      have hix : ∀ W, (Instr.index 23 (.agg #[.int .i64 (e.n 2), .int .i64 (e.n 3), .int .i64 (e.n 4), .int .i64 (e.n 5), .int .i64 (e.n 6), .int .i64 (e.n 7), .int .i64 (e.n 8), .int .i64 (e.n 9), .int .i64 (e.n 10), .int .i64 (e.n 11), .int .i64 (e.n 12), .int .i64 (e.n 13), .int .i64 (e.n 14), .int .i64 (e.n 15), .int .i64 (e.n 16), .int .i64 (e.n 17)]) (.int .i64 (i : Int))).run Tryz.prog W = .ok (.int .i64 (e.n (2 + i))) W := fun W => by
        have := Vec.ixV (xs := past e) rfl hlt W
        rw [past_get e hlt] at this
        exact this
      have hpre := put_pre e (2 + i)
      have HIT := Lib.hid (put_one (nums_at e (i := 2 + i) (by omega)).2)
      have C := Lib.hid (rput wr base _ _ hp.own (by omega) (by rw [List.length_append]; have := HB.out; omega) (e.n (2 + i)))
      have H := Lib.hid hp
      have hw : IntKind.i64.wrap ((i : Int) + 1) = (i : Int) + 1 := IntWalk.i64_in _ (by omega)
      unfold Puts at C
      clear hp hpre
      go_wp2_with fail
      with_reducible refine C.out.mono ?_
      rintro x w4 ⟨u4, rfl, o4, c4, a4⟩
      have HE := Lib.hid (H.out.then_ o4 c4 a4)
      clear o4 c4 a4 C
      go_wp2_with fail
      go_roundw
      case rel => exact ⟨i + 1, _, by omega, rfl, by go_num, by rw [show 2 + (i + 1) = 2 + i + 1 by omega, HIT.out]; exact HE.out⟩
      case measure => simp [intOf]; omega
    · have H := Lib.hid (show PutAt wA base v l (putAll (e.items.take 18)) wr u0 from by rw [show i = 16 by omega] at hp; exact hp)
      have hgi : ¬ ((i : Int) < 16) := by omega
      have HGB := Lib.hid (HI2.out.chg hp.chg (fun e => by have := HVL.out g e; omega))
      clear hp hi hlt lv
      generalize wr = w6 at *
      have F := Lib.hid (fun W (hW : Chg (fun k => u0.ownBlock = some k ∨ w6.heap.size ≤ k) w6.drew W) => (⟨((HGB.out.drew).chg hW (by
          have := HGB.out.lt
          rintro (h | h)
          · rcases H.out.at_ g h with h | h
            · have := HVL.out g h; omega
            · omega
          · omega)).cell 18, ((HGB.out.drew).chg hW (by
          have := HGB.out.lt
          rintro (h | h)
          · rcases H.out.at_ g h with h | h
            · have := HVL.out g h; omega
            · omega
          · omega)).cell 19⟩ : W.cell? ⟨g, 18, none⟩ = some (.int .i64 (e.n 18)) ∧ W.cell? ⟨g, 19, none⟩ = some (.int .i64 (e.n 19))))
      have hpre := put_pre e 18
      have C1 := Lib.hid (rput w6.drew base _ _ H.out.drew.own (by have := H.out.chg.size; show base ≤ w6.heap.size; omega) (by rw [List.length_append]; have := HB.out; omega) (e.n 18))
      unfold Puts at C1
      go_wp2_with fail
      refine grow_start (fun k => u0.ownBlock = some k ∨ w6.heap.size ≤ k) (by kernel_rfl) ?_
      refine grow_take (i := 0) (oi := { dst := some 27, op := Op.move (Operand.tmp 0), type := 29, pos := "ref.go:48", after := #[], guard := none }) (v := ?_) rfl (by kernel_rfl) (by kernel_rfl) (by kernel_rfl) (by rfl) ?_ ?_; rotate_left; focus ((intro W hW; go_simp) <;> with_reducible rfl)
      simp only [Act.put, List.setIfInBounds_toArray, List.set_cons_zero, List.set_cons_succ]
      refine grow_take (i := 1) (oi := { dst := some 28, op := Op.fieldAddr 48 (Operand.tmp 3) 2, type := 0, pos := "ref.go:48", after := #[], guard := none }) (v := ?_) rfl (by kernel_rfl) (by kernel_rfl) (by kernel_rfl) (by rfl) ?_ ?_; rotate_left; focus ((intro W hW; go_simp) <;> with_reducible rfl)
      simp only [Act.put, List.setIfInBounds_toArray, List.set_cons_zero, List.set_cons_succ]
      refine grow_take (i := 2) (oi := { dst := some 29, op := Op.load 3 (Operand.tmp 28), type := 3, pos := "ref.go:48", after := #[{ on := 1, ground := Ground.data }], guard := none }) (v := ?_) rfl (by kernel_rfl) (by kernel_rfl) (by kernel_rfl) (by rfl) ?_ ?_; rotate_left; focus ((intro W hW; have fct := F.out W hW; go_simp) <;> with_reducible rfl)
      simp only [Act.put, List.setIfInBounds_toArray, List.set_cons_zero, List.set_cons_succ]
      refine grow_take (i := 4) (oi := { dst := some 31, op := Op.fieldAddr 48 (Operand.tmp 3) 3, type := 0, pos := "ref.go:48", after := #[], guard := none }) (v := ?_) rfl (by kernel_rfl) (by kernel_rfl) (by kernel_rfl) (by rfl) ?_ ?_; rotate_left; focus ((intro W hW; go_simp) <;> with_reducible rfl)
      simp only [Act.put, List.setIfInBounds_toArray, List.set_cons_zero, List.set_cons_succ]
      refine grow_take (i := 5) (oi := { dst := some 32, op := Op.fieldAddr 44 (Operand.tmp 31) 0, type := 0, pos := "ref.go:48", after := #[{ on := 4, ground := Ground.data }], guard := none }) (v := ?_) rfl (by kernel_rfl) (by kernel_rfl) (by kernel_rfl) (by rfl) ?_ ?_; rotate_left; focus ((intro W hW; go_simp) <;> with_reducible rfl)
      simp only [Act.put, List.setIfInBounds_toArray, List.set_cons_zero, List.set_cons_succ]
      refine grow_take (i := 6) (oi := { dst := some 33, op := Op.load 3 (Operand.tmp 32), type := 3, pos := "ref.go:48", after := #[{ on := 5, ground := Ground.data }], guard := none }) (v := ?_) rfl (by kernel_rfl) (by kernel_rfl) (by kernel_rfl) (by rfl) ?_ ?_; rotate_left; focus ((intro W hW; have fct := F.out W hW; go_simp) <;> with_reducible rfl)
      simp only [Act.put, List.setIfInBounds_toArray, List.set_cons_zero, List.set_cons_succ]
      refine grow_next (i := 3) (oi := { dst := some 30, op := Op.call { callee := Callee.value (Operand.func 57), args := #[Operand.tmp 27, Operand.tmp 29], argTypes := #[29, 3] }, type := 29, pos := "ref.go:48", after := #[{ on := 0, ground := Ground.data }, { on := 2, ground := Ground.data }], guard := none }) (by kernel_rfl) rfl (by rfl) (fun K hK => ?_)
      go_simp
      with_reducible refine C1.out.mono ?_
      rintro x w7 ⟨u7, rfl, o7, c7, a7⟩
      refine hK _ _ (c7.mono fun _ _ h => .inl h) ?_
      clear hK K
      try simp only [Act.put, List.setIfInBounds_toArray, List.set_cons_zero, List.set_cons_succ]
      have h7 := H.out.drew.then_ o7 c7 a7
      have C2 := Lib.hid (rput w7 base _ _ h7.own (by have := h7.chg.size; omega) (by rw [List.length_append, List.length_append]; have := HB.out; have := putB_len (e.n 18); omega) (e.n 19))
      unfold Puts at C2
      refine grow_next (i := 7) (oi := { dst := some 34, op := Op.call { callee := Callee.value (Operand.func 57), args := #[Operand.tmp 30, Operand.tmp 33], argTypes := #[29, 3] }, type := 29, pos := "ref.go:48", after := #[{ on := 3, ground := Ground.data }, { on := 6, ground := Ground.data }, { on := 3, ground := Ground.chain }], guard := none }) (by kernel_rfl) rfl (by rfl) (fun K hK => ?_)
      go_simp
      with_reducible refine C2.out.mono ?_
      rintro x w8 ⟨u8, rfl, o8, c8, a8⟩
      refine hK _ _ (c8.mono fun k _ h => a7 k h) ?_
      clear hK K
      try simp only [Act.put, List.setIfInBounds_toArray, List.set_cons_zero, List.set_cons_succ]
      have h8 := h7.then_ o8 c8 a8
      refine grow_take (i := 8) (oi := { dst := some 0, op := Op.assign (Operand.tmp 34), type := 29, pos := "ref.go:48", after := #[{ on := 7, ground := Ground.data }, { on := 7, ground := Ground.chain }, { on := 0, ground := Ground.phase }, { on := 1, ground := Ground.phase }, { on := 2, ground := Ground.phase }, { on := 3, ground := Ground.phase }, { on := 4, ground := Ground.phase }, { on := 5, ground := Ground.phase }, { on := 6, ground := Ground.phase }, { on := 7, ground := Ground.phase }], guard := none }) (v := ?_) rfl (by kernel_rfl) (by kernel_rfl) (by kernel_rfl) (by rfl) ?_ ?_; rotate_left; focus ((intro W hW; go_simp) <;> with_reducible rfl)
      simp only [Act.put, List.setIfInBounds_toArray, List.set_cons_zero, List.set_cons_succ]
      refine grow_done (by kernel_rfl) ?_ _
      have H8 : PutAt wA base v l (putAll (e.items.take 20)) w8 u8 := by
        have e1 : putAll (e.items.take 19) = _ := put_one (e := e) (i := 18) rfl
        have e2 : putAll (e.items.take 20) = _ := put_one (e := e) (i := 19) rfl
        rw [e2, e1]
        exact h8
      have HP := Lib.hid H8
      have HGB8 := Lib.hid (HI2.out.chg H8.chg (fun e => by have := HVL.out g e; omega))
      have b20 := HGB8.out.cell 20
      have b21 := HGB8.out.cell 21
      have b22 := HGB8.out.cell 22
      have b23 := HGB8.out.cell 23
      have hg8 := HGB8.out.lt
      have hsz8 := H8.chg.size
      simp only [List.getElem?_toArray, Ev.cs, List.getElem?_cons_zero, List.getElem?_cons_succ] at b20 b21 b22 b23
      have a9 := (Chg.refl (fun _ => False) w8).alloc (.cells (texts e).toArray 9)
      have hps : PutAt wA base v l (putAll (e.items.take 20)) (w8.alloc (.cells (texts e).toArray 9)) u8 := ⟨own_chg H8.own a9 fun _ _ => id, H8.chg.trans a9 fun _ _ => False.elim, H8.at_⟩
      have hBS := Blk.new w8 9 (texts e).toArray
      have HPS := Lib.hid (And.intro hps hBS)
      unfold texts at HPS
      have hu8 := H8.own
      clear H8 h8 h7 c7 c8 a7 a8 o7 o8 C1 C2 F hpre a9 hps hBS hu8 H HGB
      go_wp2_with fail
      go_loopw [0, 49] (fun bv iv wr => ∃ (i : Nat) (u : Value), i ≤ 4 ∧ bv = u ∧ iv = .int .i64 i ∧ PutAt wA base v l (putAll (e.items.take (20 + i))) wr u ∧ Blk wr w8.heap.size 9 (texts e).toArray) (fun _ iv _ => 4 - (intOf iv).toNat)
      case atStart => exact ⟨0, u8, by omega, rfl, by go_num, HPS.out⟩
      case round =>
        obtain ⟨i, u, hi, rfl, rfl, hp, hB⟩ := hrel
        by_cases hlt : i < 4
        · have hli : (i : Int) < 4 := by omega
          have hcell := hB.cell i
          rw [(texts_at e hlt).1] at hcell
          have hpre := put_pre e (20 + i)
          have HIT := Lib.hid (put_one (texts_at e hlt).2)
          have hsr := hp.chg.size
          have C := Lib.hid (rtext2 wr base _ _ hp.own (by omega) (by rw [List.length_append]; have := HB.out; omega) (e.t (20 + i)) (by have := HS.out (20 + i); omega))
          have H := Lib.hid (And.intro hp hB)
          have hw : IntKind.i64.wrap ((i : Int) + 1) = (i : Int) + 1 := IntWalk.i64_in _ (by omega)
          have hbl := hB.lt
          unfold Puts at C
          clear hp hB hpre
          go_wp2_with fail
          with_reducible refine C.out.mono ?_
          rintro x w9 ⟨u9, rfl, o9, c9, a9⟩
          have hn9 : ¬ (u0.ownBlock = some w8.heap.size) := own_ne H.out.1.own H.out.2 (by decide)
          have HE := Lib.hid (And.intro (H.out.1.then_ o9 c9 a9) (H.out.2.chg c9 hn9))
          clear o9 c9 a9 C hn9
          go_wp2_with fail
          go_roundw
          case rel => exact ⟨i + 1, _, by omega, rfl, by go_num, by rw [show 20 + (i + 1) = 20 + i + 1 by omega, HIT.out]; exact HE.out.1, HE.out.2⟩
          case measure => simp [intOf]; omega
        · have H := Lib.hid (show PutAt wA base v l (putAll (e.items.take 24)) wr u0 from by rw [show i = 4 by omega] at hp; exact hp)
          have hgi : ¬ ((i : Int) < 4) := by omega
          have HGB := Lib.hid (HI2.out.chg hp.chg (fun e => by have := HVL.out g e; omega))
          clear hp hi hlt hB
          generalize wr = wv at *
          have hpre := put_pre e 24
          have hfar : ∀ (W : World), Chg (fun k => u0.ownBlock = some k ∨ wv.heap.size ≤ k) wv.drew W → Blk W g 48 e.cs.toArray := fun W hW => (HGB.out.drew).chg hW (by
            have := HGB.out.lt
            rintro (h | h)
            · rcases H.out.at_ g h with h | h
              · have := HVL.out g h; omega
              · omega
            · omega)
          have F := Lib.hid (fun W (hW : Chg (fun k => u0.ownBlock = some k ∨ wv.heap.size ≤ k) wv.drew W) => (⟨(hfar W hW).cell 24, (hfar W hW).cell 25, (hfar W hW).cell 26⟩ : W.cell? ⟨g, 24, none⟩ = some (.int .i64 (e.n 24)) ∧ W.cell? ⟨g, 25, none⟩ = some (.int .i64 (e.n 25)) ∧ W.cell? ⟨g, 26, none⟩ = some (.string (e.t 26))))
          have C1 := Lib.hid (rput wv.drew base _ _ H.out.drew.own (by have := H.out.chg.size; show base ≤ wv.heap.size; omega) (by rw [List.length_append]; have := HB.out; omega) (e.n 24))
          unfold Puts at C1
          clear hfar
          go_wp2_with fail
          refine grow_start (fun k => u0.ownBlock = some k ∨ wv.heap.size ≤ k) (by kernel_rfl) ?_
          refine grow_take (i := 0) (oi := { dst := some 57, op := Op.move (Operand.tmp 0), type := 29, pos := "ref.go:52", after := #[], guard := none }) (v := ?_) rfl (by kernel_rfl) (by kernel_rfl) (by kernel_rfl) (by rfl) ?_ ?_; rotate_left; focus ((intro W hW; go_simp) <;> with_reducible rfl)
          simp only [Act.put, List.setIfInBounds_toArray, List.set_cons_zero, List.set_cons_succ]
          refine grow_take (i := 1) (oi := { dst := some 58, op := Op.fieldAddr 48 (Operand.tmp 3) 4, type := 0, pos := "ref.go:52", after := #[], guard := none }) (v := ?_) rfl (by kernel_rfl) (by kernel_rfl) (by kernel_rfl) (by rfl) ?_ ?_; rotate_left; focus ((intro W hW; go_simp) <;> with_reducible rfl)
          simp only [Act.put, List.setIfInBounds_toArray, List.set_cons_zero, List.set_cons_succ]
          refine grow_take (i := 2) (oi := { dst := some 59, op := Op.fieldAddr 46 (Operand.tmp 58) 0, type := 0, pos := "ref.go:52", after := #[{ on := 1, ground := Ground.data }], guard := none }) (v := ?_) rfl (by kernel_rfl) (by kernel_rfl) (by kernel_rfl) (by rfl) ?_ ?_; rotate_left; focus ((intro W hW; go_simp) <;> with_reducible rfl)
          simp only [Act.put, List.setIfInBounds_toArray, List.set_cons_zero, List.set_cons_succ]
          refine grow_take (i := 3) (oi := { dst := some 60, op := Op.load 3 (Operand.tmp 59), type := 3, pos := "ref.go:52", after := #[{ on := 2, ground := Ground.data }], guard := none }) (v := ?_) rfl (by kernel_rfl) (by kernel_rfl) (by kernel_rfl) (by rfl) ?_ ?_; rotate_left; focus ((intro W hW; have fct := F.out W hW; go_simp) <;> with_reducible rfl)
          simp only [Act.put, List.setIfInBounds_toArray, List.set_cons_zero, List.set_cons_succ]
          refine grow_take (i := 5) (oi := { dst := some 62, op := Op.fieldAddr 48 (Operand.tmp 3) 4, type := 0, pos := "ref.go:52", after := #[], guard := none }) (v := ?_) rfl (by kernel_rfl) (by kernel_rfl) (by kernel_rfl) (by rfl) ?_ ?_; rotate_left; focus ((intro W hW; go_simp) <;> with_reducible rfl)
          simp only [Act.put, List.setIfInBounds_toArray, List.set_cons_zero, List.set_cons_succ]
          refine grow_take (i := 6) (oi := { dst := some 63, op := Op.fieldAddr 46 (Operand.tmp 62) 1, type := 0, pos := "ref.go:52", after := #[{ on := 5, ground := Ground.data }], guard := none }) (v := ?_) rfl (by kernel_rfl) (by kernel_rfl) (by kernel_rfl) (by rfl) ?_ ?_; rotate_left; focus ((intro W hW; go_simp) <;> with_reducible rfl)
          simp only [Act.put, List.setIfInBounds_toArray, List.set_cons_zero, List.set_cons_succ]
          refine grow_take (i := 7) (oi := { dst := some 64, op := Op.load 3 (Operand.tmp 63), type := 3, pos := "ref.go:52", after := #[{ on := 6, ground := Ground.data }], guard := none }) (v := ?_) rfl (by kernel_rfl) (by kernel_rfl) (by kernel_rfl) (by rfl) ?_ ?_; rotate_left; focus ((intro W hW; have fct := F.out W hW; go_simp) <;> with_reducible rfl)
          simp only [Act.put, List.setIfInBounds_toArray, List.set_cons_zero, List.set_cons_succ]
          refine grow_take (i := 9) (oi := { dst := some 66, op := Op.fieldAddr 48 (Operand.tmp 3) 4, type := 0, pos := "ref.go:52", after := #[], guard := none }) (v := ?_) rfl (by kernel_rfl) (by kernel_rfl) (by kernel_rfl) (by rfl) ?_ ?_; rotate_left; focus ((intro W hW; go_simp) <;> with_reducible rfl)
          simp only [Act.put, List.setIfInBounds_toArray, List.set_cons_zero, List.set_cons_succ]
          refine grow_take (i := 10) (oi := { dst := some 67, op := Op.fieldAddr 46 (Operand.tmp 66) 2, type := 0, pos := "ref.go:52", after := #[{ on := 9, ground := Ground.data }], guard := none }) (v := ?_) rfl (by kernel_rfl) (by kernel_rfl) (by kernel_rfl) (by rfl) ?_ ?_; rotate_left; focus ((intro W hW; go_simp) <;> with_reducible rfl)
          simp only [Act.put, List.setIfInBounds_toArray, List.set_cons_zero, List.set_cons_succ]
          refine grow_take (i := 11) (oi := { dst := some 68, op := Op.load 9 (Operand.tmp 67), type := 9, pos := "ref.go:52", after := #[{ on := 10, ground := Ground.data }], guard := none }) (v := ?_) rfl (by kernel_rfl) (by kernel_rfl) (by kernel_rfl) (by rfl) ?_ ?_; rotate_left; focus ((intro W hW; have fct := F.out W hW; go_simp) <;> with_reducible rfl)
          simp only [Act.put, List.setIfInBounds_toArray, List.set_cons_zero, List.set_cons_succ]
          refine grow_next (i := 4) (oi := { dst := some 61, op := Op.call { callee := Callee.value (Operand.func 57), args := #[Operand.tmp 57, Operand.tmp 60], argTypes := #[29, 3] }, type := 29, pos := "ref.go:52", after := #[{ on := 0, ground := Ground.data }, { on := 3, ground := Ground.data }], guard := none }) (by kernel_rfl) rfl (by rfl) (fun K hK => ?_)
          go_simp
          with_reducible refine C1.out.mono ?_
          rintro x w10 ⟨u10, rfl, o10, c10, a10⟩
          refine hK _ _ (c10.mono fun _ _ h => .inl h) ?_
          clear hK K
          try simp only [Act.put, List.setIfInBounds_toArray, List.set_cons_zero, List.set_cons_succ]
          have h10 := H.out.drew.then_ o10 c10 a10
          have C2 := Lib.hid (rsigned2 w10 base _ _ h10.own (by have := h10.chg.size; omega) (by rw [List.length_append, List.length_append]; have := HB.out; have := putB_len (e.n 24); omega) (e.n 25))
          unfold Puts at C2
          refine grow_next (i := 8) (oi := { dst := some 65, op := Op.call { callee := Callee.value (Operand.func 74), args := #[Operand.tmp 61, Operand.tmp 64], argTypes := #[29, 3] }, type := 29, pos := "ref.go:52", after := #[{ on := 4, ground := Ground.data }, { on := 7, ground := Ground.data }, { on := 4, ground := Ground.chain }], guard := none }) (by kernel_rfl) rfl (by rfl) (fun K hK => ?_)
          go_simp
          with_reducible refine C2.out.mono ?_
          rintro x w11 ⟨u11, rfl, o11, c11, a11⟩
          refine hK _ _ (c11.mono fun k _ h => a10 k h) ?_
          clear hK K
          try simp only [Act.put, List.setIfInBounds_toArray, List.set_cons_zero, List.set_cons_succ]
          have h11 := h10.then_ o11 c11 a11
          have C3 := Lib.hid (rtext2 w11 base _ _ h11.own (by have := h11.chg.size; omega) (by rw [List.length_append, List.length_append, List.length_append]; have := HB.out; have := putB_len (e.n 24); have := signedB_len (e.n 25); omega) (e.t 26) (by have := HS.out 26; omega))
          unfold Puts at C3
          have ha11 := at_trans a10 a11 c10.size
          refine grow_next (i := 12) (oi := { dst := some 69, op := Op.call { callee := Callee.value (Operand.func 73), args := #[Operand.tmp 65, Operand.tmp 68], argTypes := #[29, 9] }, type := 29, pos := "ref.go:52", after := #[{ on := 8, ground := Ground.data }, { on := 11, ground := Ground.data }, { on := 8, ground := Ground.chain }], guard := none }) (by kernel_rfl) rfl (by rfl) (fun K hK => ?_)
          go_simp
          with_reducible refine C3.out.mono ?_
          rintro x w12 ⟨u12, rfl, o12, c12, a12⟩
          refine hK _ _ (c12.mono fun k _ h => ha11 k h) ?_
          clear hK K
          try simp only [Act.put, List.setIfInBounds_toArray, List.set_cons_zero, List.set_cons_succ]
          have h12 := h11.then_ o12 c12 a12
          refine grow_take (i := 13) (oi := { dst := some 4, op := Op.assign (Operand.tmp 69), type := 29, pos := "ref.go:52", after := #[{ on := 12, ground := Ground.data }, { on := 12, ground := Ground.chain }, { on := 0, ground := Ground.phase }, { on := 1, ground := Ground.phase }, { on := 2, ground := Ground.phase }, { on := 3, ground := Ground.phase }, { on := 4, ground := Ground.phase }, { on := 5, ground := Ground.phase }, { on := 6, ground := Ground.phase }, { on := 7, ground := Ground.phase }, { on := 8, ground := Ground.phase }, { on := 9, ground := Ground.phase }, { on := 10, ground := Ground.phase }, { on := 11, ground := Ground.phase }, { on := 12, ground := Ground.phase }], guard := none }) (v := ?_) rfl (by kernel_rfl) (by kernel_rfl) (by kernel_rfl) (by rfl) ?_ ?_; rotate_left; focus ((intro W hW; go_simp) <;> with_reducible rfl)
          simp only [Act.put, List.setIfInBounds_toArray, List.set_cons_zero, List.set_cons_succ]
          refine grow_done (by kernel_rfl) ?_ _
          have hall : putAll (e.items.take 24) ++ putB (e.n 24) ++ signedB (e.n 25) ++ textB (e.t 26).data.toList = e.bytes := by
            have e1 : putAll (e.items.take 25) = _ := put_one (e := e) (i := 24) rfl
            have e2 : putAll (e.items.take 26) = _ := put_one (e := e) (i := 25) rfl
            have e3 : putAll (e.items.take 27) = _ := put_one (e := e) (i := 26) rfl
            unfold Ev.bytes
            rw [show e.items = e.items.take 27 from rfl, e3, e2, e1]
            rfl
          rw [hall] at h12
          have HE := Lib.hid (And.intro h12.own (And.intro ((HN.out.mono (S' := fun k => v.ownBlock = some k) fun _ _ => False.elim).trans h12.chg fun _ _ e => e) (fun k hk => (h12.at_ k hk).imp id fun h => (by omega : w.heap.size ≤ k))))
          clear h12 h11 h10 c10 c11 c12 a10 a11 a12 o10 o11 o12 C1 C2 C3 F ha11 hall
          go_wp2_with fail
          go_ret
          exact ⟨_, rfl, HE.out⟩
end Evt
end Go.Proofs.YtkmkpdmjdfbpjaaGreatDoor

/- The document's reference: which messages may be (no condition beyond the sizes). -/
namespace Go.Proofs.YtkmkpdmjdfbpjaaGreatDoor
set_option linter.unusedSimpArgs false
set_option linter.unusedVariables false
open Go.ChangeShapes Go.WideShapes Go.RowKit Go.Deep
namespace Msg
open Val (JoinC)
open Num Evt Vec
attribute [local go_sem ↓] loadRow0 storeRow0
attribute [local go_sem ↓] Evt.loadDot Evt.loadVec Evt.loadRow0 Evt.storeRow0 Evt.loadOnly0 Evt.loadOnly1 Evt.loadOnly2
theorem right_dot {e : Ev} (h : rightE e = true) : 0 ≤ e.n 0 ∧ e.n 0 < 16 ∧ 1 ≤ e.n 1 ∧ e.n 1 ≤ 1048576 := by
  unfold rightE nextF at h
  simp only [Bool.and_eq_true] at h
  exact dotF_true.1 h.1.1.1
theorem odd_no {m : Ms} {e : Ev} (h : rightE e = false) : oddB m e = true := by unfold oddB; rw [h]; rfl
theorem odd_yes {m : Ms} {e : Ev} (h : rightE e = true) {i : Nat} (hi : e.n 0 = i) : oddB m e = decide ((known m).getD i 0 < e.n 1) := by
  have hd := right_dot h
  unfold oddB knowsF
  rw [h, dotF_true.2 hd, hi]
  by_cases hq : (known m).getD i 0 < e.n 1
  · have : ¬ e.n 1 ≤ (known m).getD i 0 := by omega
    simp only [Bool.not_true, Bool.false_or, Bool.true_and, Int.toNat_natCast, this, hq, decide_true, decide_false, Bool.not_false]
  · have : e.n 1 ≤ (known m).getD i 0 := by omega
    simp only [Bool.not_true, Bool.false_or, Bool.true_and, Int.toNat_natCast, this, hq, decide_true, decide_false]
theorem known_at (m : Ms) (v : Value) {i : Nat} (h : i < 16) : (m.cs v)[3 + i]? = some (.int .i64 ((known m).getD i 0)) := by
  rcases (show i = 0 ∨ i = 1 ∨ i = 2 ∨ i = 3 ∨ i = 4 ∨ i = 5 ∨ i = 6 ∨ i = 7 ∨ i = 8 ∨ i = 9 ∨ i = 10 ∨ i = 11 ∨ i = 12 ∨ i = 13 ∨ i = 14 ∨ i = 15 by omega) with rfl | rfl | rfl | rfl | rfl | rfl | rfl | rfl | rfl | rfl | rfl | rfl | rfl | rfl | rfl | rfl <;> rfl
set_option maxHeartbeats 20000000 in
set_option maxRecDepth 20000 in
theorem rright (w : World) (F : Nat → Prop) (m : Ms) (v : Value) (hv : RowE w F v m.es) (hs : ∀ e ∈ m.es, Small e) (hl : m.es.length ≤ 1000000) :
    Calls Tryz.prog 10 #[m.val v] w fun x w' => x = .returned (.bool (rightM m)) ∧ New w w' := by
  have n1 := (Chg.refl (fun _ => False) w).alloc (.cells (m.cs v).toArray 26)
  have B1 := Blk.new w 26 (m.cs v).toArray
  obtain ⟨_, lk, c0, c1, c2, c19⟩ := blk_ms B1
  have g1 := B1.lt
  have HV := Lib.hid (hv.new n1)
  have HS := Lib.hid hs
  have HB := Lib.hid B1
  have N1 := Lib.hid n1
  obtain ⟨n, hn⟩ : ∃ n, m.es.length = n := ⟨_, rfl⟩
  have HN := Lib.hid hn
  obtain ⟨A, c, hvv, _⟩ := hv
  rw [hn] at hvv hl
  subst hvv
  obtain ⟨X, hX⟩ : ∃ X, m.knownV = .agg X := ⟨_, rfl⟩
  rw [hX] at lk
  have HX := Lib.hid hX
  have hr : rightM m = (endsB (m.n 1) (m.n 2) && rightF (known m) && decide ((n : Int) ≤ mostB (m.n 0)) && !(m.es.any (oddB m))) := by unfold rightM; rw [hn]
  obtain ⟨r, hre⟩ : ∃ r, rightM m = r := ⟨_, rfl⟩
  rw [hre] at hr ⊢
  have HR := Lib.hid hr
  clear n1 B1 hs hn hre hr hX
  have bad : endsB (m.n 1) (m.n 2) = false → r = false := fun h => by rw [HR.out, h]; rfl
  by_cases hk : m.n 0 = 1 ∨ m.n 0 = 2
  · rcases hk with h | h
    · rw [h] at c0
      have hmb : mostB (m.n 0) = 0 := by rw [h]; rfl
      by_cases f0 : 0 ≤ m.n 1
      · by_cases f1 : m.n 1 ≤ 15
        · by_cases t0 : 0 ≤ m.n 2
          · by_cases t1 : m.n 2 ≤ 15
            · by_cases ft : m.n 1 = m.n 2
              · have HF := Lib.hid (bad (by unfold endsB; simp [ft]))
                have hb : (m.n 1 == m.n 2) = true := by simpa using ft
                clear bad
                go_enter Tryz.func10, Tryz.ntmps10
                go_wp2_with fail
                go_ret
                exact ⟨by rw [HF.out] <;> first | rfl | simp [*], N1.out⟩
              · have HEN := Lib.hid (show endsB (m.n 1) (m.n 2) = true by unfold endsB; simp [ft]; omega)
                have hb : (m.n 1 == m.n 2) = false := by simpa using ft
                have HR := Lib.hid (show r = (endsB (m.n 1) (m.n 2) && rightF (known m) && decide ((n : Int) ≤ 0) && !(m.es.any (oddB m))) by rw [HR.out, hmb])
                clear bad ft hmb
                go_enter Tryz.func10, Tryz.ntmps10
                go_wp2_with fail
                go_loopw [44] (fun iv wr => ∃ k : Nat, k ≤ 16 ∧ iv = .int .i64 k ∧ Hid (rightF (known m) = rightF ((known m).drop k)) ∧ wr = w.alloc (.cells (m.cs (.slice A n c)).toArray 26)) (fun iv _ => 16 - (intOf iv).toNat)
                case atStart => exact ⟨0, by omega, rfl, rfl, rfl⟩
                case round =>
                  obtain ⟨k, hk, rfl, hs, rfl⟩ := hrel
                  by_cases hlt : k < 16
                  · have hix : ∀ W, (Instr.index 23 (.agg X) (.int .i64 (k : Int))).run Tryz.prog W = .ok (.int .i64 ((known m).getD k 0)) W := fun W => by
                      rw [← HX.out]
                      exact ixV (xs := known m) rfl hlt W
                    have hdc := drop_cons (show k < (known m).length from hlt)
                    rw [hdc] at hs
                    have hki : (k : Int) < 16 := by omega
                    obtain ⟨x, hx⟩ : ∃ x, (known m).getD k 0 = x := ⟨_, rfl⟩
                    rw [hx] at hs
                    simp only [hx] at hix
                    clear hdc hx
                    by_cases h5 : x < 0
                    · have hf : rightF (x :: (known m).drop (k + 1)) = false := by
                        have : decide (0 ≤ x) = false := by simp; omega
                        simp [rightF, this]
                      have HF := Lib.hid (show r = false by rw [HR.out, hs.out, hf]; simp)
                      clear hf
                      go_wp2_with fail
                      go_ret
                      exact ⟨by rw [HF.out] <;> rfl, N1.out⟩
                    · by_cases h6 : 1048576 < x
                      · have hf : rightF (x :: (known m).drop (k + 1)) = false := by
                          have : decide (x ≤ 1048576) = false := by simp; omega
                          simp [rightF, this]
                        have HF := Lib.hid (show r = false by rw [HR.out, hs.out, hf]; simp)
                        clear hf
                        go_wp2_with fail
                        go_ret
                        exact ⟨by rw [HF.out] <;> rfl, N1.out⟩
                      · have hf : rightF (x :: (known m).drop (k + 1)) = rightF ((known m).drop (k + 1)) := by
                          have h7 : decide (0 ≤ x) = true := by simp; omega
                          have h8 : decide (x ≤ 1048576) = true := by simp; omega
                          simp [rightF, h7, h8]
                        have HF := Lib.hid (hs.out.trans hf)
                        have hw2 : IntKind.i64.wrap ((k : Int) + 1) = (k : Int) + 1 := IntWalk.i64_in _ (by omega)
                        clear hf hs
                        go_wp2_with fail
                        go_roundw
                        case rel => exact ⟨k + 1, by omega, by go_num, HF, by first | rfl | exact True.intro⟩
                        case measure => simp [intOf]; omega
                  · have hf : rightF (known m) = true := by
                      rw [hs.out, show k = 16 by omega]
                      rfl
                    have hgi : ¬ ((k : Int) < 16) := by omega
                    have HR := Lib.hid (show r = (decide ((n : Int) ≤ 0) && !(m.es.any (oddB m))) by rw [HR.out, hf, HEN.out]; rfl)
                    clear hs hf hk hlt
                    by_cases hln : (n : Int) ≤ 0
                    · have HR := Lib.hid (show r = !(m.es.any (oddB m)) by rw [HR.out, decide_eq_true hln, Bool.true_and])
                      have hn1 : ¬ ((0 : Int) < (n : Int)) := by omega
                      have hn2 : ¬ ((200 : Int) < (n : Int)) := by omega
                      have hn0 : n = 0 := by omega
                      subst hn0
                      have HT := Lib.hid (show r = true by rw [HR.out, List.eq_nil_of_length_eq_zero HN.out]; rfl)
                      clear hn1 hn2 hln
                      go_wp2_with fail
                      go_loopw [72] (fun iv wr => iv = .int .i64 0 ∧ wr = w.alloc (.cells (m.cs (.slice A 0 c)).toArray 26)) (fun _ _ => 0)
                      case atStart => exact ⟨by go_num, rfl⟩
                      case round =>
                        obtain ⟨rfl, rfl⟩ := hrel
                        go_wp2_with fail
                        go_ret
                        exact ⟨by rw [HT.out] <;> rfl, N1.out⟩
                    · have HF := Lib.hid (show r = false by rw [HR.out, decide_eq_false hln, Bool.false_and])
                      have hn3 : (0 : Int) < (n : Int) := by omega
                      have hn4 : 0 < (n : Int) := by omega
                      go_wp2_with fail
                      go_ret
                      exact ⟨by rw [HF.out] <;> rfl, N1.out⟩
            · have HF := Lib.hid (bad (by unfold endsB; simp; omega))
              clear bad
              go_enter Tryz.func10, Tryz.ntmps10
              go_wp2_with fail
              go_ret
              exact ⟨by rw [HF.out] <;> first | rfl | simp [*], N1.out⟩
          · have HF := Lib.hid (bad (by unfold endsB; simp; omega))
            clear bad
            go_enter Tryz.func10, Tryz.ntmps10
            go_wp2_with fail
            go_ret
            exact ⟨by rw [HF.out] <;> first | rfl | simp [*], N1.out⟩
        · have HF := Lib.hid (bad (by unfold endsB; simp; omega))
          clear bad
          go_enter Tryz.func10, Tryz.ntmps10
          go_wp2_with fail
          go_ret
          exact ⟨by rw [HF.out] <;> first | rfl | simp [*], N1.out⟩
      · have HF := Lib.hid (bad (by unfold endsB; simp; omega))
        clear bad
        go_enter Tryz.func10, Tryz.ntmps10
        go_wp2_with fail
        go_ret
        exact ⟨by rw [HF.out] <;> first | rfl | simp [*], N1.out⟩
    · rw [h] at c0
      have hmb : mostB (m.n 0) = 200 := by rw [h]; rfl
      by_cases f0 : 0 ≤ m.n 1
      · by_cases f1 : m.n 1 ≤ 15
        · by_cases t0 : 0 ≤ m.n 2
          · by_cases t1 : m.n 2 ≤ 15
            · by_cases ft : m.n 1 = m.n 2
              · have HF := Lib.hid (bad (by unfold endsB; simp [ft]))
                have hb : (m.n 1 == m.n 2) = true := by simpa using ft
                clear bad
                go_enter Tryz.func10, Tryz.ntmps10
                go_wp2_with fail
                go_ret
                exact ⟨by rw [HF.out] <;> first | rfl | simp [*], N1.out⟩
              · have HEN := Lib.hid (show endsB (m.n 1) (m.n 2) = true by unfold endsB; simp [ft]; omega)
                have hb : (m.n 1 == m.n 2) = false := by simpa using ft
                have HR := Lib.hid (show r = (endsB (m.n 1) (m.n 2) && rightF (known m) && decide ((n : Int) ≤ 200) && !(m.es.any (oddB m))) by rw [HR.out, hmb])
                clear bad ft hmb
                go_enter Tryz.func10, Tryz.ntmps10
                go_wp2_with fail
                go_loopw [44] (fun iv wr => ∃ k : Nat, k ≤ 16 ∧ iv = .int .i64 k ∧ Hid (rightF (known m) = rightF ((known m).drop k)) ∧ wr = w.alloc (.cells (m.cs (.slice A n c)).toArray 26)) (fun iv _ => 16 - (intOf iv).toNat)
                case atStart => exact ⟨0, by omega, rfl, rfl, rfl⟩
                case round =>
                  obtain ⟨k, hk, rfl, hs, rfl⟩ := hrel
                  by_cases hlt : k < 16
                  · have hix : ∀ W, (Instr.index 23 (.agg X) (.int .i64 (k : Int))).run Tryz.prog W = .ok (.int .i64 ((known m).getD k 0)) W := fun W => by
                      rw [← HX.out]
                      exact ixV (xs := known m) rfl hlt W
                    have hdc := drop_cons (show k < (known m).length from hlt)
                    rw [hdc] at hs
                    have hki : (k : Int) < 16 := by omega
                    obtain ⟨x, hx⟩ : ∃ x, (known m).getD k 0 = x := ⟨_, rfl⟩
                    rw [hx] at hs
                    simp only [hx] at hix
                    clear hdc hx
                    by_cases h5 : x < 0
                    · have hf : rightF (x :: (known m).drop (k + 1)) = false := by
                        have : decide (0 ≤ x) = false := by simp; omega
                        simp [rightF, this]
                      have HF := Lib.hid (show r = false by rw [HR.out, hs.out, hf]; simp)
                      clear hf
                      go_wp2_with fail
                      go_ret
                      exact ⟨by rw [HF.out] <;> rfl, N1.out⟩
                    · by_cases h6 : 1048576 < x
                      · have hf : rightF (x :: (known m).drop (k + 1)) = false := by
                          have : decide (x ≤ 1048576) = false := by simp; omega
                          simp [rightF, this]
                        have HF := Lib.hid (show r = false by rw [HR.out, hs.out, hf]; simp)
                        clear hf
                        go_wp2_with fail
                        go_ret
                        exact ⟨by rw [HF.out] <;> rfl, N1.out⟩
                      · have hf : rightF (x :: (known m).drop (k + 1)) = rightF ((known m).drop (k + 1)) := by
                          have h7 : decide (0 ≤ x) = true := by simp; omega
                          have h8 : decide (x ≤ 1048576) = true := by simp; omega
                          simp [rightF, h7, h8]
                        have HF := Lib.hid (hs.out.trans hf)
                        have hw2 : IntKind.i64.wrap ((k : Int) + 1) = (k : Int) + 1 := IntWalk.i64_in _ (by omega)
                        clear hf hs
                        go_wp2_with fail
                        go_roundw
                        case rel => exact ⟨k + 1, by omega, by go_num, HF, by first | rfl | exact True.intro⟩
                        case measure => simp [intOf]; omega
                  · have hf : rightF (known m) = true := by
                      rw [hs.out, show k = 16 by omega]
                      rfl
                    have hgi : ¬ ((k : Int) < 16) := by omega
                    have HR := Lib.hid (show r = (decide ((n : Int) ≤ 200) && !(m.es.any (oddB m))) by rw [HR.out, hf, HEN.out]; rfl)
                    clear hs hf hk hlt
                    by_cases hln : (n : Int) ≤ 200
                    · have HR := Lib.hid (show r = !(m.es.any (oddB m)) by rw [HR.out, decide_eq_true hln, Bool.true_and])
                      have hn1 : ¬ ((200 : Int) < (n : Int)) := by omega
                      have hn2 : ¬ ((200 : Int) < (n : Int)) := by omega
                      go_wp2_with fail
                      go_loopw [72] (fun iv wr => ∃ i : Nat, i ≤ n ∧ iv = .int .i64 i ∧ m.es.any (oddB m) = (m.es.drop i).any (oddB m) ∧ New (w.alloc (.cells (m.cs (.slice A n c)).toArray 26)) wr) (fun iv _ => n - (intOf iv).toNat)
                      case atStart => exact ⟨0, by omega, by go_num, rfl, Chg.refl _ _⟩
                      case round =>
                        obtain ⟨i, hi, rfl, hrest, hnw⟩ := hrel
                        by_cases hlt : i < n
                        · have hli : (i : Int) < n := by omega
                          obtain ⟨e, he⟩ : ∃ e, m.es[i]? = some e := ⟨_, List.getElem?_eq_getElem (by rw [HN.out]; exact hlt)⟩
                          have hany : m.es.any (oddB m) = (oddB m e || (m.es.drop (i + 1)).any (oddB m)) := by rw [hrest, drop_get he]; rfl
                          have c19b := (blk_ms (HB.out.chg hnw id)).2.2.2.2.2
                          obtain ⟨A', c', hvv, hrd⟩ := HV.out.new hnw
                          injection hvv with x1 x2 x3
                          subst x1 x3
                          obtain ⟨ad, rfl, hld⟩ := ld_ev hrd he
                          have hz : ∀ W, (zeroValue 48).run Tryz.prog W = .ok (.agg zero.cs.toArray) W := fun W => by kernel_rfl
                          obtain ⟨W, hst, b3, n3, g3⟩ := new_ev wr e
                          have hw : IntKind.i64.wrap ((i : Int) + 1) = (i : Int) + 1 := IntWalk.i64_in _ (by omega)
                          have f1 := fun x : ChgW (fun _ => False) W => ldE (b3.chg x.chg id)
                          have f2 := fun x : ChgW (fun _ => False) W => (b3.chg x.chg id).cell 0
                          have f3 := fun x : ChgW (fun _ => False) W => (b3.chg x.chg id).cell 1
                          simp only [List.getElem?_toArray, Ev.cs, List.getElem?_cons_zero, List.getElem?_cons_succ] at f2 f3
                          have CR := fun W => rrightE W e (HS.out e (List.mem_of_getElem? he))
                          have HBW := HB.out.chg (hnw.trans n3 fun _ _ => id) id
                          have HNW := Lib.hid (hnw.trans n3 fun _ _ => id)
                          have gw := b3.lt
                          have gw2 := HBW.lt
                          obtain ⟨q, hq⟩ : ∃ q, rightE e = q := ⟨_, rfl⟩
                          simp only [hq] at CR
                          have CR := Lib.hid CR
                          cases q
                          · have HF := Lib.hid (show r = false by rw [HR.out, hany, odd_no hq]; rfl)
                            clear hq hrest hany he hrd n3 b3 hnw f2 f3 HBW x2
                            go_wp2_with fail
                            refine wp_region_chg (fun _ => False) (by kernel_rfl) (by kernel_rfl) ?_
                            repeat (go_big_quiet_step ((go_at_call 21; with_reducible exact calls_new (CR.out _))))
                            refine wpQuiet_nil ?_
                            rintro ⟨wq, hq⟩
                            simp only []
                            go_wp2_with fail
                            go_ret
                            exact ⟨by rw [HF.out] <;> rfl, (N1.out.trans HNW.out fun _ _ => id).trans hq fun _ _ => id⟩
                          · have hd := right_dot hq
                            obtain ⟨j, hj⟩ := Int.eq_ofNat_of_zero_le hd.1
                            have hj16 : j < 16 := by omega
                            have hjj : (j : Int) < 16 := by omega
                            have hod := odd_yes (m := m) hq hj
                            simp only [hj] at f2
                            have f4 := fun x : ChgW (fun _ => False) W => (HBW.chg x.chg id).cell (3 + j)
                            simp only [List.getElem?_toArray, known_at m _ hj16] at f4
                            obtain ⟨y, hy⟩ : ∃ y, (known m).getD j 0 = y := ⟨_, rfl⟩
                            simp only [hy] at f4
                            rw [hy] at hod
                            obtain ⟨z, hz1⟩ : ∃ z, e.n 1 = z := ⟨_, rfl⟩
                            simp only [hz1] at f3
                            rw [hz1] at hod
                            by_cases hyz : y < z
                            · have HF := Lib.hid (show r = false by rw [HR.out, hany, hod, decide_eq_true hyz]; rfl)
                              clear hq hrest hany he hrd n3 b3 hnw HBW x2 hod hd hj hy hz1
                              go_wp2_with fail
                              refine wp_region_chg (fun _ => False) (by kernel_rfl) (by kernel_rfl) ?_
                              repeat (go_big_quiet_step ((go_at_call 21; with_reducible exact calls_new (CR.out _))))
                              refine wpQuiet_nil ?_
                              rintro ⟨wq, hq⟩
                              simp only []
                              go_wp2_with fail
                              go_ret
                              exact ⟨by rw [HF.out] <;> rfl, (N1.out.trans HNW.out fun _ _ => id).trans hq fun _ _ => id⟩
                            · have HY := Lib.hid (show m.es.any (oddB m) = (m.es.drop (i + 1)).any (oddB m) by rw [hany, hod, decide_eq_false hyz, Bool.false_or])
                              clear hq hrest hany he hrd n3 b3 hnw HBW x2 hod hd hj hy hz1
                              go_wp2_with fail
                              refine wp_region_chg (fun _ => False) (by kernel_rfl) (by kernel_rfl) ?_
                              repeat (go_big_quiet_step ((go_at_call 21; with_reducible exact calls_new (CR.out _))))
                              refine wpQuiet_nil ?_
                              rintro ⟨wq, hq⟩
                              simp only []
                              have HQ := Lib.hid (HNW.out.trans hq fun _ _ => id)
                              clear hq
                              go_wp2_with fail
                              go_roundw
                              case rel => exact ⟨i + 1, by omega, by go_num, HY.out, HQ.out⟩
                              case measure => simp [intOf]; omega
                        · have hgi : ¬ ((i : Int) < n) := by omega
                          have HT := Lib.hid (show r = true by rw [HR.out, hrest, List.drop_of_length_le (by rw [HN.out]; omega)]; rfl)
                          have HQ := Lib.hid hnw
                          clear hnw hrest
                          go_wp2_with fail
                          go_ret
                          exact ⟨by rw [HT.out] <;> rfl, N1.out.trans HQ.out fun _ _ => id⟩
                    · have HF := Lib.hid (show r = false by rw [HR.out, decide_eq_false hln, Bool.false_and])
                      have hn3 : (200 : Int) < (n : Int) := by omega
                      have hn4 : 0 < (n : Int) := by omega
                      go_wp2_with fail
                      go_ret
                      exact ⟨by rw [HF.out] <;> rfl, N1.out⟩
            · have HF := Lib.hid (bad (by unfold endsB; simp; omega))
              clear bad
              go_enter Tryz.func10, Tryz.ntmps10
              go_wp2_with fail
              go_ret
              exact ⟨by rw [HF.out] <;> first | rfl | simp [*], N1.out⟩
          · have HF := Lib.hid (bad (by unfold endsB; simp; omega))
            clear bad
            go_enter Tryz.func10, Tryz.ntmps10
            go_wp2_with fail
            go_ret
            exact ⟨by rw [HF.out] <;> first | rfl | simp [*], N1.out⟩
        · have HF := Lib.hid (bad (by unfold endsB; simp; omega))
          clear bad
          go_enter Tryz.func10, Tryz.ntmps10
          go_wp2_with fail
          go_ret
          exact ⟨by rw [HF.out] <;> first | rfl | simp [*], N1.out⟩
      · have HF := Lib.hid (bad (by unfold endsB; simp; omega))
        clear bad
        go_enter Tryz.func10, Tryz.ntmps10
        go_wp2_with fail
        go_ret
        exact ⟨by rw [HF.out] <;> first | rfl | simp [*], N1.out⟩
  · have h1 : (m.n 0 != 1) = true := by simp; omega
    have h2 : (m.n 0 != 2) = true := by simp; omega
    have hf : r = false := by
      have hm : mostB (m.n 0) = -1 := by unfold mostB; rw [if_neg (by omega), if_neg (by omega)]
      have hd : decide ((n : Int) ≤ -1) = false := by simp; omega
      rw [HR.out, hm, hd]
      simp
    have HF := Lib.hid hf
    clear hf bad hk
    go_enter Tryz.func10, Tryz.ntmps10
    go_wp2_with fail
    go_ret
    exact ⟨by rw [HF.out] <;> first | rfl | simp [*], N1.out⟩
end Msg
end Go.Proofs.YtkmkpdmjdfbpjaaGreatDoor

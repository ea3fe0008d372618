/-
  Register.Put: what it computes (no condition but on the texts' size and that MaxLen holds a number).
-/
import Derived.Test.YtgnlbekagdffoaaDoorReg
namespace Go.Proofs.YtgnlbekagdffoaaDoor
set_option linter.unusedSimpArgs false
set_option linter.unusedVariables false
open Go.ChangeShapes Go.WideShapes Go.RowKit Go.Deep
namespace Lat
attribute [local go_sem ↓] loadOnly0 loadOnly1 loadOnly2
theorem blk_cell {w : World} {g : Nat} {c : Cl} (h : Blk w g 33 #[.string c.name, .int .i64 c.t, .int .i64 c.r, .int .i64 c.k, .int .i64 c.n, .string c.txt]) :
    (LoadRow 29 ⟨g, 1, none⟩).run Tryd.prog w = .ok (.agg #[.int .i64 c.t, .int .i64 c.r]) w ∧ (LoadRow 31 ⟨g, 3, none⟩).run Tryd.prog w = .ok (.agg #[.int .i64 c.k, .int .i64 c.n, .string c.txt]) w ∧
    (LoadRow 33 ⟨g, 0, none⟩).run Tryd.prog w = .ok c.val w ∧ w.cell? ⟨g, 0, none⟩ = some (.string c.name) := by
  refine ⟨?_, ?_, ?_, h.cell 0⟩
  · exact run_LoadRow (P := Tryd.prog) (n := 2) (cs := [.int .i64 c.t, .int .i64 c.r]) Tryd.underlying29 rfl (by kernel_rfl) rfl (Blk.range (cs := [_, _, _, _, _, _]) h 1 _ fun j v hj => by
      match j, hj with
      | 0, hj => simpa using hj
      | 1, hj => simpa using hj)
  · exact run_LoadRow (P := Tryd.prog) (n := 3) (cs := [.int .i64 c.k, .int .i64 c.n, .string c.txt]) Tryd.underlying31 rfl (by kernel_rfl) rfl (Blk.range (cs := [_, _, _, _, _, _]) h 3 _ fun j v hj => by
      match j, hj with
      | 0, hj => simpa using hj
      | 1, hj => simpa using hj
      | 2, hj => simpa using hj)
  · exact run_LoadRow (P := Tryd.prog) (n := 6) (cs := [.string c.name, .int .i64 c.t, .int .i64 c.r, .int .i64 c.k, .int .i64 c.n, .string c.txt]) Tryd.underlying33 rfl (by kernel_rfl) rfl (Blk.range_all (cs := [_, _, _, _, _, _]) h)
theorem noF (S : Nat → Prop) (w : World) : ∀ W, Chg S w W → True := fun _ _ => trivial
theorem drew2 {S : Nat → Prop} {a w : World} (h : Chg S a w) : Chg S a.drew w.drew := ⟨h.os, h.tape, h.output, h.size, h.block⟩
theorem chg_alloc2 (w : World) (o o' : Obj) : Chg (fun g => g = w.heap.size) (w.alloc o).drew (w.alloc o').drew := by
  refine ⟨rfl, rfl, rfl, ?_, fun k hk hn => ?_⟩
  · show (w.alloc o).heap.size ≤ (w.alloc o').heap.size
    rw [World.size_alloc, World.size_alloc]
    exact Nat.le_refl _
  · have hk : k < (w.alloc o).heap.size := hk
    rw [World.size_alloc] at hk
    have hk2 : k < w.heap.size := by
      have : k ≠ w.heap.size := hn
      omega
    show (w.alloc o').heap[k]? = (w.alloc o).heap[k]?
    rw [Below.heap_alloc w o' k hk2, Below.heap_alloc w o k hk2]
set_option maxHeartbeats 8000000 in
set_option maxRecDepth 20000 in
theorem put_ (w : World) (lo b m : Nat) (M : St) (h : At w lo b m M) (c : Cl) (hn : c.name.size ≤ 1000) (ht : c.txt.size ≤ 1000) (hb : -9223372036854775808 ≤ c.n ∧ c.n ≤ 9223372036854775807) (hm : Val.MaxAt w) :
    Calls Tryd.prog 12 #[.pointer (some ⟨b, 0, none⟩), c.val] w fun e w' => e = .returned (.tuple #[.bool (counts M c), .int .i64 (if c.right then 0 else 1)]) ∧ At w' lo b m (put M c) ∧ Chg (fun k => k = m) w w' := by
  have m1 := (Chg.refl (fun _ => False) w).alloc (.cells #[.string c.name, .int .i64 c.t, .int .i64 c.r, .int .i64 c.k, .int .i64 c.n, .string c.txt] 33)
  have CR := Lib.hid (lright _ c hn ht hb (hm.new m1))
  have hB1 := Blk.new w 33 #[.string c.name, .int .i64 c.t, .int .i64 c.r, .int .i64 c.k, .int .i64 c.n, .string c.txt]
  have hl1 := (blk_cell hB1).2.2.1
  have H1 := Lib.hid (And.intro (h.new m1) (And.intro hB1 m1))
  have hbw := h.blk.lt
  have hmw : m < w.heap.size := by obtain ⟨ks, h1, _⟩ := h.map; exact h1.lt
  have hbi := Lib.hid (And.intro hbw hmw)
  clear h m1 hB1 hm hn ht hb
  obtain ⟨R, hR⟩ : ∃ R, c.right = R := ⟨_, rfl⟩
  rw [hR] at CR ⊢
  have HR := Lib.hid hR
  clear hR
  go_enter Tryd.func12, Tryd.ntmps12
  unfold Cl.val at CR hl1 ⊢
  go_wp2_with fail
  refine CR.out.mono ?_
  rintro e w2 ⟨rfl, n2⟩
  have h2 := H1.out.1.new n2
  have hB2 := H1.out.2.1.chg n2 id
  have N2 := H1.out.2.2.trans n2 fun _ _ => id
  cases R
  · have hc : counts M c = false := by unfold counts; rw [HR.out]; rfl
    have HZ := Lib.hid (And.intro hc (And.intro h2 N2))
    clear h2 hB2 N2 n2 CR hc
    go_wp2_with fail
    go_ret2
    exact ⟨by rw [HZ.out.1]; rfl, by unfold put; rw [HZ.out.1]; exact HZ.out.2.1, HZ.out.2.2.mono fun _ _ => False.elim⟩
  · have hb2 := h2.blk.lt
    have hB2l := hB2.lt
    have hm2 : m < w2.heap.size := by obtain ⟨ks, h1, _⟩ := h2.map; exact h1.lt
    have hAt : ∀ W, Chg (fun g => g = w2.heap.size) w2.drew W → At W lo b m M := fun W hW => (h2.new (Chg.refl (fun _ => False) w2).drew).chg hW (by omega) (by omega)
    have hz := zeroCell
    have FA := Lib.hid hAt
    have H2 := Lib.hid (And.intro h2 (And.intro hB2 (And.intro N2 (And.intro hb2 (And.intro hB2l hm2)))))
    clear h2 hB2 N2 n2 CR hAt hb2 hB2l hm2
    cases hM : M c.name with
    | none =>
      have F := Lib.hid (fun W (hW : Chg (fun g => g = w2.heap.size) w2.drew W) => And.intro ((FA.out W hW).blk.cell 0) (And.intro (((H2.out.2.1.drew).chg hW (by have := H2.out.2.2.2.2.1; omega)).cell 0) (show (Instr.lookup 27 (.map (some m)) (.string c.name) true).run Tryd.prog W = .ok (.tuple #[.agg #[.string ⟨#[]⟩, .int .i64 0, .int .i64 0, .int .i64 0, .int .i64 0, .string ⟨#[]⟩], .bool false]) W by have := (FA.out W hW).look c.name; rw [show valOf M c.name = zeroC by unfold valOf; rw [hM], hM] at this; exact this)))
      have HM := Lib.hid hM
      clear hM
      unfold zeroC at hz
      simp only [List.getElem?_toArray, List.getElem?_cons_zero] at F
      go_wp2_with fail
      refine grow_start (fun g => g = w2.heap.size) (by kernel_rfl) ?_
      refine grow_take (i := 0) (oi := { dst := some 16, op := Op.move (Operand.tmp 0), type := 25, pos := "latest.go:49", after := #[], guard := none }) (v := ?_) rfl (by kernel_rfl) (by kernel_rfl) (by kernel_rfl) (by rfl) ?_ ?_; rotate_left; focus ((intro W hW; go_simp) <;> with_reducible rfl)
      simp only [Act.put, List.setIfInBounds_toArray, List.set_cons_zero, List.set_cons_succ]
      refine grow_take (i := 1) (oi := { dst := some 17, op := Op.nilCheck (Operand.tmp 16), type := 0, pos := "latest.go:49", after := #[{ on := 0, ground := Ground.data }], guard := none }) (v := ?_) rfl (by kernel_rfl) (by kernel_rfl) (by kernel_rfl) (by rfl) ?_ ?_; rotate_left; focus ((intro W hW; go_simp) <;> with_reducible rfl)
      simp only [Act.put, List.setIfInBounds_toArray, List.set_cons_zero, List.set_cons_succ]
      refine grow_take (i := 2) (oi := { dst := some 18, op := Op.fieldAddr 50 (Operand.tmp 17) 0, type := 0, pos := "latest.go:49", after := #[{ on := 1, ground := Ground.data }], guard := none }) (v := ?_) rfl (by kernel_rfl) (by kernel_rfl) (by kernel_rfl) (by rfl) ?_ ?_; rotate_left; focus ((intro W hW; go_simp) <;> with_reducible rfl)
      simp only [Act.put, List.setIfInBounds_toArray, List.set_cons_zero, List.set_cons_succ]
      refine grow_take (i := 3) (oi := { dst := some 19, op := Op.load 27 (Operand.tmp 18), type := 27, pos := "latest.go:49", after := #[{ on := 2, ground := Ground.data }], guard := none }) (v := ?_) rfl (by kernel_rfl) (by kernel_rfl) (by kernel_rfl) (by rfl) ?_ ?_; rotate_left; focus ((intro W hW; have fct := F.out W hW; go_simp) <;> with_reducible rfl)
      simp only [Act.put, List.setIfInBounds_toArray, List.set_cons_zero, List.set_cons_succ]
      refine grow_take (i := 4) (oi := { dst := some 20, op := Op.fieldAddr 33 (Operand.tmp 3) 0, type := 0, pos := "latest.go:49", after := #[], guard := none }) (v := ?_) rfl (by kernel_rfl) (by kernel_rfl) (by kernel_rfl) (by rfl) ?_ ?_; rotate_left; focus ((intro W hW; go_simp) <;> with_reducible rfl)
      simp only [Act.put, List.setIfInBounds_toArray, List.set_cons_zero, List.set_cons_succ]
      refine grow_take (i := 5) (oi := { dst := some 21, op := Op.load 9 (Operand.tmp 20), type := 9, pos := "latest.go:49", after := #[{ on := 4, ground := Ground.data }], guard := none }) (v := ?_) rfl (by kernel_rfl) (by kernel_rfl) (by kernel_rfl) (by rfl) ?_ ?_; rotate_left; focus ((intro W hW; have fct := F.out W hW; go_simp) <;> with_reducible rfl)
      simp only [Act.put, List.setIfInBounds_toArray, List.set_cons_zero, List.set_cons_succ]
      refine grow_take (i := 6) (oi := { dst := some 22, op := Op.lookup 27 (Operand.tmp 19) (Operand.tmp 21) true, type := 34, pos := "latest.go:49", after := #[{ on := 3, ground := Ground.data }, { on := 5, ground := Ground.data }], guard := none }) (v := ?_) rfl (by kernel_rfl) (by kernel_rfl) (by kernel_rfl) (by rfl) ?_ ?_; rotate_left; focus ((intro W hW; have fct := F.out W hW; go_simp) <;> with_reducible rfl)
      simp only [Act.put, List.setIfInBounds_toArray, List.set_cons_zero, List.set_cons_succ]
      refine grow_take (i := 7) (oi := { dst := some 15, op := Op.move (Operand.tmp 22), type := 34, pos := "latest.go:49", after := #[{ on := 6, ground := Ground.data }], guard := none }) (v := ?_) rfl (by kernel_rfl) (by kernel_rfl) (by kernel_rfl) (by rfl) ?_ ?_; rotate_left; focus ((intro W hW; go_simp) <;> with_reducible rfl)
      simp only [Act.put, List.setIfInBounds_toArray, List.set_cons_zero, List.set_cons_succ]
      refine grow_take (i := 8) (oi := { dst := some 23, op := Op.extract (Operand.tmp 15) 0, type := 33, pos := "latest.go:49", after := #[{ on := 7, ground := Ground.data }], guard := none }) (v := ?_) rfl (by kernel_rfl) (by kernel_rfl) (by kernel_rfl) (by rfl) ?_ ?_; rotate_left; focus ((intro W hW; have fct := F.out W hW; go_simp) <;> with_reducible rfl)
      simp only [Act.put, List.setIfInBounds_toArray, List.set_cons_zero, List.set_cons_succ]
      refine grow_take (i := 9) (oi := { dst := some 24, op := Op.extract (Operand.tmp 15) 1, type := 4, pos := "latest.go:49", after := #[{ on := 7, ground := Ground.data }, { on := 11, ground := Ground.gcOnly Departure.lateStores }], guard := none }) (v := ?_) rfl (by kernel_rfl) (by kernel_rfl) (by kernel_rfl) (by rfl) ?_ ?_; rotate_left; focus ((intro W hW; have fct := F.out W hW; go_simp) <;> with_reducible rfl)
      simp only [Act.put, List.setIfInBounds_toArray, List.set_cons_zero, List.set_cons_succ]
      refine grow_next (i := 10) (oi := { dst := some 6, op := Op.alloc 33, type := 0, pos := "latest.go:49", after := #[], guard := none }) (by kernel_rfl) rfl (by rfl) (fun K hK => ?_)
      go_simp
      skip
      refine hK _ _ ((Chg.refl _ _).alloc _) ?_
      clear hK K
      try simp only [Act.put, List.setIfInBounds_toArray, List.set_cons_zero, List.set_cons_succ]
      refine grow_next (i := 11) (oi := { dst := none, op := Op.store 33 (Operand.tmp 6) (Operand.tmp 23), type := 0, pos := "latest.go:49", after := #[{ on := 10, ground := Ground.data }, { on := 8, ground := Ground.data }, { on := 0, ground := Ground.phase }, { on := 1, ground := Ground.phase }, { on := 2, ground := Ground.phase }, { on := 3, ground := Ground.phase }, { on := 4, ground := Ground.phase }, { on := 5, ground := Ground.phase }, { on := 6, ground := Ground.phase }, { on := 7, ground := Ground.phase }, { on := 8, ground := Ground.phase }, { on := 9, ground := Ground.textOnly Departure.lateStores }, { on := 10, ground := Ground.phase }], guard := none }) (by kernel_rfl) rfl (by rfl) (fun K hK => ?_)
      go_simp
      skip
      refine hK _ _ (chg_alloc2 _ _ _) ?_
      clear hK K
      try simp only [Act.put, List.setIfInBounds_toArray, List.set_cons_zero, List.set_cons_succ]
      refine grow_take (i := 12) (oi := { dst := some 7, op := Op.assign (Operand.tmp 24), type := 4, pos := "latest.go:49", after := #[{ on := 9, ground := Ground.data }, { on := 11, ground := Ground.chain }, { on := 0, ground := Ground.phase }, { on := 1, ground := Ground.phase }, { on := 2, ground := Ground.phase }, { on := 3, ground := Ground.phase }, { on := 4, ground := Ground.phase }, { on := 5, ground := Ground.phase }, { on := 6, ground := Ground.phase }, { on := 7, ground := Ground.phase }, { on := 8, ground := Ground.phase }, { on := 9, ground := Ground.phase }, { on := 10, ground := Ground.phase }, { on := 11, ground := Ground.phase }], guard := none }) (v := ?_) rfl (by kernel_rfl) (by kernel_rfl) (by kernel_rfl) (by rfl) ?_ ?_; rotate_left; focus ((intro W hW; go_simp) <;> with_reducible rfl)
      simp only [Act.put, List.setIfInBounds_toArray, List.set_cons_zero, List.set_cons_succ]
      refine grow_done (by kernel_rfl) ?_ _
      go_wp2_with fail
      go_quiet (fail)
      have hq : Chg (fun g => g = w2.heap.size) w2.drew (((w2.alloc (.cells #[.string ⟨#[]⟩, .int .i64 0, .int .i64 0, .int .i64 0, .int .i64 0, .string ⟨#[]⟩] 33)).drew).drewN nq) := (drew2 ((Chg.refl _ w2).alloc _)).drewN _
      generalize (((w2.alloc (.cells #[.string ⟨#[]⟩, .int .i64 0, .int .i64 0, .int .i64 0, .int .i64 0, .string ⟨#[]⟩] 33)).drew).drewN nq) = w5 at *
      have h5 := FA.out w5 hq
      have hB5 := (H2.out.2.1.drew).chg hq (by have := H2.out.2.2.2.2.1; omega)
      have hcb5 := h5.blk.cell 0
      simp only [List.getElem?_toArray, List.getElem?_cons_zero] at hcb5
      have hcn5 := (blk_cell hB5).2.2.2
      have hlc5 := (blk_cell hB5.drew).2.2.1
      unfold Cl.val at hlc5
      obtain ⟨w6, hrun, h6, c6⟩ := (h5.new (Chg.refl (fun _ => False) w5).drew).store c HR.out
      unfold Cl.val at hrun
      have N5 : New w w5 := (H2.out.2.2.1.drew.trans hq fun k hk e => by have := H2.out.2.2.1.size; omega)
      have C6 : Chg (fun k => k = m) w w6 := (N5.drew.mono (S' := fun k => k = m) fun _ _ => False.elim).trans c6 fun _ _ e => e
      have HZ := Lib.hid (And.intro h6 C6)
      clear h5 hB5 h6 c6 N5 C6 hq
      go_wp2_with fail
      refine wp_region_tail 7 (by kernel_rfl) (by kernel_rfl) ?_
      simp only [List.take_succ_cons, List.take_zero, List.drop_succ_cons, List.drop_zero]
      repeat still_step
      refine wpStill_nil ?_
      go_wp2_with fail
      go_ret2
      have hcnt : counts M c = true := by unfold counts; rw [HR.out]; rw [HM.out]; rfl
      exact ⟨by rw [hcnt]; rfl, by unfold put; rw [if_pos hcnt]; exact HZ.out.1, HZ.out.2⟩
    | some d =>
      have F := Lib.hid (fun W (hW : Chg (fun g => g = w2.heap.size) w2.drew W) => And.intro ((FA.out W hW).blk.cell 0) (And.intro (((H2.out.2.1.drew).chg hW (by have := H2.out.2.2.2.2.1; omega)).cell 0) (show (Instr.lookup 27 (.map (some m)) (.string c.name) true).run Tryd.prog W = .ok (.tuple #[.agg #[.string d.name, .int .i64 d.t, .int .i64 d.r, .int .i64 d.k, .int .i64 d.n, .string d.txt], .bool true]) W by have := (FA.out W hW).look c.name; rw [show valOf M c.name = d.val by unfold valOf; rw [hM], hM] at this; exact this)))
      have HM := Lib.hid hM
      clear hM
      unfold zeroC at hz
      simp only [List.getElem?_toArray, List.getElem?_cons_zero] at F
      go_wp2_with fail
      refine grow_start (fun g => g = w2.heap.size) (by kernel_rfl) ?_
      refine grow_take (i := 0) (oi := { dst := some 16, op := Op.move (Operand.tmp 0), type := 25, pos := "latest.go:49", after := #[], guard := none }) (v := ?_) rfl (by kernel_rfl) (by kernel_rfl) (by kernel_rfl) (by rfl) ?_ ?_; rotate_left; focus ((intro W hW; go_simp) <;> with_reducible rfl)
      simp only [Act.put, List.setIfInBounds_toArray, List.set_cons_zero, List.set_cons_succ]
      refine grow_take (i := 1) (oi := { dst := some 17, op := Op.nilCheck (Operand.tmp 16), type := 0, pos := "latest.go:49", after := #[{ on := 0, ground := Ground.data }], guard := none }) (v := ?_) rfl (by kernel_rfl) (by kernel_rfl) (by kernel_rfl) (by rfl) ?_ ?_; rotate_left; focus ((intro W hW; go_simp) <;> with_reducible rfl)
      simp only [Act.put, List.setIfInBounds_toArray, List.set_cons_zero, List.set_cons_succ]
      refine grow_take (i := 2) (oi := { dst := some 18, op := Op.fieldAddr 50 (Operand.tmp 17) 0, type := 0, pos := "latest.go:49", after := #[{ on := 1, ground := Ground.data }], guard := none }) (v := ?_) rfl (by kernel_rfl) (by kernel_rfl) (by kernel_rfl) (by rfl) ?_ ?_; rotate_left; focus ((intro W hW; go_simp) <;> with_reducible rfl)
      simp only [Act.put, List.setIfInBounds_toArray, List.set_cons_zero, List.set_cons_succ]
      refine grow_take (i := 3) (oi := { dst := some 19, op := Op.load 27 (Operand.tmp 18), type := 27, pos := "latest.go:49", after := #[{ on := 2, ground := Ground.data }], guard := none }) (v := ?_) rfl (by kernel_rfl) (by kernel_rfl) (by kernel_rfl) (by rfl) ?_ ?_; rotate_left; focus ((intro W hW; have fct := F.out W hW; go_simp) <;> with_reducible rfl)
      simp only [Act.put, List.setIfInBounds_toArray, List.set_cons_zero, List.set_cons_succ]
      refine grow_take (i := 4) (oi := { dst := some 20, op := Op.fieldAddr 33 (Operand.tmp 3) 0, type := 0, pos := "latest.go:49", after := #[], guard := none }) (v := ?_) rfl (by kernel_rfl) (by kernel_rfl) (by kernel_rfl) (by rfl) ?_ ?_; rotate_left; focus ((intro W hW; go_simp) <;> with_reducible rfl)
      simp only [Act.put, List.setIfInBounds_toArray, List.set_cons_zero, List.set_cons_succ]
      refine grow_take (i := 5) (oi := { dst := some 21, op := Op.load 9 (Operand.tmp 20), type := 9, pos := "latest.go:49", after := #[{ on := 4, ground := Ground.data }], guard := none }) (v := ?_) rfl (by kernel_rfl) (by kernel_rfl) (by kernel_rfl) (by rfl) ?_ ?_; rotate_left; focus ((intro W hW; have fct := F.out W hW; go_simp) <;> with_reducible rfl)
      simp only [Act.put, List.setIfInBounds_toArray, List.set_cons_zero, List.set_cons_succ]
      refine grow_take (i := 6) (oi := { dst := some 22, op := Op.lookup 27 (Operand.tmp 19) (Operand.tmp 21) true, type := 34, pos := "latest.go:49", after := #[{ on := 3, ground := Ground.data }, { on := 5, ground := Ground.data }], guard := none }) (v := ?_) rfl (by kernel_rfl) (by kernel_rfl) (by kernel_rfl) (by rfl) ?_ ?_; rotate_left; focus ((intro W hW; have fct := F.out W hW; go_simp) <;> with_reducible rfl)
      simp only [Act.put, List.setIfInBounds_toArray, List.set_cons_zero, List.set_cons_succ]
      refine grow_take (i := 7) (oi := { dst := some 15, op := Op.move (Operand.tmp 22), type := 34, pos := "latest.go:49", after := #[{ on := 6, ground := Ground.data }], guard := none }) (v := ?_) rfl (by kernel_rfl) (by kernel_rfl) (by kernel_rfl) (by rfl) ?_ ?_; rotate_left; focus ((intro W hW; go_simp) <;> with_reducible rfl)
      simp only [Act.put, List.setIfInBounds_toArray, List.set_cons_zero, List.set_cons_succ]
      refine grow_take (i := 8) (oi := { dst := some 23, op := Op.extract (Operand.tmp 15) 0, type := 33, pos := "latest.go:49", after := #[{ on := 7, ground := Ground.data }], guard := none }) (v := ?_) rfl (by kernel_rfl) (by kernel_rfl) (by kernel_rfl) (by rfl) ?_ ?_; rotate_left; focus ((intro W hW; have fct := F.out W hW; go_simp) <;> with_reducible rfl)
      simp only [Act.put, List.setIfInBounds_toArray, List.set_cons_zero, List.set_cons_succ]
      refine grow_take (i := 9) (oi := { dst := some 24, op := Op.extract (Operand.tmp 15) 1, type := 4, pos := "latest.go:49", after := #[{ on := 7, ground := Ground.data }, { on := 11, ground := Ground.gcOnly Departure.lateStores }], guard := none }) (v := ?_) rfl (by kernel_rfl) (by kernel_rfl) (by kernel_rfl) (by rfl) ?_ ?_; rotate_left; focus ((intro W hW; have fct := F.out W hW; go_simp) <;> with_reducible rfl)
      simp only [Act.put, List.setIfInBounds_toArray, List.set_cons_zero, List.set_cons_succ]
      refine grow_next (i := 10) (oi := { dst := some 6, op := Op.alloc 33, type := 0, pos := "latest.go:49", after := #[], guard := none }) (by kernel_rfl) rfl (by rfl) (fun K hK => ?_)
      go_simp
      skip
      refine hK _ _ ((Chg.refl _ _).alloc _) ?_
      clear hK K
      try simp only [Act.put, List.setIfInBounds_toArray, List.set_cons_zero, List.set_cons_succ]
      refine grow_next (i := 11) (oi := { dst := none, op := Op.store 33 (Operand.tmp 6) (Operand.tmp 23), type := 0, pos := "latest.go:49", after := #[{ on := 10, ground := Ground.data }, { on := 8, ground := Ground.data }, { on := 0, ground := Ground.phase }, { on := 1, ground := Ground.phase }, { on := 2, ground := Ground.phase }, { on := 3, ground := Ground.phase }, { on := 4, ground := Ground.phase }, { on := 5, ground := Ground.phase }, { on := 6, ground := Ground.phase }, { on := 7, ground := Ground.phase }, { on := 8, ground := Ground.phase }, { on := 9, ground := Ground.textOnly Departure.lateStores }, { on := 10, ground := Ground.phase }], guard := none }) (by kernel_rfl) rfl (by rfl) (fun K hK => ?_)
      go_simp
      skip
      refine hK _ _ (chg_alloc2 _ _ _) ?_
      clear hK K
      try simp only [Act.put, List.setIfInBounds_toArray, List.set_cons_zero, List.set_cons_succ]
      refine grow_take (i := 12) (oi := { dst := some 7, op := Op.assign (Operand.tmp 24), type := 4, pos := "latest.go:49", after := #[{ on := 9, ground := Ground.data }, { on := 11, ground := Ground.chain }, { on := 0, ground := Ground.phase }, { on := 1, ground := Ground.phase }, { on := 2, ground := Ground.phase }, { on := 3, ground := Ground.phase }, { on := 4, ground := Ground.phase }, { on := 5, ground := Ground.phase }, { on := 6, ground := Ground.phase }, { on := 7, ground := Ground.phase }, { on := 8, ground := Ground.phase }, { on := 9, ground := Ground.phase }, { on := 10, ground := Ground.phase }, { on := 11, ground := Ground.phase }], guard := none }) (v := ?_) rfl (by kernel_rfl) (by kernel_rfl) (by kernel_rfl) (by rfl) ?_ ?_; rotate_left; focus ((intro W hW; go_simp) <;> with_reducible rfl)
      simp only [Act.put, List.setIfInBounds_toArray, List.set_cons_zero, List.set_cons_succ]
      refine grow_done (by kernel_rfl) ?_ _
      have hq3 : Chg (fun g => g = w2.heap.size) w2.drew (w2.alloc (.cells #[.string d.name, .int .i64 d.t, .int .i64 d.r, .int .i64 d.k, .int .i64 d.n, .string d.txt] 33)).drew := drew2 ((Chg.refl _ w2).alloc _)
      have hD3 := (Blk.new w2 33 #[.string d.name, .int .i64 d.t, .int .i64 d.r, .int .i64 d.k, .int .i64 d.n, .string d.txt]).drew
      have hB3 := (H2.out.2.1.drew).chg hq3 (by have := H2.out.2.2.2.2.1; omega)
      have hl3 := hD3.lt
      generalize hw3 : (w2.alloc (.cells #[.string d.name, .int .i64 d.t, .int .i64 d.r, .int .i64 d.k, .int .i64 d.n, .string d.txt] 33)).drew = w3 at hq3 hD3 hB3 hl3 ⊢
      have HW3 := Lib.hid (And.intro hq3 (And.intro hD3 hB3))
      have F4 := Lib.hid (fun W (hW : New w3.drew W) => And.intro (blk_cell ((HW3.out.2.2.drew).chg hW id)) (blk_cell ((HW3.out.2.1.drew).chg hW id)))
      have C1 := Lib.hid fun W => order W c.t c.r d.t d.r
      have C2 := Lib.hid fun W => vcomp W c.k c.n d.k d.n c.txt d.txt
      have hkc := key_cmp c d
      obtain ⟨o1, ho1⟩ : ∃ o, orL [cmpI c.t d.t, cmpI c.r d.r] = o := ⟨_, rfl⟩
      obtain ⟨o2, ho2⟩ : ∃ o, orL [cmpI c.k d.k, cmpI c.n d.n, cmpS c.txt d.txt] = o := ⟨_, rfl⟩
      rw [ho1] at C1 hkc
      rw [ho2] at C2 hkc
      obtain ⟨q, hqq⟩ : ∃ q, cmpL c.key d.key = q := ⟨_, rfl⟩
      rw [hqq] at hkc
      have HQ2 := Lib.hid (And.intro hkc hqq)
      have hsz : w3.heap.size = w2.heap.size + 1 := by rw [← hw3]; exact World.size_alloc _ _
      have HSZ := Lib.hid hsz
      clear hq3 hD3 hB3 hl3 hw3 ho1 ho2 hkc hqq hsz hz hl1
      go_wp2_with fail
      refine grow_start (fun _ => False) (by kernel_rfl) ?_
      refine grow_take (i := 0) (oi := { dst := some 25, op := Op.move (Operand.tmp 7), type := 4, pos := "latest.go:50", after := #[], guard := none }) (v := ?_) rfl (by kernel_rfl) (by kernel_rfl) (by kernel_rfl) (by rfl) ?_ ?_; rotate_left; focus ((intro W hW; go_simp) <;> with_reducible rfl)
      simp only [Act.put, List.setIfInBounds_toArray, List.set_cons_zero, List.set_cons_succ]
      refine grow_take (i := 1) (oi := { dst := some 26, op := Op.move (Operand.tmp 25), type := 4, pos := "latest.go:50", after := #[{ on := 0, ground := Ground.data }], guard := none }) (v := ?_) rfl (by kernel_rfl) (by kernel_rfl) (by kernel_rfl) (by rfl) ?_ ?_; rotate_left; focus ((intro W hW; go_simp) <;> with_reducible rfl)
      simp only [Act.put, List.setIfInBounds_toArray, List.set_cons_zero, List.set_cons_succ]
      first | (refine grow_take (i := 2) (oi := { dst := some 27, op := Op.fieldAddr 33 (Operand.tmp 3) 1, type := 0, pos := "latest.go:50", after := #[{ on := 1, ground := Ground.guard }], guard := some (1, true) }) (v := ?_) rfl (by kernel_rfl) (by kernel_rfl) (by kernel_rfl) (by rfl) ?_ ?_; rotate_left; focus ((intro W hW; go_simp) <;> with_reducible rfl)) | refine grow_skip (i := 2) (oi := { dst := some 27, op := Op.fieldAddr 33 (Operand.tmp 3) 1, type := 0, pos := "latest.go:50", after := #[{ on := 1, ground := Ground.guard }], guard := some (1, true) }) rfl (by kernel_rfl) (by kernel_rfl) (by kernel_rfl) (by rfl) ?_ | fail "op 2"
      simp only [Act.put, List.setIfInBounds_toArray, List.set_cons_zero, List.set_cons_succ]
      first | (refine grow_take (i := 3) (oi := { dst := some 28, op := Op.load 29 (Operand.tmp 27), type := 29, pos := "latest.go:50", after := #[{ on := 2, ground := Ground.data }, { on := 1, ground := Ground.guard }], guard := some (1, true) }) (v := ?_) rfl (by kernel_rfl) (by kernel_rfl) (by kernel_rfl) (by rfl) ?_ ?_; rotate_left; focus ((intro W hW; have fct := F4.out W hW; go_simp) <;> with_reducible rfl)) | refine grow_skip (i := 3) (oi := { dst := some 28, op := Op.load 29 (Operand.tmp 27), type := 29, pos := "latest.go:50", after := #[{ on := 2, ground := Ground.data }, { on := 1, ground := Ground.guard }], guard := some (1, true) }) rfl (by kernel_rfl) (by kernel_rfl) (by kernel_rfl) (by rfl) ?_ | fail "op 3"
      simp only [Act.put, List.setIfInBounds_toArray, List.set_cons_zero, List.set_cons_succ]
      first | (refine grow_take (i := 4) (oi := { dst := some 29, op := Op.fieldAddr 33 (Operand.tmp 6) 1, type := 0, pos := "latest.go:50", after := #[{ on := 1, ground := Ground.guard }], guard := some (1, true) }) (v := ?_) rfl (by kernel_rfl) (by kernel_rfl) (by kernel_rfl) (by rfl) ?_ ?_; rotate_left; focus ((intro W hW; go_simp) <;> with_reducible rfl)) | refine grow_skip (i := 4) (oi := { dst := some 29, op := Op.fieldAddr 33 (Operand.tmp 6) 1, type := 0, pos := "latest.go:50", after := #[{ on := 1, ground := Ground.guard }], guard := some (1, true) }) rfl (by kernel_rfl) (by kernel_rfl) (by kernel_rfl) (by rfl) ?_ | fail "op 4"
      simp only [Act.put, List.setIfInBounds_toArray, List.set_cons_zero, List.set_cons_succ]
      first | (refine grow_take (i := 5) (oi := { dst := some 30, op := Op.load 29 (Operand.tmp 29), type := 29, pos := "latest.go:50", after := #[{ on := 4, ground := Ground.data }, { on := 1, ground := Ground.guard }], guard := some (1, true) }) (v := ?_) rfl (by kernel_rfl) (by kernel_rfl) (by kernel_rfl) (by rfl) ?_ ?_; rotate_left; focus ((intro W hW; have fct := F4.out W hW; go_simp) <;> with_reducible rfl)) | refine grow_skip (i := 5) (oi := { dst := some 30, op := Op.load 29 (Operand.tmp 29), type := 29, pos := "latest.go:50", after := #[{ on := 4, ground := Ground.data }, { on := 1, ground := Ground.guard }], guard := some (1, true) }) rfl (by kernel_rfl) (by kernel_rfl) (by kernel_rfl) (by rfl) ?_ | fail "op 5"
      simp only [Act.put, List.setIfInBounds_toArray, List.set_cons_zero, List.set_cons_succ]
      first | (refine grow_take (i := 7) (oi := { dst := some 32, op := Op.fieldAddr 33 (Operand.tmp 3) 2, type := 0, pos := "latest.go:50", after := #[{ on := 1, ground := Ground.guard }], guard := some (1, true) }) (v := ?_) rfl (by kernel_rfl) (by kernel_rfl) (by kernel_rfl) (by rfl) ?_ ?_; rotate_left; focus ((intro W hW; go_simp) <;> with_reducible rfl)) | refine grow_skip (i := 7) (oi := { dst := some 32, op := Op.fieldAddr 33 (Operand.tmp 3) 2, type := 0, pos := "latest.go:50", after := #[{ on := 1, ground := Ground.guard }], guard := some (1, true) }) rfl (by kernel_rfl) (by kernel_rfl) (by kernel_rfl) (by rfl) ?_ | fail "op 7"
      simp only [Act.put, List.setIfInBounds_toArray, List.set_cons_zero, List.set_cons_succ]
      first | (refine grow_take (i := 8) (oi := { dst := some 33, op := Op.load 31 (Operand.tmp 32), type := 31, pos := "latest.go:50", after := #[{ on := 7, ground := Ground.data }, { on := 1, ground := Ground.guard }], guard := some (1, true) }) (v := ?_) rfl (by kernel_rfl) (by kernel_rfl) (by kernel_rfl) (by rfl) ?_ ?_; rotate_left; focus ((intro W hW; have fct := F4.out W hW; go_simp) <;> with_reducible rfl)) | refine grow_skip (i := 8) (oi := { dst := some 33, op := Op.load 31 (Operand.tmp 32), type := 31, pos := "latest.go:50", after := #[{ on := 7, ground := Ground.data }, { on := 1, ground := Ground.guard }], guard := some (1, true) }) rfl (by kernel_rfl) (by kernel_rfl) (by kernel_rfl) (by rfl) ?_ | fail "op 8"
      simp only [Act.put, List.setIfInBounds_toArray, List.set_cons_zero, List.set_cons_succ]
      first | (refine grow_take (i := 9) (oi := { dst := some 34, op := Op.fieldAddr 33 (Operand.tmp 6) 2, type := 0, pos := "latest.go:50", after := #[{ on := 1, ground := Ground.guard }], guard := some (1, true) }) (v := ?_) rfl (by kernel_rfl) (by kernel_rfl) (by kernel_rfl) (by rfl) ?_ ?_; rotate_left; focus ((intro W hW; go_simp) <;> with_reducible rfl)) | refine grow_skip (i := 9) (oi := { dst := some 34, op := Op.fieldAddr 33 (Operand.tmp 6) 2, type := 0, pos := "latest.go:50", after := #[{ on := 1, ground := Ground.guard }], guard := some (1, true) }) rfl (by kernel_rfl) (by kernel_rfl) (by kernel_rfl) (by rfl) ?_ | fail "op 9"
      simp only [Act.put, List.setIfInBounds_toArray, List.set_cons_zero, List.set_cons_succ]
      first | (refine grow_take (i := 10) (oi := { dst := some 35, op := Op.load 31 (Operand.tmp 34), type := 31, pos := "latest.go:50", after := #[{ on := 9, ground := Ground.data }, { on := 1, ground := Ground.guard }], guard := some (1, true) }) (v := ?_) rfl (by kernel_rfl) (by kernel_rfl) (by kernel_rfl) (by rfl) ?_ ?_; rotate_left; focus ((intro W hW; have fct := F4.out W hW; go_simp) <;> with_reducible rfl)) | refine grow_skip (i := 10) (oi := { dst := some 35, op := Op.load 31 (Operand.tmp 34), type := 31, pos := "latest.go:50", after := #[{ on := 9, ground := Ground.data }, { on := 1, ground := Ground.guard }], guard := some (1, true) }) rfl (by kernel_rfl) (by kernel_rfl) (by kernel_rfl) (by rfl) ?_ | fail "op 10"
      simp only [Act.put, List.setIfInBounds_toArray, List.set_cons_zero, List.set_cons_succ]
      refine grow_next (i := 6) (oi := { dst := some 31, op := Op.call { callee := Callee.value (Operand.func 23), args := #[Operand.tmp 28, Operand.tmp 30], argTypes := #[29, 29] }, type := 3, pos := "latest.go:50", after := #[{ on := 3, ground := Ground.data }, { on := 5, ground := Ground.data }, { on := 1, ground := Ground.chain }, { on := 1, ground := Ground.guard }], guard := some (1, true) }) (by kernel_rfl) rfl (by rfl) (fun K hK => ?_)
      go_simp
      refine (C1.out _).mono ?_
      rintro e w4 ⟨rfl, n4⟩
      refine hK _ _ n4 ?_
      clear hK K
      try simp only [Act.put, List.setIfInBounds_toArray, List.set_cons_zero, List.set_cons_succ]
      have N4 := Lib.hid n4
      clear n4
      refine grow_next (i := 11) (oi := { dst := some 36, op := Op.call { callee := Callee.value (Operand.func 24), args := #[Operand.tmp 33, Operand.tmp 35], argTypes := #[31, 31] }, type := 3, pos := "latest.go:50", after := #[{ on := 8, ground := Ground.data }, { on := 10, ground := Ground.data }, { on := 6, ground := Ground.chain }, { on := 1, ground := Ground.guard }], guard := some (1, true) }) (by kernel_rfl) rfl (by rfl) (fun K hK => ?_)
      go_simp
      refine (C2.out _).mono ?_
      rintro e w5 ⟨rfl, n5⟩
      refine hK _ _ n5 ?_
      clear hK K
      try simp only [Act.put, List.setIfInBounds_toArray, List.set_cons_zero, List.set_cons_succ]
      have N5 := Lib.hid n5
      clear n5
      refine grow_next (i := 12) (oi := { dst := some 37, op := Op.buildSlice 63 2 #[(0, Operand.tmp 31), (1, Operand.tmp 36)], type := 63, pos := "latest.go:50", after := #[{ on := 6, ground := Ground.data }, { on := 11, ground := Ground.data }, { on := 1, ground := Ground.guard }], guard := some (1, true) }) (by kernel_rfl) rfl (by rfl) (fun K hK => ?_)
      go_simp
      skip
      refine hK _ _ ((Chg.refl _ _).alloc _) ?_
      clear hK K
      try simp only [Act.put, List.setIfInBounds_toArray, List.set_cons_zero, List.set_cons_succ]
      refine grow_next (i := 13) (oi := { dst := some 38, op := Op.call { callee := Callee.value (Operand.func 22), args := #[Operand.tmp 37], argTypes := #[63] }, type := 3, pos := "latest.go:50", after := #[{ on := 12, ground := Ground.data }, { on := 11, ground := Ground.chain }, { on := 1, ground := Ground.guard }], guard := some (1, true) }) (by kernel_rfl) rfl (by rfl) (fun K hK => ?_)
      go_simp
      have k := orI _ _ 2 2 [o1, o2] ((Reads.of_blk (size := 1) (n := 2) (Blk.new w5 3 (ints [o1, o2]).toArray) rfl).mono fun z hz => (by rw [hz]; exact (Blk.new w5 3 (ints [o1, o2]).toArray).lt)) (by omega)
      rw [HQ2.out.1] at k
      refine k.mono ?_
      clear k
      rintro e w6 ⟨rfl, rfl⟩
      refine hK _ _ (Chg.refl _ _) ?_
      clear hK K
      try simp only [Act.put, List.setIfInBounds_toArray, List.set_cons_zero, List.set_cons_succ]
      skip
      first | (refine grow_take (i := 14) (oi := { dst := some 39, op := Op.binOp BinOp.leq 3 (Operand.tmp 38) (Operand.const (Value.int IntKind.i64 0)) 3, type := 4, pos := "latest.go:50", after := #[{ on := 13, ground := Ground.data }, { on := 1, ground := Ground.guard }], guard := some (1, true) }) (v := ?_) rfl (by kernel_rfl) (by kernel_rfl) (by kernel_rfl) (by rfl) ?_ ?_; rotate_left; focus ((intro W hW; have fct := (noF _ _) W hW; go_simp) <;> with_reducible rfl)) | refine grow_skip (i := 14) (oi := { dst := some 39, op := Op.binOp BinOp.leq 3 (Operand.tmp 38) (Operand.const (Value.int IntKind.i64 0)) 3, type := 4, pos := "latest.go:50", after := #[{ on := 13, ground := Ground.data }, { on := 1, ground := Ground.guard }], guard := some (1, true) }) rfl (by kernel_rfl) (by kernel_rfl) (by kernel_rfl) (by rfl) ?_ | fail "op 14"
      simp only [Act.put, List.setIfInBounds_toArray, List.set_cons_zero, List.set_cons_succ]
      refine grow_take (i := 15) (oi := { dst := some 40, op := Op.pick (Operand.tmp 26) (Operand.tmp 39) (Operand.const (Value.bool false)), type := 4, pos := "latest.go:50", after := #[{ on := 1, ground := Ground.data }, { on := 14, ground := Ground.data }], guard := none }) (v := ?_) rfl (by kernel_rfl) (by kernel_rfl) (by kernel_rfl) (by rfl) ?_ ?_; rotate_left; focus ((intro W hW; go_simp) <;> with_reducible rfl)
      simp only [Act.put, List.setIfInBounds_toArray, List.set_cons_zero, List.set_cons_succ]
      refine grow_done (by kernel_rfl) ?_ _
      have N35 : New w3 (w5.alloc (.cells (ints [o1, o2]).toArray 3)) := ((((Chg.refl _ w3).drew).trans N4.out fun _ _ => id).trans N5.out fun _ _ => id).alloc _
      generalize (w5.alloc (.cells (ints [o1, o2]).toArray 3)) = w8 at N35 ⊢
      have hq := HW3.out.1.trans N35 (fun k hk e => e.elim)
      clear N35 C1 C2 F4 F hbw hmw
      by_cases hqz : q ≤ 0
      · have N8 : New w w8 := H2.out.2.2.1.drew.trans hq fun k hk e => by have := H2.out.2.2.1.size; omega
        have h8 := FA.out w8 hq
        have hcf : counts M c = false := by
          unfold counts
          rw [HR.out, HM.out]
          show c.over d = false
          unfold Cl.over
          exact decide_eq_false (by rw [HQ2.out.2]; omega)
        have HZ := Lib.hid (And.intro hcf (And.intro h8 N8))
        clear hq N8 h8 hcf
        go_wp2_with fail
        go_ret2
        exact ⟨by rw [HZ.out.1]; rfl, by unfold put; rw [HZ.out.1]; exact HZ.out.2.1, HZ.out.2.2.mono fun _ _ => False.elim⟩
      · have HQ := Lib.hid (show 0 < cmpL c.key d.key by rw [HQ2.out.2]; omega)
        generalize w8 = w5 at *
        go_wp2_with fail
        have h5 := FA.out w5 hq
        have hB5 := (H2.out.2.1.drew).chg hq (by have := H2.out.2.2.2.2.1; omega)
        have hcb5 := h5.blk.cell 0
        simp only [List.getElem?_toArray, List.getElem?_cons_zero] at hcb5
        have hcn5 := (blk_cell hB5).2.2.2
        have hlc5 := (blk_cell hB5.drew).2.2.1
        unfold Cl.val at hlc5
        obtain ⟨w6, hrun, h6, c6⟩ := (h5.new (Chg.refl (fun _ => False) w5).drew).store c HR.out
        unfold Cl.val at hrun
        have N5 : New w w5 := (H2.out.2.2.1.drew.trans hq fun k hk e => by have := H2.out.2.2.1.size; omega)
        have C6 : Chg (fun k => k = m) w w6 := (N5.drew.mono (S' := fun k => k = m) fun _ _ => False.elim).trans c6 fun _ _ e => e
        have HZ := Lib.hid (And.intro h6 C6)
        clear h5 hB5 h6 c6 N5 C6 hq
        go_wp2_with fail
        refine wp_region_tail 7 (by kernel_rfl) (by kernel_rfl) ?_
        simp only [List.take_succ_cons, List.take_zero, List.drop_succ_cons, List.drop_zero]
        repeat still_step
        refine wpStill_nil ?_
        go_wp2_with fail
        go_ret2
        have hcnt : counts M c = true := by unfold counts; rw [HR.out]; rw [HM.out]; show c.over d = true; unfold Cl.over; exact decide_eq_true HQ.out
        exact ⟨by rw [hcnt]; rfl, by unfold put; rw [if_pos hcnt]; exact HZ.out.1, HZ.out.2⟩
end Lat
end Go.Proofs.YtgnlbekagdffoaaDoor

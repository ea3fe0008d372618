/-
  topo's web of pairs: the walk of made (no condition beyond the sizes).
-/
import Derived.Test.YtonopommbpkfgaaWeb
namespace Go.Proofs.Ytonopommbpkfgaa
open Go.ChangeShapes Go.WideShapes Go.RowKit Go.Deep
namespace Topo
theorem loadOnly0 (p : Value) : Instr.loadAt 35 p = LoadRowV 35 p := rfl
attribute [local go_sem ↓] loadOnly0
set_option maxHeartbeats 4000000 in
theorem made (w : World) (n m c : Nat) (hn : n ≤ 256) (A : Option Addr) (ps : List (Int × Int)) (hP : PAt w A ps) (hm : ps.length = m) (hf : m ≤ 200) :
    Calls Try.prog 16 #[.int .i64 (n : Int), .slice A m c] w fun e w' => ∃ b gn ga rv, e = .returned (.pointer (some ⟨b, 0, none⟩)) ∧ WAt w' w.heap.size b gn ga n rv (nextF n ps) (aheadL n ps) ∧ New w w' := by
  have hk1 := make_rows n (by omega)
  have hk2 := make_int n (by omega)
  have mixed : Try.prog.follows .mixedOrders = true := by kernel_rfl
  go_enter Try.func16, Try.ntmps16
  go_wp2_with fail
  go_region_law_o (fail)
  all_goals go_wp2_with fail
  · obtain ⟨lo, hlo⟩ : ∃ lo, lo = w.heap.size := ⟨_, rfl⟩
    go_loopw [7, 16] (fun _ iv wr => ∃ (i : Nat) (rv : Nat → Value), i ≤ m ∧ iv = .int .i64 i ∧ WAt wr lo (w.heap.size + 1 + 1) w.heap.size (w.heap.size+1) n rv (nextF n (ps.take i)) (aheadL n (ps.take i)) ∧ New w wr) (fun _ iv _ => m - (intOf iv).toNat)
    case atStart =>
      refine ⟨0, fun _ => .slice none 0 0, by omega, by go_num, web_start (by omega) ?_ ?_ ?_ (by omega) (by omega) (by omega), ?_⟩
      · exact (Blk.new2 w _ _ 44 #[.slice (some ⟨w.heap.size, 0, none⟩) n n, .slice (some ⟨(w.heap.size+1), 0, none⟩) n n]).drew
      · rw [List.toArray_replicate]
        first | exact ((Blk.new w 24 _).alloc _).alloc _ | exact (Blk.new1 w _ 24 _).alloc _
      · first | exact (Blk.new1 w _ 3 _).alloc _ | exact ((Blk.new w 3 _).alloc _).alloc _
      · exact (((((Chg.refl (fun _ => False) w).alloc _).alloc _).alloc _).drew)
    case round =>
      obtain ⟨i, rv, hi, rfl, h, nw⟩ := hrel
      generalize w.heap.size + 1 + 1 = b at *
      generalize w.heap.size + 1 = g1 at *
      by_cases hlt : i < m
      · obtain ⟨q, hq⟩ : ∃ q, ps[i]? = some q := ⟨_, List.getElem?_eq_getElem (by omega)⟩
        obtain ⟨ad, rfl, hload⟩ := hP i q hq
        have hld := hload wr nw
        have htk : ps.take (i + 1) = ps.take i ++ [q] := by rw [List.take_add_one, hq]; rfl
        obtain ⟨x, y⟩ := q
        have m1 := (Chg.refl (fun _ => False) wr).alloc (.cells #[.int .i64 x, .int .i64 y] 35)
        have hbx := Blk.new wr 35 #[.int .i64 x, .int .i64 y]
        have h1 := h.new m1
        have cx := hbx.cell 0
        have cy := hbx.cell 1
        simp only [List.getElem?_toArray, List.getElem?_cons_zero, List.getElem?_cons_succ] at cx cy
        have n1 := nw.trans m1 fun _ _ => id
        have hii : (i : Int) < m := by omega
        by_cases hok : okP n (x, y) = true
        · obtain ⟨hx0, hx1, hy0, hy1⟩ := okP_iff.1 hok
          obtain ⟨p, rfl⟩ : ∃ p : Nat, x = (p : Int) := ⟨x.toNat, by omega⟩
          obtain ⟨z, rfl⟩ : ∃ z : Nat, y = (z : Int) := ⟨y.toNat, by omega⟩
          simp only at hx0 hx1 hy0 hy1
          have hp : p < n := by omega
          have hz : z < n := by omega
          have hnx := next_yes (ps := ps.take i) hok
          have hah := ahead_yes (ps := ps.take i) hz hok
          have hlb := h1.blk.lt
          have hln := h1.nxt.lt
          have HT := Lib.hid (And.intro htk (And.intro hnx (And.intro hah n1)))
          obtain ⟨Ar, cr, hrv⟩ := (h1.rows p hp).form
          obtain ⟨L, hL⟩ : ∃ L, (nextF n (ps.take i) p).length = L := ⟨_, rfl⟩
          have hLm : L ≤ 200 := by rw [← hL]; exact Nat.le_trans (next_len _ _ _) (by rw [List.length_take]; omega)
          rw [hL] at hrv
          have HL := Lib.hid hL
          have HB := Lib.hid hbx
          have HLO := Lib.hid hlo
          have HLM := Lib.hid hLm
          have HRV := Lib.hid hrv
          clear htk hnx hah n1 h nw m1 hbx hk1 hk2 hq hlo hok hload hL hLm
          go_wp2_with fail
          generalize hw1 : wr.alloc (.cells #[.int .i64 (p : Int), .int .i64 (z : Int)] 35) = w1 at *
          have c0 := h1.blk.cell 0
          have cg := h1.nxt.cell p
          rw [List.getElem?_toArray, rowsC_get _ hp, hrv] at cg
          simp only [List.getElem?_toArray, List.getElem?_cons_zero] at c0
          have HB1 := HB.out
          have nTb : ¬ (b = w.heap.size ∨ (rv p).ownBlock = some b) := by
            rintro (e | e)
            · exact h1.ne_nb e.symm
            · exact own_ne (h1.rows p hp) h1.blk (by decide) e
          have nTv : ¬ (wr.heap.size = w.heap.size ∨ (rv p).ownBlock = some wr.heap.size) := by
            rintro (e | e)
            · exact HB1.ne_ h1.nxt (by decide) e
            · exact own_ne (h1.rows p hp) HB1 (by decide) e
          have F := Lib.hid (fun W (hW : Chg (fun g => g = w.heap.size ∨ (rv p).ownBlock = some g) w1.drew W) => And.intro ((hW.cell (p := ⟨b, 0, none⟩) hlb nTb).trans c0)
            (And.intro ((hW.cell (p := ⟨wr.heap.size, 0, none⟩) HB1.lt nTv).trans cx) ((hW.cell (p := ⟨wr.heap.size, 1, none⟩) HB1.lt nTv).trans cy)))
          have ma := ((Chg.refl (fun _ => False) w1).drew).alloc (.cells #[.int .i64 (z : Int)] 3)
          have cgd : w1.drew.cell? ⟨w.heap.size, p, none⟩ = some (.slice Ar L cr) := cg
          have cga := (ma.cell (p := ⟨w.heap.size, p, none⟩) hln id).trans cg
          have HO := Lib.hid (own_chg (h1.rows p hp) ma fun _ _ => id)
          rw [hrv] at HO
          have HR := Lib.hid (Reads.of_row (w := (w1.drew.alloc (.cells #[.int .i64 (z : Int)] 3))) (g := w1.heap.size) (n := 1) (size := 1) (cs := #[.int .i64 (z : Int)]) (heap_alloc_new w1.drew _) (by simp))
          have HSZ : Hid (lo ≤ (w1.drew.alloc (.cells #[.int .i64 (z : Int)] 3)).heap.size) := Lib.hid (by
            have := ma.size
            have := h1.low.1
            omega)
          have H1 := Lib.hid (And.intro h1 ma)
          clear h1 hrv ma hw1 c0 cx cy nTb nTv HB1
          refine grow_start (fun g => g = w.heap.size ∨ (rv p).ownBlock = some g) (by kernel_rfl) ?_
          refine grow_take (i := 0) (oi := { dst := some 40, op := Op.move (Operand.tmp 5), type := 40, pos := "topo.go:53", after := #[], guard := none }) (v := ?_) rfl (by kernel_rfl) (by kernel_rfl) (by kernel_rfl) (by rfl) ?_ ?_; rotate_left; focus ((intro W hW; go_simp) <;> with_reducible rfl)
          simp only [Act.put, List.setIfInBounds_toArray, List.set_cons_zero, List.set_cons_succ]
          refine grow_take (i := 1) (oi := { dst := some 41, op := Op.nilCheck (Operand.tmp 40), type := 0, pos := "topo.go:53", after := #[{ on := 0, ground := Ground.data }], guard := none }) (v := ?_) rfl (by kernel_rfl) (by kernel_rfl) (by kernel_rfl) (by rfl) ?_ ?_; rotate_left; focus ((intro W hW; go_simp) <;> with_reducible rfl)
          simp only [Act.put, List.setIfInBounds_toArray, List.set_cons_zero, List.set_cons_succ]
          refine grow_take (i := 2) (oi := { dst := some 42, op := Op.fieldAddr 44 (Operand.tmp 41) 0, type := 0, pos := "topo.go:53", after := #[{ on := 1, ground := Ground.data }], guard := none }) (v := ?_) rfl (by kernel_rfl) (by kernel_rfl) (by kernel_rfl) (by rfl) ?_ ?_; rotate_left; focus ((intro W hW; go_simp) <;> with_reducible rfl)
          simp only [Act.put, List.setIfInBounds_toArray, List.set_cons_zero, List.set_cons_succ]
          refine grow_take (i := 3) (oi := { dst := some 43, op := Op.load 42 (Operand.tmp 42), type := 42, pos := "topo.go:53", after := #[{ on := 2, ground := Ground.data }], guard := none }) (v := ?_) rfl (by kernel_rfl) (by kernel_rfl) (by kernel_rfl) (by rfl) ?_ ?_; rotate_left; focus ((intro W hW; have fct := F.out W hW; go_simp) <;> with_reducible rfl)
          simp only [Act.put, List.setIfInBounds_toArray, List.set_cons_zero, List.set_cons_succ]
          refine grow_take (i := 4) (oi := { dst := some 44, op := Op.fieldAddr 35 (Operand.tmp 7) 0, type := 0, pos := "topo.go:53", after := #[], guard := none }) (v := ?_) rfl (by kernel_rfl) (by kernel_rfl) (by kernel_rfl) (by rfl) ?_ ?_; rotate_left; focus ((intro W hW; go_simp) <;> with_reducible rfl)
          simp only [Act.put, List.setIfInBounds_toArray, List.set_cons_zero, List.set_cons_succ]
          refine grow_take (i := 5) (oi := { dst := some 45, op := Op.load 3 (Operand.tmp 44), type := 3, pos := "topo.go:53", after := #[{ on := 4, ground := Ground.data }], guard := none }) (v := ?_) rfl (by kernel_rfl) (by kernel_rfl) (by kernel_rfl) (by rfl) ?_ ?_; rotate_left; focus ((intro W hW; have fct := F.out W hW; go_simp) <;> with_reducible rfl)
          simp only [Act.put, List.setIfInBounds_toArray, List.set_cons_zero, List.set_cons_succ]
          refine grow_take (i := 6) (oi := { dst := some 46, op := Op.move (Operand.tmp 5), type := 40, pos := "topo.go:53", after := #[], guard := none }) (v := ?_) rfl (by kernel_rfl) (by kernel_rfl) (by kernel_rfl) (by rfl) ?_ ?_; rotate_left; focus ((intro W hW; go_simp) <;> with_reducible rfl)
          simp only [Act.put, List.setIfInBounds_toArray, List.set_cons_zero, List.set_cons_succ]
          refine grow_take (i := 7) (oi := { dst := some 47, op := Op.nilCheck (Operand.tmp 46), type := 0, pos := "topo.go:53", after := #[{ on := 6, ground := Ground.data }], guard := none }) (v := ?_) rfl (by kernel_rfl) (by kernel_rfl) (by kernel_rfl) (by rfl) ?_ ?_; rotate_left; focus ((intro W hW; go_simp) <;> with_reducible rfl)
          simp only [Act.put, List.setIfInBounds_toArray, List.set_cons_zero, List.set_cons_succ]
          refine grow_take (i := 8) (oi := { dst := some 48, op := Op.fieldAddr 44 (Operand.tmp 47) 0, type := 0, pos := "topo.go:53", after := #[{ on := 7, ground := Ground.data }], guard := none }) (v := ?_) rfl (by kernel_rfl) (by kernel_rfl) (by kernel_rfl) (by rfl) ?_ ?_; rotate_left; focus ((intro W hW; go_simp) <;> with_reducible rfl)
          simp only [Act.put, List.setIfInBounds_toArray, List.set_cons_zero, List.set_cons_succ]
          refine grow_take (i := 9) (oi := { dst := some 49, op := Op.load 42 (Operand.tmp 48), type := 42, pos := "topo.go:53", after := #[{ on := 8, ground := Ground.data }], guard := none }) (v := ?_) rfl (by kernel_rfl) (by kernel_rfl) (by kernel_rfl) (by rfl) ?_ ?_; rotate_left; focus ((intro W hW; have fct := F.out W hW; go_simp) <;> with_reducible rfl)
          simp only [Act.put, List.setIfInBounds_toArray, List.set_cons_zero, List.set_cons_succ]
          refine grow_take (i := 10) (oi := { dst := some 50, op := Op.fieldAddr 35 (Operand.tmp 7) 0, type := 0, pos := "topo.go:53", after := #[], guard := none }) (v := ?_) rfl (by kernel_rfl) (by kernel_rfl) (by kernel_rfl) (by rfl) ?_ ?_; rotate_left; focus ((intro W hW; go_simp) <;> with_reducible rfl)
          simp only [Act.put, List.setIfInBounds_toArray, List.set_cons_zero, List.set_cons_succ]
          refine grow_take (i := 11) (oi := { dst := some 51, op := Op.load 3 (Operand.tmp 50), type := 3, pos := "topo.go:53", after := #[{ on := 10, ground := Ground.data }], guard := none }) (v := ?_) rfl (by kernel_rfl) (by kernel_rfl) (by kernel_rfl) (by rfl) ?_ ?_; rotate_left; focus ((intro W hW; have fct := F.out W hW; go_simp) <;> with_reducible rfl)
          simp only [Act.put, List.setIfInBounds_toArray, List.set_cons_zero, List.set_cons_succ]
          refine grow_take (i := 12) (oi := { dst := some 52, op := Op.indexAddr 42 (Operand.tmp 49) (Operand.tmp 51), type := 0, pos := "topo.go:53", after := #[{ on := 9, ground := Ground.data }, { on := 11, ground := Ground.data }], guard := none }) (v := ?_) rfl (by kernel_rfl) (by kernel_rfl) (by kernel_rfl) (by rfl) ?_ ?_; rotate_left; focus ((intro W hW; have fct := F.out W hW; go_simp) <;> with_reducible rfl)
          simp only [Act.put, List.setIfInBounds_toArray, List.set_cons_zero, List.set_cons_succ]
          refine grow_take (i := 14) (oi := { dst := some 54, op := Op.fieldAddr 35 (Operand.tmp 7) 1, type := 0, pos := "topo.go:53", after := #[], guard := none }) (v := ?_) rfl (by kernel_rfl) (by kernel_rfl) (by kernel_rfl) (by rfl) ?_ ?_; rotate_left; focus ((intro W hW; go_simp) <;> with_reducible rfl)
          simp only [Act.put, List.setIfInBounds_toArray, List.set_cons_zero, List.set_cons_succ]
          refine grow_take (i := 15) (oi := { dst := some 55, op := Op.load 3 (Operand.tmp 54), type := 3, pos := "topo.go:53", after := #[{ on := 14, ground := Ground.data }], guard := none }) (v := ?_) rfl (by kernel_rfl) (by kernel_rfl) (by kernel_rfl) (by rfl) ?_ ?_; rotate_left; focus ((intro W hW; have fct := F.out W hW; go_simp) <;> with_reducible rfl)
          simp only [Act.put, List.setIfInBounds_toArray, List.set_cons_zero, List.set_cons_succ]
          refine grow_two (i := 13) (oi := { dst := some 53, op := Op.load 24 (Operand.tmp 52), type := 24, pos := "topo.go:53", after := #[{ on := 12, ground := Ground.data }], guard := none }) (j := 16) (oj := { dst := some 56, op := Op.buildSlice 24 1 #[(0, Operand.tmp 55)], type := 24, pos := "topo.go:53", after := #[{ on := 15, ground := Ground.data }], guard := none }) (by kernel_rfl) rfl rfl (by rfl) (by rfl) (fun K hK => ?_) (fun K hK => ?_)
          go_simp
          refine hK _ _ (Chg.refl _ _) ?_
          clear hK K
          try simp only [Act.put, List.setIfInBounds_toArray, List.set_cons_zero, List.set_cons_succ]
          refine grow_next (i := 16) (oi := { dst := some 56, op := Op.buildSlice 24 1 #[(0, Operand.tmp 55)], type := 24, pos := "topo.go:53", after := #[{ on := 15, ground := Ground.data }], guard := none }) (by kernel_rfl) rfl (by rfl) (fun K hK => ?_)
          go_simp
          refine hK _ _ ((Chg.refl _ _).alloc _) ?_
          clear hK K
          try simp only [Act.put, List.setIfInBounds_toArray, List.set_cons_zero, List.set_cons_succ]
          refine grow_next (i := 17) (oi := { dst := some 57, op := Op.call { callee := Callee.builtin Builtin.append, args := #[Operand.tmp 53, Operand.tmp 56], argTypes := #[24, 24] }, type := 24, pos := "topo.go:53", after := #[{ on := 13, ground := Ground.data }, { on := 16, ground := Ground.data }], guard := none }) (by kernel_rfl) rfl (by rfl) (fun K hK => ?_)
          refine wp_append_ints _ (.tmp 53) (.tmp 56) rfl lo _ (nextF n (ps.take i) p) (by rfl) HO.out _ _ 1 1 [(z : Int)] (by rfl) HR.out (by rw [HL.out]; have := HLM.out; omega) HSZ.out ?_
          intro v5 w5 o5 g5 a5
          rw [← HRV.out] at g5 a5
          have h4 := H1.out.1.new H1.out.2
          have hpu := h4.push hp o5 g5 a5
          have cc : Chg (fun g => (rv p).ownBlock = some g) w1 w5 := (H1.out.2.mono fun _ _ => False.elim).grown g5 fun k e _ => e
          have n5 := H1.out.1.nxt.chg cc (own_ne (H1.out.1.rows p hp) H1.out.1.nxt (by decide))
          have v5b := HB.out.chg cc (own_ne (H1.out.1.rows p hp) HB.out (by decide))
          have F5 := Lib.hid (fun W (_ : Chg (fun g => g = w.heap.size ∨ (rv p).ownBlock = some g) w5 W) => True.intro)
          obtain ⟨A5, cc5, hv5⟩ := o5.form
          obtain ⟨L5, hL5⟩ : ∃ L5, (nextF n (ps.take i) p ++ [(z : Int)]).length = L5 := ⟨_, rfl⟩
          rw [hL5] at hv5
          subst hv5
          have df := n5.frozen p
          have dg := n5.cell p
          rw [List.getElem?_toArray, rowsC_get _ hp] at dg
          have v6b := v5b.far (p := ⟨w.heap.size, p, none⟩) (HB.out.ne_ H1.out.1.nxt (by decide)) (.slice A5 L5 cc5)
          have c56 := (Chg.refl (fun g => g = w.heap.size ∨ (rv p).ownBlock = some g) w5).setCell (p := ⟨w.heap.size, p, none⟩) (fun _ => .inl rfl) (.slice A5 L5 cc5)
          have HP := Lib.hid (And.intro hpu.1 (And.intro ((HT.out.2.2.2.trans H1.out.2 fun _ _ => id).trans hpu.2 fun g hg e => e.elim (fun e => by have := H1.out.1.low.2; have := HLO.out; omega) (fun e => by have := (own_lt (H1.out.1.rows p hp) e).1; have := HLO.out; omega)) v6b))
          refine hK _ _ ((Chg.refl _ _).grown g5 fun k e _ => .inr e) ?_
          clear hK K
          try simp only [Act.put, List.setIfInBounds_toArray, List.set_cons_zero, List.set_cons_succ]
          clear o5 g5 a5 h4 cc n5 v5b hpu hL5 v6b
          refine grow_take (i := 18) (oi := { dst := some 58, op := Op.indexAddr 42 (Operand.tmp 43) (Operand.tmp 45), type := 0, pos := "topo.go:53", after := #[{ on := 3, ground := Ground.data }, { on := 5, ground := Ground.data }, { on := 0, ground := Ground.phase }, { on := 1, ground := Ground.phase }, { on := 2, ground := Ground.phase }, { on := 3, ground := Ground.phase }, { on := 4, ground := Ground.phase }, { on := 5, ground := Ground.phase }, { on := 6, ground := Ground.phase }, { on := 7, ground := Ground.phase }, { on := 8, ground := Ground.phase }, { on := 9, ground := Ground.phase }, { on := 10, ground := Ground.phase }, { on := 11, ground := Ground.phase }, { on := 12, ground := Ground.phase }, { on := 13, ground := Ground.phase }, { on := 14, ground := Ground.phase }, { on := 15, ground := Ground.phase }, { on := 16, ground := Ground.phase }, { on := 17, ground := Ground.phase }], guard := none }) (v := ?_) rfl (by kernel_rfl) (by kernel_rfl) (by kernel_rfl) (by rfl) ?_ ?_; rotate_left; focus ((intro W hW; have fct := F5.out W hW; go_simp) <;> with_reducible rfl)
          simp only [Act.put, List.setIfInBounds_toArray, List.set_cons_zero, List.set_cons_succ]
          refine grow_next (i := 19) (oi := { dst := none, op := Op.store 24 (Operand.tmp 58) (Operand.tmp 57), type := 0, pos := "topo.go:53", after := #[{ on := 18, ground := Ground.data }, { on := 17, ground := Ground.data }, { on := 17, ground := Ground.chain }, { on := 0, ground := Ground.phase }, { on := 1, ground := Ground.phase }, { on := 2, ground := Ground.phase }, { on := 3, ground := Ground.phase }, { on := 4, ground := Ground.phase }, { on := 5, ground := Ground.phase }, { on := 6, ground := Ground.phase }, { on := 7, ground := Ground.phase }, { on := 8, ground := Ground.phase }, { on := 9, ground := Ground.phase }, { on := 10, ground := Ground.phase }, { on := 11, ground := Ground.phase }, { on := 12, ground := Ground.phase }, { on := 13, ground := Ground.phase }, { on := 14, ground := Ground.phase }, { on := 15, ground := Ground.phase }, { on := 16, ground := Ground.phase }, { on := 17, ground := Ground.phase }], guard := none }) (by kernel_rfl) rfl (by rfl) (fun K hK => ?_)
          go_simp
          refine hK _ _ c56 ?_
          clear hK K
          try simp only [Act.put, List.setIfInBounds_toArray, List.set_cons_zero, List.set_cons_succ]
          refine grow_done (by kernel_rfl) ?_ _
          rotate_left
          go_simp
          refine hK _ _ ((Chg.refl _ _).alloc _) ?_
          clear hK K
          try simp only [Act.put, List.setIfInBounds_toArray, List.set_cons_zero, List.set_cons_succ]
          refine grow_next (i := 13) (oi := { dst := some 53, op := Op.load 24 (Operand.tmp 52), type := 24, pos := "topo.go:53", after := #[{ on := 12, ground := Ground.data }], guard := none }) (by kernel_rfl) rfl (by rfl) (fun K hK => ?_)
          go_simp
          refine hK _ _ (Chg.refl _ _) ?_
          clear hK K
          try simp only [Act.put, List.setIfInBounds_toArray, List.set_cons_zero, List.set_cons_succ]
          refine grow_next (i := 17) (oi := { dst := some 57, op := Op.call { callee := Callee.builtin Builtin.append, args := #[Operand.tmp 53, Operand.tmp 56], argTypes := #[24, 24] }, type := 24, pos := "topo.go:53", after := #[{ on := 13, ground := Ground.data }, { on := 16, ground := Ground.data }], guard := none }) (by kernel_rfl) rfl (by rfl) (fun K hK => ?_)
          refine wp_append_ints _ (.tmp 53) (.tmp 56) rfl lo _ (nextF n (ps.take i) p) (by rfl) HO.out _ _ 1 1 [(z : Int)] (by rfl) HR.out (by rw [HL.out]; have := HLM.out; omega) HSZ.out ?_
          intro v5 w5 o5 g5 a5
          rw [← HRV.out] at g5 a5
          have h4 := H1.out.1.new H1.out.2
          have hpu := h4.push hp o5 g5 a5
          have cc : Chg (fun g => (rv p).ownBlock = some g) w1 w5 := (H1.out.2.mono fun _ _ => False.elim).grown g5 fun k e _ => e
          have n5 := H1.out.1.nxt.chg cc (own_ne (H1.out.1.rows p hp) H1.out.1.nxt (by decide))
          have v5b := HB.out.chg cc (own_ne (H1.out.1.rows p hp) HB.out (by decide))
          have F5 := Lib.hid (fun W (_ : Chg (fun g => g = w.heap.size ∨ (rv p).ownBlock = some g) w5 W) => True.intro)
          obtain ⟨A5, cc5, hv5⟩ := o5.form
          obtain ⟨L5, hL5⟩ : ∃ L5, (nextF n (ps.take i) p ++ [(z : Int)]).length = L5 := ⟨_, rfl⟩
          rw [hL5] at hv5
          subst hv5
          have df := n5.frozen p
          have dg := n5.cell p
          rw [List.getElem?_toArray, rowsC_get _ hp] at dg
          have v6b := v5b.far (p := ⟨w.heap.size, p, none⟩) (HB.out.ne_ H1.out.1.nxt (by decide)) (.slice A5 L5 cc5)
          have c56 := (Chg.refl (fun g => g = w.heap.size ∨ (rv p).ownBlock = some g) w5).setCell (p := ⟨w.heap.size, p, none⟩) (fun _ => .inl rfl) (.slice A5 L5 cc5)
          have HP := Lib.hid (And.intro hpu.1 (And.intro ((HT.out.2.2.2.trans H1.out.2 fun _ _ => id).trans hpu.2 fun g hg e => e.elim (fun e => by have := H1.out.1.low.2; have := HLO.out; omega) (fun e => by have := (own_lt (H1.out.1.rows p hp) e).1; have := HLO.out; omega)) v6b))
          refine hK _ _ ((Chg.refl _ _).grown g5 fun k e _ => .inr e) ?_
          clear hK K
          try simp only [Act.put, List.setIfInBounds_toArray, List.set_cons_zero, List.set_cons_succ]
          clear o5 g5 a5 h4 cc n5 v5b hpu hL5 v6b
          refine grow_take (i := 18) (oi := { dst := some 58, op := Op.indexAddr 42 (Operand.tmp 43) (Operand.tmp 45), type := 0, pos := "topo.go:53", after := #[{ on := 3, ground := Ground.data }, { on := 5, ground := Ground.data }, { on := 0, ground := Ground.phase }, { on := 1, ground := Ground.phase }, { on := 2, ground := Ground.phase }, { on := 3, ground := Ground.phase }, { on := 4, ground := Ground.phase }, { on := 5, ground := Ground.phase }, { on := 6, ground := Ground.phase }, { on := 7, ground := Ground.phase }, { on := 8, ground := Ground.phase }, { on := 9, ground := Ground.phase }, { on := 10, ground := Ground.phase }, { on := 11, ground := Ground.phase }, { on := 12, ground := Ground.phase }, { on := 13, ground := Ground.phase }, { on := 14, ground := Ground.phase }, { on := 15, ground := Ground.phase }, { on := 16, ground := Ground.phase }, { on := 17, ground := Ground.phase }], guard := none }) (v := ?_) rfl (by kernel_rfl) (by kernel_rfl) (by kernel_rfl) (by rfl) ?_ ?_; rotate_left; focus ((intro W hW; have fct := F5.out W hW; go_simp) <;> with_reducible rfl)
          simp only [Act.put, List.setIfInBounds_toArray, List.set_cons_zero, List.set_cons_succ]
          refine grow_next (i := 19) (oi := { dst := none, op := Op.store 24 (Operand.tmp 58) (Operand.tmp 57), type := 0, pos := "topo.go:53", after := #[{ on := 18, ground := Ground.data }, { on := 17, ground := Ground.data }, { on := 17, ground := Ground.chain }, { on := 0, ground := Ground.phase }, { on := 1, ground := Ground.phase }, { on := 2, ground := Ground.phase }, { on := 3, ground := Ground.phase }, { on := 4, ground := Ground.phase }, { on := 5, ground := Ground.phase }, { on := 6, ground := Ground.phase }, { on := 7, ground := Ground.phase }, { on := 8, ground := Ground.phase }, { on := 9, ground := Ground.phase }, { on := 10, ground := Ground.phase }, { on := 11, ground := Ground.phase }, { on := 12, ground := Ground.phase }, { on := 13, ground := Ground.phase }, { on := 14, ground := Ground.phase }, { on := 15, ground := Ground.phase }, { on := 16, ground := Ground.phase }, { on := 17, ground := Ground.phase }], guard := none }) (by kernel_rfl) rfl (by rfl) (fun K hK => ?_)
          go_simp
          refine hK _ _ c56 ?_
          clear hK K
          try simp only [Act.put, List.setIfInBounds_toArray, List.set_cons_zero, List.set_cons_succ]
          refine grow_done (by kernel_rfl) ?_ _
          rotate_left
          all_goals
            have HT := Lib.hid HT.out
            clear cg F cgd cga HO HR HSZ F5 df dg c56 hld
            go_wp2_with fail
            generalize w5.setCell ⟨w.heap.size, p, none⟩ (.slice A5 L5 cc5) = w6 at *
            have h6 := HP.out.1
            have d1 := h6.blk.cell 1
            have dy := HP.out.2.2.cell 1
            have dz := h6.ahd.cell (i := z) (by rw [h6.alen]; exact hz)
            have dfz := h6.ahd.frozen z
            simp only [List.getElem?_toArray, List.getElem?_cons_zero, List.getElem?_cons_succ] at d1 dy
            obtain ⟨a, ha⟩ : ∃ a, (aheadL n (ps.take i)).getD z 0 = a := ⟨_, rfl⟩
            have hal := ahead_le n (ps.take i) z
            rw [← aheadL_get _ hz, ha, List.length_take] at hal
            rw [ha] at dz
            have hwr : IntKind.i64.wrap (a + 1) = a + 1 := IntWalk.i64_in _ (by omega)
            have hcn := h6.count z (a + 1)
            have e1 := HT.out.2.1
            have e2 := HT.out.2.2.1
            rw [ha] at e2

            have HZ := Lib.hid (And.intro hcn.1 (And.intro hcn.2 (And.intro e1 (And.intro e2 HT.out.1))))
            clear h6 ha hal hcn e1 e2
            refine wp_region_tail 10 (by kernel_rfl) (by kernel_rfl) ?_
            simp only [List.take_succ_cons, List.take_zero, List.drop_succ_cons, List.drop_zero]
            repeat still_step
            refine wpStill_nil ?_
            go_wp2_with fail
            go_roundw
            case rel => exact ⟨i + 1, upd rv p (.slice A5 L5 cc5), by omega, by go_num, by rw [HZ.out.2.2.2.2, HZ.out.2.2.1, HZ.out.2.2.2.1]; exact HZ.out.1.new (Chg.refl _ _).drew, (HP.out.2.1.trans HZ.out.2.1 fun g hg e => by have h8 := (own_lt HP.out.1.ahd (k := g1) rfl).1; have h9 := HLO.out; omega).drew⟩
            case measure => simp [intOf]; omega
        · have hok : okP n (x, y) = false := by simpa using hok
          have HT := Lib.hid (And.intro htk (And.intro hok (And.intro h1 n1)))
          have hk : ¬ (0 ≤ x ∧ x < n ∧ 0 ≤ y ∧ y < n) := fun e => by rw [okP_iff.2 e] at hok; cases hok
          clear htk hok h1 n1 h nw m1 hbx hk1 hk2 hq hload hlo
          by_cases e1 : 0 ≤ x
          · by_cases e2 : x < n
            · by_cases e3 : 0 ≤ y
              · have e4 : ¬ y < n := fun e4 => hk ⟨e1, e2, e3, e4⟩
                clear hk
                go_wp2_with fail
                go_roundw
                case rel => exact ⟨i + 1, rv, by omega, by go_num, by rw [HT.out.1, next_not HT.out.2.1, ahead_not HT.out.2.1]; exact HT.out.2.2.1, HT.out.2.2.2⟩
                case measure => simp [intOf]; omega
              · clear hk
                go_wp2_with fail
                go_roundw
                case rel => exact ⟨i + 1, rv, by omega, by go_num, by rw [HT.out.1, next_not HT.out.2.1, ahead_not HT.out.2.1]; exact HT.out.2.2.1, HT.out.2.2.2⟩
                case measure => simp [intOf]; omega
            · clear hk
              go_wp2_with fail
              go_roundw
              case rel => exact ⟨i + 1, rv, by omega, by go_num, by rw [HT.out.1, next_not HT.out.2.1, ahead_not HT.out.2.1]; exact HT.out.2.2.1, HT.out.2.2.2⟩
              case measure => simp [intOf]; omega
          · clear hk
            go_wp2_with fail
            go_roundw
            case rel => exact ⟨i + 1, rv, by omega, by go_num, by rw [HT.out.1, next_not HT.out.2.1, ahead_not HT.out.2.1]; exact HT.out.2.2.1, HT.out.2.2.2⟩
            case measure => simp [intOf]; omega
      · obtain rfl : i = m := by omega
        rw [List.take_of_length_le (by omega)] at h
        have HZ := Lib.hid (And.intro h nw)
        clear h nw hk1 hk2 hP
        go_wp2_with fail
        go_ret
        exact ⟨b, w.heap.size, g1, rv, rfl, by subst hlo; exact HZ.out.1, HZ.out.2⟩
  · obtain ⟨lo, hlo⟩ : ∃ lo, lo = w.heap.size := ⟨_, rfl⟩
    go_loopw [7, 16] (fun _ iv wr => ∃ (i : Nat) (rv : Nat → Value), i ≤ m ∧ iv = .int .i64 i ∧ WAt wr lo (w.heap.size + 1 + 1) (w.heap.size+1) w.heap.size n rv (nextF n (ps.take i)) (aheadL n (ps.take i)) ∧ New w wr) (fun _ iv _ => m - (intOf iv).toNat)
    case atStart =>
      refine ⟨0, fun _ => .slice none 0 0, by omega, by go_num, web_start (by omega) ?_ ?_ ?_ (by omega) (by omega) (by omega), ?_⟩
      · exact (Blk.new2 w _ _ 44 #[.slice (some ⟨(w.heap.size+1), 0, none⟩) n n, .slice (some ⟨w.heap.size, 0, none⟩) n n]).drew
      · rw [List.toArray_replicate]
        first | exact ((Blk.new w 24 _).alloc _).alloc _ | exact (Blk.new1 w _ 24 _).alloc _
      · first | exact (Blk.new1 w _ 3 _).alloc _ | exact ((Blk.new w 3 _).alloc _).alloc _
      · exact (((((Chg.refl (fun _ => False) w).alloc _).alloc _).alloc _).drew)
    case round =>
      obtain ⟨i, rv, hi, rfl, h, nw⟩ := hrel
      generalize w.heap.size + 1 + 1 = b at *
      generalize w.heap.size + 1 = g1 at *
      by_cases hlt : i < m
      · obtain ⟨q, hq⟩ : ∃ q, ps[i]? = some q := ⟨_, List.getElem?_eq_getElem (by omega)⟩
        obtain ⟨ad, rfl, hload⟩ := hP i q hq
        have hld := hload wr nw
        have htk : ps.take (i + 1) = ps.take i ++ [q] := by rw [List.take_add_one, hq]; rfl
        obtain ⟨x, y⟩ := q
        have m1 := (Chg.refl (fun _ => False) wr).alloc (.cells #[.int .i64 x, .int .i64 y] 35)
        have hbx := Blk.new wr 35 #[.int .i64 x, .int .i64 y]
        have h1 := h.new m1
        have cx := hbx.cell 0
        have cy := hbx.cell 1
        simp only [List.getElem?_toArray, List.getElem?_cons_zero, List.getElem?_cons_succ] at cx cy
        have n1 := nw.trans m1 fun _ _ => id
        have hii : (i : Int) < m := by omega
        by_cases hok : okP n (x, y) = true
        · obtain ⟨hx0, hx1, hy0, hy1⟩ := okP_iff.1 hok
          obtain ⟨p, rfl⟩ : ∃ p : Nat, x = (p : Int) := ⟨x.toNat, by omega⟩
          obtain ⟨z, rfl⟩ : ∃ z : Nat, y = (z : Int) := ⟨y.toNat, by omega⟩
          simp only at hx0 hx1 hy0 hy1
          have hp : p < n := by omega
          have hz : z < n := by omega
          have hnx := next_yes (ps := ps.take i) hok
          have hah := ahead_yes (ps := ps.take i) hz hok
          have hlb := h1.blk.lt
          have hln := h1.nxt.lt
          have HT := Lib.hid (And.intro htk (And.intro hnx (And.intro hah n1)))
          obtain ⟨Ar, cr, hrv⟩ := (h1.rows p hp).form
          obtain ⟨L, hL⟩ : ∃ L, (nextF n (ps.take i) p).length = L := ⟨_, rfl⟩
          have hLm : L ≤ 200 := by rw [← hL]; exact Nat.le_trans (next_len _ _ _) (by rw [List.length_take]; omega)
          rw [hL] at hrv
          have HL := Lib.hid hL
          have HB := Lib.hid hbx
          have HLO := Lib.hid hlo
          have HLM := Lib.hid hLm
          have HRV := Lib.hid hrv
          clear htk hnx hah n1 h nw m1 hbx hk1 hk2 hq hlo hok hload hL hLm
          go_wp2_with fail
          generalize hw1 : wr.alloc (.cells #[.int .i64 (p : Int), .int .i64 (z : Int)] 35) = w1 at *
          have c0 := h1.blk.cell 0
          have cg := h1.nxt.cell p
          rw [List.getElem?_toArray, rowsC_get _ hp, hrv] at cg
          simp only [List.getElem?_toArray, List.getElem?_cons_zero] at c0
          have HB1 := HB.out
          have nTb : ¬ (b = g1 ∨ (rv p).ownBlock = some b) := by
            rintro (e | e)
            · exact h1.ne_nb e.symm
            · exact own_ne (h1.rows p hp) h1.blk (by decide) e
          have nTv : ¬ (wr.heap.size = g1 ∨ (rv p).ownBlock = some wr.heap.size) := by
            rintro (e | e)
            · exact HB1.ne_ h1.nxt (by decide) e
            · exact own_ne (h1.rows p hp) HB1 (by decide) e
          have F := Lib.hid (fun W (hW : Chg (fun g => g = g1 ∨ (rv p).ownBlock = some g) w1.drew W) => And.intro ((hW.cell (p := ⟨b, 0, none⟩) hlb nTb).trans c0)
            (And.intro ((hW.cell (p := ⟨wr.heap.size, 0, none⟩) HB1.lt nTv).trans cx) ((hW.cell (p := ⟨wr.heap.size, 1, none⟩) HB1.lt nTv).trans cy)))
          have ma := ((Chg.refl (fun _ => False) w1).drew).alloc (.cells #[.int .i64 (z : Int)] 3)
          have cgd : w1.drew.cell? ⟨g1, p, none⟩ = some (.slice Ar L cr) := cg
          have cga := (ma.cell (p := ⟨g1, p, none⟩) hln id).trans cg
          have HO := Lib.hid (own_chg (h1.rows p hp) ma fun _ _ => id)
          rw [hrv] at HO
          have HR := Lib.hid (Reads.of_row (w := (w1.drew.alloc (.cells #[.int .i64 (z : Int)] 3))) (g := w1.heap.size) (n := 1) (size := 1) (cs := #[.int .i64 (z : Int)]) (heap_alloc_new w1.drew _) (by simp))
          have HSZ : Hid (lo ≤ (w1.drew.alloc (.cells #[.int .i64 (z : Int)] 3)).heap.size) := Lib.hid (by
            have := ma.size
            have := h1.low.1
            omega)
          have H1 := Lib.hid (And.intro h1 ma)
          clear h1 hrv ma hw1 c0 cx cy nTb nTv HB1
          refine grow_start (fun g => g = g1 ∨ (rv p).ownBlock = some g) (by kernel_rfl) ?_
          refine grow_take (i := 0) (oi := { dst := some 40, op := Op.move (Operand.tmp 5), type := 40, pos := "topo.go:53", after := #[], guard := none }) (v := ?_) rfl (by kernel_rfl) (by kernel_rfl) (by kernel_rfl) (by rfl) ?_ ?_; rotate_left; focus ((intro W hW; go_simp) <;> with_reducible rfl)
          simp only [Act.put, List.setIfInBounds_toArray, List.set_cons_zero, List.set_cons_succ]
          refine grow_take (i := 1) (oi := { dst := some 41, op := Op.nilCheck (Operand.tmp 40), type := 0, pos := "topo.go:53", after := #[{ on := 0, ground := Ground.data }], guard := none }) (v := ?_) rfl (by kernel_rfl) (by kernel_rfl) (by kernel_rfl) (by rfl) ?_ ?_; rotate_left; focus ((intro W hW; go_simp) <;> with_reducible rfl)
          simp only [Act.put, List.setIfInBounds_toArray, List.set_cons_zero, List.set_cons_succ]
          refine grow_take (i := 2) (oi := { dst := some 42, op := Op.fieldAddr 44 (Operand.tmp 41) 0, type := 0, pos := "topo.go:53", after := #[{ on := 1, ground := Ground.data }], guard := none }) (v := ?_) rfl (by kernel_rfl) (by kernel_rfl) (by kernel_rfl) (by rfl) ?_ ?_; rotate_left; focus ((intro W hW; go_simp) <;> with_reducible rfl)
          simp only [Act.put, List.setIfInBounds_toArray, List.set_cons_zero, List.set_cons_succ]
          refine grow_take (i := 3) (oi := { dst := some 43, op := Op.load 42 (Operand.tmp 42), type := 42, pos := "topo.go:53", after := #[{ on := 2, ground := Ground.data }], guard := none }) (v := ?_) rfl (by kernel_rfl) (by kernel_rfl) (by kernel_rfl) (by rfl) ?_ ?_; rotate_left; focus ((intro W hW; have fct := F.out W hW; go_simp) <;> with_reducible rfl)
          simp only [Act.put, List.setIfInBounds_toArray, List.set_cons_zero, List.set_cons_succ]
          refine grow_take (i := 4) (oi := { dst := some 44, op := Op.fieldAddr 35 (Operand.tmp 7) 0, type := 0, pos := "topo.go:53", after := #[], guard := none }) (v := ?_) rfl (by kernel_rfl) (by kernel_rfl) (by kernel_rfl) (by rfl) ?_ ?_; rotate_left; focus ((intro W hW; go_simp) <;> with_reducible rfl)
          simp only [Act.put, List.setIfInBounds_toArray, List.set_cons_zero, List.set_cons_succ]
          refine grow_take (i := 5) (oi := { dst := some 45, op := Op.load 3 (Operand.tmp 44), type := 3, pos := "topo.go:53", after := #[{ on := 4, ground := Ground.data }], guard := none }) (v := ?_) rfl (by kernel_rfl) (by kernel_rfl) (by kernel_rfl) (by rfl) ?_ ?_; rotate_left; focus ((intro W hW; have fct := F.out W hW; go_simp) <;> with_reducible rfl)
          simp only [Act.put, List.setIfInBounds_toArray, List.set_cons_zero, List.set_cons_succ]
          refine grow_take (i := 6) (oi := { dst := some 46, op := Op.move (Operand.tmp 5), type := 40, pos := "topo.go:53", after := #[], guard := none }) (v := ?_) rfl (by kernel_rfl) (by kernel_rfl) (by kernel_rfl) (by rfl) ?_ ?_; rotate_left; focus ((intro W hW; go_simp) <;> with_reducible rfl)
          simp only [Act.put, List.setIfInBounds_toArray, List.set_cons_zero, List.set_cons_succ]
          refine grow_take (i := 7) (oi := { dst := some 47, op := Op.nilCheck (Operand.tmp 46), type := 0, pos := "topo.go:53", after := #[{ on := 6, ground := Ground.data }], guard := none }) (v := ?_) rfl (by kernel_rfl) (by kernel_rfl) (by kernel_rfl) (by rfl) ?_ ?_; rotate_left; focus ((intro W hW; go_simp) <;> with_reducible rfl)
          simp only [Act.put, List.setIfInBounds_toArray, List.set_cons_zero, List.set_cons_succ]
          refine grow_take (i := 8) (oi := { dst := some 48, op := Op.fieldAddr 44 (Operand.tmp 47) 0, type := 0, pos := "topo.go:53", after := #[{ on := 7, ground := Ground.data }], guard := none }) (v := ?_) rfl (by kernel_rfl) (by kernel_rfl) (by kernel_rfl) (by rfl) ?_ ?_; rotate_left; focus ((intro W hW; go_simp) <;> with_reducible rfl)
          simp only [Act.put, List.setIfInBounds_toArray, List.set_cons_zero, List.set_cons_succ]
          refine grow_take (i := 9) (oi := { dst := some 49, op := Op.load 42 (Operand.tmp 48), type := 42, pos := "topo.go:53", after := #[{ on := 8, ground := Ground.data }], guard := none }) (v := ?_) rfl (by kernel_rfl) (by kernel_rfl) (by kernel_rfl) (by rfl) ?_ ?_; rotate_left; focus ((intro W hW; have fct := F.out W hW; go_simp) <;> with_reducible rfl)
          simp only [Act.put, List.setIfInBounds_toArray, List.set_cons_zero, List.set_cons_succ]
          refine grow_take (i := 10) (oi := { dst := some 50, op := Op.fieldAddr 35 (Operand.tmp 7) 0, type := 0, pos := "topo.go:53", after := #[], guard := none }) (v := ?_) rfl (by kernel_rfl) (by kernel_rfl) (by kernel_rfl) (by rfl) ?_ ?_; rotate_left; focus ((intro W hW; go_simp) <;> with_reducible rfl)
          simp only [Act.put, List.setIfInBounds_toArray, List.set_cons_zero, List.set_cons_succ]
          refine grow_take (i := 11) (oi := { dst := some 51, op := Op.load 3 (Operand.tmp 50), type := 3, pos := "topo.go:53", after := #[{ on := 10, ground := Ground.data }], guard := none }) (v := ?_) rfl (by kernel_rfl) (by kernel_rfl) (by kernel_rfl) (by rfl) ?_ ?_; rotate_left; focus ((intro W hW; have fct := F.out W hW; go_simp) <;> with_reducible rfl)
          simp only [Act.put, List.setIfInBounds_toArray, List.set_cons_zero, List.set_cons_succ]
          refine grow_take (i := 12) (oi := { dst := some 52, op := Op.indexAddr 42 (Operand.tmp 49) (Operand.tmp 51), type := 0, pos := "topo.go:53", after := #[{ on := 9, ground := Ground.data }, { on := 11, ground := Ground.data }], guard := none }) (v := ?_) rfl (by kernel_rfl) (by kernel_rfl) (by kernel_rfl) (by rfl) ?_ ?_; rotate_left; focus ((intro W hW; have fct := F.out W hW; go_simp) <;> with_reducible rfl)
          simp only [Act.put, List.setIfInBounds_toArray, List.set_cons_zero, List.set_cons_succ]
          refine grow_take (i := 14) (oi := { dst := some 54, op := Op.fieldAddr 35 (Operand.tmp 7) 1, type := 0, pos := "topo.go:53", after := #[], guard := none }) (v := ?_) rfl (by kernel_rfl) (by kernel_rfl) (by kernel_rfl) (by rfl) ?_ ?_; rotate_left; focus ((intro W hW; go_simp) <;> with_reducible rfl)
          simp only [Act.put, List.setIfInBounds_toArray, List.set_cons_zero, List.set_cons_succ]
          refine grow_take (i := 15) (oi := { dst := some 55, op := Op.load 3 (Operand.tmp 54), type := 3, pos := "topo.go:53", after := #[{ on := 14, ground := Ground.data }], guard := none }) (v := ?_) rfl (by kernel_rfl) (by kernel_rfl) (by kernel_rfl) (by rfl) ?_ ?_; rotate_left; focus ((intro W hW; have fct := F.out W hW; go_simp) <;> with_reducible rfl)
          simp only [Act.put, List.setIfInBounds_toArray, List.set_cons_zero, List.set_cons_succ]
          refine grow_two (i := 13) (oi := { dst := some 53, op := Op.load 24 (Operand.tmp 52), type := 24, pos := "topo.go:53", after := #[{ on := 12, ground := Ground.data }], guard := none }) (j := 16) (oj := { dst := some 56, op := Op.buildSlice 24 1 #[(0, Operand.tmp 55)], type := 24, pos := "topo.go:53", after := #[{ on := 15, ground := Ground.data }], guard := none }) (by kernel_rfl) rfl rfl (by rfl) (by rfl) (fun K hK => ?_) (fun K hK => ?_)
          go_simp
          refine hK _ _ (Chg.refl _ _) ?_
          clear hK K
          try simp only [Act.put, List.setIfInBounds_toArray, List.set_cons_zero, List.set_cons_succ]
          refine grow_next (i := 16) (oi := { dst := some 56, op := Op.buildSlice 24 1 #[(0, Operand.tmp 55)], type := 24, pos := "topo.go:53", after := #[{ on := 15, ground := Ground.data }], guard := none }) (by kernel_rfl) rfl (by rfl) (fun K hK => ?_)
          go_simp
          refine hK _ _ ((Chg.refl _ _).alloc _) ?_
          clear hK K
          try simp only [Act.put, List.setIfInBounds_toArray, List.set_cons_zero, List.set_cons_succ]
          refine grow_next (i := 17) (oi := { dst := some 57, op := Op.call { callee := Callee.builtin Builtin.append, args := #[Operand.tmp 53, Operand.tmp 56], argTypes := #[24, 24] }, type := 24, pos := "topo.go:53", after := #[{ on := 13, ground := Ground.data }, { on := 16, ground := Ground.data }], guard := none }) (by kernel_rfl) rfl (by rfl) (fun K hK => ?_)
          refine wp_append_ints _ (.tmp 53) (.tmp 56) rfl lo _ (nextF n (ps.take i) p) (by rfl) HO.out _ _ 1 1 [(z : Int)] (by rfl) HR.out (by rw [HL.out]; have := HLM.out; omega) HSZ.out ?_
          intro v5 w5 o5 g5 a5
          rw [← HRV.out] at g5 a5
          have h4 := H1.out.1.new H1.out.2
          have hpu := h4.push hp o5 g5 a5
          have cc : Chg (fun g => (rv p).ownBlock = some g) w1 w5 := (H1.out.2.mono fun _ _ => False.elim).grown g5 fun k e _ => e
          have n5 := H1.out.1.nxt.chg cc (own_ne (H1.out.1.rows p hp) H1.out.1.nxt (by decide))
          have v5b := HB.out.chg cc (own_ne (H1.out.1.rows p hp) HB.out (by decide))
          have F5 := Lib.hid (fun W (_ : Chg (fun g => g = g1 ∨ (rv p).ownBlock = some g) w5 W) => True.intro)
          obtain ⟨A5, cc5, hv5⟩ := o5.form
          obtain ⟨L5, hL5⟩ : ∃ L5, (nextF n (ps.take i) p ++ [(z : Int)]).length = L5 := ⟨_, rfl⟩
          rw [hL5] at hv5
          subst hv5
          have df := n5.frozen p
          have dg := n5.cell p
          rw [List.getElem?_toArray, rowsC_get _ hp] at dg
          have v6b := v5b.far (p := ⟨g1, p, none⟩) (HB.out.ne_ H1.out.1.nxt (by decide)) (.slice A5 L5 cc5)
          have c56 := (Chg.refl (fun g => g = g1 ∨ (rv p).ownBlock = some g) w5).setCell (p := ⟨g1, p, none⟩) (fun _ => .inl rfl) (.slice A5 L5 cc5)
          have HP := Lib.hid (And.intro hpu.1 (And.intro ((HT.out.2.2.2.trans H1.out.2 fun _ _ => id).trans hpu.2 fun g hg e => e.elim (fun e => by have := H1.out.1.low.2; have := HLO.out; omega) (fun e => by have := (own_lt (H1.out.1.rows p hp) e).1; have := HLO.out; omega)) v6b))
          refine hK _ _ ((Chg.refl _ _).grown g5 fun k e _ => .inr e) ?_
          clear hK K
          try simp only [Act.put, List.setIfInBounds_toArray, List.set_cons_zero, List.set_cons_succ]
          clear o5 g5 a5 h4 cc n5 v5b hpu hL5 v6b
          refine grow_take (i := 18) (oi := { dst := some 58, op := Op.indexAddr 42 (Operand.tmp 43) (Operand.tmp 45), type := 0, pos := "topo.go:53", after := #[{ on := 3, ground := Ground.data }, { on := 5, ground := Ground.data }, { on := 0, ground := Ground.phase }, { on := 1, ground := Ground.phase }, { on := 2, ground := Ground.phase }, { on := 3, ground := Ground.phase }, { on := 4, ground := Ground.phase }, { on := 5, ground := Ground.phase }, { on := 6, ground := Ground.phase }, { on := 7, ground := Ground.phase }, { on := 8, ground := Ground.phase }, { on := 9, ground := Ground.phase }, { on := 10, ground := Ground.phase }, { on := 11, ground := Ground.phase }, { on := 12, ground := Ground.phase }, { on := 13, ground := Ground.phase }, { on := 14, ground := Ground.phase }, { on := 15, ground := Ground.phase }, { on := 16, ground := Ground.phase }, { on := 17, ground := Ground.phase }], guard := none }) (v := ?_) rfl (by kernel_rfl) (by kernel_rfl) (by kernel_rfl) (by rfl) ?_ ?_; rotate_left; focus ((intro W hW; have fct := F5.out W hW; go_simp) <;> with_reducible rfl)
          simp only [Act.put, List.setIfInBounds_toArray, List.set_cons_zero, List.set_cons_succ]
          refine grow_next (i := 19) (oi := { dst := none, op := Op.store 24 (Operand.tmp 58) (Operand.tmp 57), type := 0, pos := "topo.go:53", after := #[{ on := 18, ground := Ground.data }, { on := 17, ground := Ground.data }, { on := 17, ground := Ground.chain }, { on := 0, ground := Ground.phase }, { on := 1, ground := Ground.phase }, { on := 2, ground := Ground.phase }, { on := 3, ground := Ground.phase }, { on := 4, ground := Ground.phase }, { on := 5, ground := Ground.phase }, { on := 6, ground := Ground.phase }, { on := 7, ground := Ground.phase }, { on := 8, ground := Ground.phase }, { on := 9, ground := Ground.phase }, { on := 10, ground := Ground.phase }, { on := 11, ground := Ground.phase }, { on := 12, ground := Ground.phase }, { on := 13, ground := Ground.phase }, { on := 14, ground := Ground.phase }, { on := 15, ground := Ground.phase }, { on := 16, ground := Ground.phase }, { on := 17, ground := Ground.phase }], guard := none }) (by kernel_rfl) rfl (by rfl) (fun K hK => ?_)
          go_simp
          refine hK _ _ c56 ?_
          clear hK K
          try simp only [Act.put, List.setIfInBounds_toArray, List.set_cons_zero, List.set_cons_succ]
          refine grow_done (by kernel_rfl) ?_ _
          rotate_left
          go_simp
          refine hK _ _ ((Chg.refl _ _).alloc _) ?_
          clear hK K
          try simp only [Act.put, List.setIfInBounds_toArray, List.set_cons_zero, List.set_cons_succ]
          refine grow_next (i := 13) (oi := { dst := some 53, op := Op.load 24 (Operand.tmp 52), type := 24, pos := "topo.go:53", after := #[{ on := 12, ground := Ground.data }], guard := none }) (by kernel_rfl) rfl (by rfl) (fun K hK => ?_)
          go_simp
          refine hK _ _ (Chg.refl _ _) ?_
          clear hK K
          try simp only [Act.put, List.setIfInBounds_toArray, List.set_cons_zero, List.set_cons_succ]
          refine grow_next (i := 17) (oi := { dst := some 57, op := Op.call { callee := Callee.builtin Builtin.append, args := #[Operand.tmp 53, Operand.tmp 56], argTypes := #[24, 24] }, type := 24, pos := "topo.go:53", after := #[{ on := 13, ground := Ground.data }, { on := 16, ground := Ground.data }], guard := none }) (by kernel_rfl) rfl (by rfl) (fun K hK => ?_)
          refine wp_append_ints _ (.tmp 53) (.tmp 56) rfl lo _ (nextF n (ps.take i) p) (by rfl) HO.out _ _ 1 1 [(z : Int)] (by rfl) HR.out (by rw [HL.out]; have := HLM.out; omega) HSZ.out ?_
          intro v5 w5 o5 g5 a5
          rw [← HRV.out] at g5 a5
          have h4 := H1.out.1.new H1.out.2
          have hpu := h4.push hp o5 g5 a5
          have cc : Chg (fun g => (rv p).ownBlock = some g) w1 w5 := (H1.out.2.mono fun _ _ => False.elim).grown g5 fun k e _ => e
          have n5 := H1.out.1.nxt.chg cc (own_ne (H1.out.1.rows p hp) H1.out.1.nxt (by decide))
          have v5b := HB.out.chg cc (own_ne (H1.out.1.rows p hp) HB.out (by decide))
          have F5 := Lib.hid (fun W (_ : Chg (fun g => g = g1 ∨ (rv p).ownBlock = some g) w5 W) => True.intro)
          obtain ⟨A5, cc5, hv5⟩ := o5.form
          obtain ⟨L5, hL5⟩ : ∃ L5, (nextF n (ps.take i) p ++ [(z : Int)]).length = L5 := ⟨_, rfl⟩
          rw [hL5] at hv5
          subst hv5
          have df := n5.frozen p
          have dg := n5.cell p
          rw [List.getElem?_toArray, rowsC_get _ hp] at dg
          have v6b := v5b.far (p := ⟨g1, p, none⟩) (HB.out.ne_ H1.out.1.nxt (by decide)) (.slice A5 L5 cc5)
          have c56 := (Chg.refl (fun g => g = g1 ∨ (rv p).ownBlock = some g) w5).setCell (p := ⟨g1, p, none⟩) (fun _ => .inl rfl) (.slice A5 L5 cc5)
          have HP := Lib.hid (And.intro hpu.1 (And.intro ((HT.out.2.2.2.trans H1.out.2 fun _ _ => id).trans hpu.2 fun g hg e => e.elim (fun e => by have := H1.out.1.low.2; have := HLO.out; omega) (fun e => by have := (own_lt (H1.out.1.rows p hp) e).1; have := HLO.out; omega)) v6b))
          refine hK _ _ ((Chg.refl _ _).grown g5 fun k e _ => .inr e) ?_
          clear hK K
          try simp only [Act.put, List.setIfInBounds_toArray, List.set_cons_zero, List.set_cons_succ]
          clear o5 g5 a5 h4 cc n5 v5b hpu hL5 v6b
          refine grow_take (i := 18) (oi := { dst := some 58, op := Op.indexAddr 42 (Operand.tmp 43) (Operand.tmp 45), type := 0, pos := "topo.go:53", after := #[{ on := 3, ground := Ground.data }, { on := 5, ground := Ground.data }, { on := 0, ground := Ground.phase }, { on := 1, ground := Ground.phase }, { on := 2, ground := Ground.phase }, { on := 3, ground := Ground.phase }, { on := 4, ground := Ground.phase }, { on := 5, ground := Ground.phase }, { on := 6, ground := Ground.phase }, { on := 7, ground := Ground.phase }, { on := 8, ground := Ground.phase }, { on := 9, ground := Ground.phase }, { on := 10, ground := Ground.phase }, { on := 11, ground := Ground.phase }, { on := 12, ground := Ground.phase }, { on := 13, ground := Ground.phase }, { on := 14, ground := Ground.phase }, { on := 15, ground := Ground.phase }, { on := 16, ground := Ground.phase }, { on := 17, ground := Ground.phase }], guard := none }) (v := ?_) rfl (by kernel_rfl) (by kernel_rfl) (by kernel_rfl) (by rfl) ?_ ?_; rotate_left; focus ((intro W hW; have fct := F5.out W hW; go_simp) <;> with_reducible rfl)
          simp only [Act.put, List.setIfInBounds_toArray, List.set_cons_zero, List.set_cons_succ]
          refine grow_next (i := 19) (oi := { dst := none, op := Op.store 24 (Operand.tmp 58) (Operand.tmp 57), type := 0, pos := "topo.go:53", after := #[{ on := 18, ground := Ground.data }, { on := 17, ground := Ground.data }, { on := 17, ground := Ground.chain }, { on := 0, ground := Ground.phase }, { on := 1, ground := Ground.phase }, { on := 2, ground := Ground.phase }, { on := 3, ground := Ground.phase }, { on := 4, ground := Ground.phase }, { on := 5, ground := Ground.phase }, { on := 6, ground := Ground.phase }, { on := 7, ground := Ground.phase }, { on := 8, ground := Ground.phase }, { on := 9, ground := Ground.phase }, { on := 10, ground := Ground.phase }, { on := 11, ground := Ground.phase }, { on := 12, ground := Ground.phase }, { on := 13, ground := Ground.phase }, { on := 14, ground := Ground.phase }, { on := 15, ground := Ground.phase }, { on := 16, ground := Ground.phase }, { on := 17, ground := Ground.phase }], guard := none }) (by kernel_rfl) rfl (by rfl) (fun K hK => ?_)
          go_simp
          refine hK _ _ c56 ?_
          clear hK K
          try simp only [Act.put, List.setIfInBounds_toArray, List.set_cons_zero, List.set_cons_succ]
          refine grow_done (by kernel_rfl) ?_ _
          rotate_left
          all_goals
            have HT := Lib.hid HT.out
            clear cg F cgd cga HO HR HSZ F5 df dg c56 hld
            go_wp2_with fail
            generalize w5.setCell ⟨g1, p, none⟩ (.slice A5 L5 cc5) = w6 at *
            have h6 := HP.out.1
            have d1 := h6.blk.cell 1
            have dy := HP.out.2.2.cell 1
            have dz := h6.ahd.cell (i := z) (by rw [h6.alen]; exact hz)
            have dfz := h6.ahd.frozen z
            simp only [List.getElem?_toArray, List.getElem?_cons_zero, List.getElem?_cons_succ] at d1 dy
            obtain ⟨a, ha⟩ : ∃ a, (aheadL n (ps.take i)).getD z 0 = a := ⟨_, rfl⟩
            have hal := ahead_le n (ps.take i) z
            rw [← aheadL_get _ hz, ha, List.length_take] at hal
            rw [ha] at dz
            have hwr : IntKind.i64.wrap (a + 1) = a + 1 := IntWalk.i64_in _ (by omega)
            have hcn := h6.count z (a + 1)
            have e1 := HT.out.2.1
            have e2 := HT.out.2.2.1
            rw [ha] at e2

            have HZ := Lib.hid (And.intro hcn.1 (And.intro hcn.2 (And.intro e1 (And.intro e2 HT.out.1))))
            clear h6 ha hal hcn e1 e2
            refine wp_region_tail 10 (by kernel_rfl) (by kernel_rfl) ?_
            simp only [List.take_succ_cons, List.take_zero, List.drop_succ_cons, List.drop_zero]
            repeat still_step
            refine wpStill_nil ?_
            go_wp2_with fail
            go_roundw
            case rel => exact ⟨i + 1, upd rv p (.slice A5 L5 cc5), by omega, by go_num, by rw [HZ.out.2.2.2.2, HZ.out.2.2.1, HZ.out.2.2.2.1]; exact HZ.out.1.new (Chg.refl _ _).drew, (HP.out.2.1.trans HZ.out.2.1 fun g hg e => by have h8 := (own_lt HP.out.1.ahd (k := w.heap.size) rfl).1; have h9 := HLO.out; omega).drew⟩
            case measure => simp [intOf]; omega
        · have hok : okP n (x, y) = false := by simpa using hok
          have HT := Lib.hid (And.intro htk (And.intro hok (And.intro h1 n1)))
          have hk : ¬ (0 ≤ x ∧ x < n ∧ 0 ≤ y ∧ y < n) := fun e => by rw [okP_iff.2 e] at hok; cases hok
          clear htk hok h1 n1 h nw m1 hbx hk1 hk2 hq hload hlo
          by_cases e1 : 0 ≤ x
          · by_cases e2 : x < n
            · by_cases e3 : 0 ≤ y
              · have e4 : ¬ y < n := fun e4 => hk ⟨e1, e2, e3, e4⟩
                clear hk
                go_wp2_with fail
                go_roundw
                case rel => exact ⟨i + 1, rv, by omega, by go_num, by rw [HT.out.1, next_not HT.out.2.1, ahead_not HT.out.2.1]; exact HT.out.2.2.1, HT.out.2.2.2⟩
                case measure => simp [intOf]; omega
              · clear hk
                go_wp2_with fail
                go_roundw
                case rel => exact ⟨i + 1, rv, by omega, by go_num, by rw [HT.out.1, next_not HT.out.2.1, ahead_not HT.out.2.1]; exact HT.out.2.2.1, HT.out.2.2.2⟩
                case measure => simp [intOf]; omega
            · clear hk
              go_wp2_with fail
              go_roundw
              case rel => exact ⟨i + 1, rv, by omega, by go_num, by rw [HT.out.1, next_not HT.out.2.1, ahead_not HT.out.2.1]; exact HT.out.2.2.1, HT.out.2.2.2⟩
              case measure => simp [intOf]; omega
          · clear hk
            go_wp2_with fail
            go_roundw
            case rel => exact ⟨i + 1, rv, by omega, by go_num, by rw [HT.out.1, next_not HT.out.2.1, ahead_not HT.out.2.1]; exact HT.out.2.2.1, HT.out.2.2.2⟩
            case measure => simp [intOf]; omega
      · obtain rfl : i = m := by omega
        rw [List.take_of_length_le (by omega)] at h
        have HZ := Lib.hid (And.intro h nw)
        clear h nw hk1 hk2 hP
        go_wp2_with fail
        go_ret
        exact ⟨b, g1, w.heap.size, rv, rfl, by subst hlo; exact HZ.out.1, HZ.out.2⟩
end Topo
end Go.Proofs.Ytonopommbpkfgaa

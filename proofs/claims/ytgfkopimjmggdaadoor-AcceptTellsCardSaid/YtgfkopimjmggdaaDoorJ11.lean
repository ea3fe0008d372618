/-
  The law's fixed: it says true (no condition beyond the sizes, and that MaxLen holds a number).
-/
import Derived.Test.YtgfkopimjmggdaaDoorJ10
/- The law's fixed: it says true (no condition beyond the sizes, and that MaxLen holds a number). -/
namespace Go.Proofs.YtgfkopimjmggdaaDoor
set_option linter.unusedSimpArgs false
set_option linter.unusedVariables false
open Go.ChangeShapes Go.WideShapes Go.RowKit Go.Deep
namespace Acc
open Val (JoinC)
open Evt Vec Num Stable Cmp
attribute [local go_sem ↓] Evt.loadDot Evt.loadVec Evt.loadRow0 Evt.storeRow0 Evt.loadOnly0 Evt.loadOnly1 Evt.loadOnly2 Vec.loadRow0 Vec.storeRow0
attribute [local go_sem ↓] buildRow0 eqlRow0 eqlRow1
theorem blk_el {w : World} {g : Nat} {k : Int} {a b c d : ByteArray} (h : Blk w g 31 #[.int .i64 k, .string a, .string b, .string c, .string d]) : (LoadRow 31 ⟨g, 0, none⟩).run Tryd.prog w = .ok (.agg #[.int .i64 k, .string a, .string b, .string c, .string d]) w :=
  run_LoadRow (P := Tryd.prog) (n := 5) (cs := [.int .i64 k, .string a, .string b, .string c, .string d]) Tryd.underlying31 rfl (by kernel_rfl) rfl (Blk.range_all (cs := [_, _, _, _, _]) h)
theorem fit1 : Fit ev1 := ⟨fun i => by unfold ev1; dsimp only; split <;> decide, by decide⟩
theorem fit2 : Fit ev2 := ⟨fun i => by unfold ev2; dsimp only; split <;> decide, by decide⟩
theorem fitz : Fit zero := ⟨fun i => by show (0 : Nat) ≤ 1000000; decide, by decide⟩
theorem ok1 : Ok ev1 := by unfold Ok I64; decide
theorem ok2 : Ok ev2 := by unfold Ok I64; decide
set_option maxHeartbeats 20000000 in
set_option maxRecDepth 20000 in
theorem fixed (hJ : JoinC) (w : World) (hm : Val.MaxAt w) : Calls Tryd.prog 7 #[] w fun x w' => x = .returned (.bool true) ∧ New w w' := by
  have hz : ∀ W, (zeroValue 35).run Tryd.prog W = .ok (.agg #[.int .i64 0, .int .i64 0, .int .i64 0, .int .i64 0, .int .i64 0, .int .i64 0, .int .i64 0, .int .i64 0, .int .i64 0, .int .i64 0, .int .i64 0, .int .i64 0, .int .i64 0, .int .i64 0, .int .i64 0, .int .i64 0, .int .i64 0, .int .i64 0, .int .i64 0, .int .i64 0, .string ⟨#[]⟩, .string ⟨#[]⟩, .string ⟨#[]⟩, .string ⟨#[]⟩, .int .i64 0, .int .i64 0, .string ⟨#[]⟩]) W := fun W => by kernel_rfl
  have hzv : ∀ W, (zeroValue 23).run Tryd.prog W = .ok (.agg #[.int .i64 0, .int .i64 0, .int .i64 0, .int .i64 0, .int .i64 0, .int .i64 0, .int .i64 0, .int .i64 0, .int .i64 0, .int .i64 0, .int .i64 0, .int .i64 0, .int .i64 0, .int .i64 0, .int .i64 0, .int .i64 0]) W := fun W => by kernel_rfl
  have n1 := (Chg.refl (fun _ => False) w).alloc (.cells #[.int .i64 1, .string ⟨#[97]⟩, .string ⟨#[]⟩, .string ⟨#[]⟩, .string ⟨#[]⟩] 31)
  have B1 := Blk.new w 31 #[.int .i64 1, .string ⟨#[97]⟩, .string ⟨#[]⟩, .string ⟨#[]⟩, .string ⟨#[]⟩]
  have l1 := blk_el B1
  have HM := Lib.hid (And.intro hm hJ)
  have N1 := Lib.hid n1
  have HB1 := Lib.hid B1
  have g1 := B1.lt
  clear n1 B1 hm hJ
  go_enter Tryd.func7, Tryd.ntmps7
  go_upto_region 2 with fail
  generalize hw0 : w.alloc (.cells #[.int .i64 1, .string ⟨#[97]⟩, .string ⟨#[]⟩, .string ⟨#[]⟩, .string ⟨#[]⟩] 31) = w0 at *
  obtain ⟨w1, hst1, b1, m1, q1⟩ := new_ev w0 ev1
  obtain ⟨ge1, hge1⟩ : ∃ g, w0.heap.size = g := ⟨_, rfl⟩
  rw [hge1] at hst1 b1 q1
  replace hst1 : (StoreRow 35 ⟨ge1, 0, none⟩ (.agg #[.int .i64 0, .int .i64 1, .int .i64 0, .int .i64 0, .int .i64 0, .int .i64 0, .int .i64 0, .int .i64 0, .int .i64 0, .int .i64 0, .int .i64 0, .int .i64 0, .int .i64 0, .int .i64 0, .int .i64 0, .int .i64 0, .int .i64 0, .int .i64 0, .int .i64 1, .int .i64 1, .string ⟨#[97]⟩, .string ⟨#[]⟩, .string ⟨#[]⟩, .string ⟨#[]⟩, .int .i64 0, .int .i64 0, .string ⟨#[]⟩])).run Tryd.prog (w0.alloc (.cells #[.int .i64 0, .int .i64 0, .int .i64 0, .int .i64 0, .int .i64 0, .int .i64 0, .int .i64 0, .int .i64 0, .int .i64 0, .int .i64 0, .int .i64 0, .int .i64 0, .int .i64 0, .int .i64 0, .int .i64 0, .int .i64 0, .int .i64 0, .int .i64 0, .int .i64 0, .int .i64 0, .string ⟨#[]⟩, .string ⟨#[]⟩, .string ⟨#[]⟩, .string ⟨#[]⟩, .int .i64 0, .int .i64 0, .string ⟨#[]⟩] 35)) = .ok () w1 := hst1
  clear q1
  go_upto_region 3 with fail
  have l2 := blk_el (HB1.out.chg m1 id)
  obtain ⟨w2, hst2, b2, m2, q2⟩ := new_ev w1 ev2
  obtain ⟨ge2, hge2⟩ : ∃ g, w1.heap.size = g := ⟨_, rfl⟩
  rw [hge2] at hst2 b2 q2
  replace hst2 : (StoreRow 35 ⟨ge2, 0, none⟩ (.agg #[.int .i64 0, .int .i64 2, .int .i64 1, .int .i64 0, .int .i64 0, .int .i64 0, .int .i64 0, .int .i64 0, .int .i64 0, .int .i64 0, .int .i64 0, .int .i64 0, .int .i64 0, .int .i64 0, .int .i64 0, .int .i64 0, .int .i64 0, .int .i64 0, .int .i64 1, .int .i64 1, .string ⟨#[97]⟩, .string ⟨#[]⟩, .string ⟨#[]⟩, .string ⟨#[]⟩, .int .i64 0, .int .i64 0, .string ⟨#[]⟩])).run Tryd.prog (w1.alloc (.cells #[.int .i64 0, .int .i64 0, .int .i64 0, .int .i64 0, .int .i64 0, .int .i64 0, .int .i64 0, .int .i64 0, .int .i64 0, .int .i64 0, .int .i64 0, .int .i64 0, .int .i64 0, .int .i64 0, .int .i64 0, .int .i64 0, .int .i64 0, .int .i64 0, .int .i64 0, .int .i64 0, .string ⟨#[]⟩, .string ⟨#[]⟩, .string ⟨#[]⟩, .string ⟨#[]⟩, .int .i64 0, .int .i64 0, .string ⟨#[]⟩] 35)) = .ok () w2 := hst2
  have hgw : w.heap.size < w1.heap.size := (HB1.out.chg m1 id).lt
  clear l1 g1 hst1 q2
  go_upto_region 4 with fail
  clear hst2 l2 hgw
  have H2 := Lib.hid (And.intro (b1.chg m2 id) (And.intro b2 (And.intro (N1.out.trans (m1.trans m2 fun _ _ => id) fun _ _ => id) hge1)))
  obtain ⟨X1, hX1⟩ : ∃ X, ev1.cs.toArray = X := ⟨_, rfl⟩
  obtain ⟨X2, hX2⟩ : ∃ X, ev2.cs.toArray = X := ⟨_, rfl⟩
  have le1 : (LoadRow 35 ⟨ge1, 0, none⟩).run Tryd.prog w2 = .ok (.agg X1) w2 := by rw [← hX1]; exact ldE H2.out.1
  have le2 : (LoadRow 35 ⟨ge2, 0, none⟩).run Tryd.prog w2 = .ok (.agg X2) w2 := by rw [← hX2]; exact ldE H2.out.2.1
  have gg1 := H2.out.1.lt
  have gg2 := H2.out.2.1.lt
  have HX := Lib.hid (And.intro hX1 hX2)
  have hB3 : ∀ W, (BuildE 3 #[(0, .agg X1), (1, .agg X1), (2, .agg X2)]).run Tryd.prog W = .ok (.slice (some ⟨W.heap.size, 0, none⟩) 3 3) (W.alloc (.cells (rowE [ev1, ev1, ev2]).toArray 35)) := by rw [← hX1, ← hX2]; exact build112
  have hB21 : ∀ W, (BuildE 2 #[(0, .agg X2), (1, .agg X1)]).run Tryd.prog W = .ok (.slice (some ⟨W.heap.size, 0, none⟩) 2 2) (W.alloc (.cells (rowE [ev2, ev1]).toArray 35)) := by rw [← hX1, ← hX2]; exact build21
  have hB12 : ∀ W, (BuildE 2 #[(0, .agg X1), (1, .agg X2)]).run Tryd.prog W = .ok (.slice (some ⟨W.heap.size, 0, none⟩) 2 2) (W.alloc (.cells (rowE [ev1, ev2]).toArray 35)) := by rw [← hX1, ← hX2]; exact build12
  have hB2 : ∀ W, (BuildE 1 #[(0, .agg X2)]).run Tryd.prog W = .ok (.slice (some ⟨W.heap.size, 0, none⟩) 1 1) (W.alloc (.cells (rowE [ev2]).toArray 35)) := by rw [← hX2]; exact build2
  have hfe : ∀ e ∈ [ev1, ev1, ev2], Fit e := fun e he => by
    simp only [List.mem_cons, List.not_mem_nil, or_false] at he
    rcases he with rfl | rfl | rfl
    · exact fit1
    · exact fit1
    · exact fit2
  have hke : ∀ e ∈ [ev2, ev1], Ok e := fun e he => by
    simp only [List.mem_cons, List.not_mem_nil, or_false] at he
    rcases he with rfl | rfl
    · exact ok2
    · exact ok1
  obtain ⟨wa, hwa⟩ : ∃ W, w2.alloc (.cells (rowE [ev1, ev1, ev2]).toArray 35) = W := ⟨_, rfl⟩
  have ma := (Chg.refl (fun _ => False) w2).alloc (.cells (rowE [ev1, ev1, ev2]).toArray 35)
  have hra : Reads wa (fun b => b = w2.heap.size) 27 (some ⟨w2.heap.size, 0, none⟩) 3 (rowE [ev1, ev1, ev2]) := by
    rw [← hwa]
    have := Reads.of_row (w := w2.alloc (.cells (rowE [ev1, ev1, ev2]).toArray 35)) (g := w2.heap.size) (n := 3) (size := 27) (heap_alloc_new w2 _) rfl
    exact this
  rw [hwa] at ma
  have CA := all_ HM.out.2 wa zeros (some ⟨w2.heap.size, 0, none⟩) 3 3 _ [ev1, ev1, ev2] hra (fun b hb => by rw [hb, ← hwa]; simp) rfl (by decide) rfl hfe (HM.out.1.new (H2.out.2.2.1.trans ma fun _ _ => id))
  rw [all3] at CA
  replace CA : Calls Tryd.prog 11 #[.agg #[.int .i64 0, .int .i64 0, .int .i64 0, .int .i64 0, .int .i64 0, .int .i64 0, .int .i64 0, .int .i64 0, .int .i64 0, .int .i64 0, .int .i64 0, .int .i64 0, .int .i64 0, .int .i64 0, .int .i64 0, .int .i64 0], .slice (some ⟨w2.heap.size, 0, none⟩) 3 3] wa fun x w' => ∃ u, x = .returned (.tuple #[u, .agg #[.int .i64 2, .int .i64 0, .int .i64 0, .int .i64 0, .int .i64 0, .int .i64 0, .int .i64 0, .int .i64 0, .int .i64 0, .int .i64 0, .int .i64 0, .int .i64 0, .int .i64 0, .int .i64 0, .int .i64 0, .int .i64 0], .int .i64 0]) ∧ OwnE w' wa.heap.size u [ev1, ev2] ∧ New wa w' := CA
  have HKE := Lib.hid (And.intro hke hfe)
  have CA := Lib.hid CA
  have HWA := Lib.hid ma
  clear ma hra hke hfe
  have hs1 : X1.size = 27 := by rw [← hX1]; rfl
  have hs2 : X2.size = 27 := by rw [← hX2]; rfl
  clear b1 m1 m2 b2 hge1 hge2 hw0 hX1 hX2
  go_wp2_with fail
  try rw [hwa]
  with_reducible refine CA.out.mono ?_
  rintro x w3 ⟨u, rfl, o3, n3⟩
  obtain ⟨A3, c3, rfl⟩ := o3.form
  have m3 := HWA.out.trans n3 fun _ _ => id
  have hb3 := Blk.new w3 23 (ints zeros).toArray
  have hs3 := stB (xs := v2) (old := zeros) rfl rfl hb3
  obtain ⟨g5, hg5⟩ : ∃ g, w3.heap.size = g := ⟨_, rfl⟩
  rw [hg5] at hs3 hb3
  have m4 := Chg.setCells (S := fun _ => False) (a := w3) (g := g5) (ints v2) 0 _ ((Chg.refl (fun _ => False) w3).alloc (.cells (ints zeros).toArray 23)) (fun h => by rw [hg5] at h; omega)
  generalize hw4 : (w3.alloc (.cells (ints zeros).toArray 23)).setCells g5 0 (ints v2) = w4 at *
  have hst3 : (StoreRow 23 ⟨g5, 0, none⟩ (.agg #[.int .i64 2, .int .i64 0, .int .i64 0, .int .i64 0, .int .i64 0, .int .i64 0, .int .i64 0, .int .i64 0, .int .i64 0, .int .i64 0, .int .i64 0, .int .i64 0, .int .i64 0, .int .i64 0, .int .i64 0, .int .i64 0])).run Tryd.prog (w3.alloc (.cells #[.int .i64 0, .int .i64 0, .int .i64 0, .int .i64 0, .int .i64 0, .int .i64 0, .int .i64 0, .int .i64 0, .int .i64 0, .int .i64 0, .int .i64 0, .int .i64 0, .int .i64 0, .int .i64 0, .int .i64 0, .int .i64 0] 23)) = .ok () w4 := hs3.1
  have H4 := Lib.hid (And.intro (H2.out.1.chg (m3.trans m4 fun _ _ => id) id) (And.intro (H2.out.2.1.chg (m3.trans m4 fun _ _ => id) id) (And.intro hs3.2 (And.intro (own_chg o3 m4 fun _ _ => id) (H2.out.2.2.1.trans (m3.trans m4 fun _ _ => id) fun _ _ => id)))))
  have hgg : g5 < (w3.alloc (.cells #[.int .i64 0, .int .i64 0, .int .i64 0, .int .i64 0, .int .i64 0, .int .i64 0, .int .i64 0, .int .i64 0, .int .i64 0, .int .i64 0, .int .i64 0, .int .i64 0, .int .i64 0, .int .i64 0, .int .i64 0, .int .i64 0] 23)).heap.size := hb3.lt
  clear m3 m4 hs3 hb3 o3 n3 CA le1 le2 gg1 gg2 hw4
  go_upto_region 5 with fail
  clear hst3 hgg
  have le1 : (LoadRow 35 ⟨ge1, 0, none⟩).run Tryd.prog w4 = .ok (.agg X1) w4 := by rw [← HX.out.1]; exact ldE H4.out.1
  have le2 : (LoadRow 35 ⟨ge2, 0, none⟩).run Tryd.prog w4 = .ok (.agg X2) w4 := by rw [← HX.out.2]; exact ldE H4.out.2.1
  have gg1 := H4.out.1.lt
  have gg2 := H4.out.2.1.lt
  obtain ⟨wb, hwb⟩ : ∃ W, w4.alloc (.cells (rowE [ev2, ev1]).toArray 35) = W := ⟨_, rfl⟩
  have mb := (Chg.refl (fun _ => False) w4).alloc (.cells (rowE [ev2, ev1]).toArray 35)
  have hrb : Reads wb (fun b => b = w4.heap.size) 27 (some ⟨w4.heap.size, 0, none⟩) 2 (rowE [ev2, ev1]) := by
    rw [← hwb]
    have := Reads.of_row (w := w4.alloc (.cells (rowE [ev2, ev1]).toArray 35)) (g := w4.heap.size) (n := 2) (size := 27) (heap_alloc_new w4 _) rfl
    exact this
  rw [hwb] at mb
  have CS := Lib.hid (sort_ wb (some ⟨w4.heap.size, 0, none⟩) 2 2 _ [ev2, ev1] hrb (by decide) rfl HKE.out.1)
  have HMB := Lib.hid mb
  clear mb hrb
  go_wp2_with fail
  try rw [hwb]
  with_reducible refine CS.out.mono ?_
  rintro x w5 ⟨u5, s5, rfl, o5, p5, t5, n5⟩
  have hs5 := sort12 p5 t5
  subst hs5
  obtain ⟨gs, cs, hu5, hgs⟩ := World.ownsRow.form o5 (by decide)
  subst hu5
  have m5 := HMB.out.trans n5 fun _ _ => id
  have H5 := Lib.hid (And.intro (H4.out.1.chg m5 id) (And.intro (H4.out.2.1.chg m5 id) (And.intro (H4.out.2.2.1.chg m5 id) (And.intro (own_chg H4.out.2.2.2.1 m5 fun _ _ => id) (And.intro o5 (H4.out.2.2.2.2.trans m5 fun _ _ => id))))))
  clear o5 p5 t5 n5 m5 CS le1 le2 gg1 gg2
  go_upto_region 6 with fail
  clear hB3 hB21 hwa hwb hg5
  have F := Lib.hid (fun W (hW : New w5.drew W) => (show (LoadRow 35 ⟨ge1, 0, none⟩).run Tryd.prog W = .ok (.agg X1) W ∧ (LoadRow 35 ⟨ge2, 0, none⟩).run Tryd.prog W = .ok (.agg X2) W ∧ (LoadRow 23 ⟨g5, 0, none⟩).run Tryd.prog W = .ok (.agg #[.int .i64 2, .int .i64 0, .int .i64 0, .int .i64 0, .int .i64 0, .int .i64 0, .int .i64 0, .int .i64 0, .int .i64 0, .int .i64 0, .int .i64 0, .int .i64 0, .int .i64 0, .int .i64 0, .int .i64 0, .int .i64 0]) W ∧ (LoadRow 35 ⟨gs, 0, none⟩).run Tryd.prog W = .ok (.agg X1) W ∧ ge1 < W.heap.size ∧ ge2 < W.heap.size ∧ g5 < W.heap.size ∧ gs < W.heap.size ∧ (EqlE (.agg X1) (.agg X1)).run Tryd.prog W = .ok (.bool true) W ∧ (EqlV (.agg #[.int .i64 2, .int .i64 0, .int .i64 0, .int .i64 0, .int .i64 0, .int .i64 0, .int .i64 0, .int .i64 0, .int .i64 0, .int .i64 0, .int .i64 0, .int .i64 0, .int .i64 0, .int .i64 0, .int .i64 0, .int .i64 0]) (.agg #[.int .i64 2, .int .i64 0, .int .i64 0, .int .i64 0, .int .i64 0, .int .i64 0, .int .i64 0, .int .i64 0, .int .i64 0, .int .i64 0, .int .i64 0, .int .i64 0, .int .i64 0, .int .i64 0, .int .i64 0, .int .i64 0])).run Tryd.prog W = .ok (.bool true) W from by
    have hW5 : New w5 W := ((Chg.refl (fun _ => False) w5).drew).trans hW fun _ _ => id
    have lq := ld_ev (Reads.of_own (own_chg H5.out.2.2.2.2.1 hW5 fun _ _ => id)) (i := 0) (e := ev1) rfl
    obtain ⟨ad, had, lq⟩ := lq
    injection had with had
    subst had
    rw [← HX.out.1, ← HX.out.2]
    have hv := eqV (xs := v2) (ys := v2) rfl rfl W
    rw [show (v2 == v2) = true by simp] at hv
    have he := eqS_ev 9997 ev1 ev1 W
    rw [eqE_refl] at he
    have hbe : (binOp .eql 35 (.agg ev1.cs.toArray) (.agg ev1.cs.toArray)).run Tryd.prog W = .ok (.bool true) W := by
      rw [run_eql_struct]
      unfold Ev.val at he
      rw [show (10000 : Nat) = 9997 + 3 from rfl, he]
      rfl
    exact ⟨ldE (H5.out.1.chg hW5 id), ldE (H5.out.2.1.chg hW5 id), ldB rfl (H5.out.2.2.1.chg hW5 id), lq, (H5.out.1.chg hW5 id).lt, (H5.out.2.1.chg hW5 id).lt, (H5.out.2.2.1.chg hW5 id).lt, Nat.lt_of_lt_of_le hgs.2 hW5.size, hbe, hv⟩))
  have HMX := Lib.hid (fun W (hW : New w5.drew W) => (show Val.MaxAt W from HM.out.1.new (H5.out.2.2.2.2.2.drew.trans hW fun _ _ => id)))
  have C8 := Lib.hid (fun W (hW : New w5.drew W) => (show Calls Tryd.prog 9 #[.agg #[.int .i64 0, .int .i64 0, .int .i64 0, .int .i64 0, .int .i64 0, .int .i64 0, .int .i64 0, .int .i64 0, .int .i64 0, .int .i64 0, .int .i64 0, .int .i64 0, .int .i64 0, .int .i64 0, .int .i64 0, .int .i64 0], .agg X2] W fun x w' => x = .returned (.int .i64 8) ∧ New W w' from by
    have := one_ HM.out.2 W zeros ev2 rfl fit2 (HMX.out W hW)
    rw [o02] at this
    rw [← HX.out.2]
    exact this))
  have C5 := Lib.hid (fun W (hW : New w5.drew W) => (show Calls Tryd.prog 9 #[.agg #[.int .i64 1, .int .i64 0, .int .i64 0, .int .i64 0, .int .i64 0, .int .i64 0, .int .i64 0, .int .i64 0, .int .i64 0, .int .i64 0, .int .i64 0, .int .i64 0, .int .i64 0, .int .i64 0, .int .i64 0, .int .i64 0], .agg X1] W fun x w' => x = .returned (.int .i64 5) ∧ New W w' from by
    have := one_ HM.out.2 W v1 ev1 rfl fit1 (HMX.out W hW)
    rw [o11] at this
    rw [← HX.out.1]
    exact this))
  have C1 := Lib.hid (fun W (hW : New w5.drew W) => (show Calls Tryd.prog 9 #[.agg #[.int .i64 0, .int .i64 0, .int .i64 0, .int .i64 0, .int .i64 0, .int .i64 0, .int .i64 0, .int .i64 0, .int .i64 0, .int .i64 0, .int .i64 0, .int .i64 0, .int .i64 0, .int .i64 0, .int .i64 0, .int .i64 0], .agg #[.int .i64 0, .int .i64 0, .int .i64 0, .int .i64 0, .int .i64 0, .int .i64 0, .int .i64 0, .int .i64 0, .int .i64 0, .int .i64 0, .int .i64 0, .int .i64 0, .int .i64 0, .int .i64 0, .int .i64 0, .int .i64 0, .int .i64 0, .int .i64 0, .int .i64 0, .int .i64 0, .string ⟨#[]⟩, .string ⟨#[]⟩, .string ⟨#[]⟩, .string ⟨#[]⟩, .int .i64 0, .int .i64 0, .string ⟨#[]⟩]] W fun x w' => x = .returned (.int .i64 1) ∧ New W w' from by
    have := one_ HM.out.2 W zeros zero rfl fitz (HMX.out W hW)
    rw [oz] at this
    exact this))
  have CR2 := Lib.hid (fun W (hW : New w5.drew W) => (show Calls Tryd.prog 14 #[.slice (some ⟨W.heap.size, 0, none⟩) 2 2] (W.alloc (.cells (rowE [ev1, ev2]).toArray 35)) fun x w' => x = .returned (.bool true) ∧ New (W.alloc (.cells (rowE [ev1, ev2]).toArray 35)) w' from by
    have hrd : Reads (W.alloc (.cells (rowE [ev1, ev2]).toArray 35)) (fun b => b = W.heap.size) 27 (some ⟨W.heap.size, 0, none⟩) 2 (rowE [ev1, ev2]) := Reads.of_row (w := W.alloc (.cells (rowE [ev1, ev2]).toArray 35)) (g := W.heap.size) (n := 2) (size := 27) (heap_alloc_new W _) rfl
    have := row_ HM.out.2 _ (some ⟨W.heap.size, 0, none⟩) 2 2 _ [ev1, ev2] hrd (fun b hb => by rw [hb]; simp) (by decide) rfl (fun e he => HKE.out.2 e (List.mem_cons_of_mem _ he)) ((HMX.out W hW).new ((Chg.refl (fun _ => False) W).alloc _))
    rw [row2] at this
    exact this))
  have CR1 := Lib.hid (fun W (hW : New w5.drew W) => (show Calls Tryd.prog 14 #[.slice (some ⟨W.heap.size, 0, none⟩) 1 1] (W.alloc (.cells (rowE [ev2]).toArray 35)) fun x w' => x = .returned (.bool false) ∧ New (W.alloc (.cells (rowE [ev2]).toArray 35)) w' from by
    have hrd : Reads (W.alloc (.cells (rowE [ev2]).toArray 35)) (fun b => b = W.heap.size) 27 (some ⟨W.heap.size, 0, none⟩) 1 (rowE [ev2]) := Reads.of_row (w := W.alloc (.cells (rowE [ev2]).toArray 35)) (g := W.heap.size) (n := 1) (size := 27) (heap_alloc_new W _) rfl
    have := row_ HM.out.2 _ (some ⟨W.heap.size, 0, none⟩) 1 1 _ [ev2] hrd (fun b hb => by rw [hb]; simp) (by decide) rfl (fun e he => HKE.out.2 e (List.mem_cons_of_mem _ (List.mem_cons_of_mem _ he))) ((HMX.out W hW).new ((Chg.refl (fun _ => False) W).alloc _))
    rw [row1] at this
    exact this))
  have CL := Lib.hid (fun W (hW : New w5.drew W) => (show Calls Tryd.prog 12 #[.agg #[.int .i64 1, .int .i64 0, .int .i64 0, .int .i64 0, .int .i64 0, .int .i64 0, .int .i64 0, .int .i64 0, .int .i64 0, .int .i64 0, .int .i64 0, .int .i64 0, .int .i64 0, .int .i64 0, .int .i64 0, .int .i64 0], .slice A3 2 c3] W fun x w' => ∃ A c, x = .returned (.slice A 1 c) ∧ New W w' from by
    have hW5 : New w5 W := ((Chg.refl (fun _ => False) w5).drew).trans hW fun _ _ => id
    have hrd := (Reads.of_own (own_chg H5.out.2.2.2.1 hW5 fun _ _ => id)).mono (G := fun b => b < W.heap.size) fun b hb => hb.2.1
    refine (lacks_ W v1 A3 2 c3 _ [ev1, ev2] hrd (fun b hb => hb) rfl (by decide) rfl).mono ?_
    rintro x w' ⟨u, rfl, ho, hn⟩
    rw [lacks12] at ho
    obtain ⟨A, c, rfl⟩ := ho.form
    exact ⟨A, c, rfl, hn⟩))
  have heg := eqG
  have hegE : ∀ (x y : Operand) (a b : Array Value) (w : World), (eqGuard .eql 35 x y (.agg a) (.agg b)).run Tryd.prog w = .ok () w := fun x y a b w => _root_.Go.run_eqGuard_agg w .eql _ x y a b (by kernel_rfl)
  have N5 := Lib.hid (Chg.refl (fun _ => False) w5.drew)
  refine grow_start (fun _ => False) (by kernel_rfl) ?_
  refine grow_take (i := 0) (oi := { dst := some 30, op := Op.build 23 #[], type := 23, pos := "law.go:18", after := #[], guard := none }) (v := ?_) rfl (by kernel_rfl) (by kernel_rfl) (by kernel_rfl) (by rfl) ?_ ?_; rotate_left; focus ((intro W hW; go_simp) <;> with_reducible rfl)
  simp only [Act.put, List.setIfInBounds_toArray, List.set_cons_zero, List.set_cons_succ]
  refine grow_take (i := 1) (oi := { dst := some 31, op := Op.load 35 (Operand.tmp 3), type := 35, pos := "law.go:18", after := #[], guard := none }) (v := ?_) rfl (by kernel_rfl) (by kernel_rfl) (by kernel_rfl) (by rfl) ?_ ?_; rotate_left; focus ((intro W hW; have fct := F.out W hW; go_simp) <;> with_reducible rfl)
  simp only [Act.put, List.setIfInBounds_toArray, List.set_cons_zero, List.set_cons_succ]
  refine grow_next (i := 2) (oi := { dst := some 32, op := Op.call { callee := Callee.value (Operand.func 9), args := #[Operand.tmp 30, Operand.tmp 31], argTypes := #[23, 35] }, type := 27, pos := "law.go:18", after := #[{ on := 0, ground := Ground.data }, { on := 1, ground := Ground.data }], guard := none }) (by kernel_rfl) rfl (by rfl) (fun K hK => ?_)
  go_simp
  with_reducible refine (C8.out _ N5.out).mono ?_
  rintro e w7 ⟨rfl, nw7⟩
  refine hK _ _ nw7 ?_
  clear hK K
  try simp only [Act.put, List.setIfInBounds_toArray, List.set_cons_zero, List.set_cons_succ]
  have Nw7 := Lib.hid (N5.out.trans nw7 fun _ _ => id)
  have Fw7 := Lib.hid (fun W (hW : New w7 W) => F.out W (Nw7.out.trans hW fun _ _ => id))
  clear nw7
  refine grow_take (i := 3) (oi := { dst := some 33, op := Op.binOp BinOp.eql 27 (Operand.tmp 32) (Operand.const (Value.int IntKind.i64 8)) 27, type := 4, pos := "law.go:18", after := #[{ on := 2, ground := Ground.data }], guard := none }) (v := ?_) rfl (by kernel_rfl) (by kernel_rfl) (by kernel_rfl) (by rfl) ?_ ?_; rotate_left; focus ((intro W hW; have fct := Fw7.out W hW; go_simp) <;> with_reducible rfl)
  simp only [Act.put, List.setIfInBounds_toArray, List.set_cons_zero, List.set_cons_succ]
  refine grow_take (i := 4) (oi := { dst := some 34, op := Op.move (Operand.tmp 33), type := 4, pos := "law.go:18", after := #[{ on := 3, ground := Ground.data }, { on := 2, ground := Ground.chain }], guard := none }) (v := ?_) rfl (by kernel_rfl) (by kernel_rfl) (by kernel_rfl) (by rfl) ?_ ?_; rotate_left; focus ((intro W hW; go_simp) <;> with_reducible rfl)
  simp only [Act.put, List.setIfInBounds_toArray, List.set_cons_zero, List.set_cons_succ]
  first | (refine grow_take (i := 5) (oi := { dst := some 35, op := Op.build 23 #[(0, Operand.const (Value.int IntKind.i64 1))], type := 23, pos := "law.go:18", after := #[{ on := 4, ground := Ground.guard }], guard := some (4, true) }) (v := ?_) rfl (by kernel_rfl) (by kernel_rfl) (by kernel_rfl) (by rfl) ?_ ?_; rotate_left; focus ((intro W hW; go_simp) <;> with_reducible rfl)) | refine grow_skip (i := 5) (oi := { dst := some 35, op := Op.build 23 #[(0, Operand.const (Value.int IntKind.i64 1))], type := 23, pos := "law.go:18", after := #[{ on := 4, ground := Ground.guard }], guard := some (4, true) }) rfl (by kernel_rfl) (by kernel_rfl) (by kernel_rfl) (by rfl) ?_ | fail "op 5"
  simp only [Act.put, List.setIfInBounds_toArray, List.set_cons_zero, List.set_cons_succ]
  first | (refine grow_take (i := 6) (oi := { dst := some 36, op := Op.load 35 (Operand.tmp 2), type := 35, pos := "law.go:18", after := #[{ on := 4, ground := Ground.guard }], guard := some (4, true) }) (v := ?_) rfl (by kernel_rfl) (by kernel_rfl) (by kernel_rfl) (by rfl) ?_ ?_; rotate_left; focus ((intro W hW; have fct := Fw7.out W hW; go_simp) <;> with_reducible rfl)) | refine grow_skip (i := 6) (oi := { dst := some 36, op := Op.load 35 (Operand.tmp 2), type := 35, pos := "law.go:18", after := #[{ on := 4, ground := Ground.guard }], guard := some (4, true) }) rfl (by kernel_rfl) (by kernel_rfl) (by kernel_rfl) (by rfl) ?_ | fail "op 6"
  simp only [Act.put, List.setIfInBounds_toArray, List.set_cons_zero, List.set_cons_succ]
  refine grow_next (i := 7) (oi := { dst := some 37, op := Op.call { callee := Callee.value (Operand.func 9), args := #[Operand.tmp 35, Operand.tmp 36], argTypes := #[23, 35] }, type := 27, pos := "law.go:18", after := #[{ on := 5, ground := Ground.data }, { on := 6, ground := Ground.data }, { on := 4, ground := Ground.chain }, { on := 4, ground := Ground.guard }], guard := some (4, true) }) (by kernel_rfl) rfl (by rfl) (fun K hK => ?_)
  go_simp
  with_reducible refine (C5.out _ Nw7.out).mono ?_
  rintro e w8 ⟨rfl, nw8⟩
  refine hK _ _ nw8 ?_
  clear hK K
  try simp only [Act.put, List.setIfInBounds_toArray, List.set_cons_zero, List.set_cons_succ]
  have Nw8 := Lib.hid (Nw7.out.trans nw8 fun _ _ => id)
  have Fw8 := Lib.hid (fun W (hW : New w8 W) => F.out W (Nw8.out.trans hW fun _ _ => id))
  clear nw8
  first | (refine grow_take (i := 8) (oi := { dst := some 38, op := Op.binOp BinOp.eql 27 (Operand.tmp 37) (Operand.const (Value.int IntKind.i64 5)) 27, type := 4, pos := "law.go:18", after := #[{ on := 7, ground := Ground.data }, { on := 4, ground := Ground.guard }], guard := some (4, true) }) (v := ?_) rfl (by kernel_rfl) (by kernel_rfl) (by kernel_rfl) (by rfl) ?_ ?_; rotate_left; focus ((intro W hW; have fct := Fw8.out W hW; go_simp) <;> with_reducible rfl)) | refine grow_skip (i := 8) (oi := { dst := some 38, op := Op.binOp BinOp.eql 27 (Operand.tmp 37) (Operand.const (Value.int IntKind.i64 5)) 27, type := 4, pos := "law.go:18", after := #[{ on := 7, ground := Ground.data }, { on := 4, ground := Ground.guard }], guard := some (4, true) }) rfl (by kernel_rfl) (by kernel_rfl) (by kernel_rfl) (by rfl) ?_ | fail "op 8"
  simp only [Act.put, List.setIfInBounds_toArray, List.set_cons_zero, List.set_cons_succ]
  refine grow_take (i := 9) (oi := { dst := some 39, op := Op.pick (Operand.tmp 34) (Operand.tmp 38) (Operand.const (Value.bool false)), type := 4, pos := "law.go:18", after := #[{ on := 4, ground := Ground.data }, { on := 8, ground := Ground.data }], guard := none }) (v := ?_) rfl (by kernel_rfl) (by kernel_rfl) (by kernel_rfl) (by rfl) ?_ ?_; rotate_left; focus ((intro W hW; go_simp) <;> with_reducible rfl)
  simp only [Act.put, List.setIfInBounds_toArray, List.set_cons_zero, List.set_cons_succ]
  refine grow_take (i := 10) (oi := { dst := some 40, op := Op.move (Operand.tmp 39), type := 4, pos := "law.go:18", after := #[{ on := 9, ground := Ground.data }, { on := 7, ground := Ground.chain }], guard := none }) (v := ?_) rfl (by kernel_rfl) (by kernel_rfl) (by kernel_rfl) (by rfl) ?_ ?_; rotate_left; focus ((intro W hW; go_simp) <;> with_reducible rfl)
  simp only [Act.put, List.setIfInBounds_toArray, List.set_cons_zero, List.set_cons_succ]
  first | (refine grow_take (i := 11) (oi := { dst := some 41, op := Op.build 23 #[], type := 23, pos := "law.go:18", after := #[{ on := 10, ground := Ground.guard }], guard := some (10, true) }) (v := ?_) rfl (by kernel_rfl) (by kernel_rfl) (by kernel_rfl) (by rfl) ?_ ?_; rotate_left; focus ((intro W hW; go_simp) <;> with_reducible rfl)) | refine grow_skip (i := 11) (oi := { dst := some 41, op := Op.build 23 #[], type := 23, pos := "law.go:18", after := #[{ on := 10, ground := Ground.guard }], guard := some (10, true) }) rfl (by kernel_rfl) (by kernel_rfl) (by kernel_rfl) (by rfl) ?_ | fail "op 11"
  simp only [Act.put, List.setIfInBounds_toArray, List.set_cons_zero, List.set_cons_succ]
  first | (refine grow_take (i := 12) (oi := { dst := some 42, op := Op.build 35 #[], type := 35, pos := "law.go:18", after := #[{ on := 10, ground := Ground.guard }], guard := some (10, true) }) (v := ?_) rfl (by kernel_rfl) (by kernel_rfl) (by kernel_rfl) (by rfl) ?_ ?_; rotate_left; focus ((intro W hW; go_simp) <;> with_reducible rfl)) | refine grow_skip (i := 12) (oi := { dst := some 42, op := Op.build 35 #[], type := 35, pos := "law.go:18", after := #[{ on := 10, ground := Ground.guard }], guard := some (10, true) }) rfl (by kernel_rfl) (by kernel_rfl) (by kernel_rfl) (by rfl) ?_ | fail "op 12"
  simp only [Act.put, List.setIfInBounds_toArray, List.set_cons_zero, List.set_cons_succ]
  refine grow_next (i := 13) (oi := { dst := some 43, op := Op.call { callee := Callee.value (Operand.func 9), args := #[Operand.tmp 41, Operand.tmp 42], argTypes := #[23, 35] }, type := 27, pos := "law.go:18", after := #[{ on := 11, ground := Ground.data }, { on := 12, ground := Ground.data }, { on := 10, ground := Ground.chain }, { on := 10, ground := Ground.guard }], guard := some (10, true) }) (by kernel_rfl) rfl (by rfl) (fun K hK => ?_)
  go_simp
  with_reducible refine (C1.out _ Nw8.out).mono ?_
  rintro e w9 ⟨rfl, nw9⟩
  refine hK _ _ nw9 ?_
  clear hK K
  try simp only [Act.put, List.setIfInBounds_toArray, List.set_cons_zero, List.set_cons_succ]
  have Nw9 := Lib.hid (Nw8.out.trans nw9 fun _ _ => id)
  have Fw9 := Lib.hid (fun W (hW : New w9 W) => F.out W (Nw9.out.trans hW fun _ _ => id))
  clear nw9
  first | (refine grow_take (i := 14) (oi := { dst := some 44, op := Op.binOp BinOp.eql 27 (Operand.tmp 43) (Operand.const (Value.int IntKind.i64 1)) 27, type := 4, pos := "law.go:18", after := #[{ on := 13, ground := Ground.data }, { on := 10, ground := Ground.guard }], guard := some (10, true) }) (v := ?_) rfl (by kernel_rfl) (by kernel_rfl) (by kernel_rfl) (by rfl) ?_ ?_; rotate_left; focus ((intro W hW; have fct := Fw9.out W hW; go_simp) <;> with_reducible rfl)) | refine grow_skip (i := 14) (oi := { dst := some 44, op := Op.binOp BinOp.eql 27 (Operand.tmp 43) (Operand.const (Value.int IntKind.i64 1)) 27, type := 4, pos := "law.go:18", after := #[{ on := 13, ground := Ground.data }, { on := 10, ground := Ground.guard }], guard := some (10, true) }) rfl (by kernel_rfl) (by kernel_rfl) (by kernel_rfl) (by rfl) ?_ | fail "op 14"
  simp only [Act.put, List.setIfInBounds_toArray, List.set_cons_zero, List.set_cons_succ]
  refine grow_take (i := 15) (oi := { dst := some 45, op := Op.pick (Operand.tmp 40) (Operand.tmp 44) (Operand.const (Value.bool false)), type := 4, pos := "law.go:18", after := #[{ on := 10, ground := Ground.data }, { on := 14, ground := Ground.data }], guard := none }) (v := ?_) rfl (by kernel_rfl) (by kernel_rfl) (by kernel_rfl) (by rfl) ?_ ?_; rotate_left; focus ((intro W hW; go_simp) <;> with_reducible rfl)
  simp only [Act.put, List.setIfInBounds_toArray, List.set_cons_zero, List.set_cons_succ]
  refine grow_take (i := 16) (oi := { dst := some 46, op := Op.move (Operand.tmp 45), type := 4, pos := "law.go:18", after := #[{ on := 15, ground := Ground.data }, { on := 13, ground := Ground.chain }], guard := none }) (v := ?_) rfl (by kernel_rfl) (by kernel_rfl) (by kernel_rfl) (by rfl) ?_ ?_; rotate_left; focus ((intro W hW; go_simp) <;> with_reducible rfl)
  simp only [Act.put, List.setIfInBounds_toArray, List.set_cons_zero, List.set_cons_succ]
  first | (refine grow_take (i := 17) (oi := { dst := some 47, op := Op.move (Operand.tmp 4), type := 24, pos := "law.go:18", after := #[{ on := 16, ground := Ground.guard }], guard := some (16, true) }) (v := ?_) rfl (by kernel_rfl) (by kernel_rfl) (by kernel_rfl) (by rfl) ?_ ?_; rotate_left; focus ((intro W hW; go_simp) <;> with_reducible rfl)) | refine grow_skip (i := 17) (oi := { dst := some 47, op := Op.move (Operand.tmp 4), type := 24, pos := "law.go:18", after := #[{ on := 16, ground := Ground.guard }], guard := some (16, true) }) rfl (by kernel_rfl) (by kernel_rfl) (by kernel_rfl) (by rfl) ?_ | fail "op 17"
  simp only [Act.put, List.setIfInBounds_toArray, List.set_cons_zero, List.set_cons_succ]
  first | (refine grow_take (i := 18) (oi := { dst := some 48, op := Op.call { callee := Callee.builtin Builtin.len, args := #[Operand.tmp 47], argTypes := #[24] }, type := 3, pos := "law.go:18", after := #[{ on := 17, ground := Ground.data }, { on := 16, ground := Ground.guard }], guard := some (16, true) }) (v := ?_) rfl (by kernel_rfl) (by kernel_rfl) (by kernel_rfl) (by rfl) ?_ ?_; rotate_left; focus ((intro W hW; have fct := Fw9.out W hW; go_simp) <;> with_reducible rfl)) | refine grow_skip (i := 18) (oi := { dst := some 48, op := Op.call { callee := Callee.builtin Builtin.len, args := #[Operand.tmp 47], argTypes := #[24] }, type := 3, pos := "law.go:18", after := #[{ on := 17, ground := Ground.data }, { on := 16, ground := Ground.guard }], guard := some (16, true) }) rfl (by kernel_rfl) (by kernel_rfl) (by kernel_rfl) (by rfl) ?_ | fail "op 18"
  simp only [Act.put, List.setIfInBounds_toArray, List.set_cons_zero, List.set_cons_succ]
  first | (refine grow_take (i := 19) (oi := { dst := some 49, op := Op.binOp BinOp.eql 3 (Operand.tmp 48) (Operand.const (Value.int IntKind.i64 2)) 3, type := 4, pos := "law.go:18", after := #[{ on := 18, ground := Ground.data }, { on := 16, ground := Ground.guard }], guard := some (16, true) }) (v := ?_) rfl (by kernel_rfl) (by kernel_rfl) (by kernel_rfl) (by rfl) ?_ ?_; rotate_left; focus ((intro W hW; have fct := Fw9.out W hW; go_simp) <;> with_reducible rfl)) | refine grow_skip (i := 19) (oi := { dst := some 49, op := Op.binOp BinOp.eql 3 (Operand.tmp 48) (Operand.const (Value.int IntKind.i64 2)) 3, type := 4, pos := "law.go:18", after := #[{ on := 18, ground := Ground.data }, { on := 16, ground := Ground.guard }], guard := some (16, true) }) rfl (by kernel_rfl) (by kernel_rfl) (by kernel_rfl) (by rfl) ?_ | fail "op 19"
  simp only [Act.put, List.setIfInBounds_toArray, List.set_cons_zero, List.set_cons_succ]
  refine grow_take (i := 20) (oi := { dst := some 50, op := Op.pick (Operand.tmp 46) (Operand.tmp 49) (Operand.const (Value.bool false)), type := 4, pos := "law.go:18", after := #[{ on := 16, ground := Ground.data }, { on := 19, ground := Ground.data }], guard := none }) (v := ?_) rfl (by kernel_rfl) (by kernel_rfl) (by kernel_rfl) (by rfl) ?_ ?_; rotate_left; focus ((intro W hW; go_simp) <;> with_reducible rfl)
  simp only [Act.put, List.setIfInBounds_toArray, List.set_cons_zero, List.set_cons_succ]
  refine grow_take (i := 21) (oi := { dst := some 51, op := Op.move (Operand.tmp 50), type := 4, pos := "law.go:18", after := #[{ on := 20, ground := Ground.data }, { on := 16, ground := Ground.chain }], guard := none }) (v := ?_) rfl (by kernel_rfl) (by kernel_rfl) (by kernel_rfl) (by rfl) ?_ ?_; rotate_left; focus ((intro W hW; go_simp) <;> with_reducible rfl)
  simp only [Act.put, List.setIfInBounds_toArray, List.set_cons_zero, List.set_cons_succ]
  first | (refine grow_take (i := 22) (oi := { dst := some 52, op := Op.load 23 (Operand.tmp 5), type := 23, pos := "law.go:18", after := #[{ on := 21, ground := Ground.guard }], guard := some (21, true) }) (v := ?_) rfl (by kernel_rfl) (by kernel_rfl) (by kernel_rfl) (by rfl) ?_ ?_; rotate_left; focus ((intro W hW; have fct := Fw9.out W hW; go_simp) <;> with_reducible rfl)) | refine grow_skip (i := 22) (oi := { dst := some 52, op := Op.load 23 (Operand.tmp 5), type := 23, pos := "law.go:18", after := #[{ on := 21, ground := Ground.guard }], guard := some (21, true) }) rfl (by kernel_rfl) (by kernel_rfl) (by kernel_rfl) (by rfl) ?_ | fail "op 22"
  simp only [Act.put, List.setIfInBounds_toArray, List.set_cons_zero, List.set_cons_succ]
  first | (refine grow_take (i := 23) (oi := { dst := some 53, op := Op.build 23 #[(0, Operand.const (Value.int IntKind.i64 2))], type := 23, pos := "law.go:18", after := #[{ on := 21, ground := Ground.guard }], guard := some (21, true) }) (v := ?_) rfl (by kernel_rfl) (by kernel_rfl) (by kernel_rfl) (by rfl) ?_ ?_; rotate_left; focus ((intro W hW; go_simp) <;> with_reducible rfl)) | refine grow_skip (i := 23) (oi := { dst := some 53, op := Op.build 23 #[(0, Operand.const (Value.int IntKind.i64 2))], type := 23, pos := "law.go:18", after := #[{ on := 21, ground := Ground.guard }], guard := some (21, true) }) rfl (by kernel_rfl) (by kernel_rfl) (by kernel_rfl) (by rfl) ?_ | fail "op 23"
  simp only [Act.put, List.setIfInBounds_toArray, List.set_cons_zero, List.set_cons_succ]
  first | (refine grow_take (i := 24) (oi := { dst := some 54, op := Op.binOp BinOp.eql 23 (Operand.tmp 52) (Operand.tmp 53) 23, type := 4, pos := "law.go:18", after := #[{ on := 22, ground := Ground.data }, { on := 23, ground := Ground.data }, { on := 21, ground := Ground.guard }], guard := some (21, true) }) (v := ?_) rfl (by kernel_rfl) (by kernel_rfl) (by kernel_rfl) (by rfl) ?_ ?_; rotate_left; focus ((intro W hW; have fct := Fw9.out W hW; go_simp) <;> with_reducible rfl)) | refine grow_skip (i := 24) (oi := { dst := some 54, op := Op.binOp BinOp.eql 23 (Operand.tmp 52) (Operand.tmp 53) 23, type := 4, pos := "law.go:18", after := #[{ on := 22, ground := Ground.data }, { on := 23, ground := Ground.data }, { on := 21, ground := Ground.guard }], guard := some (21, true) }) rfl (by kernel_rfl) (by kernel_rfl) (by kernel_rfl) (by rfl) ?_ | fail "op 24"
  simp only [Act.put, List.setIfInBounds_toArray, List.set_cons_zero, List.set_cons_succ]
  refine grow_take (i := 25) (oi := { dst := some 55, op := Op.pick (Operand.tmp 51) (Operand.tmp 54) (Operand.const (Value.bool false)), type := 4, pos := "law.go:18", after := #[{ on := 21, ground := Ground.data }, { on := 24, ground := Ground.data }], guard := none }) (v := ?_) rfl (by kernel_rfl) (by kernel_rfl) (by kernel_rfl) (by rfl) ?_ ?_; rotate_left; focus ((intro W hW; go_simp) <;> with_reducible rfl)
  simp only [Act.put, List.setIfInBounds_toArray, List.set_cons_zero, List.set_cons_succ]
  refine grow_take (i := 26) (oi := { dst := some 56, op := Op.move (Operand.tmp 55), type := 4, pos := "law.go:18", after := #[{ on := 25, ground := Ground.data }, { on := 21, ground := Ground.chain }], guard := none }) (v := ?_) rfl (by kernel_rfl) (by kernel_rfl) (by kernel_rfl) (by rfl) ?_ ?_; rotate_left; focus ((intro W hW; go_simp) <;> with_reducible rfl)
  simp only [Act.put, List.setIfInBounds_toArray, List.set_cons_zero, List.set_cons_succ]
  first | (refine grow_take (i := 27) (oi := { dst := some 57, op := Op.move (Operand.tmp 6), type := 27, pos := "law.go:18", after := #[{ on := 26, ground := Ground.guard }], guard := some (26, true) }) (v := ?_) rfl (by kernel_rfl) (by kernel_rfl) (by kernel_rfl) (by rfl) ?_ ?_; rotate_left; focus ((intro W hW; go_simp) <;> with_reducible rfl)) | refine grow_skip (i := 27) (oi := { dst := some 57, op := Op.move (Operand.tmp 6), type := 27, pos := "law.go:18", after := #[{ on := 26, ground := Ground.guard }], guard := some (26, true) }) rfl (by kernel_rfl) (by kernel_rfl) (by kernel_rfl) (by rfl) ?_ | fail "op 27"
  simp only [Act.put, List.setIfInBounds_toArray, List.set_cons_zero, List.set_cons_succ]
  first | (refine grow_take (i := 28) (oi := { dst := some 58, op := Op.binOp BinOp.eql 27 (Operand.tmp 57) (Operand.const (Value.int IntKind.i64 0)) 27, type := 4, pos := "law.go:18", after := #[{ on := 27, ground := Ground.data }, { on := 26, ground := Ground.guard }], guard := some (26, true) }) (v := ?_) rfl (by kernel_rfl) (by kernel_rfl) (by kernel_rfl) (by rfl) ?_ ?_; rotate_left; focus ((intro W hW; have fct := Fw9.out W hW; go_simp) <;> with_reducible rfl)) | refine grow_skip (i := 28) (oi := { dst := some 58, op := Op.binOp BinOp.eql 27 (Operand.tmp 57) (Operand.const (Value.int IntKind.i64 0)) 27, type := 4, pos := "law.go:18", after := #[{ on := 27, ground := Ground.data }, { on := 26, ground := Ground.guard }], guard := some (26, true) }) rfl (by kernel_rfl) (by kernel_rfl) (by kernel_rfl) (by rfl) ?_ | fail "op 28"
  simp only [Act.put, List.setIfInBounds_toArray, List.set_cons_zero, List.set_cons_succ]
  refine grow_take (i := 29) (oi := { dst := some 59, op := Op.pick (Operand.tmp 56) (Operand.tmp 58) (Operand.const (Value.bool false)), type := 4, pos := "law.go:18", after := #[{ on := 26, ground := Ground.data }, { on := 28, ground := Ground.data }], guard := none }) (v := ?_) rfl (by kernel_rfl) (by kernel_rfl) (by kernel_rfl) (by rfl) ?_ ?_; rotate_left; focus ((intro W hW; go_simp) <;> with_reducible rfl)
  simp only [Act.put, List.setIfInBounds_toArray, List.set_cons_zero, List.set_cons_succ]
  refine grow_take (i := 30) (oi := { dst := some 60, op := Op.move (Operand.tmp 59), type := 4, pos := "law.go:18", after := #[{ on := 29, ground := Ground.data }, { on := 26, ground := Ground.chain }], guard := none }) (v := ?_) rfl (by kernel_rfl) (by kernel_rfl) (by kernel_rfl) (by rfl) ?_ ?_; rotate_left; focus ((intro W hW; go_simp) <;> with_reducible rfl)
  simp only [Act.put, List.setIfInBounds_toArray, List.set_cons_zero, List.set_cons_succ]
  first | (refine grow_take (i := 31) (oi := { dst := some 61, op := Op.move (Operand.tmp 7), type := 24, pos := "law.go:18", after := #[{ on := 30, ground := Ground.guard }], guard := some (30, true) }) (v := ?_) rfl (by kernel_rfl) (by kernel_rfl) (by kernel_rfl) (by rfl) ?_ ?_; rotate_left; focus ((intro W hW; go_simp) <;> with_reducible rfl)) | refine grow_skip (i := 31) (oi := { dst := some 61, op := Op.move (Operand.tmp 7), type := 24, pos := "law.go:18", after := #[{ on := 30, ground := Ground.guard }], guard := some (30, true) }) rfl (by kernel_rfl) (by kernel_rfl) (by kernel_rfl) (by rfl) ?_ | fail "op 31"
  simp only [Act.put, List.setIfInBounds_toArray, List.set_cons_zero, List.set_cons_succ]
  first | (refine grow_take (i := 32) (oi := { dst := some 62, op := Op.indexAddr 24 (Operand.tmp 61) (Operand.const (Value.int IntKind.i64 0)), type := 0, pos := "law.go:18", after := #[{ on := 31, ground := Ground.data }, { on := 30, ground := Ground.guard }], guard := some (30, true) }) (v := ?_) rfl (by kernel_rfl) (by kernel_rfl) (by kernel_rfl) (by rfl) ?_ ?_; rotate_left; focus ((intro W hW; have fct := Fw9.out W hW; go_simp) <;> with_reducible rfl)) | refine grow_skip (i := 32) (oi := { dst := some 62, op := Op.indexAddr 24 (Operand.tmp 61) (Operand.const (Value.int IntKind.i64 0)), type := 0, pos := "law.go:18", after := #[{ on := 31, ground := Ground.data }, { on := 30, ground := Ground.guard }], guard := some (30, true) }) rfl (by kernel_rfl) (by kernel_rfl) (by kernel_rfl) (by rfl) ?_ | fail "op 32"
  simp only [Act.put, List.setIfInBounds_toArray, List.set_cons_zero, List.set_cons_succ]
  first | (refine grow_take (i := 33) (oi := { dst := some 63, op := Op.load 35 (Operand.tmp 62), type := 35, pos := "law.go:18", after := #[{ on := 32, ground := Ground.data }, { on := 30, ground := Ground.guard }], guard := some (30, true) }) (v := ?_) rfl (by kernel_rfl) (by kernel_rfl) (by kernel_rfl) (by rfl) ?_ ?_; rotate_left; focus ((intro W hW; have fct := Fw9.out W hW; go_simp) <;> with_reducible rfl)) | refine grow_skip (i := 33) (oi := { dst := some 63, op := Op.load 35 (Operand.tmp 62), type := 35, pos := "law.go:18", after := #[{ on := 32, ground := Ground.data }, { on := 30, ground := Ground.guard }], guard := some (30, true) }) rfl (by kernel_rfl) (by kernel_rfl) (by kernel_rfl) (by rfl) ?_ | fail "op 33"
  simp only [Act.put, List.setIfInBounds_toArray, List.set_cons_zero, List.set_cons_succ]
  first | (refine grow_take (i := 34) (oi := { dst := some 64, op := Op.load 35 (Operand.tmp 2), type := 35, pos := "law.go:18", after := #[{ on := 30, ground := Ground.guard }], guard := some (30, true) }) (v := ?_) rfl (by kernel_rfl) (by kernel_rfl) (by kernel_rfl) (by rfl) ?_ ?_; rotate_left; focus ((intro W hW; have fct := Fw9.out W hW; go_simp) <;> with_reducible rfl)) | refine grow_skip (i := 34) (oi := { dst := some 64, op := Op.load 35 (Operand.tmp 2), type := 35, pos := "law.go:18", after := #[{ on := 30, ground := Ground.guard }], guard := some (30, true) }) rfl (by kernel_rfl) (by kernel_rfl) (by kernel_rfl) (by rfl) ?_ | fail "op 34"
  simp only [Act.put, List.setIfInBounds_toArray, List.set_cons_zero, List.set_cons_succ]
  first | (refine grow_take (i := 35) (oi := { dst := some 65, op := Op.binOp BinOp.eql 35 (Operand.tmp 63) (Operand.tmp 64) 35, type := 4, pos := "law.go:18", after := #[{ on := 33, ground := Ground.data }, { on := 34, ground := Ground.data }, { on := 30, ground := Ground.guard }], guard := some (30, true) }) (v := ?_) rfl (by kernel_rfl) (by kernel_rfl) (by kernel_rfl) (by rfl) ?_ ?_; rotate_left; focus ((intro W hW; have fct := Fw9.out W hW; go_simp) <;> with_reducible rfl)) | refine grow_skip (i := 35) (oi := { dst := some 65, op := Op.binOp BinOp.eql 35 (Operand.tmp 63) (Operand.tmp 64) 35, type := 4, pos := "law.go:18", after := #[{ on := 33, ground := Ground.data }, { on := 34, ground := Ground.data }, { on := 30, ground := Ground.guard }], guard := some (30, true) }) rfl (by kernel_rfl) (by kernel_rfl) (by kernel_rfl) (by rfl) ?_ | fail "op 35"
  simp only [Act.put, List.setIfInBounds_toArray, List.set_cons_zero, List.set_cons_succ]
  refine grow_take (i := 36) (oi := { dst := some 66, op := Op.pick (Operand.tmp 60) (Operand.tmp 65) (Operand.const (Value.bool false)), type := 4, pos := "law.go:18", after := #[{ on := 30, ground := Ground.data }, { on := 35, ground := Ground.data }], guard := none }) (v := ?_) rfl (by kernel_rfl) (by kernel_rfl) (by kernel_rfl) (by rfl) ?_ ?_; rotate_left; focus ((intro W hW; go_simp) <;> with_reducible rfl)
  simp only [Act.put, List.setIfInBounds_toArray, List.set_cons_zero, List.set_cons_succ]
  refine grow_take (i := 37) (oi := { dst := some 67, op := Op.move (Operand.tmp 66), type := 4, pos := "law.go:18", after := #[{ on := 36, ground := Ground.data }, { on := 30, ground := Ground.chain }], guard := none }) (v := ?_) rfl (by kernel_rfl) (by kernel_rfl) (by kernel_rfl) (by rfl) ?_ ?_; rotate_left; focus ((intro W hW; go_simp) <;> with_reducible rfl)
  simp only [Act.put, List.setIfInBounds_toArray, List.set_cons_zero, List.set_cons_succ]
  first | (refine grow_take (i := 38) (oi := { dst := some 68, op := Op.load 35 (Operand.tmp 2), type := 35, pos := "law.go:18", after := #[{ on := 37, ground := Ground.guard }], guard := some (37, true) }) (v := ?_) rfl (by kernel_rfl) (by kernel_rfl) (by kernel_rfl) (by rfl) ?_ ?_; rotate_left; focus ((intro W hW; have fct := Fw9.out W hW; go_simp) <;> with_reducible rfl)) | refine grow_skip (i := 38) (oi := { dst := some 68, op := Op.load 35 (Operand.tmp 2), type := 35, pos := "law.go:18", after := #[{ on := 37, ground := Ground.guard }], guard := some (37, true) }) rfl (by kernel_rfl) (by kernel_rfl) (by kernel_rfl) (by rfl) ?_ | fail "op 38"
  simp only [Act.put, List.setIfInBounds_toArray, List.set_cons_zero, List.set_cons_succ]
  first | (refine grow_take (i := 39) (oi := { dst := some 69, op := Op.load 35 (Operand.tmp 3), type := 35, pos := "law.go:18", after := #[{ on := 37, ground := Ground.guard }], guard := some (37, true) }) (v := ?_) rfl (by kernel_rfl) (by kernel_rfl) (by kernel_rfl) (by rfl) ?_ ?_; rotate_left; focus ((intro W hW; have fct := Fw9.out W hW; go_simp) <;> with_reducible rfl)) | refine grow_skip (i := 39) (oi := { dst := some 69, op := Op.load 35 (Operand.tmp 3), type := 35, pos := "law.go:18", after := #[{ on := 37, ground := Ground.guard }], guard := some (37, true) }) rfl (by kernel_rfl) (by kernel_rfl) (by kernel_rfl) (by rfl) ?_ | fail "op 39"
  simp only [Act.put, List.setIfInBounds_toArray, List.set_cons_zero, List.set_cons_succ]
  refine grow_next (i := 40) (oi := { dst := some 70, op := Op.buildSlice 24 2 #[(0, Operand.tmp 68), (1, Operand.tmp 69)], type := 24, pos := "law.go:18", after := #[{ on := 38, ground := Ground.data }, { on := 39, ground := Ground.data }, { on := 37, ground := Ground.guard }], guard := some (37, true) }) (by kernel_rfl) rfl (by rfl) (fun K hK => ?_)
  go_simp
  skip
  refine hK _ _ ((Chg.refl _ _).alloc _) ?_
  clear hK K
  try simp only [Act.put, List.setIfInBounds_toArray, List.set_cons_zero, List.set_cons_succ]
  have F12 := Lib.hid (fun W (hW : New (w9.alloc (.cells (rowE [ev1, ev2]).toArray 35)) W) => F.out W (Nw9.out.trans (((Chg.refl (fun _ => False) w9).alloc (.cells (rowE [ev1, ev2]).toArray 35)).trans hW fun _ _ => id) fun _ _ => id))
  refine grow_next (i := 41) (oi := { dst := some 71, op := Op.call { callee := Callee.value (Operand.func 14), args := #[Operand.tmp 70], argTypes := #[24] }, type := 4, pos := "law.go:18", after := #[{ on := 40, ground := Ground.data }, { on := 37, ground := Ground.chain }, { on := 37, ground := Ground.guard }], guard := some (37, true) }) (by kernel_rfl) rfl (by rfl) (fun K hK => ?_)
  go_simp
  with_reducible refine (CR2.out _ Nw9.out).mono ?_
  rintro e w10 ⟨rfl, nw10⟩
  refine hK _ _ nw10 ?_
  clear hK K
  try simp only [Act.put, List.setIfInBounds_toArray, List.set_cons_zero, List.set_cons_succ]
  have Nw10 := Lib.hid (Nw9.out.trans (((Chg.refl (fun _ => False) w9).alloc (.cells (rowE [ev1, ev2]).toArray 35)).trans nw10 fun _ _ => id) fun _ _ => id)
  have Fw10 := Lib.hid (fun W (hW : New w10 W) => F.out W (Nw10.out.trans hW fun _ _ => id))
  clear nw10
  refine grow_take (i := 42) (oi := { dst := some 72, op := Op.pick (Operand.tmp 67) (Operand.tmp 71) (Operand.const (Value.bool false)), type := 4, pos := "law.go:18", after := #[{ on := 37, ground := Ground.data }, { on := 41, ground := Ground.data }], guard := none }) (v := ?_) rfl (by kernel_rfl) (by kernel_rfl) (by kernel_rfl) (by rfl) ?_ ?_; rotate_left; focus ((intro W hW; go_simp) <;> with_reducible rfl)
  simp only [Act.put, List.setIfInBounds_toArray, List.set_cons_zero, List.set_cons_succ]
  refine grow_take (i := 43) (oi := { dst := some 73, op := Op.move (Operand.tmp 72), type := 4, pos := "law.go:18", after := #[{ on := 42, ground := Ground.data }, { on := 41, ground := Ground.chain }], guard := none }) (v := ?_) rfl (by kernel_rfl) (by kernel_rfl) (by kernel_rfl) (by rfl) ?_ ?_; rotate_left; focus ((intro W hW; go_simp) <;> with_reducible rfl)
  simp only [Act.put, List.setIfInBounds_toArray, List.set_cons_zero, List.set_cons_succ]
  first | (refine grow_take (i := 44) (oi := { dst := some 74, op := Op.load 35 (Operand.tmp 3), type := 35, pos := "law.go:18", after := #[{ on := 43, ground := Ground.guard }], guard := some (43, true) }) (v := ?_) rfl (by kernel_rfl) (by kernel_rfl) (by kernel_rfl) (by rfl) ?_ ?_; rotate_left; focus ((intro W hW; have fct := Fw10.out W hW; go_simp) <;> with_reducible rfl)) | refine grow_skip (i := 44) (oi := { dst := some 74, op := Op.load 35 (Operand.tmp 3), type := 35, pos := "law.go:18", after := #[{ on := 43, ground := Ground.guard }], guard := some (43, true) }) rfl (by kernel_rfl) (by kernel_rfl) (by kernel_rfl) (by rfl) ?_ | fail "op 44"
  simp only [Act.put, List.setIfInBounds_toArray, List.set_cons_zero, List.set_cons_succ]
  refine grow_next (i := 45) (oi := { dst := some 75, op := Op.buildSlice 24 1 #[(0, Operand.tmp 74)], type := 24, pos := "law.go:18", after := #[{ on := 44, ground := Ground.data }, { on := 43, ground := Ground.guard }], guard := some (43, true) }) (by kernel_rfl) rfl (by rfl) (fun K hK => ?_)
  go_simp
  skip
  refine hK _ _ ((Chg.refl _ _).alloc _) ?_
  clear hK K
  try simp only [Act.put, List.setIfInBounds_toArray, List.set_cons_zero, List.set_cons_succ]
  have F14 := Lib.hid (fun W (hW : New (w10.alloc (.cells (rowE [ev2]).toArray 35)) W) => F.out W (Nw10.out.trans (((Chg.refl (fun _ => False) w10).alloc (.cells (rowE [ev2]).toArray 35)).trans hW fun _ _ => id) fun _ _ => id))
  refine grow_next (i := 46) (oi := { dst := some 76, op := Op.call { callee := Callee.value (Operand.func 14), args := #[Operand.tmp 75], argTypes := #[24] }, type := 4, pos := "law.go:18", after := #[{ on := 45, ground := Ground.data }, { on := 43, ground := Ground.chain }, { on := 43, ground := Ground.guard }], guard := some (43, true) }) (by kernel_rfl) rfl (by rfl) (fun K hK => ?_)
  go_simp
  with_reducible refine (CR1.out _ Nw10.out).mono ?_
  rintro e w11 ⟨rfl, nw11⟩
  refine hK _ _ nw11 ?_
  clear hK K
  try simp only [Act.put, List.setIfInBounds_toArray, List.set_cons_zero, List.set_cons_succ]
  have Nw11 := Lib.hid (Nw10.out.trans (((Chg.refl (fun _ => False) w10).alloc (.cells (rowE [ev2]).toArray 35)).trans nw11 fun _ _ => id) fun _ _ => id)
  have Fw11 := Lib.hid (fun W (hW : New w11 W) => F.out W (Nw11.out.trans hW fun _ _ => id))
  clear nw11
  first | (refine grow_take (i := 47) (oi := { dst := some 77, op := Op.unOp UnOp.not 4 (Operand.tmp 76), type := 4, pos := "law.go:18", after := #[{ on := 46, ground := Ground.data }, { on := 43, ground := Ground.guard }], guard := some (43, true) }) (v := ?_) rfl (by kernel_rfl) (by kernel_rfl) (by kernel_rfl) (by rfl) ?_ ?_; rotate_left; focus ((intro W hW; have fct := Fw11.out W hW; go_simp) <;> with_reducible rfl)) | refine grow_skip (i := 47) (oi := { dst := some 77, op := Op.unOp UnOp.not 4 (Operand.tmp 76), type := 4, pos := "law.go:18", after := #[{ on := 46, ground := Ground.data }, { on := 43, ground := Ground.guard }], guard := some (43, true) }) rfl (by kernel_rfl) (by kernel_rfl) (by kernel_rfl) (by rfl) ?_ | fail "op 47"
  simp only [Act.put, List.setIfInBounds_toArray, List.set_cons_zero, List.set_cons_succ]
  refine grow_take (i := 48) (oi := { dst := some 78, op := Op.pick (Operand.tmp 73) (Operand.tmp 77) (Operand.const (Value.bool false)), type := 4, pos := "law.go:18", after := #[{ on := 43, ground := Ground.data }, { on := 47, ground := Ground.data }], guard := none }) (v := ?_) rfl (by kernel_rfl) (by kernel_rfl) (by kernel_rfl) (by rfl) ?_ ?_; rotate_left; focus ((intro W hW; go_simp) <;> with_reducible rfl)
  simp only [Act.put, List.setIfInBounds_toArray, List.set_cons_zero, List.set_cons_succ]
  refine grow_take (i := 49) (oi := { dst := some 79, op := Op.move (Operand.tmp 78), type := 4, pos := "law.go:18", after := #[{ on := 48, ground := Ground.data }, { on := 46, ground := Ground.chain }], guard := none }) (v := ?_) rfl (by kernel_rfl) (by kernel_rfl) (by kernel_rfl) (by rfl) ?_ ?_; rotate_left; focus ((intro W hW; go_simp) <;> with_reducible rfl)
  simp only [Act.put, List.setIfInBounds_toArray, List.set_cons_zero, List.set_cons_succ]
  first | (refine grow_take (i := 50) (oi := { dst := some 80, op := Op.build 23 #[(0, Operand.const (Value.int IntKind.i64 1))], type := 23, pos := "law.go:18", after := #[{ on := 49, ground := Ground.guard }], guard := some (49, true) }) (v := ?_) rfl (by kernel_rfl) (by kernel_rfl) (by kernel_rfl) (by rfl) ?_ ?_; rotate_left; focus ((intro W hW; go_simp) <;> with_reducible rfl)) | refine grow_skip (i := 50) (oi := { dst := some 80, op := Op.build 23 #[(0, Operand.const (Value.int IntKind.i64 1))], type := 23, pos := "law.go:18", after := #[{ on := 49, ground := Ground.guard }], guard := some (49, true) }) rfl (by kernel_rfl) (by kernel_rfl) (by kernel_rfl) (by rfl) ?_ | fail "op 50"
  simp only [Act.put, List.setIfInBounds_toArray, List.set_cons_zero, List.set_cons_succ]
  first | (refine grow_take (i := 51) (oi := { dst := some 81, op := Op.move (Operand.tmp 4), type := 24, pos := "law.go:18", after := #[{ on := 49, ground := Ground.guard }], guard := some (49, true) }) (v := ?_) rfl (by kernel_rfl) (by kernel_rfl) (by kernel_rfl) (by rfl) ?_ ?_; rotate_left; focus ((intro W hW; go_simp) <;> with_reducible rfl)) | refine grow_skip (i := 51) (oi := { dst := some 81, op := Op.move (Operand.tmp 4), type := 24, pos := "law.go:18", after := #[{ on := 49, ground := Ground.guard }], guard := some (49, true) }) rfl (by kernel_rfl) (by kernel_rfl) (by kernel_rfl) (by rfl) ?_ | fail "op 51"
  simp only [Act.put, List.setIfInBounds_toArray, List.set_cons_zero, List.set_cons_succ]
  refine grow_next (i := 52) (oi := { dst := some 82, op := Op.call { callee := Callee.value (Operand.func 12), args := #[Operand.tmp 80, Operand.tmp 81], argTypes := #[23, 24] }, type := 24, pos := "law.go:18", after := #[{ on := 50, ground := Ground.data }, { on := 51, ground := Ground.data }, { on := 49, ground := Ground.chain }, { on := 49, ground := Ground.guard }], guard := some (49, true) }) (by kernel_rfl) rfl (by rfl) (fun K hK => ?_)
  go_simp
  with_reducible refine (CL.out _ Nw11.out).mono ?_
  rintro e w12 ⟨A9, c9, rfl, nw12⟩
  refine hK _ _ nw12 ?_
  clear hK K
  try simp only [Act.put, List.setIfInBounds_toArray, List.set_cons_zero, List.set_cons_succ]
  have Nw12 := Lib.hid (Nw11.out.trans nw12 fun _ _ => id)
  have Fw12 := Lib.hid (fun W (hW : New w12 W) => F.out W (Nw12.out.trans hW fun _ _ => id))
  clear nw12
  first | (refine grow_take (i := 53) (oi := { dst := some 83, op := Op.call { callee := Callee.builtin Builtin.len, args := #[Operand.tmp 82], argTypes := #[24] }, type := 3, pos := "law.go:18", after := #[{ on := 52, ground := Ground.data }, { on := 49, ground := Ground.guard }], guard := some (49, true) }) (v := ?_) rfl (by kernel_rfl) (by kernel_rfl) (by kernel_rfl) (by rfl) ?_ ?_; rotate_left; focus ((intro W hW; have fct := Fw12.out W hW; go_simp) <;> with_reducible rfl)) | refine grow_skip (i := 53) (oi := { dst := some 83, op := Op.call { callee := Callee.builtin Builtin.len, args := #[Operand.tmp 82], argTypes := #[24] }, type := 3, pos := "law.go:18", after := #[{ on := 52, ground := Ground.data }, { on := 49, ground := Ground.guard }], guard := some (49, true) }) rfl (by kernel_rfl) (by kernel_rfl) (by kernel_rfl) (by rfl) ?_ | fail "op 53"
  simp only [Act.put, List.setIfInBounds_toArray, List.set_cons_zero, List.set_cons_succ]
  first | (refine grow_take (i := 54) (oi := { dst := some 84, op := Op.binOp BinOp.eql 3 (Operand.tmp 83) (Operand.const (Value.int IntKind.i64 1)) 3, type := 4, pos := "law.go:18", after := #[{ on := 53, ground := Ground.data }, { on := 49, ground := Ground.guard }], guard := some (49, true) }) (v := ?_) rfl (by kernel_rfl) (by kernel_rfl) (by kernel_rfl) (by rfl) ?_ ?_; rotate_left; focus ((intro W hW; have fct := Fw12.out W hW; go_simp) <;> with_reducible rfl)) | refine grow_skip (i := 54) (oi := { dst := some 84, op := Op.binOp BinOp.eql 3 (Operand.tmp 83) (Operand.const (Value.int IntKind.i64 1)) 3, type := 4, pos := "law.go:18", after := #[{ on := 53, ground := Ground.data }, { on := 49, ground := Ground.guard }], guard := some (49, true) }) rfl (by kernel_rfl) (by kernel_rfl) (by kernel_rfl) (by rfl) ?_ | fail "op 54"
  simp only [Act.put, List.setIfInBounds_toArray, List.set_cons_zero, List.set_cons_succ]
  refine grow_take (i := 55) (oi := { dst := some 85, op := Op.pick (Operand.tmp 79) (Operand.tmp 84) (Operand.const (Value.bool false)), type := 4, pos := "law.go:18", after := #[{ on := 49, ground := Ground.data }, { on := 54, ground := Ground.data }], guard := none }) (v := ?_) rfl (by kernel_rfl) (by kernel_rfl) (by kernel_rfl) (by rfl) ?_ ?_; rotate_left; focus ((intro W hW; go_simp) <;> with_reducible rfl)
  simp only [Act.put, List.setIfInBounds_toArray, List.set_cons_zero, List.set_cons_succ]
  refine grow_take (i := 56) (oi := { dst := some 0, op := Op.assign (Operand.tmp 85), type := 4, pos := "law.go:18", after := #[{ on := 55, ground := Ground.data }, { on := 52, ground := Ground.chain }, { on := 0, ground := Ground.phase }, { on := 1, ground := Ground.phase }, { on := 2, ground := Ground.phase }, { on := 3, ground := Ground.phase }, { on := 4, ground := Ground.phase }, { on := 5, ground := Ground.phase }, { on := 6, ground := Ground.phase }, { on := 7, ground := Ground.phase }, { on := 8, ground := Ground.phase }, { on := 9, ground := Ground.phase }, { on := 10, ground := Ground.phase }, { on := 11, ground := Ground.phase }, { on := 12, ground := Ground.phase }, { on := 13, ground := Ground.phase }, { on := 14, ground := Ground.phase }, { on := 15, ground := Ground.phase }, { on := 16, ground := Ground.phase }, { on := 17, ground := Ground.phase }, { on := 18, ground := Ground.phase }, { on := 19, ground := Ground.phase }, { on := 20, ground := Ground.phase }, { on := 21, ground := Ground.phase }, { on := 22, ground := Ground.phase }, { on := 23, ground := Ground.phase }, { on := 24, ground := Ground.phase }, { on := 25, ground := Ground.phase }, { on := 26, ground := Ground.phase }, { on := 27, ground := Ground.phase }, { on := 28, ground := Ground.phase }, { on := 29, ground := Ground.phase }, { on := 30, ground := Ground.phase }, { on := 31, ground := Ground.phase }, { on := 32, ground := Ground.phase }, { on := 33, ground := Ground.phase }, { on := 34, ground := Ground.phase }, { on := 35, ground := Ground.phase }, { on := 36, ground := Ground.phase }, { on := 37, ground := Ground.phase }, { on := 38, ground := Ground.phase }, { on := 39, ground := Ground.phase }, { on := 40, ground := Ground.phase }, { on := 41, ground := Ground.phase }, { on := 42, ground := Ground.phase }, { on := 43, ground := Ground.phase }, { on := 44, ground := Ground.phase }, { on := 45, ground := Ground.phase }, { on := 46, ground := Ground.phase }, { on := 47, ground := Ground.phase }, { on := 48, ground := Ground.phase }, { on := 49, ground := Ground.phase }, { on := 50, ground := Ground.phase }, { on := 51, ground := Ground.phase }, { on := 52, ground := Ground.phase }, { on := 53, ground := Ground.phase }, { on := 54, ground := Ground.phase }, { on := 55, ground := Ground.phase }], guard := none }) (v := ?_) rfl (by kernel_rfl) (by kernel_rfl) (by kernel_rfl) (by rfl) ?_ ?_; rotate_left; focus ((intro W hW; go_simp) <;> with_reducible rfl)
  simp only [Act.put, List.setIfInBounds_toArray, List.set_cons_zero, List.set_cons_succ]
  refine grow_done (by kernel_rfl) ?_ _
  go_wp2_with fail
  go_ret
  exact ⟨rfl, H5.out.2.2.2.2.2.trans (((Chg.refl (fun _ => False) w5).drew).trans Nw12.out fun _ _ => id) fun _ _ => id⟩
end Acc
end Go.Proofs.YtgfkopimjmggdaaDoor

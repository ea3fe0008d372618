/-
  AcceptAgain, walked: true.
-/
import Derived.Test.YtgfkopimjmggdaaDoorJ15
namespace Go.Proofs.YtgfkopimjmggdaaDoor
set_option linter.unusedSimpArgs false
set_option linter.unusedVariables false
open Go.ChangeShapes Go.WideShapes Go.RowKit Go.Deep
namespace Acc
open Val (JoinC)
open Evt Vec Num Stable Cmp
attribute [local go_sem ↓] Evt.loadDot Evt.loadVec Evt.loadRow0 Evt.storeRow0 Evt.loadOnly0 Evt.loadOnly1 Evt.loadOnly2 Vec.loadRow0 Vec.storeRow0
theorem all_mem : ∀ (l : List Ev) (v : List Int), ∀ e ∈ (allF v l).1, e ∈ l
  | [], v, e, h => by cases h
  | x :: l, v, e, h => by
    by_cases h0 : oneF v x = 0
    · rw [allF_take h0] at h
      rcases List.mem_cons.1 h with rfl | h
      · exact List.mem_cons_self ..
      · exact List.mem_cons_of_mem _ (all_mem l _ e h)
    · by_cases h5 : oneF v x = 5
      · rw [allF_skip h5] at h
        exact List.mem_cons_of_mem _ (all_mem l _ e h)
      · rw [allF_stop h0 h5] at h
        cases h
attribute [local go_sem ↓] eqlRow1
theorem eqSelf {xs : List Int} (h : xs.length = 16) (w : World) : (EqlV (vec xs) (vec xs)).run Tryd.prog w = .ok (.bool true) w := by
  unfold EqlV
  have := eqV h h w
  rwa [show (xs == xs) = true by simp] at this
set_option maxHeartbeats 8000000 in
set_option maxRecDepth 20000 in
theorem againW (hJ : JoinC) (w : World) (hm : Val.MaxAt w) (v : List Int) (hv : v.length = 16) (A : Option Addr) (n c : Nat) (F : Nat → Prop) (l : List Ev) (hr : Reads w F 27 A n (rowE l)) (hF : ∀ b, F b → b < w.heap.size) (hl : l.length = n) (hn : l.length ≤ 140737488351232) (hc : ∀ e ∈ l, Came e) :
    Calls Tryd.prog 6 #[vec v, .slice A n c] w fun x w' => x = .returned (.bool true) ∧ New w w' := by
  have hzv := zero_vec
  have n1 := (Chg.refl (fun _ => False) w).alloc (.cells (ints v).toArray 23)
  have B1 := Blk.new w 23 (ints v).toArray
  have CF := Lib.hid (fixed hJ _ (hm.new n1))
  have H1 := Lib.hid (And.intro B1 n1)
  have HM := Lib.hid (And.intro hm (And.intro hJ (And.intro hr (And.intro hF (And.intro hl (And.intro hn (And.intro hc hv)))))))
  clear n1 B1 hm hJ hr hF hl hn hc hv
  go_enter Tryd.func6, Tryd.ntmps6
  go_wp2_with fail
  with_reducible refine CF.out.mono ?_
  rintro x w2 ⟨rfl, n2⟩
  have H2 := Lib.hid (And.intro (H1.out.1.chg n2 id) (H1.out.2.trans n2 fun _ _ => id))
  have CS := Lib.hid (few_ w2 A n c F l (HM.out.2.2.1.chg H2.out.2 fun b hb => ⟨HM.out.2.2.2.1 b hb, id⟩) (fun b hb => Nat.lt_of_lt_of_le (HM.out.2.2.2.1 b hb) H2.out.2.size) HM.out.2.2.2.2.1 HM.out.2.2.2.2.2.1 HM.out.2.2.2.2.2.2.1)
  clear n2 CF
  go_wp2_with fail
  with_reducible refine CS.out.mono ?_
  rintro x w3 ⟨rfl, n3⟩
  have H3 := Lib.hid (And.intro (H2.out.1.chg n3 id) (H2.out.2.trans n3 fun _ _ => id))
  clear n3 CS
  obtain ⟨sh, hsh⟩ : ∃ b, fewB l = b := ⟨_, rfl⟩
  rw [hsh]
  cases sh
  · clear hsh
    go_wp2_with fail
    go_ret
    exact ⟨rfl, H3.out.2⟩
  have hfew := few_true hsh
  have hfit : ∀ e ∈ l, Fit e := fun e he => (HM.out.2.2.2.2.2.2.1 e he).fit (hfew.1 e he)
  have CA := all_ HM.out.2.1 w3 v A n c F l (HM.out.2.2.1.chg H3.out.2 fun b hb => ⟨HM.out.2.2.2.1 b hb, id⟩) (fun b hb => Nat.lt_of_lt_of_le (HM.out.2.2.2.1 b hb) H3.out.2.size) HM.out.2.2.2.2.2.2.2 (by have := HM.out.2.2.2.2.1; omega) HM.out.2.2.2.2.1 hfit (HM.out.1.new H3.out.2)
  obtain ⟨es, now, k, hR⟩ : ∃ es now k, allF v l = (es, now, k) := ⟨_, _, _, rfl⟩
  have hag := again v l HM.out.2.2.2.2.2.2.2
  have hnl := allF_vlen l v
  have hel := allF_len l v
  have hem := all_mem l v
  rw [hR] at CA hag hnl hel hem
  dsimp only at CA hag hnl hel hem
  rw [HM.out.2.2.2.2.2.2.2] at hnl
  have HA := Lib.hid (And.intro hag (And.intro hnl (And.intro (show es.length ≤ 80 by have := hfew.2; omega) (fun e he => hfit e (hem e he)))))
  have CA := Lib.hid CA
  have lv3 := ldB HM.out.2.2.2.2.2.2.2 H3.out.1
  have g3 := H3.out.1.lt
  clear hsh hfew hfit hR hag hnl hel hem
  go_wp2_with fail
  with_reducible refine CA.out.mono ?_
  rintro x w4 ⟨u, rfl, o4, n4⟩
  obtain ⟨A4, c4, rfl⟩ := o4.form
  obtain ⟨m, hm⟩ : ∃ m, es.length = m := ⟨_, rfl⟩
  have hst := stB (xs := now) (old := zeros) rfl HA.out.2.1 (Blk.new w4 23 (ints zeros).toArray)
  obtain ⟨g6, hg6⟩ : ∃ g, w4.heap.size = g := ⟨_, rfl⟩
  have hgg : g6 < (w4.alloc (.cells (ints zeros).toArray 23)).heap.size := by rw [← hg6]; exact (Blk.new w4 23 (ints zeros).toArray).lt
  have m5 := Chg.setCells (S := fun _ => False) (a := w4) (g := w4.heap.size) (ints now) 0 _ ((Chg.refl (fun _ => False) w4).alloc (.cells (ints zeros).toArray 23)) (fun h => by omega)
  rw [hg6] at hst m5
  obtain ⟨w5, hw5⟩ : ∃ W, (w4.alloc (.cells (ints zeros).toArray 23)).setCells g6 0 (ints now) = W := ⟨_, rfl⟩
  rw [hw5] at hst m5
  have hst1 := hst.1
  have o5 := own_chg o4 (m5) fun _ _ => id
  have H5 := Lib.hid (And.intro (H3.out.1.chg (n4.trans m5 fun _ _ => id) id) (And.intro hst.2 (And.intro o5 (H3.out.2.trans (n4.trans m5 fun _ _ => id) fun _ _ => id))))
  have HMM := Lib.hid hm
  clear CA lv3 g3 hst n4 m5 o4 o5 hw5
  rw [hm]
  go_upto_region 6 with fail
  clear hst1 hgg hg6
  have hrd := (Reads.of_own H5.out.2.2.1).mono (G := fun b => b < w5.heap.size) fun b hb => hb.2.1
  have CA := all_ HM.out.2.1 w5 now A4 es.length c4 _ es hrd (fun b hb => hb) HA.out.2.1 (by have := HA.out.2.2.1; omega) rfl HA.out.2.2.2 (HM.out.1.new H5.out.2.2.2)
  rw [HA.out.1.1, hm] at CA
  have CA := Lib.hid CA
  have lv5 := ldB HA.out.2.1 H5.out.2.1
  have g5 := H5.out.2.1.lt
  clear hrd
  go_wp2_with fail
  with_reducible refine CA.out.mono ?_
  rintro x w6 ⟨u6, rfl, o6, n6⟩
  obtain ⟨A6, c6, rfl⟩ := o6.form
  have hst := stB (xs := now) (old := zeros) rfl HA.out.2.1 (Blk.new w6 23 (ints zeros).toArray)
  obtain ⟨g7, hg7⟩ : ∃ g, w6.heap.size = g := ⟨_, rfl⟩
  have hgg : g7 < (w6.alloc (.cells (ints zeros).toArray 23)).heap.size := by rw [← hg7]; exact (Blk.new w6 23 (ints zeros).toArray).lt
  have m7 := Chg.setCells (S := fun _ => False) (a := w6) (g := w6.heap.size) (ints now) 0 _ ((Chg.refl (fun _ => False) w6).alloc (.cells (ints zeros).toArray 23)) (fun h => by omega)
  rw [hg7] at hst m7
  obtain ⟨w7, hw7⟩ : ∃ W, (w6.alloc (.cells (ints zeros).toArray 23)).setCells g7 0 (ints now) = W := ⟨_, rfl⟩
  rw [hw7] at hst m7
  have hst1 := hst.1
  have n67 := n6.trans m7 fun _ _ => id
  have H7 := Lib.hid (And.intro (H5.out.1.chg n67 id) (And.intro (H5.out.2.1.chg n67 id) (And.intro hst.2 (And.intro (own_chg H5.out.2.2.1 n67 fun _ _ => id) (H5.out.2.2.2.trans n67 fun _ _ => id)))))
  clear CA lv5 g5 hst n6 m7 o6 n67 hw7
  go_upto_region 7 with fail
  clear hst1 hgg hg7
  have lv7 := ldB HA.out.2.1 H7.out.2.1
  have lv8 := ldB HA.out.2.1 H7.out.2.2.1
  have g8 := H7.out.2.1.lt
  have g9 := H7.out.2.2.1.lt
  have heq := eqSelf HA.out.2.1
  have heg := eqG
  have hrd := (Reads.of_own H7.out.2.2.2.1).mono (G := fun b => b < w7.heap.size) fun b hb => hb.2.1
  have CL := lacks_ w7 now A4 es.length c4 _ es hrd (fun b hb => hb) HA.out.2.1 (by have := HA.out.2.2.1; omega) rfl
  rw [HA.out.1.2.1, hm] at CL
  have CL := Lib.hid CL
  clear hrd
  go_wp2_with fail
  with_reducible refine CL.out.mono ?_
  rintro x w8 ⟨u8, rfl, o8, n8⟩
  obtain ⟨A8, c8, rfl⟩ := o8.form
  have H8 := Lib.hid (And.intro (H7.out.1.chg n8 id) (And.intro (own_chg H7.out.2.2.2.1 n8 fun _ _ => id) (H7.out.2.2.2.2.trans n8 fun _ _ => id)))
  have lv9 := ldB HM.out.2.2.2.2.2.2.2 H8.out.1
  have g10 := H8.out.1.lt
  have hrd := (Reads.of_own H8.out.2.1).mono (G := fun b => b < w8.heap.size) fun b hb => hb.2.1
  have CL2 := lacks_ w8 v A4 es.length c4 _ es hrd (fun b hb => hb) HM.out.2.2.2.2.2.2.2 (by have := HA.out.2.2.1; omega) rfl
  rw [HA.out.1.2.2, hm] at CL2
  have CL2 := Lib.hid CL2
  clear hrd CL o8 n8 lv7 lv8 g8 g9
  go_wp2_with fail
  with_reducible refine CL2.out.mono ?_
  rintro x w9 ⟨u9, rfl, o9, n9⟩
  obtain ⟨A9, c9, rfl⟩ := o9.form
  rw [hm]
  have H9 := Lib.hid (H8.out.2.2.trans n9 fun _ _ => id)
  clear CL2 o9 n9
  go_wp2_with fail
  go_ret
  exact ⟨rfl, H9.out⟩
end Acc
end Go.Proofs.YtgfkopimjmggdaaDoor

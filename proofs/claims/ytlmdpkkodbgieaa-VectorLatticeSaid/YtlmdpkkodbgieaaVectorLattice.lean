/-
  VectorLattice: the join is the least vector above both, the meet the greatest below both (any three vectors).
-/
import Derived.Test.YtlmdpkkodbgieaaVectorLaw
import Derived.Test.YtlmdpkkodbgieaaArrays
import Derived.Deep.DeepCutAuto
import Derived.Deep.RegionHeld3
namespace Go.Proofs.Ytlmdpkkodbgieaa
open Go.ChangeShapes Go.WideShapes Go.RowKit
namespace Vec
attribute [local go_sem ↓] loadRow0 storeRow0
theorem belowF_of {xs ys : List Int} (hy : ys.length = 16) (h : below xs ys) : belowF xs ys = true := (belowF_iff hy).2 h
theorem below_join1 (xs ys : List Int) : below xs (join xs ys) := fun i hi => by rw [join_getD _ _ _ hi]; omega
theorem below_join2 (xs ys : List Int) : below ys (join xs ys) := fun i hi => by rw [join_getD _ _ _ hi]; omega
theorem meet_below1 (xs ys : List Int) : below (meet xs ys) xs := fun i hi => by rw [meet_getD _ _ _ hi]; omega
theorem meet_below2 (xs ys : List Int) : below (meet xs ys) ys := fun i hi => by rw [meet_getD _ _ _ hi]; omega
theorem join_least {xs ys zs : List Int} (h1 : below xs zs) (h2 : below ys zs) : below (join xs ys) zs := fun i hi => by
  rw [join_getD _ _ _ hi]; have := h1 i hi; have := h2 i hi; omega
theorem meet_most {xs ys zs : List Int} (h1 : below zs xs) (h2 : below zs ys) : below zs (meet xs ys) := fun i hi => by
  rw [meet_getD _ _ _ hi]; have := h1 i hi; have := h2 i hi; omega
theorem join_both (xs ys zs : List Int) (hz : zs.length = 16) : belowF (join xs ys) zs = (belowF xs zs && belowF ys zs) := by
  rw [Bool.eq_iff_iff, Bool.and_eq_true, belowF_iff hz, belowF_iff hz, belowF_iff hz]
  constructor
  · intro h
    refine ⟨fun i hi => ?_, fun i hi => ?_⟩ <;> have := h i hi <;> rw [join_getD _ _ _ hi] at this <;> omega
  · exact fun h => join_least h.1 h.2
theorem meet_both (xs ys zs : List Int) (hx : xs.length = 16) (hy : ys.length = 16) : belowF zs (meet xs ys) = (belowF zs xs && belowF zs ys) := by
  rw [Bool.eq_iff_iff, Bool.and_eq_true, belowF_iff (meet_length ..), belowF_iff hx, belowF_iff hy]
  constructor
  · intro h
    refine ⟨fun i hi => ?_, fun i hi => ?_⟩ <;> have := h i hi <;> rw [meet_getD _ _ _ hi] at this <;> omega
  · exact fun h => meet_most h.1 h.2

set_option maxHeartbeats 20000000 in
set_option maxRecDepth 100000 in
theorem lattice (w : World) (xs ys zs : List Int) (hx : xs.length = 16) (hy : ys.length = 16) (hz : zs.length = 16) :
    Calls Try.prog 4 #[vec xs, vec ys, vec zs] w fun e w' => LawEnd w e w' := by
  have hzv := zero_vec
  have b1 := ((Blk.new w 23 (ints xs).toArray).alloc (.cells (ints ys).toArray 23)).alloc (.cells (ints zs).toArray 23)
  have b2 := (Blk.new1 w (.cells (ints xs).toArray 23) 23 (ints ys).toArray).alloc (.cells (ints zs).toArray 23)
  have b3 := Blk.new2 w (.cells (ints xs).toArray 23) (.cells (ints ys).toArray 23) 23 (ints zs).toArray
  have hn0 : New w (((w.alloc (.cells (ints xs).toArray 23)).alloc (.cells (ints ys).toArray 23)).alloc (.cells (ints zs).toArray 23)) := (((Chg.refl _ _).alloc _).alloc _).alloc _
  have HX := Lib.hid hx
  have HY := Lib.hid hy
  have HZ := Lib.hid hz
  clear hx hy hz
  go_enter Try.func4, Try.ntmps4
  go_wp2_with fail
  refine (fixed _).mono ?_
  rintro e w1 ⟨rfl, hn1⟩
  have hn := hn0.trans hn1 (fun _ _ => False.elim)
  have c1 := b1.chg hn1 id
  have c2 := b2.chg hn1 id
  have c3 := b3.chg hn1 id
  clear b1 b2 b3 hn0 hn1
  go_wp2_with fail
  go_upto_region 3 with fail
  go_cut [7, 8] (fun a7 a8 wr => ∃ g h, a7 = .pointer (some ⟨g, 0, none⟩) ∧ a8 = .pointer (some ⟨h, 0, none⟩) ∧ Blk wr g 23 (ints (join xs ys)).toArray ∧ Blk wr h 23 (ints (meet xs ys)).toArray ∧ New w1 wr)
  case first =>
    refine wp_region_held_drew (S := fun W => New w1 W) (by kernel_rfl) (Chg.refl _ _).drew (fun hN => ?_)
    generalize w1.drew = W0 at *
    refine wpAnyH_take (i := 0) (oi := _) (v := vec xs) rfl (by kernel_rfl) (by kernel_rfl) (by kernel_rfl) (fun _ _ _ h => h) (yieldsIf_load_mid (by rfl) 23 (.tmp 3) rfl w.heap.size 0 rfl (ints xs) _ (fun W hW => (c1.chg hW id).range_all) Try.underlying23 rfl (by rw [ints_length, HX.out]; kernel_rfl)) hN ?_
    simp only [Act.put, List.setIfInBounds_toArray, List.set_cons_zero, List.set_cons_succ]
    refine wpAnyH_take (i := 1) (oi := _) (v := vec ys) rfl (by kernel_rfl) (by kernel_rfl) (by kernel_rfl) (fun _ _ _ h => h) (yieldsIf_load_mid (by rfl) 23 (.tmp 4) rfl (w.heap.size + 1) 0 rfl (ints ys) _ (fun W hW => (c2.chg hW id).range_all) Try.underlying23 rfl (by rw [ints_length, HY.out]; kernel_rfl)) hN ?_
    simp only [Act.put, List.setIfInBounds_toArray, List.set_cons_zero, List.set_cons_succ]
    refine wpAnyH_take (i := 3) (oi := _) (v := vec xs) rfl (by kernel_rfl) (by kernel_rfl) (by kernel_rfl) (fun _ _ _ h => h) (yieldsIf_load_mid (by rfl) 23 (.tmp 3) rfl w.heap.size 0 rfl (ints xs) _ (fun W hW => (c1.chg hW id).range_all) Try.underlying23 rfl (by rw [ints_length, HX.out]; kernel_rfl)) hN ?_
    simp only [Act.put, List.setIfInBounds_toArray, List.set_cons_zero, List.set_cons_succ]
    refine wpAnyH_take (i := 4) (oi := _) (v := vec ys) rfl (by kernel_rfl) (by kernel_rfl) (by kernel_rfl) (fun _ _ _ h => h) (yieldsIf_load_mid (by rfl) 23 (.tmp 4) rfl (w.heap.size + 1) 0 rfl (ints ys) _ (fun W hW => (c2.chg hW id).range_all) Try.underlying23 rfl (by rw [ints_length, HY.out]; kernel_rfl)) hN ?_
    simp only [Act.put, List.setIfInBounds_toArray, List.set_cons_zero, List.set_cons_succ]
    refine wpAnyH_ready (rs := [2, 6, 7]) (by kernel_rfl) (by simp) ?_
    refine AllReadyH.cons rfl (fun K hK => ?_) ?_
    · rw [if_pos (by rfl)]
      go_simp
      go_at_call 12
      refine (join_ _ xs ys HX.out HY.out).mono ?_
      rintro e W1 ⟨rfl, hj⟩
      refine hK.out _ _ (hN.trans hj (fun _ _ => False.elim)) (fun hM => ?_)
      clear hK hj hN
      have hN := hM
      clear hM
      refine wpAnyH_ready (rs := [5, 6, 7]) (by kernel_rfl) (by simp) ?_
      refine AllReadyH.cons rfl (fun K hK => ?_) ?_
      · rw [if_pos (by rfl)]
        go_simp
        go_at_call 13
        refine (meet_ _ xs ys HX.out HY.out).mono ?_
        rintro e W2 ⟨rfl, hj⟩
        refine hK.out _ _ (hN.trans hj (fun _ _ => False.elim)) (fun hM => ?_)
        clear hK hj hN
        have hN := hM
        clear hM
        refine wpAnyH_ready (rs := [6, 7]) (by kernel_rfl) (by simp) ?_
        refine AllReadyH.cons rfl (fun K hK => ?_) ?_
        · rw [if_pos (by rfl)]
          go_simp
          refine hK.out _ _ (hN.alloc _) (fun hM => ?_)
          have h7 := Blk.new W2 23 (ints zeros).toArray
          have hgt : w1.heap.size ≤ W2.heap.size := hN.size
          generalize W2.heap.size = g7 at *
          clear hK hN
          have hN := hM
          clear hM
          generalize W2.alloc (.cells (ints zeros).toArray 23) = W3 at *
          have hgt7 := hgt
          clear hgt
          refine wpAnyH_ready (rs := [7]) (by kernel_rfl) (by simp) ?_
          refine AllReadyH.cons rfl (fun K hK => ?_) ?_
          · rw [if_pos (by rfl)]
            go_simp
            refine hK.out _ _ (hN.alloc _) (fun hM => ?_)
            have hlt := h7.lt
            replace h7 := h7.alloc (.cells (ints zeros).toArray 23)
            have h8 := Blk.new W3 23 (ints zeros).toArray
            have hgt : w1.heap.size ≤ W3.heap.size := hN.size
            generalize W3.heap.size = g8 at *
            clear hK hN
            have hN := hM
            clear hM
            generalize W3.alloc (.cells (ints zeros).toArray 23) = W4 at *
            have hgt8 := hgt
            clear hgt
            refine wpAnyH_ready (rs := [8]) (by kernel_rfl) (by simp) ?_
            refine AllReadyH.cons rfl (fun K hK => ?_) ?_
            · rw [if_pos (by rfl)]
              obtain ⟨st, hst⟩ := stB zeros_length (join_length xs ys) h7
              have hoth := h8.chg (Chg.setCells (S := fun b => b = g7) (ints (join xs ys)) 0 _ (Chg.refl _ W4) (fun _ => rfl)) (show ¬ g8 = g7 by omega)
              have hM := Chg.setCells (ints (join xs ys)) 0 _ hN (fun h => absurd h (show ¬ g7 < w1.heap.size by omega))
              go_simp
              refine hK.out _ _ hM (fun _ => ?_)
              clear st hN h7 h8 hK
              have h7 := hst
              have h8 := hoth
              have hN := hM
              clear hst hoth hM
              generalize World.setCells W4 g7 0 (ints (join xs ys)) = W5 at *
              refine wpAnyH_ready (rs := [9]) (by kernel_rfl) (by simp) ?_
              refine AllReadyH.cons rfl (fun K hK => ?_) ?_
              · rw [if_pos (by rfl)]
                obtain ⟨st, hst⟩ := stB zeros_length (meet_length xs ys) h8
                have hoth := h7.chg (Chg.setCells (S := fun b => b = g8) (ints (meet xs ys)) 0 _ (Chg.refl _ W5) (fun _ => rfl)) (show ¬ g7 = g8 by omega)
                have hM := Chg.setCells (ints (meet xs ys)) 0 _ hN (fun h => absurd h (show ¬ g8 < w1.heap.size by omega))
                go_simp
                refine hK.out _ _ hM (fun _ => ?_)
                clear st hN h7 h8 hK
                have h8 := hst
                have h7 := hoth
                have hN := hM
                clear hst hoth hM
                generalize World.setCells W5 g8 0 (ints (meet xs ys)) = W6 at *
                refine wpAnyH_done (by kernel_rfl) ?_ _
                go_wp2_with fail
                go_meet
                exact ⟨_, _, rfl, rfl, h7, h8, hN⟩
              exact AllReadyH.nil
            exact AllReadyH.nil
          exact AllReadyH.nil
        refine AllReadyH.cons rfl (fun K hK => ?_) ?_
        · rw [if_pos (by rfl)]
          go_simp
          refine hK.out _ _ (hN.alloc _) (fun hM => ?_)
          have h8 := Blk.new W2 23 (ints zeros).toArray
          have hgt : w1.heap.size ≤ W2.heap.size := hN.size
          generalize W2.heap.size = g8 at *
          clear hK hN
          have hN := hM
          clear hM
          generalize W2.alloc (.cells (ints zeros).toArray 23) = W3 at *
          have hgt8 := hgt
          clear hgt
          refine wpAnyH_ready (rs := [6]) (by kernel_rfl) (by simp) ?_
          refine AllReadyH.cons rfl (fun K hK => ?_) ?_
          · rw [if_pos (by rfl)]
            go_simp
            refine hK.out _ _ (hN.alloc _) (fun hM => ?_)
            have hlt := h8.lt
            replace h8 := h8.alloc (.cells (ints zeros).toArray 23)
            have h7 := Blk.new W3 23 (ints zeros).toArray
            have hgt : w1.heap.size ≤ W3.heap.size := hN.size
            generalize W3.heap.size = g7 at *
            clear hK hN
            have hN := hM
            clear hM
            generalize W3.alloc (.cells (ints zeros).toArray 23) = W4 at *
            have hgt7 := hgt
            clear hgt
            refine wpAnyH_ready (rs := [8]) (by kernel_rfl) (by simp) ?_
            refine AllReadyH.cons rfl (fun K hK => ?_) ?_
            · rw [if_pos (by rfl)]
              obtain ⟨st, hst⟩ := stB zeros_length (join_length xs ys) h7
              have hoth := h8.chg (Chg.setCells (S := fun b => b = g7) (ints (join xs ys)) 0 _ (Chg.refl _ W4) (fun _ => rfl)) (show ¬ g8 = g7 by omega)
              have hM := Chg.setCells (ints (join xs ys)) 0 _ hN (fun h => absurd h (show ¬ g7 < w1.heap.size by omega))
              go_simp
              refine hK.out _ _ hM (fun _ => ?_)
              clear st hN h7 h8 hK
              have h7 := hst
              have h8 := hoth
              have hN := hM
              clear hst hoth hM
              generalize World.setCells W4 g7 0 (ints (join xs ys)) = W5 at *
              refine wpAnyH_ready (rs := [9]) (by kernel_rfl) (by simp) ?_
              refine AllReadyH.cons rfl (fun K hK => ?_) ?_
              · rw [if_pos (by rfl)]
                obtain ⟨st, hst⟩ := stB zeros_length (meet_length xs ys) h8
                have hoth := h7.chg (Chg.setCells (S := fun b => b = g8) (ints (meet xs ys)) 0 _ (Chg.refl _ W5) (fun _ => rfl)) (show ¬ g7 = g8 by omega)
                have hM := Chg.setCells (ints (meet xs ys)) 0 _ hN (fun h => absurd h (show ¬ g8 < w1.heap.size by omega))
                go_simp
                refine hK.out _ _ hM (fun _ => ?_)
                clear st hN h7 h8 hK
                have h8 := hst
                have h7 := hoth
                have hN := hM
                clear hst hoth hM
                generalize World.setCells W5 g8 0 (ints (meet xs ys)) = W6 at *
                refine wpAnyH_done (by kernel_rfl) ?_ _
                go_wp2_with fail
                go_meet
                exact ⟨_, _, rfl, rfl, h7, h8, hN⟩
              exact AllReadyH.nil
            exact AllReadyH.nil
          exact AllReadyH.nil
        exact AllReadyH.nil
      refine AllReadyH.cons rfl (fun K hK => ?_) ?_
      · rw [if_pos (by rfl)]
        go_simp
        refine hK.out _ _ (hN.alloc _) (fun hM => ?_)
        have h7 := Blk.new W1 23 (ints zeros).toArray
        have hgt : w1.heap.size ≤ W1.heap.size := hN.size
        generalize W1.heap.size = g7 at *
        clear hK hN
        have hN := hM
        clear hM
        generalize W1.alloc (.cells (ints zeros).toArray 23) = W2 at *
        have hgt7 := hgt
        clear hgt
        refine wpAnyH_ready (rs := [5, 7]) (by kernel_rfl) (by simp) ?_
        refine AllReadyH.cons rfl (fun K hK => ?_) ?_
        · rw [if_pos (by rfl)]
          go_simp
          go_at_call 13
          refine (meet_ _ xs ys HX.out HY.out).mono ?_
          rintro e W3 ⟨rfl, hj⟩
          refine hK.out _ _ (hN.trans hj (fun _ _ => False.elim)) (fun hM => ?_)
          replace h7 := h7.chg hj id
          clear hK hj hN
          have hN := hM
          clear hM
          refine wpAnyH_ready (rs := [7]) (by kernel_rfl) (by simp) ?_
          refine AllReadyH.cons rfl (fun K hK => ?_) ?_
          · rw [if_pos (by rfl)]
            go_simp
            refine hK.out _ _ (hN.alloc _) (fun hM => ?_)
            have hlt := h7.lt
            replace h7 := h7.alloc (.cells (ints zeros).toArray 23)
            have h8 := Blk.new W3 23 (ints zeros).toArray
            have hgt : w1.heap.size ≤ W3.heap.size := hN.size
            generalize W3.heap.size = g8 at *
            clear hK hN
            have hN := hM
            clear hM
            generalize W3.alloc (.cells (ints zeros).toArray 23) = W4 at *
            have hgt8 := hgt
            clear hgt
            refine wpAnyH_ready (rs := [8]) (by kernel_rfl) (by simp) ?_
            refine AllReadyH.cons rfl (fun K hK => ?_) ?_
            · rw [if_pos (by rfl)]
              obtain ⟨st, hst⟩ := stB zeros_length (join_length xs ys) h7
              have hoth := h8.chg (Chg.setCells (S := fun b => b = g7) (ints (join xs ys)) 0 _ (Chg.refl _ W4) (fun _ => rfl)) (show ¬ g8 = g7 by omega)
              have hM := Chg.setCells (ints (join xs ys)) 0 _ hN (fun h => absurd h (show ¬ g7 < w1.heap.size by omega))
              go_simp
              refine hK.out _ _ hM (fun _ => ?_)
              clear st hN h7 h8 hK
              have h7 := hst
              have h8 := hoth
              have hN := hM
              clear hst hoth hM
              generalize World.setCells W4 g7 0 (ints (join xs ys)) = W5 at *
              refine wpAnyH_ready (rs := [9]) (by kernel_rfl) (by simp) ?_
              refine AllReadyH.cons rfl (fun K hK => ?_) ?_
              · rw [if_pos (by rfl)]
                obtain ⟨st, hst⟩ := stB zeros_length (meet_length xs ys) h8
                have hoth := h7.chg (Chg.setCells (S := fun b => b = g8) (ints (meet xs ys)) 0 _ (Chg.refl _ W5) (fun _ => rfl)) (show ¬ g7 = g8 by omega)
                have hM := Chg.setCells (ints (meet xs ys)) 0 _ hN (fun h => absurd h (show ¬ g8 < w1.heap.size by omega))
                go_simp
                refine hK.out _ _ hM (fun _ => ?_)
                clear st hN h7 h8 hK
                have h8 := hst
                have h7 := hoth
                have hN := hM
                clear hst hoth hM
                generalize World.setCells W5 g8 0 (ints (meet xs ys)) = W6 at *
                refine wpAnyH_done (by kernel_rfl) ?_ _
                go_wp2_with fail
                go_meet
                exact ⟨_, _, rfl, rfl, h7, h8, hN⟩
              exact AllReadyH.nil
            exact AllReadyH.nil
          exact AllReadyH.nil
        refine AllReadyH.cons rfl (fun K hK => ?_) ?_
        · rw [if_pos (by rfl)]
          go_simp
          refine hK.out _ _ (hN.alloc _) (fun hM => ?_)
          have hlt := h7.lt
          replace h7 := h7.alloc (.cells (ints zeros).toArray 23)
          have h8 := Blk.new W2 23 (ints zeros).toArray
          have hgt : w1.heap.size ≤ W2.heap.size := hN.size
          generalize W2.heap.size = g8 at *
          clear hK hN
          have hN := hM
          clear hM
          generalize W2.alloc (.cells (ints zeros).toArray 23) = W3 at *
          have hgt8 := hgt
          clear hgt
          refine wpAnyH_ready (rs := [5]) (by kernel_rfl) (by simp) ?_
          refine AllReadyH.cons rfl (fun K hK => ?_) ?_
          · rw [if_pos (by rfl)]
            go_simp
            go_at_call 13
            refine (meet_ _ xs ys HX.out HY.out).mono ?_
            rintro e W4 ⟨rfl, hj⟩
            refine hK.out _ _ (hN.trans hj (fun _ _ => False.elim)) (fun hM => ?_)
            replace h7 := h7.chg hj id
            replace h8 := h8.chg hj id
            clear hK hj hN
            have hN := hM
            clear hM
            refine wpAnyH_ready (rs := [8]) (by kernel_rfl) (by simp) ?_
            refine AllReadyH.cons rfl (fun K hK => ?_) ?_
            · rw [if_pos (by rfl)]
              obtain ⟨st, hst⟩ := stB zeros_length (join_length xs ys) h7
              have hoth := h8.chg (Chg.setCells (S := fun b => b = g7) (ints (join xs ys)) 0 _ (Chg.refl _ W4) (fun _ => rfl)) (show ¬ g8 = g7 by omega)
              have hM := Chg.setCells (ints (join xs ys)) 0 _ hN (fun h => absurd h (show ¬ g7 < w1.heap.size by omega))
              go_simp
              refine hK.out _ _ hM (fun _ => ?_)
              clear st hN h7 h8 hK
              have h7 := hst
              have h8 := hoth
              have hN := hM
              clear hst hoth hM
              generalize World.setCells W4 g7 0 (ints (join xs ys)) = W5 at *
              refine wpAnyH_ready (rs := [9]) (by kernel_rfl) (by simp) ?_
              refine AllReadyH.cons rfl (fun K hK => ?_) ?_
              · rw [if_pos (by rfl)]
                obtain ⟨st, hst⟩ := stB zeros_length (meet_length xs ys) h8
                have hoth := h7.chg (Chg.setCells (S := fun b => b = g8) (ints (meet xs ys)) 0 _ (Chg.refl _ W5) (fun _ => rfl)) (show ¬ g7 = g8 by omega)
                have hM := Chg.setCells (ints (meet xs ys)) 0 _ hN (fun h => absurd h (show ¬ g8 < w1.heap.size by omega))
                go_simp
                refine hK.out _ _ hM (fun _ => ?_)
                clear st hN h7 h8 hK
                have h8 := hst
                have h7 := hoth
                have hN := hM
                clear hst hoth hM
                generalize World.setCells W5 g8 0 (ints (meet xs ys)) = W6 at *
                refine wpAnyH_done (by kernel_rfl) ?_ _
                go_wp2_with fail
                go_meet
                exact ⟨_, _, rfl, rfl, h7, h8, hN⟩
              exact AllReadyH.nil
            exact AllReadyH.nil
          exact AllReadyH.nil
        exact AllReadyH.nil
      refine AllReadyH.cons rfl (fun K hK => ?_) ?_
      · rw [if_pos (by rfl)]
        go_simp
        refine hK.out _ _ (hN.alloc _) (fun hM => ?_)
        have h8 := Blk.new W1 23 (ints zeros).toArray
        have hgt : w1.heap.size ≤ W1.heap.size := hN.size
        generalize W1.heap.size = g8 at *
        clear hK hN
        have hN := hM
        clear hM
        generalize W1.alloc (.cells (ints zeros).toArray 23) = W2 at *
        have hgt8 := hgt
        clear hgt
        refine wpAnyH_ready (rs := [5, 6]) (by kernel_rfl) (by simp) ?_
        refine AllReadyH.cons rfl (fun K hK => ?_) ?_
        · rw [if_pos (by rfl)]
          go_simp
          go_at_call 13
          refine (meet_ _ xs ys HX.out HY.out).mono ?_
          rintro e W3 ⟨rfl, hj⟩
          refine hK.out _ _ (hN.trans hj (fun _ _ => False.elim)) (fun hM => ?_)
          replace h8 := h8.chg hj id
          clear hK hj hN
          have hN := hM
          clear hM
          refine wpAnyH_ready (rs := [6]) (by kernel_rfl) (by simp) ?_
          refine AllReadyH.cons rfl (fun K hK => ?_) ?_
          · rw [if_pos (by rfl)]
            go_simp
            refine hK.out _ _ (hN.alloc _) (fun hM => ?_)
            have hlt := h8.lt
            replace h8 := h8.alloc (.cells (ints zeros).toArray 23)
            have h7 := Blk.new W3 23 (ints zeros).toArray
            have hgt : w1.heap.size ≤ W3.heap.size := hN.size
            generalize W3.heap.size = g7 at *
            clear hK hN
            have hN := hM
            clear hM
            generalize W3.alloc (.cells (ints zeros).toArray 23) = W4 at *
            have hgt7 := hgt
            clear hgt
            refine wpAnyH_ready (rs := [8]) (by kernel_rfl) (by simp) ?_
            refine AllReadyH.cons rfl (fun K hK => ?_) ?_
            · rw [if_pos (by rfl)]
              obtain ⟨st, hst⟩ := stB zeros_length (join_length xs ys) h7
              have hoth := h8.chg (Chg.setCells (S := fun b => b = g7) (ints (join xs ys)) 0 _ (Chg.refl _ W4) (fun _ => rfl)) (show ¬ g8 = g7 by omega)
              have hM := Chg.setCells (ints (join xs ys)) 0 _ hN (fun h => absurd h (show ¬ g7 < w1.heap.size by omega))
              go_simp
              refine hK.out _ _ hM (fun _ => ?_)
              clear st hN h7 h8 hK
              have h7 := hst
              have h8 := hoth
              have hN := hM
              clear hst hoth hM
              generalize World.setCells W4 g7 0 (ints (join xs ys)) = W5 at *
              refine wpAnyH_ready (rs := [9]) (by kernel_rfl) (by simp) ?_
              refine AllReadyH.cons rfl (fun K hK => ?_) ?_
              · rw [if_pos (by rfl)]
                obtain ⟨st, hst⟩ := stB zeros_length (meet_length xs ys) h8
                have hoth := h7.chg (Chg.setCells (S := fun b => b = g8) (ints (meet xs ys)) 0 _ (Chg.refl _ W5) (fun _ => rfl)) (show ¬ g7 = g8 by omega)
                have hM := Chg.setCells (ints (meet xs ys)) 0 _ hN (fun h => absurd h (show ¬ g8 < w1.heap.size by omega))
                go_simp
                refine hK.out _ _ hM (fun _ => ?_)
                clear st hN h7 h8 hK
                have h8 := hst
                have h7 := hoth
                have hN := hM
                clear hst hoth hM
                generalize World.setCells W5 g8 0 (ints (meet xs ys)) = W6 at *
                refine wpAnyH_done (by kernel_rfl) ?_ _
                go_wp2_with fail
                go_meet
                exact ⟨_, _, rfl, rfl, h7, h8, hN⟩
              exact AllReadyH.nil
            exact AllReadyH.nil
          exact AllReadyH.nil
        refine AllReadyH.cons rfl (fun K hK => ?_) ?_
        · rw [if_pos (by rfl)]
          go_simp
          refine hK.out _ _ (hN.alloc _) (fun hM => ?_)
          have hlt := h8.lt
          replace h8 := h8.alloc (.cells (ints zeros).toArray 23)
          have h7 := Blk.new W2 23 (ints zeros).toArray
          have hgt : w1.heap.size ≤ W2.heap.size := hN.size
          generalize W2.heap.size = g7 at *
          clear hK hN
          have hN := hM
          clear hM
          generalize W2.alloc (.cells (ints zeros).toArray 23) = W3 at *
          have hgt7 := hgt
          clear hgt
          refine wpAnyH_ready (rs := [5]) (by kernel_rfl) (by simp) ?_
          refine AllReadyH.cons rfl (fun K hK => ?_) ?_
          · rw [if_pos (by rfl)]
            go_simp
            go_at_call 13
            refine (meet_ _ xs ys HX.out HY.out).mono ?_
            rintro e W4 ⟨rfl, hj⟩
            refine hK.out _ _ (hN.trans hj (fun _ _ => False.elim)) (fun hM => ?_)
            replace h8 := h8.chg hj id
            replace h7 := h7.chg hj id
            clear hK hj hN
            have hN := hM
            clear hM
            refine wpAnyH_ready (rs := [8]) (by kernel_rfl) (by simp) ?_
            refine AllReadyH.cons rfl (fun K hK => ?_) ?_
            · rw [if_pos (by rfl)]
              obtain ⟨st, hst⟩ := stB zeros_length (join_length xs ys) h7
              have hoth := h8.chg (Chg.setCells (S := fun b => b = g7) (ints (join xs ys)) 0 _ (Chg.refl _ W4) (fun _ => rfl)) (show ¬ g8 = g7 by omega)
              have hM := Chg.setCells (ints (join xs ys)) 0 _ hN (fun h => absurd h (show ¬ g7 < w1.heap.size by omega))
              go_simp
              refine hK.out _ _ hM (fun _ => ?_)
              clear st hN h7 h8 hK
              have h7 := hst
              have h8 := hoth
              have hN := hM
              clear hst hoth hM
              generalize World.setCells W4 g7 0 (ints (join xs ys)) = W5 at *
              refine wpAnyH_ready (rs := [9]) (by kernel_rfl) (by simp) ?_
              refine AllReadyH.cons rfl (fun K hK => ?_) ?_
              · rw [if_pos (by rfl)]
                obtain ⟨st, hst⟩ := stB zeros_length (meet_length xs ys) h8
                have hoth := h7.chg (Chg.setCells (S := fun b => b = g8) (ints (meet xs ys)) 0 _ (Chg.refl _ W5) (fun _ => rfl)) (show ¬ g7 = g8 by omega)
                have hM := Chg.setCells (ints (meet xs ys)) 0 _ hN (fun h => absurd h (show ¬ g8 < w1.heap.size by omega))
                go_simp
                refine hK.out _ _ hM (fun _ => ?_)
                clear st hN h7 h8 hK
                have h8 := hst
                have h7 := hoth
                have hN := hM
                clear hst hoth hM
                generalize World.setCells W5 g8 0 (ints (meet xs ys)) = W6 at *
                refine wpAnyH_done (by kernel_rfl) ?_ _
                go_wp2_with fail
                go_meet
                exact ⟨_, _, rfl, rfl, h7, h8, hN⟩
              exact AllReadyH.nil
            exact AllReadyH.nil
          exact AllReadyH.nil
        exact AllReadyH.nil
      exact AllReadyH.nil
    refine AllReadyH.cons rfl (fun K hK => ?_) ?_
    · rw [if_pos (by rfl)]
      go_simp
      refine hK.out _ _ (hN.alloc _) (fun hM => ?_)
      have h7 := Blk.new W0 23 (ints zeros).toArray
      have hgt : w1.heap.size ≤ W0.heap.size := hN.size
      generalize W0.heap.size = g7 at *
      clear hK hN
      have hN := hM
      clear hM
      generalize W0.alloc (.cells (ints zeros).toArray 23) = W1 at *
      have hgt7 := hgt
      clear hgt
      refine wpAnyH_ready (rs := [2, 7]) (by kernel_rfl) (by simp) ?_
      refine AllReadyH.cons rfl (fun K hK => ?_) ?_
      · rw [if_pos (by rfl)]
        go_simp
        go_at_call 12
        refine (join_ _ xs ys HX.out HY.out).mono ?_
        rintro e W2 ⟨rfl, hj⟩
        refine hK.out _ _ (hN.trans hj (fun _ _ => False.elim)) (fun hM => ?_)
        replace h7 := h7.chg hj id
        clear hK hj hN
        have hN := hM
        clear hM
        refine wpAnyH_ready (rs := [5, 7]) (by kernel_rfl) (by simp) ?_
        refine AllReadyH.cons rfl (fun K hK => ?_) ?_
        · rw [if_pos (by rfl)]
          go_simp
          go_at_call 13
          refine (meet_ _ xs ys HX.out HY.out).mono ?_
          rintro e W3 ⟨rfl, hj⟩
          refine hK.out _ _ (hN.trans hj (fun _ _ => False.elim)) (fun hM => ?_)
          replace h7 := h7.chg hj id
          clear hK hj hN
          have hN := hM
          clear hM
          refine wpAnyH_ready (rs := [7]) (by kernel_rfl) (by simp) ?_
          refine AllReadyH.cons rfl (fun K hK => ?_) ?_
          · rw [if_pos (by rfl)]
            go_simp
            refine hK.out _ _ (hN.alloc _) (fun hM => ?_)
            have hlt := h7.lt
            replace h7 := h7.alloc (.cells (ints zeros).toArray 23)
            have h8 := Blk.new W3 23 (ints zeros).toArray
            have hgt : w1.heap.size ≤ W3.heap.size := hN.size
            generalize W3.heap.size = g8 at *
            clear hK hN
            have hN := hM
            clear hM
            generalize W3.alloc (.cells (ints zeros).toArray 23) = W4 at *
            have hgt8 := hgt
            clear hgt
            refine wpAnyH_ready (rs := [8]) (by kernel_rfl) (by simp) ?_
            refine AllReadyH.cons rfl (fun K hK => ?_) ?_
            · rw [if_pos (by rfl)]
              obtain ⟨st, hst⟩ := stB zeros_length (join_length xs ys) h7
              have hoth := h8.chg (Chg.setCells (S := fun b => b = g7) (ints (join xs ys)) 0 _ (Chg.refl _ W4) (fun _ => rfl)) (show ¬ g8 = g7 by omega)
              have hM := Chg.setCells (ints (join xs ys)) 0 _ hN (fun h => absurd h (show ¬ g7 < w1.heap.size by omega))
              go_simp
              refine hK.out _ _ hM (fun _ => ?_)
              clear st hN h7 h8 hK
              have h7 := hst
              have h8 := hoth
              have hN := hM
              clear hst hoth hM
              generalize World.setCells W4 g7 0 (ints (join xs ys)) = W5 at *
              refine wpAnyH_ready (rs := [9]) (by kernel_rfl) (by simp) ?_
              refine AllReadyH.cons rfl (fun K hK => ?_) ?_
              · rw [if_pos (by rfl)]
                obtain ⟨st, hst⟩ := stB zeros_length (meet_length xs ys) h8
                have hoth := h7.chg (Chg.setCells (S := fun b => b = g8) (ints (meet xs ys)) 0 _ (Chg.refl _ W5) (fun _ => rfl)) (show ¬ g7 = g8 by omega)
                have hM := Chg.setCells (ints (meet xs ys)) 0 _ hN (fun h => absurd h (show ¬ g8 < w1.heap.size by omega))
                go_simp
                refine hK.out _ _ hM (fun _ => ?_)
                clear st hN h7 h8 hK
                have h8 := hst
                have h7 := hoth
                have hN := hM
                clear hst hoth hM
                generalize World.setCells W5 g8 0 (ints (meet xs ys)) = W6 at *
                refine wpAnyH_done (by kernel_rfl) ?_ _
                go_wp2_with fail
                go_meet
                exact ⟨_, _, rfl, rfl, h7, h8, hN⟩
              exact AllReadyH.nil
            exact AllReadyH.nil
          exact AllReadyH.nil
        refine AllReadyH.cons rfl (fun K hK => ?_) ?_
        · rw [if_pos (by rfl)]
          go_simp
          refine hK.out _ _ (hN.alloc _) (fun hM => ?_)
          have hlt := h7.lt
          replace h7 := h7.alloc (.cells (ints zeros).toArray 23)
          have h8 := Blk.new W2 23 (ints zeros).toArray
          have hgt : w1.heap.size ≤ W2.heap.size := hN.size
          generalize W2.heap.size = g8 at *
          clear hK hN
          have hN := hM
          clear hM
          generalize W2.alloc (.cells (ints zeros).toArray 23) = W3 at *
          have hgt8 := hgt
          clear hgt
          refine wpAnyH_ready (rs := [5]) (by kernel_rfl) (by simp) ?_
          refine AllReadyH.cons rfl (fun K hK => ?_) ?_
          · rw [if_pos (by rfl)]
            go_simp
            go_at_call 13
            refine (meet_ _ xs ys HX.out HY.out).mono ?_
            rintro e W4 ⟨rfl, hj⟩
            refine hK.out _ _ (hN.trans hj (fun _ _ => False.elim)) (fun hM => ?_)
            replace h7 := h7.chg hj id
            replace h8 := h8.chg hj id
            clear hK hj hN
            have hN := hM
            clear hM
            refine wpAnyH_ready (rs := [8]) (by kernel_rfl) (by simp) ?_
            refine AllReadyH.cons rfl (fun K hK => ?_) ?_
            · rw [if_pos (by rfl)]
              obtain ⟨st, hst⟩ := stB zeros_length (join_length xs ys) h7
              have hoth := h8.chg (Chg.setCells (S := fun b => b = g7) (ints (join xs ys)) 0 _ (Chg.refl _ W4) (fun _ => rfl)) (show ¬ g8 = g7 by omega)
              have hM := Chg.setCells (ints (join xs ys)) 0 _ hN (fun h => absurd h (show ¬ g7 < w1.heap.size by omega))
              go_simp
              refine hK.out _ _ hM (fun _ => ?_)
              clear st hN h7 h8 hK
              have h7 := hst
              have h8 := hoth
              have hN := hM
              clear hst hoth hM
              generalize World.setCells W4 g7 0 (ints (join xs ys)) = W5 at *
              refine wpAnyH_ready (rs := [9]) (by kernel_rfl) (by simp) ?_
              refine AllReadyH.cons rfl (fun K hK => ?_) ?_
              · rw [if_pos (by rfl)]
                obtain ⟨st, hst⟩ := stB zeros_length (meet_length xs ys) h8
                have hoth := h7.chg (Chg.setCells (S := fun b => b = g8) (ints (meet xs ys)) 0 _ (Chg.refl _ W5) (fun _ => rfl)) (show ¬ g7 = g8 by omega)
                have hM := Chg.setCells (ints (meet xs ys)) 0 _ hN (fun h => absurd h (show ¬ g8 < w1.heap.size by omega))
                go_simp
                refine hK.out _ _ hM (fun _ => ?_)
                clear st hN h7 h8 hK
                have h8 := hst
                have h7 := hoth
                have hN := hM
                clear hst hoth hM
                generalize World.setCells W5 g8 0 (ints (meet xs ys)) = W6 at *
                refine wpAnyH_done (by kernel_rfl) ?_ _
                go_wp2_with fail
                go_meet
                exact ⟨_, _, rfl, rfl, h7, h8, hN⟩
              exact AllReadyH.nil
            exact AllReadyH.nil
          exact AllReadyH.nil
        exact AllReadyH.nil
      refine AllReadyH.cons rfl (fun K hK => ?_) ?_
      · rw [if_pos (by rfl)]
        go_simp
        refine hK.out _ _ (hN.alloc _) (fun hM => ?_)
        have hlt := h7.lt
        replace h7 := h7.alloc (.cells (ints zeros).toArray 23)
        have h8 := Blk.new W1 23 (ints zeros).toArray
        have hgt : w1.heap.size ≤ W1.heap.size := hN.size
        generalize W1.heap.size = g8 at *
        clear hK hN
        have hN := hM
        clear hM
        generalize W1.alloc (.cells (ints zeros).toArray 23) = W2 at *
        have hgt8 := hgt
        clear hgt
        refine wpAnyH_ready (rs := [2]) (by kernel_rfl) (by simp) ?_
        refine AllReadyH.cons rfl (fun K hK => ?_) ?_
        · rw [if_pos (by rfl)]
          go_simp
          go_at_call 12
          refine (join_ _ xs ys HX.out HY.out).mono ?_
          rintro e W3 ⟨rfl, hj⟩
          refine hK.out _ _ (hN.trans hj (fun _ _ => False.elim)) (fun hM => ?_)
          replace h7 := h7.chg hj id
          replace h8 := h8.chg hj id
          clear hK hj hN
          have hN := hM
          clear hM
          refine wpAnyH_ready (rs := [5]) (by kernel_rfl) (by simp) ?_
          refine AllReadyH.cons rfl (fun K hK => ?_) ?_
          · rw [if_pos (by rfl)]
            go_simp
            go_at_call 13
            refine (meet_ _ xs ys HX.out HY.out).mono ?_
            rintro e W4 ⟨rfl, hj⟩
            refine hK.out _ _ (hN.trans hj (fun _ _ => False.elim)) (fun hM => ?_)
            replace h7 := h7.chg hj id
            replace h8 := h8.chg hj id
            clear hK hj hN
            have hN := hM
            clear hM
            refine wpAnyH_ready (rs := [8]) (by kernel_rfl) (by simp) ?_
            refine AllReadyH.cons rfl (fun K hK => ?_) ?_
            · rw [if_pos (by rfl)]
              obtain ⟨st, hst⟩ := stB zeros_length (join_length xs ys) h7
              have hoth := h8.chg (Chg.setCells (S := fun b => b = g7) (ints (join xs ys)) 0 _ (Chg.refl _ W4) (fun _ => rfl)) (show ¬ g8 = g7 by omega)
              have hM := Chg.setCells (ints (join xs ys)) 0 _ hN (fun h => absurd h (show ¬ g7 < w1.heap.size by omega))
              go_simp
              refine hK.out _ _ hM (fun _ => ?_)
              clear st hN h7 h8 hK
              have h7 := hst
              have h8 := hoth
              have hN := hM
              clear hst hoth hM
              generalize World.setCells W4 g7 0 (ints (join xs ys)) = W5 at *
              refine wpAnyH_ready (rs := [9]) (by kernel_rfl) (by simp) ?_
              refine AllReadyH.cons rfl (fun K hK => ?_) ?_
              · rw [if_pos (by rfl)]
                obtain ⟨st, hst⟩ := stB zeros_length (meet_length xs ys) h8
                have hoth := h7.chg (Chg.setCells (S := fun b => b = g8) (ints (meet xs ys)) 0 _ (Chg.refl _ W5) (fun _ => rfl)) (show ¬ g7 = g8 by omega)
                have hM := Chg.setCells (ints (meet xs ys)) 0 _ hN (fun h => absurd h (show ¬ g8 < w1.heap.size by omega))
                go_simp
                refine hK.out _ _ hM (fun _ => ?_)
                clear st hN h7 h8 hK
                have h8 := hst
                have h7 := hoth
                have hN := hM
                clear hst hoth hM
                generalize World.setCells W5 g8 0 (ints (meet xs ys)) = W6 at *
                refine wpAnyH_done (by kernel_rfl) ?_ _
                go_wp2_with fail
                go_meet
                exact ⟨_, _, rfl, rfl, h7, h8, hN⟩
              exact AllReadyH.nil
            exact AllReadyH.nil
          exact AllReadyH.nil
        exact AllReadyH.nil
      exact AllReadyH.nil
    refine AllReadyH.cons rfl (fun K hK => ?_) ?_
    · rw [if_pos (by rfl)]
      go_simp
      refine hK.out _ _ (hN.alloc _) (fun hM => ?_)
      have h8 := Blk.new W0 23 (ints zeros).toArray
      have hgt : w1.heap.size ≤ W0.heap.size := hN.size
      generalize W0.heap.size = g8 at *
      clear hK hN
      have hN := hM
      clear hM
      generalize W0.alloc (.cells (ints zeros).toArray 23) = W1 at *
      have hgt8 := hgt
      clear hgt
      refine wpAnyH_ready (rs := [2, 6]) (by kernel_rfl) (by simp) ?_
      refine AllReadyH.cons rfl (fun K hK => ?_) ?_
      · rw [if_pos (by rfl)]
        go_simp
        go_at_call 12
        refine (join_ _ xs ys HX.out HY.out).mono ?_
        rintro e W2 ⟨rfl, hj⟩
        refine hK.out _ _ (hN.trans hj (fun _ _ => False.elim)) (fun hM => ?_)
        replace h8 := h8.chg hj id
        clear hK hj hN
        have hN := hM
        clear hM
        refine wpAnyH_ready (rs := [5, 6]) (by kernel_rfl) (by simp) ?_
        refine AllReadyH.cons rfl (fun K hK => ?_) ?_
        · rw [if_pos (by rfl)]
          go_simp
          go_at_call 13
          refine (meet_ _ xs ys HX.out HY.out).mono ?_
          rintro e W3 ⟨rfl, hj⟩
          refine hK.out _ _ (hN.trans hj (fun _ _ => False.elim)) (fun hM => ?_)
          replace h8 := h8.chg hj id
          clear hK hj hN
          have hN := hM
          clear hM
          refine wpAnyH_ready (rs := [6]) (by kernel_rfl) (by simp) ?_
          refine AllReadyH.cons rfl (fun K hK => ?_) ?_
          · rw [if_pos (by rfl)]
            go_simp
            refine hK.out _ _ (hN.alloc _) (fun hM => ?_)
            have hlt := h8.lt
            replace h8 := h8.alloc (.cells (ints zeros).toArray 23)
            have h7 := Blk.new W3 23 (ints zeros).toArray
            have hgt : w1.heap.size ≤ W3.heap.size := hN.size
            generalize W3.heap.size = g7 at *
            clear hK hN
            have hN := hM
            clear hM
            generalize W3.alloc (.cells (ints zeros).toArray 23) = W4 at *
            have hgt7 := hgt
            clear hgt
            refine wpAnyH_ready (rs := [8]) (by kernel_rfl) (by simp) ?_
            refine AllReadyH.cons rfl (fun K hK => ?_) ?_
            · rw [if_pos (by rfl)]
              obtain ⟨st, hst⟩ := stB zeros_length (join_length xs ys) h7
              have hoth := h8.chg (Chg.setCells (S := fun b => b = g7) (ints (join xs ys)) 0 _ (Chg.refl _ W4) (fun _ => rfl)) (show ¬ g8 = g7 by omega)
              have hM := Chg.setCells (ints (join xs ys)) 0 _ hN (fun h => absurd h (show ¬ g7 < w1.heap.size by omega))
              go_simp
              refine hK.out _ _ hM (fun _ => ?_)
              clear st hN h7 h8 hK
              have h7 := hst
              have h8 := hoth
              have hN := hM
              clear hst hoth hM
              generalize World.setCells W4 g7 0 (ints (join xs ys)) = W5 at *
              refine wpAnyH_ready (rs := [9]) (by kernel_rfl) (by simp) ?_
              refine AllReadyH.cons rfl (fun K hK => ?_) ?_
              · rw [if_pos (by rfl)]
                obtain ⟨st, hst⟩ := stB zeros_length (meet_length xs ys) h8
                have hoth := h7.chg (Chg.setCells (S := fun b => b = g8) (ints (meet xs ys)) 0 _ (Chg.refl _ W5) (fun _ => rfl)) (show ¬ g7 = g8 by omega)
                have hM := Chg.setCells (ints (meet xs ys)) 0 _ hN (fun h => absurd h (show ¬ g8 < w1.heap.size by omega))
                go_simp
                refine hK.out _ _ hM (fun _ => ?_)
                clear st hN h7 h8 hK
                have h8 := hst
                have h7 := hoth
                have hN := hM
                clear hst hoth hM
                generalize World.setCells W5 g8 0 (ints (meet xs ys)) = W6 at *
                refine wpAnyH_done (by kernel_rfl) ?_ _
                go_wp2_with fail
                go_meet
                exact ⟨_, _, rfl, rfl, h7, h8, hN⟩
              exact AllReadyH.nil
            exact AllReadyH.nil
          exact AllReadyH.nil
        refine AllReadyH.cons rfl (fun K hK => ?_) ?_
        · rw [if_pos (by rfl)]
          go_simp
          refine hK.out _ _ (hN.alloc _) (fun hM => ?_)
          have hlt := h8.lt
          replace h8 := h8.alloc (.cells (ints zeros).toArray 23)
          have h7 := Blk.new W2 23 (ints zeros).toArray
          have hgt : w1.heap.size ≤ W2.heap.size := hN.size
          generalize W2.heap.size = g7 at *
          clear hK hN
          have hN := hM
          clear hM
          generalize W2.alloc (.cells (ints zeros).toArray 23) = W3 at *
          have hgt7 := hgt
          clear hgt
          refine wpAnyH_ready (rs := [5]) (by kernel_rfl) (by simp) ?_
          refine AllReadyH.cons rfl (fun K hK => ?_) ?_
          · rw [if_pos (by rfl)]
            go_simp
            go_at_call 13
            refine (meet_ _ xs ys HX.out HY.out).mono ?_
            rintro e W4 ⟨rfl, hj⟩
            refine hK.out _ _ (hN.trans hj (fun _ _ => False.elim)) (fun hM => ?_)
            replace h8 := h8.chg hj id
            replace h7 := h7.chg hj id
            clear hK hj hN
            have hN := hM
            clear hM
            refine wpAnyH_ready (rs := [8]) (by kernel_rfl) (by simp) ?_
            refine AllReadyH.cons rfl (fun K hK => ?_) ?_
            · rw [if_pos (by rfl)]
              obtain ⟨st, hst⟩ := stB zeros_length (join_length xs ys) h7
              have hoth := h8.chg (Chg.setCells (S := fun b => b = g7) (ints (join xs ys)) 0 _ (Chg.refl _ W4) (fun _ => rfl)) (show ¬ g8 = g7 by omega)
              have hM := Chg.setCells (ints (join xs ys)) 0 _ hN (fun h => absurd h (show ¬ g7 < w1.heap.size by omega))
              go_simp
              refine hK.out _ _ hM (fun _ => ?_)
              clear st hN h7 h8 hK
              have h7 := hst
              have h8 := hoth
              have hN := hM
              clear hst hoth hM
              generalize World.setCells W4 g7 0 (ints (join xs ys)) = W5 at *
              refine wpAnyH_ready (rs := [9]) (by kernel_rfl) (by simp) ?_
              refine AllReadyH.cons rfl (fun K hK => ?_) ?_
              · rw [if_pos (by rfl)]
                obtain ⟨st, hst⟩ := stB zeros_length (meet_length xs ys) h8
                have hoth := h7.chg (Chg.setCells (S := fun b => b = g8) (ints (meet xs ys)) 0 _ (Chg.refl _ W5) (fun _ => rfl)) (show ¬ g7 = g8 by omega)
                have hM := Chg.setCells (ints (meet xs ys)) 0 _ hN (fun h => absurd h (show ¬ g8 < w1.heap.size by omega))
                go_simp
                refine hK.out _ _ hM (fun _ => ?_)
                clear st hN h7 h8 hK
                have h8 := hst
                have h7 := hoth
                have hN := hM
                clear hst hoth hM
                generalize World.setCells W5 g8 0 (ints (meet xs ys)) = W6 at *
                refine wpAnyH_done (by kernel_rfl) ?_ _
                go_wp2_with fail
                go_meet
                exact ⟨_, _, rfl, rfl, h7, h8, hN⟩
              exact AllReadyH.nil
            exact AllReadyH.nil
          exact AllReadyH.nil
        exact AllReadyH.nil
      refine AllReadyH.cons rfl (fun K hK => ?_) ?_
      · rw [if_pos (by rfl)]
        go_simp
        refine hK.out _ _ (hN.alloc _) (fun hM => ?_)
        have hlt := h8.lt
        replace h8 := h8.alloc (.cells (ints zeros).toArray 23)
        have h7 := Blk.new W1 23 (ints zeros).toArray
        have hgt : w1.heap.size ≤ W1.heap.size := hN.size
        generalize W1.heap.size = g7 at *
        clear hK hN
        have hN := hM
        clear hM
        generalize W1.alloc (.cells (ints zeros).toArray 23) = W2 at *
        have hgt7 := hgt
        clear hgt
        refine wpAnyH_ready (rs := [2]) (by kernel_rfl) (by simp) ?_
        refine AllReadyH.cons rfl (fun K hK => ?_) ?_
        · rw [if_pos (by rfl)]
          go_simp
          go_at_call 12
          refine (join_ _ xs ys HX.out HY.out).mono ?_
          rintro e W3 ⟨rfl, hj⟩
          refine hK.out _ _ (hN.trans hj (fun _ _ => False.elim)) (fun hM => ?_)
          replace h8 := h8.chg hj id
          replace h7 := h7.chg hj id
          clear hK hj hN
          have hN := hM
          clear hM
          refine wpAnyH_ready (rs := [5]) (by kernel_rfl) (by simp) ?_
          refine AllReadyH.cons rfl (fun K hK => ?_) ?_
          · rw [if_pos (by rfl)]
            go_simp
            go_at_call 13
            refine (meet_ _ xs ys HX.out HY.out).mono ?_
            rintro e W4 ⟨rfl, hj⟩
            refine hK.out _ _ (hN.trans hj (fun _ _ => False.elim)) (fun hM => ?_)
            replace h8 := h8.chg hj id
            replace h7 := h7.chg hj id
            clear hK hj hN
            have hN := hM
            clear hM
            refine wpAnyH_ready (rs := [8]) (by kernel_rfl) (by simp) ?_
            refine AllReadyH.cons rfl (fun K hK => ?_) ?_
            · rw [if_pos (by rfl)]
              obtain ⟨st, hst⟩ := stB zeros_length (join_length xs ys) h7
              have hoth := h8.chg (Chg.setCells (S := fun b => b = g7) (ints (join xs ys)) 0 _ (Chg.refl _ W4) (fun _ => rfl)) (show ¬ g8 = g7 by omega)
              have hM := Chg.setCells (ints (join xs ys)) 0 _ hN (fun h => absurd h (show ¬ g7 < w1.heap.size by omega))
              go_simp
              refine hK.out _ _ hM (fun _ => ?_)
              clear st hN h7 h8 hK
              have h7 := hst
              have h8 := hoth
              have hN := hM
              clear hst hoth hM
              generalize World.setCells W4 g7 0 (ints (join xs ys)) = W5 at *
              refine wpAnyH_ready (rs := [9]) (by kernel_rfl) (by simp) ?_
              refine AllReadyH.cons rfl (fun K hK => ?_) ?_
              · rw [if_pos (by rfl)]
                obtain ⟨st, hst⟩ := stB zeros_length (meet_length xs ys) h8
                have hoth := h7.chg (Chg.setCells (S := fun b => b = g8) (ints (meet xs ys)) 0 _ (Chg.refl _ W5) (fun _ => rfl)) (show ¬ g7 = g8 by omega)
                have hM := Chg.setCells (ints (meet xs ys)) 0 _ hN (fun h => absurd h (show ¬ g8 < w1.heap.size by omega))
                go_simp
                refine hK.out _ _ hM (fun _ => ?_)
                clear st hN h7 h8 hK
                have h8 := hst
                have h7 := hoth
                have hN := hM
                clear hst hoth hM
                generalize World.setCells W5 g8 0 (ints (meet xs ys)) = W6 at *
                refine wpAnyH_done (by kernel_rfl) ?_ _
                go_wp2_with fail
                go_meet
                exact ⟨_, _, rfl, rfl, h7, h8, hN⟩
              exact AllReadyH.nil
            exact AllReadyH.nil
          exact AllReadyH.nil
        exact AllReadyH.nil
      exact AllReadyH.nil
    exact AllReadyH.nil
  case rest =>
    obtain ⟨g, h, rfl, rfl, hj, hm, hnc⟩ := hcut
    have hnA := hn.trans hnc (fun _ _ => False.elim)
    have k1 := c1.chg hnc id
    have k2 := c2.chg hnc id
    have k3 := c3.chg hnc id
    have K := Lib.hid (fun W (hW : New wc W) => And.intro (ldB HX.out (k1.chg hW id)) (And.intro (ldB HY.out (k2.chg hW id)) (And.intro (ldB HZ.out (k3.chg hW id)) (And.intro (ldB (join_length xs ys) (hj.chg hW id)) (ldB (meet_length xs ys) (hm.chg hW id))))))
    have C1 := Lib.hid (fun W => belowF_of (join_length xs ys) (below_join1 xs ys) ▸ below_ W xs (join xs ys) HX.out (join_length ..))
    have C2 := Lib.hid (fun W => belowF_of (join_length xs ys) (below_join2 xs ys) ▸ below_ W ys (join xs ys) HY.out (join_length ..))
    have C3 := Lib.hid (fun W => belowF_of HX.out (meet_below1 xs ys) ▸ below_ W (meet xs ys) xs (meet_length ..) HX.out)
    have C4 := Lib.hid (fun W => belowF_of HY.out (meet_below2 xs ys) ▸ below_ W (meet xs ys) ys (meet_length ..) HY.out)
    have D1 := Lib.hid (fun W => below_ W xs zs HX.out HZ.out)
    have D2 := Lib.hid (fun W => below_ W ys zs HY.out HZ.out)
    have D3 := Lib.hid (fun W => below_ W (join xs ys) zs (join_length ..) HZ.out)
    have D4 := Lib.hid (fun W => below_ W zs xs HZ.out HX.out)
    have D5 := Lib.hid (fun W => below_ W zs ys HZ.out HY.out)
    have D6 := Lib.hid (fun W => below_ W zs (meet xs ys) HZ.out (meet_length ..))
    have hJ := join_both xs ys zs HZ.out
    have hM := meet_both xs ys zs HX.out HY.out
    rw [hJ] at D3
    rw [hM] at D6
    clear hJ hM c1 c2 c3 k1 k2 k3 hj hm hn hnc hzv
    have hn0 : New wc wc := Chg.refl _ _
    obtain ⟨l1, l2, l3, l4, l5⟩ := K.out _ hn0
    rcases hp : belowF xs zs with _ | _ <;> rcases hq : belowF ys zs with _ | _ <;> rcases hr : belowF zs xs with _ | _ <;> rcases hs : belowF zs ys with _ | _
    all_goals
      rw [hp] at D1
      rw [hq] at D2
      rw [hp, hq] at D3
      rw [hr] at D4
      rw [hs] at D5
      rw [hr, hs] at D6
      clear hp hq hr hs
      simp only [Bool.and_true, Bool.and_false] at D3 D6
    all_goals
      repeat (
        go_wp2_with fail
        with_reducible (first | refine (C1.out _).mono ?_ | refine (C2.out _).mono ?_ | refine (C3.out _).mono ?_ | refine (C4.out _).mono ?_ | refine (D1.out _).mono ?_ | refine (D2.out _).mono ?_ | refine (D3.out _).mono ?_ | refine (D4.out _).mono ?_ | refine (D5.out _).mono ?_ | refine (D6.out _).mono ?_)
        rintro e w' ⟨rfl, hk⟩
        replace hn0 := hn0.trans hk (fun _ _ => False.elim)
        clear l1 l2 l3 l4 l5 hk
        obtain ⟨l1, l2, l3, l4, l5⟩ := K.out _ hn0)
      go_wp2
      go_ret
      exact ⟨rfl, hnA.trans hn0 (fun _ _ => False.elim)⟩

theorem lattice_args {H : Type} {enc : TypeId × Value → H} {W : World} {base : Nat} {args : Array Value} {ds : List (DataW H)} {ps : List MemPlace}
    (hval : ∀ (j : Nat) t v, Try.f4.params[j]? = some t → args[j]? = some v → Value.okWide Try.prog W .any base t v)
    (hw : ∀ (j : Nat) t d, Try.f4.params.toList[j]? = some t → ds[j]? = some d → ∀ n ∈ d.weights Try.prog t, n ≤ reachBytes)
    (hA : DataW.TrodAll enc Try.prog W 0 (fun _ => true) true Try.f4.params.toList args.toList ds ps) :
    Calls Try.prog 4 args W fun e w' => LawEnd W e w' := by
  rw [Try.params4] at hA hval hw
  obtain ⟨v0, v1, v2, d0, d1, d2, p0, p1, p2, rfl, rfl, rfl, h0, h1, h2⟩ := trodAll_three hA
  have o0 := hval 0 _ v0 rfl rfl
  have q0 := hw 0 _ d0 rfl rfl
  have o1 := hval 1 _ v1 rfl rfl
  have q1 := hw 1 _ d1 rfl rfl
  have o2 := hval 2 _ v2 rfl rfl
  have q2 := hw 2 _ d2 rfl rfl
  obtain ⟨xs, rfl, hx, _⟩ := open_array_ints Try.underlying23 Try.underlying3 (by kernel_rfl) (by kernel_rfl) o0 h0
  obtain ⟨ys, rfl, hy, _⟩ := open_array_ints Try.underlying23 Try.underlying3 (by kernel_rfl) (by kernel_rfl) o1 h1
  obtain ⟨zs, rfl, hz, _⟩ := open_array_ints Try.underlying23 Try.underlying3 (by kernel_rfl) (by kernel_rfl) o2 h2
  exact lattice W xs ys zs hx hy hz
end Vec
namespace lawVectorLattice
theorem own : ownKnob Try.prog.godebug = none := by kernel_rfl
theorem laidOut : laidOutB Try.prog = true := by kernel_rfl
theorem reads : ∀ t ∈ Try.f4.params.toList, Try.prog.readableRec t = true ∧ t < Try.prog.types.size := by
  have h : (Try.f4.params.toList.all fun t => Try.prog.readableRec t && decide (t < Try.prog.types.size)) = true := by kernel_rfl
  intro t ht
  have := List.all_eq_true.1 h t ht
  simpa using this
theorem spec {H : Type} (ds : List (DataW H)) (h : ds.length = 3) : Rows.vectorLatticeSpec.fn H ds = { results := [.lit (.bool true)], args := ds } := by
  match ds, h with
  | [d1, d2, d3], _ => rfl
theorem trodAll_len {H : Type} {enc : TypeId × Value → H} {P : Program} {w : World} {base : Nat} {sp : Nat → Bool} {held : Bool} : ∀ (ts : List TypeId) (vs : List Value) (ds : List (DataW H)) (ps : List MemPlace),
    DataW.TrodAll enc P w base sp held ts vs ds ps → ds.length = ts.length
  | [], _, _, _, h => by
    obtain ⟨_, rfl, _⟩ := trodAll_nil h
    rfl
  | _ :: ts, _, _, _, h => by
    obtain ⟨_, vs, _, ds, _, _, _, rfl, _, _, hr⟩ := trodAll_cons h
    simp [trodAll_len ts vs ds _ hr]
theorem contract (H : Type) (enc : TypeId × Value → H) (W : World) (base : Nat) (args : Array Value) (ds gs : List (DataW H)) (before : List MemPlace)
    (hval : ∀ (j : Nat) t v, Try.f4.params[j]? = some t → args[j]? = some v → Value.okWide Try.prog W .any base t v)
    (hW : DataW.Whole enc Try.prog Try.f4.params.toList Rows.vectorLatticeSpec.vars false W args.toList ds gs before)
    (hz : (DataW.weightsEach Try.prog (Try.f4.params.toList ++ Rows.vectorLatticeSpec.plain.varTypes Try.prog) (ds ++ gs)).all (· ≤ reachBytes) = true) :
    Calls Try.prog 4 args W fun e W' => ∃ v, e = .returned v ∧ Rows.vectorLatticeSpec.post enc Try.prog Try.f4 false true false false W args v W' := by
  obtain ⟨p, q, hA, hV, _⟩ := id hW
  have hlen : ds.length = 3 := (trodAll_len _ _ _ _ hA).trans (by kernel_rfl)
  have hV1 : DataW.TrodVars enc Try.prog W (fun _ => true) [] gs q := hV
  obtain ⟨rfl, rfl⟩ := trodVars_none hV1
  have hw : ∀ (j : Nat) t d, Try.f4.params.toList[j]? = some t → ds[j]? = some d → ∀ n ∈ d.weights Try.prog t, n ≤ reachBytes := by
    intro j t d ht hd n hn
    rw [List.append_nil] at hz
    have hlt : j < Try.f4.params.toList.length := (List.getElem?_eq_some_iff.1 ht).1
    have := List.all_eq_true.1 hz n (DataW.weights_mem_each (by rw [List.getElem?_append_left hlt]; exact ht) hd n hn)
    simpa using this
  refine (Vec.lattice_args hval hw hA).mono fun e W' ⟨he, hn⟩ => ?_
  exact ⟨_, he, law_post laidOut (tb := 4) rfl Try.underlying4 reads rfl hW (spec ds hlen) hn.below⟩
set_option maxRecDepth 100000 in
theorem lifted (os : Os) (started : os.Started) (H : Type) (enc : TypeId × Value → H) :
    ReturnsInHanded {} Try.checked os 4 .any (Rows.vectorLatticeSpec.pre6 enc Try.prog Try.f4 Rows.vectorLatticeRow.domain false) (Rows.vectorLatticeSpec.post enc Try.prog Try.f4 false true false false) := by
  refine returnsInHanded_of_change_sized (C := Try.checked) own started (by kernel_rfl) Try.func4
    (ChangeSpec.witness6 (enc := enc) (C := Try.checked) (s := Rows.vectorLatticeSpec) false ⟨#[], #[.agg (Array.replicate 16 (.int .i64 0)), .agg (Array.replicate 16 (.int .i64 0)), .agg (Array.replicate 16 (.int .i64 0))], []⟩ 60 (by kernel_rfl) (by kernel_rfl) (by kernel_rfl) (by kernel_rfl)) ?_
  intro W base args ds gs before hval hW _ hz _
  exact contract H enc W base args ds gs before hval hW hz
theorem proved : Rows.VectorLatticeSaid :=
  OpenClaim.holds_of_wide 4 Try.f4 rfl rfl rfl rfl rfl rfl rfl ⟨rfl, rfl, rfl, rfl, rfl⟩ rfl rfl rfl rfl rfl (by kernel_rfl) Try.func4 (by kernel_rfl)
    (of_decide_eq_true (by kernel_rfl)) (by unfold Func.isWrapper; first | (rw [if_pos (by decide +kernel)]; kernel_rfl) | (rw [if_neg (by decide +kernel)]; exact ⟨rfl, rfl⟩))
    (fun os started H enc _ => lifted os started H enc)
end lawVectorLattice
end Go.Proofs.Ytlmdpkkodbgieaa

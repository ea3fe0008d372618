/-
  VectorMissing: the dots that one vector knows and the other one doesn't are just these, by replicas, rising; with them one knows as much (any two vectors).
-/
import Derived.Test.YtlmdpkkodbgieaaVectorLaw
import Derived.Test.YtlmdpkkodbgieaaVectorMissLaw
import Derived.Test.YtlmdpkkodbgieaaArrays
import Derived.Outline
import Derived.Deep.RegionHeld3
namespace Go.Proofs.Ytlmdpkkodbgieaa
open Go.ChangeShapes Go.WideShapes Go.RowKit
namespace Vec
attribute [local go_sem ↓] loadRow0 storeRow0
theorem loadOnly0 (p : Value) : Instr.loadAt 28 p = LoadRowV 28 p := rfl
attribute [local go_sem ↓] loadOnly0
/-- dot k of a slice of dots: what is loaded -/
theorem dot_at {w : World} {F : Nat → Prop} {A : Option Addr} {n k : Nat} {l : List (Int × Int)} {d : Int × Int} (hl : Reads w F 2 A n (dcells l)) (hlt : k < n) (hd : l[k]? = some d) :
    ∃ ad, A = some ad ∧ F ad.block ∧ (LoadRow 28 (ad.add (k * 2))).run Try.prog w = .ok (dotV d.1 d.2) w ∧ w.cell? (ad.add (k * 2)) = some (.int .i64 d.1) := by
  obtain ⟨ad, rfl, hF, hce⟩ := hl.elem hlt
  have hel : ((dcells l).drop (k * 2)).take 2 = [.int .i64 d.1, .int .i64 d.2] := by
    clear hce hl hlt
    induction l generalizing k with
    | nil => simp at hd
    | cons x l ih =>
      match k with
      | 0 =>
        simp at hd
        subst hd
        simp [dcells]
      | k + 1 =>
        have := ih (k := k) (by simpa using hd)
        have hc : dcells (x :: l) = .int .i64 x.1 :: .int .i64 x.2 :: dcells l := by simp [dcells]
        rw [hc, show (k + 1) * 2 = k * 2 + 1 + 1 by omega, List.drop_succ_cons, List.drop_succ_cons]
        exact this
  have hld := run_LoadRow_at (P := Try.prog) (t := 28) Try.underlying28 rfl (n := 2) (by kernel_rfl) (hl.elem_len hlt) hce
  rw [hel] at hld hce
  have h0 := hce 0 _ rfl
  rw [add_of_add, Nat.add_zero] at h0
  exact ⟨ad, rfl, hF, hld, h0⟩
theorem dot_cell {w : World} {F : Nat → Prop} {ad : Addr} {n k : Nat} {l : List (Int × Int)} {d : Int × Int} (hl : Reads w F 2 (some ad) n (dcells l)) (hlt : k < n) (hd : l[k]? = some d) : w.cell? (ad.add (k * 2)) = some (.int .i64 d.1) := by
  obtain ⟨ad', h1, _, _, h2⟩ := dot_at hl hlt hd
  injection h1 with h1
  subst h1
  exact h2
set_option maxHeartbeats 20000000 in
set_option maxRecDepth 100000 in
theorem missing (w : World) (xs ys : List Int) (hx : xs.length = 16) (hy : ys.length = 16) (ix : I64 xs) (iy : I64 ys) :
    Calls Try.prog 3 #[vec xs, vec ys] w fun e w' => LawEnd w e w' := by
  have hzv := zero_vec
  have b1 := (Blk.new w 23 (ints xs).toArray).alloc (.cells (ints ys).toArray 23)
  have b2 := Blk.new1 w (.cells (ints xs).toArray 23) 23 (ints ys).toArray
  have hn0 : New w ((w.alloc (.cells (ints xs).toArray 23)).alloc (.cells (ints ys).toArray 23)) := ((Chg.refl _ _).alloc _).alloc _
  have HX := Lib.hid hx
  have HY := Lib.hid hy
  clear hx hy
  go_enter Try.func3, Try.ntmps3
  go_wp2_with fail
  refine (fixed _).mono ?_
  rintro e w1 ⟨rfl, hn1⟩
  have hn := hn0.trans hn1 (fun _ _ => False.elim)
  have c1 := b1.chg hn1 id
  have c2 := b2.chg hn1 id
  clear b1 b2 hn0 hn1
  go_wp2
  go_loopw [5, 6, 13] (fun s _ i wr => ∃ (k : Nat), k ≤ 16 ∧ i = .int .i64 k ∧ s = .int .i64 ((upTo xs ys k).length : Nat) ∧ (∀ j, j < k → (0 ≤ xs.getD j 0 ∧ xs.getD j 0 ≤ 1048576) ∧ 0 ≤ ys.getD j 0 ∧ ys.getD j 0 ≤ 1048576) ∧ Blk wr w.heap.size 23 (ints xs).toArray ∧ Blk wr (w.heap.size + 1) 23 (ints ys).toArray ∧ New w wr) (fun _ _ i _ => 16 - (intOf i).toNat)
  case atStart => exact ⟨0, by omega, rfl, rfl, fun j hj => absurd hj (by omega), c1, c2, hn⟩
  case round =>
    clear c1 c2 hn
    obtain ⟨k, hk, rfl, rfl, hfit, ha, hb, hn⟩ := hrel
    by_cases hlt : k < 16
    · have hki : (k : Int) < 16 := by omega
      have ca : wr.cell? ⟨w.heap.size, k, none⟩ = some (.int .i64 (xs.getD k 0)) := by
        rw [ha.cell, List.getElem?_toArray, ints_get, get_getD (by rw [HX.out]; exact hlt)]; rfl
      have cb : wr.cell? ⟨w.heap.size + 1, k, none⟩ = some (.int .i64 (ys.getD k 0)) := by
        rw [hb.cell, List.getElem?_toArray, ints_get, get_getD (by rw [HY.out]; exact hlt)]; rfl
      have hG := Lib.hid (gap_of (xs := xs) (ys := ys) (k := k))
      have hL := Lib.hid (upTo_length_succ xs ys k)
      have hU := upTo_length_le xs ys k
      have hxb := ix.at k
      have hyb := iy.at k
      have HF := Lib.hid hfit
      have HA := Lib.hid ha
      have HB := Lib.hid hb
      clear hfit ha hb
      generalize hxk : xs.getD k 0 = x at *
      generalize hyk : ys.getD k 0 = y at *
      have HXK := Lib.hid hxk
      have HYK := Lib.hid hyk
      clear hxk hyk
      generalize hu : (upTo xs ys k).length = u at *
      clear hu
      by_cases g1 : x < 0
      · go_wp2
        go_ret
        exact ⟨rfl, hn⟩
      · by_cases g2 : y < 0
        · go_wp2
          go_ret
          exact ⟨rfl, hn⟩
        · by_cases g3 : 1048576 < x
          · go_wp2
            go_ret
            exact ⟨rfl, hn⟩
          · by_cases g4 : 1048576 < y
            · go_wp2
              go_ret
              exact ⟨rfl, hn⟩
            · have ew : IntKind.i64.wrap (y - x) = y - x := IntWalk.i64_in _ (by omega)
              have e2 : IntKind.i64.wrap ((u : Int) + if y - x < 0 then 0 else y - x) = (u : Int) + if y - x < 0 then 0 else y - x := IntWalk.i64_in _ (by split <;> omega)
              go_wp2
              refine wp_region_tail 10 (by kernel_rfl) (by kernel_rfl) ?_
              simp only [List.take_succ_cons, List.take_zero, List.drop_succ_cons, List.drop_zero]
              repeat still_step
              refine wpStill_nil ?_
              go_wp2
              go_roundw
              case rel =>
                have hg := hG.out ⟨g1, g3⟩ ⟨g2, g4⟩
                refine ⟨k + 1, by omega, by go_num, ?_, fun j hj => ?_, HA.out.drew, HB.out.drew, hn.drew⟩
                · rw [hL.out]
                  congr 1
                  split <;> omega
                · by_cases e : j = k
                  · subst e
                    rw [HXK.out, HYK.out]
                    exact ⟨⟨g1, g3⟩, g2, g4⟩
                  · exact HF.out j (by omega)
              case measure => simp [intOf]; omega
    · obtain rfl : k = 16 := by omega
      have f1 : fit xs := fun j hj => (hfit j hj).1
      have f2 : fit ys := fun j hj => (hfit j hj).2
      have l1 := ldB HX.out ha
      have l2 := ldB HY.out hb
      have hU := upTo_length_le xs ys 16
      have hmf := missF_length xs ys
      have HE := Lib.hid (fun (k m : Nat) h1 h2 => place_end (xs := xs) (ys := ys) (k := k) (m := m) f1 f2 h1 h2)
      have HR := Lib.hid (fun (t k m : Nat) h1 h2 => place_round (xs := xs) (ys := ys) (t := t) (k := k) (m := m) f1 f2 h1 h2)
      have HD := Lib.hid (fun (k m : Nat) h1 h2 => dot_facts (xs := xs) (ys := ys) (k := k) (m := m) f1 f2 h1 h2)
      have CM := Lib.hid (fun W => missing_ W xs ys HX.out HY.out)
      clear hfit f1 f2 ix iy
      generalize (upTo xs ys 16).length = u at *
      go_wp2_with fail
      refine (CM.out _).mono ?_
      rintro e w2 ⟨v, rfl, ho, hn2⟩
      obtain ⟨A, c, rfl, hlc, hcm⟩ := ho.form
      have hr := Reads.of_own ho
      generalize missF xs ys = L at *
      generalize hN : L.length = N at *
      have HN := Lib.hid hN
      have d1 := ha.chg hn2 id
      have d2 := hb.chg hn2 id
      have hnn := hn.trans hn2 (fun _ _ => False.elim)
      clear hN ho l1 l2 ha hb hn hlc hcm
      have l1 := ldB HX.out d1
      have hzv := zero_vec
      have hs2 := hnn.size
      have hst := stB (t := 23) zeros_length HX.out (Blk.new w2 23 (ints zeros).toArray)
      have HST := Lib.hid hst.2
      have hst1 := hst.1
      have hnv : New w ((w2.alloc (.cells (ints zeros).toArray 23)).setCells w2.heap.size 0 (ints xs)) := Chg.setCells _ _ _ (hnn.alloc _) (fun h => by omega)
      have hkeep : New w2 ((w2.alloc (.cells (ints zeros).toArray 23)).setCells w2.heap.size 0 (ints xs)) := Chg.setCells _ _ _ ((Chg.refl _ _).alloc _) (fun h => by omega)
      have HK := Lib.hid hkeep
      have HNV := Lib.hid hnv
      have HD1 := Lib.hid d1
      have HD2 := Lib.hid d2
      clear hst d1 d2 hnn hnv hkeep
      have key : ((u : Int) ≤ 4096 ∧ ((N : Int) != (u : Int)) = false) ∨ (4096 < (u : Int) ∧ ((N : Int) != 4096) = false) := by
        by_cases h : (u : Int) ≤ 4096
        · exact .inl ⟨h, bne_eq_false_iff_eq.2 (by omega)⟩
        · exact .inr ⟨by omega, bne_eq_false_iff_eq.2 (by omega)⟩
      have hNb : N ≤ 4096 := by omega
      clear hmf
      rcases key with ⟨hu, hT⟩ | ⟨hu, hT⟩
      all_goals
        go_wp2
        generalize (w2.alloc (.cells (ints zeros).toArray 23)).setCells w2.heap.size 0 (ints xs) = w3 at *
        have hr3 := hr.chg' HK.out (fun _ _ => id) (by omega)
        have e1 := HD1.out.chg HK.out id
        have e2 := HD2.out.chg HK.out id
        have hbv : w.heap.size + 1 < w2.heap.size := HD2.out.lt
        clear hr hst1 l1 hzv HK HD1 HD2 hn2
        generalize w2.heap.size = bv at *
        go_loopw [9, 10, 60] (fun _ _ i wr => ∃ (t k m : Nat), t ≤ N ∧ i = .int .i64 t ∧ Place xs ys t k m ∧ Blk wr bv 23 (ints (stateAt xs ys k m)).toArray ∧ Blk wr w.heap.size 23 (ints xs).toArray ∧ Blk wr (w.heap.size + 1) 23 (ints ys).toArray ∧ Reads wr (fun b => b < bv) 2 A N (dcells L) ∧ New w wr) (fun _ _ i _ => N - (intOf i).toNat)
        case atStart => exact ⟨0, 0, 0, by omega, rfl, place_start, by rw [stateAt_zero _ HX.out]; exact HST.out, e1, e2, hr3.mono (fun b h => h.2.1), HNV.out⟩
        case round =>
          clear e1 e2 hr3 HNV HST
          obtain ⟨t, k, m, ht, rfl, hpl, hv, ha, hb, hr, hn⟩ := hrel
          by_cases hlt : t < N
          · obtain ⟨k', m', hk', hm', hget, hpl', hst, hle⟩ := HR.out t k m hpl hlt
            obtain ⟨f1, f2, f3⟩ := HD.out k' m' hk' hm'
            rw [hst] at f1 f3
            obtain ⟨ad, rfl, _, hld, _⟩ := dot_at hr hlt hget
            have hlen := stateAt_length xs ys k m
            obtain ⟨V, hV⟩ : ∃ V, stateAt xs ys k m = V := ⟨_, rfl⟩
            rw [hV] at hv hlen f1 f3
            obtain ⟨dc, hdc⟩ : ∃ x, (dotAt xs k' m').2 = x := ⟨_, rfl⟩
            rw [hdc] at hld f1 f2 f3
            change (LoadRow _ _).run _ _ = .ok (dotV (k' : Int) dc) _ at hld
            change nextF V (k' : Int) dc = true at f1
            change knowsF ys (k' : Int) dc = true at f2
            change addF V (k' : Int) dc = _ at f3
            have c1 := fun W => next_ W V (k' : Int) dc hlen
            rw [f1] at c1
            have c2 := fun W => knows_ W ys (k' : Int) dc HY.out
            rw [f2] at c2
            have C1 := Lib.hid c1
            have C2 := Lib.hid c2
            have c3 := fun W => add_ W V (k' : Int) dc hlen
            rw [f3] at c3
            have C3 := Lib.hid c3
            have HLE := Lib.hid hle
            have HPL := Lib.hid hpl'
            have HV := Lib.hid hV
            have bx := Blk.new wr 28 #[.int .i64 (k' : Int), .int .i64 dc]
            obtain ⟨W0, hW0⟩ : ∃ W0, W0 = wr.alloc (.cells #[.int .i64 (k' : Int), .int .i64 dc] 28) := ⟨_, rfl⟩
            have hnew : New wr W0 := hW0 ▸ (Chg.refl _ _).alloc _
            rw [← hW0] at bx
            have bv' := hv.chg hnew id
            have ba' := ha.chg hnew id
            have bb' := hb.chg hnew id
            have hn' := hn.trans hnew (fun _ _ => False.elim)
            have hr' := hr.chg' hnew (fun _ _ => id) (by omega)
            have lv := fun x : ChgW (fun _ => False) W0 => ldB hlen (bv'.chg x.chg id)
            have lb := fun x : ChgW (fun _ => False) W0 => ldB HY.out (bb'.chg x.chg id)
            have ld := fun x : ChgW (fun _ => False) W0 => run_LoadRow (P := Try.prog) (t := 28) Try.underlying28 rfl (n := 2) (by kernel_rfl) (cs := [.int .i64 (k' : Int), .int .i64 dc]) rfl (Blk.range_all (bx.chg x.chg id))
            have lc := fun x : ChgW (fun _ => False) W0 => (bx.chg x.chg id).cell 0
            have HBX := Lib.hid bx
            have HBV := Lib.hid bv'
            have HBA := Lib.hid ba'
            have HBB := Lib.hid bb'
            have HN' := Lib.hid hn'
            have hlw := hv.lt
            clear hget hst hle hpl' hpl f1 f2 f3 c1 c2 c3 hdc hV hv ha hb hn hnew bx bv' ba' bb' hn'
            have HLR := Lib.hid hr'
            clear hr hr'
            go_wp2_with fail
            rw [← hW0]
            clear hW0 hld
            generalize wr.heap.size = gx at *
            rcases t with _ | s
            · refine wp_region_chg (fun _ => False) (by kernel_rfl) (by kernel_rfl) ?_
              repeat (go_big_quiet_step ((first | (go_at_call 9; with_reducible exact calls_new (C1.out _)) | (go_at_call 10; with_reducible exact calls_new (C2.out _)))))
              refine wpQuiet_nil ?_
              rintro ⟨wq, hq⟩
              simp only []
              have hbq := HBV.out.chg hq id
              have lvq := ldB hlen hbq
              have ldq := run_LoadRow (P := Try.prog) (t := 28) Try.underlying28 rfl (n := 2) (by kernel_rfl) (cs := [.int .i64 (k' : Int), .int .i64 dc]) rfl (Blk.range_all (HBX.out.chg hq id))
              clear lv lb ld lc
              go_wp2_with fail
              refine (C3.out _).mono ?_
              rintro e w5 ⟨rfl, h5⟩
              have hb5 := hbq.chg h5 id
              have hst5 := stB (t := 23) hlen (stateAt_length xs ys k' (m' + 1)) hb5
              have hq5 := hq.trans h5 (fun _ _ => False.elim)
              have hch : Chg (fun b => b = bv) W0 (w5.setCells bv 0 (ints (stateAt xs ys k' (m' + 1)))) := Chg.setCells _ _ _ (hq5.mono (fun _ _ => False.elim)) (fun _ => rfl)
              have HB5 := Lib.hid hst5.2
              have HA5 := Lib.hid (HBA.out.chg hch (show ¬ w.heap.size = bv by omega))
              have HBB5 := Lib.hid (HBB.out.chg hch (show ¬ w.heap.size + 1 = bv by omega))
              have HLR5 := Lib.hid (HLR.out.chg' hch (fun b hb => show ¬ b = bv by omega) (by omega))
              have HN5 := Lib.hid (HN'.out.trans hch (fun i hi e => by omega))
              have hs5 := hst5.1
              clear hst5 hb5 hbq lvq ldq hch hq5 h5
              go_wp2_with fail
              go_roundw
              case rel => exact ⟨0 + 1, k', m' + 1, by omega, by first | rfl | go_num, HPL.out, HB5.out, HA5.out, HBB5.out, HLR5.out, HN5.out⟩
              case measure => simp [intOf]; omega
            · have hsN : s < N := by omega
              obtain ⟨ed, hed⟩ : ∃ x, L[s]? = some x := ⟨_, List.getElem?_eq_getElem (by rw [HN.out]; exact hsN)⟩
              have hek := HLE.out s ed (by omega) hed
              have lp := fun x : ChgW (fun _ => False) W0 => dot_cell (HLR.out.chg' x.chg (fun _ _ => id) (by omega)) hsN hed
              have ew : IntKind.i64.wrap ((s : Int) + 1 - 1) = s := (IntWalk.i64_in ((s : Int) + 1 - 1) (by omega)).trans (by omega)
              have hsi : (s : Int) < N := by omega
              have hbf : decide ((k' : Int) < ed.1) = false := by simpa using hek
              clear hed
              generalize ed.1 = er at *
              refine wp_region_chg (fun _ => False) (by kernel_rfl) (by kernel_rfl) ?_
              repeat (go_big_quiet_step ((first | (go_at_call 9; with_reducible exact calls_new (C1.out _)) | (go_at_call 10; with_reducible exact calls_new (C2.out _)))))
              refine wpQuiet_nil ?_
              rintro ⟨wq, hq⟩
              simp only []
              have hbq := HBV.out.chg hq id
              have lvq := ldB hlen hbq
              have ldq := run_LoadRow (P := Try.prog) (t := 28) Try.underlying28 rfl (n := 2) (by kernel_rfl) (cs := [.int .i64 (k' : Int), .int .i64 dc]) rfl (Blk.range_all (HBX.out.chg hq id))
              clear lv lb ld lc
              go_wp2_with fail
              refine (C3.out _).mono ?_
              rintro e w5 ⟨rfl, h5⟩
              have hb5 := hbq.chg h5 id
              have hst5 := stB (t := 23) hlen (stateAt_length xs ys k' (m' + 1)) hb5
              have hq5 := hq.trans h5 (fun _ _ => False.elim)
              have hch : Chg (fun b => b = bv) W0 (w5.setCells bv 0 (ints (stateAt xs ys k' (m' + 1)))) := Chg.setCells _ _ _ (hq5.mono (fun _ _ => False.elim)) (fun _ => rfl)
              have HB5 := Lib.hid hst5.2
              have HA5 := Lib.hid (HBA.out.chg hch (show ¬ w.heap.size = bv by omega))
              have HBB5 := Lib.hid (HBB.out.chg hch (show ¬ w.heap.size + 1 = bv by omega))
              have HLR5 := Lib.hid (HLR.out.chg' hch (fun b hb => show ¬ b = bv by omega) (by omega))
              have HN5 := Lib.hid (HN'.out.trans hch (fun i hi e => by omega))
              have hs5 := hst5.1
              clear hst5 hb5 hbq lvq ldq hch hq5 h5
              go_wp2_with fail
              go_roundw
              case rel => exact ⟨s + 1 + 1, k', m' + 1, by omega, by first | rfl | go_num, HPL.out, HB5.out, HA5.out, HBB5.out, HLR5.out, HN5.out⟩
              case measure => simp [intOf]; omega
          · obtain rfl : t = N := by omega
            by_cases hu2 : (u : Int) ≤ 4096
            · have hfin := HE.out k m hpl (by omega)
              rw [hfin] at hv
              have hjl := join_length xs ys
              have lv := fun x : ChgW (fun _ => False) wr => ldB hjl (hv.chg x.chg id)
              have la := fun x : ChgW (fun _ => False) wr => ldB HX.out (ha.chg x.chg id)
              have lb := fun x : ChgW (fun _ => False) wr => ldB HY.out (hb.chg x.chg id)
              have C4 := Lib.hid (fun W => join_ W xs ys HX.out HY.out)
              have heq := fun W => eqV hjl hjl W
              rw [show (join xs ys == join xs ys) = true from beq_self_eq_true _] at heq
              clear hfin hv ha hb hjl hpl hr
              generalize join xs ys = J at *
              have hub : decide (4096 < (u : Int)) = false := by simpa using hu2
              have heg := fun (x : Operand) (y : Operand) (W : World) => run_eqGuard_agg (P := Try.prog) (t := 23) (by kernel_rfl) x y (ints J).toArray (ints J).toArray W
              go_wp2_with fail
              refine wp_region_chg (fun _ => False) (by kernel_rfl) (by kernel_rfl) ?_
              repeat (go_big_quiet_step ((go_at_call 12; with_reducible exact calls_new (C4.out _))))
              refine wpQuiet_nil ?_
              rintro ⟨wq, hq⟩
              simp only []
              go_wp2
              go_ret
              exact ⟨rfl, hn.trans hq (fun _ _ => False.elim)⟩
            · have hub : decide (4096 < (u : Int)) = true := by simpa using hu2
              clear hv ha hb hpl hr
              go_wp2_with fail
              go_quiet (fail)
              go_wp2
              go_ret
              exact ⟨rfl, hn.drewN _⟩

theorem missing_args {H : Type} {enc : TypeId × Value → H} {W : World} {base : Nat} {args : Array Value} {ds : List (DataW H)} {ps : List MemPlace}
    (hval : ∀ (j : Nat) t v, Try.f3.params[j]? = some t → args[j]? = some v → Value.okWide Try.prog W .any base t v)
    (hw : ∀ (j : Nat) t d, Try.f3.params.toList[j]? = some t → ds[j]? = some d → ∀ n ∈ d.weights Try.prog t, n ≤ reachBytes)
    (hA : DataW.TrodAll enc Try.prog W 0 (fun _ => true) true Try.f3.params.toList args.toList ds ps) :
    Calls Try.prog 3 args W fun e w' => LawEnd W e w' := by
  rw [Try.params3] at hA hval hw
  obtain ⟨v0, v1, d0, d1, p0, p1, rfl, rfl, rfl, h0, h1⟩ := trodAll_two hA
  have o0 := hval 0 _ v0 rfl rfl
  have q0 := hw 0 _ d0 rfl rfl
  have o1 := hval 1 _ v1 rfl rfl
  have q1 := hw 1 _ d1 rfl rfl
  obtain ⟨xs, rfl, hx, ix⟩ := open_array_ints Try.underlying23 Try.underlying3 (by kernel_rfl) (by kernel_rfl) o0 h0
  obtain ⟨ys, rfl, hy, iy⟩ := open_array_ints Try.underlying23 Try.underlying3 (by kernel_rfl) (by kernel_rfl) o1 h1
  exact missing W xs ys hx hy ix iy
end Vec

namespace lawVectorMissing
theorem own : ownKnob Try.prog.godebug = none := by kernel_rfl
theorem laidOut : laidOutB Try.prog = true := by kernel_rfl
theorem reads : ∀ t ∈ Try.f3.params.toList, Try.prog.readableRec t = true ∧ t < Try.prog.types.size := by
  have h : (Try.f3.params.toList.all fun t => Try.prog.readableRec t && decide (t < Try.prog.types.size)) = true := by kernel_rfl
  intro t ht
  have := List.all_eq_true.1 h t ht
  simpa using this
theorem spec {H : Type} (ds : List (DataW H)) (h : ds.length = 2) : Rows.vectorMissingSpec.fn H ds = { results := [.lit (.bool true)], args := ds } := by
  match ds, h with
  | [d1, d2], _ => rfl
theorem trodAll_len {H : Type} {enc : TypeId × Value → H} {P : Program} {w : World} {base : Nat} {sp : Nat → Bool} {held : Bool} : ∀ (ts : List TypeId) (vs : List Value) (ds : List (DataW H)) (ps : List MemPlace),
    DataW.TrodAll enc P w base sp held ts vs ds ps → ds.length = ts.length
  | [], _, _, _, h => by
    obtain ⟨_, rfl, _⟩ := trodAll_nil h
    rfl
  | _ :: ts, _, _, _, h => by
    obtain ⟨_, vs, _, ds, _, _, _, rfl, _, _, hr⟩ := trodAll_cons h
    simp [trodAll_len ts vs ds _ hr]
theorem contract (H : Type) (enc : TypeId × Value → H) (W : World) (base : Nat) (args : Array Value) (ds gs : List (DataW H)) (before : List MemPlace)
    (hval : ∀ (j : Nat) t v, Try.f3.params[j]? = some t → args[j]? = some v → Value.okWide Try.prog W .any base t v)
    (hW : DataW.Whole enc Try.prog Try.f3.params.toList Rows.vectorMissingSpec.vars false W args.toList ds gs before)
    (hz : (DataW.weightsEach Try.prog (Try.f3.params.toList ++ Rows.vectorMissingSpec.plain.varTypes Try.prog) (ds ++ gs)).all (· ≤ reachBytes) = true) :
    Calls Try.prog 3 args W fun e W' => ∃ v, e = .returned v ∧ Rows.vectorMissingSpec.post enc Try.prog Try.f3 false true false false W args v W' := by
  obtain ⟨p, q, hA, hV, _⟩ := id hW
  have hlen : ds.length = 2 := (trodAll_len _ _ _ _ hA).trans (by kernel_rfl)
  have hV1 : DataW.TrodVars enc Try.prog W (fun _ => true) [] gs q := hV
  obtain ⟨rfl, rfl⟩ := trodVars_none hV1
  have hw : ∀ (j : Nat) t d, Try.f3.params.toList[j]? = some t → ds[j]? = some d → ∀ n ∈ d.weights Try.prog t, n ≤ reachBytes := by
    intro j t d ht hd n hn
    rw [List.append_nil] at hz
    have hlt : j < Try.f3.params.toList.length := (List.getElem?_eq_some_iff.1 ht).1
    have := List.all_eq_true.1 hz n (DataW.weights_mem_each (by rw [List.getElem?_append_left hlt]; exact ht) hd n hn)
    simpa using this
  refine (Vec.missing_args hval hw hA).mono fun e W' ⟨he, hn⟩ => ?_
  exact ⟨_, he, law_post laidOut (tb := 4) rfl Try.underlying4 reads rfl hW (spec ds hlen) hn.below⟩
set_option maxRecDepth 100000 in
theorem lifted (os : Os) (started : os.Started) (H : Type) (enc : TypeId × Value → H) :
    ReturnsInHanded {} Try.checked os 3 .any (Rows.vectorMissingSpec.pre6 enc Try.prog Try.f3 Rows.vectorMissingRow.domain false) (Rows.vectorMissingSpec.post enc Try.prog Try.f3 false true false false) := by
  refine returnsInHanded_of_change_sized (C := Try.checked) own started (by kernel_rfl) Try.func3
    (ChangeSpec.witness6 (enc := enc) (C := Try.checked) (s := Rows.vectorMissingSpec) false ⟨#[], #[.agg (Array.replicate 16 (.int .i64 0)), .agg (Array.replicate 16 (.int .i64 0))], []⟩ 60 (by kernel_rfl) (by kernel_rfl) (by kernel_rfl) (by kernel_rfl)) ?_
  intro W base args ds gs before hval hW _ hz _
  exact contract H enc W base args ds gs before hval hW hz
theorem proved : Rows.VectorMissingSaid :=
  OpenClaim.holds_of_wide 3 Try.f3 rfl rfl rfl rfl rfl rfl rfl ⟨rfl, rfl, rfl, rfl, rfl⟩ rfl rfl rfl rfl rfl (by kernel_rfl) Try.func3 (by kernel_rfl)
    (of_decide_eq_true (by kernel_rfl)) (by unfold Func.isWrapper; first | (rw [if_pos (by decide +kernel)]; kernel_rfl) | (rw [if_neg (by decide +kernel)]; exact ⟨rfl, rfl⟩))
    (fun os started H enc _ => lifted os started H enc)
end lawVectorMissing
end Go.Proofs.Ytlmdpkkodbgieaa

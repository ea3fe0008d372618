/-
  The document's Right of events; the law's code (no condition beyond the sizes).
-/
import Derived.Test.YtjkjbbmbfobdaaaDoorRefEv2
namespace Go.Proofs.YtjkjbbmbfobdaaaDoor
set_option linter.unusedSimpArgs false
set_option linter.unusedVariables false
open Go.ChangeShapes Go.WideShapes Go.RowKit Go.Deep
namespace Evt
open Val (elemB rightB nameB JoinC)
open Vec Num
attribute [local go_sem ↓] loadDot loadVec loadRow0 storeRow0 loadOnly0 loadOnly1 loadOnly2
theorem code_ (w : World) (b : Bool) : Calls Tryd.prog 9 #[.bool b] w fun e w' => e = .returned (.int .i64 (if b = true then 0 else 1)) ∧ New w w' := by
  cases b
  · go_enter Tryd.func9, Tryd.ntmps9
    go_wp2_with fail
    go_ret
    exact ⟨rfl, Chg.refl _ _⟩
  · go_enter Tryd.func9, Tryd.ntmps9
    go_wp2_with fail
    go_ret
    exact ⟨rfl, Chg.refl _ _⟩
theorem past_at (e : Ev) {i : Nat} (h : i < 16) : e.cs[2 + i]? = some (.int .i64 ((past e).getD i 0)) := by
  rcases (show i = 0 ∨ i = 1 ∨ i = 2 ∨ i = 3 ∨ i = 4 ∨ i = 5 ∨ i = 6 ∨ i = 7 ∨ i = 8 ∨ i = 9 ∨ i = 10 ∨ i = 11 ∨ i = 12 ∨ i = 13 ∨ i = 14 ∨ i = 15 by omega) with rfl | rfl | rfl | rfl | rfl | rfl | rfl | rfl | rfl | rfl | rfl | rfl | rfl | rfl | rfl | rfl <;> rfl
/-- what the document asks of an event's texts -/
structure Small (e : Ev) : Prop where
  t : ∀ i, (e.t i).size ≤ 1000
set_option maxHeartbeats 20000000 in
set_option maxRecDepth 20000 in
theorem rrightE (w : World) (e : Ev) (h : Small e) : Calls Tryd.prog 10 #[e.val] w fun x w' => x = .returned (.bool (rightE e)) ∧ New w w' := by
  have a1 := (Chg.refl (fun _ => False) w).alloc (.cells e.cs.toArray 31)
  have B1 := Blk.new w 31 e.cs.toArray
  obtain ⟨l0, _, _⟩ := blk_ev B1
  have a2 := a1.alloc (.cells #[.int .i64 (e.n 0), .int .i64 (e.n 1)] 23)
  have B2 := B1.alloc (.cells #[.int .i64 (e.n 0), .int .i64 (e.n 1)] 23)
  have D2 := Blk.new1 w (.cells e.cs.toArray 31) 23 #[.int .i64 (e.n 0), .int .i64 (e.n 1)]
  have d0 := D2.cell 0
  have d1 := D2.cell 1
  simp only [List.getElem?_toArray, List.getElem?_cons_zero, List.getElem?_cons_succ] at d0 d1
  have lv := (blk_ev B2).2.1
  have hg1 := B1.lt
  have hg2 := B2.lt
  have hg3 := D2.lt
  have CC := Lib.hid fun W => rchange W (e.n 18) (e.n 19) (e.t 20) (e.t 21) (e.t 22) (e.t 23) (e.n 24) (e.n 25) (e.t 26) ⟨h.t 20, h.t 21, h.t 22, h.t 23⟩ (h.t 26)
  have N2 := Lib.hid a2
  have HB := Lib.hid (And.intro B2 D2)
  have hr : rightE e = (dotF (e.n 0) (e.n 1) && ((past e).getD (e.n 0).toNat 0 == e.n 1 - 1) && rightF (past e) && chB e) := rfl
  obtain ⟨r, hre⟩ : ∃ r, rightE e = r := ⟨_, rfl⟩
  rw [hre] at hr ⊢
  have HR := Lib.hid hr
  clear a1 B1 a2 B2 D2 h hre hr
  by_cases h1 : 0 ≤ e.n 0
  · by_cases h2 : e.n 0 ≤ 15
    · by_cases h3 : 1 ≤ e.n 1
      · by_cases h4 : e.n 1 ≤ 1048576
        · have hd : dotF (e.n 0) (e.n 1) = true := dotF_true.2 ⟨h1, by omega, h3, h4⟩
          have HR := Lib.hid (show r = ((past e).getD (e.n 0).toNat 0 == e.n 1 - 1 && rightF (past e) && chB e) by rw [HR.out, hd, Bool.true_and])
          have hm1 : ¬ e.n 0 < 0 := by omega
          have hm2 : ¬ (15 : Int) < e.n 0 := by omega
          have hm3 : ¬ e.n 1 < 1 := by omega
          have hm4 : ¬ (1048576 : Int) < e.n 1 := by omega
          have hw1 : IntKind.i64.wrap (e.n 1 - 1) = e.n 1 - 1 := IntWalk.i64_in _ (by omega)
          obtain ⟨i, hi⟩ : ∃ i, (e.n 0).toNat = i := ⟨_, rfl⟩
          have hi16 : i < 16 := by omega
          have hd16 : e.n 0 < 16 := by omega
          clear hd
          go_enter Tryd.func10, Tryd.ntmps10
          go_wp2_with fail
          go_loopw [28] (fun iv wr => ∃ k : Nat, k ≤ 16 ∧ iv = .int .i64 k ∧ Hid (rightF (past e) = rightF ((past e).drop k)) ∧ wr = (w.alloc (.cells e.cs.toArray 31)).alloc (.cells #[.int .i64 (e.n 0), .int .i64 (e.n 1)] 23)) (fun iv _ => 16 - (intOf iv).toNat)
          case atStart => exact ⟨0, by omega, rfl, rfl, rfl⟩
          case round =>
            obtain ⟨k, hk, rfl, hs, rfl⟩ := hrel
            by_cases hlt : k < 16
            · have hix : ∀ W, (Instr.index 25 (.agg #[.int .i64 (e.n 2), .int .i64 (e.n 3), .int .i64 (e.n 4), .int .i64 (e.n 5), .int .i64 (e.n 6), .int .i64 (e.n 7), .int .i64 (e.n 8), .int .i64 (e.n 9), .int .i64 (e.n 10), .int .i64 (e.n 11), .int .i64 (e.n 12), .int .i64 (e.n 13), .int .i64 (e.n 14), .int .i64 (e.n 15), .int .i64 (e.n 16), .int .i64 (e.n 17)]) (.int .i64 (k : Int))).run Tryd.prog W = .ok (.int .i64 ((past e).getD k 0)) W := fun W => Vec.ixV (xs := past e) rfl hlt W
              have hdc := drop_cons (show k < (past e).length from hlt)
              rw [hdc] at hs
              have hki : (k : Int) < 16 := by omega
              obtain ⟨x, hx⟩ : ∃ x, (past e).getD k 0 = x := ⟨_, rfl⟩
              rw [hx] at hs
              simp only [hx] at hix
              clear hdc hx
              by_cases h5 : x < 0
              · have hf : rightF (x :: (past e).drop (k + 1)) = false := by
                  have : decide (0 ≤ x) = false := by simp; omega
                  simp [rightF, this]
                have HF := Lib.hid (show r = false by rw [HR.out, hs.out, hf]; simp)
                clear hf
                go_wp2_with fail
                go_ret
                exact ⟨by rw [HF.out] <;> rfl, N2.out⟩
              · by_cases h6 : 1048576 < x
                · have hf : rightF (x :: (past e).drop (k + 1)) = false := by
                    have : decide (x ≤ 1048576) = false := by simp; omega
                    simp [rightF, this]
                  have HF := Lib.hid (show r = false by rw [HR.out, hs.out, hf]; simp)
                  clear hf
                  go_wp2_with fail
                  go_ret
                  exact ⟨by rw [HF.out] <;> rfl, N2.out⟩
                · have hf : rightF (x :: (past e).drop (k + 1)) = rightF ((past e).drop (k + 1)) := by
                    have h7 : decide (0 ≤ x) = true := by simp; omega
                    have h8 : decide (x ≤ 1048576) = true := by simp; omega
                    simp [rightF, h7, h8]
                  have HF := Lib.hid (hs.out.trans hf)
                  have hw2 : IntKind.i64.wrap ((k : Int) + 1) = (k : Int) + 1 := IntWalk.i64_in _ (by omega)
                  clear hf hs
                  go_wp2_with fail
                  go_roundw
                  case rel => exact ⟨k + 1, by omega, by go_num, HF, by first | rfl | exact True.intro⟩
                  case measure => simp [intOf]; omega
            · have hf : rightF (past e) = true := by
                rw [hs.out, show k = 16 by omega]
                rfl
              have hgi : ¬ ((k : Int) < 16) := by omega
              have HR := Lib.hid (show r = ((past e).getD (e.n 0).toNat 0 == e.n 1 - 1 && chB e) by rw [HR.out, hf, Bool.and_true])
              have ca := fun x : ChgW (fun _ => False) ((w.alloc (.cells e.cs.toArray 31)).alloc (.cells #[.int .i64 (e.n 0), .int .i64 (e.n 1)] 23)) => (HB.out.1.chg x.chg id).cell (2 + i)
              have db := fun x : ChgW (fun _ => False) ((w.alloc (.cells e.cs.toArray 31)).alloc (.cells #[.int .i64 (e.n 0), .int .i64 (e.n 1)] 23)) => (HB.out.2.chg x.chg id)
              have e0 := fun x => (db x).cell 0
              have e1 := fun x => (db x).cell 1
              have em := fun x : ChgW (fun _ => False) ((w.alloc (.cells e.cs.toArray 31)).alloc (.cells #[.int .i64 (e.n 0), .int .i64 (e.n 1)] 23)) => blk_ev (HB.out.1.chg x.chg id)
              have f18 := fun x => (em x).2.2.1
              have f19 := fun x => (em x).2.2.2.1
              have f24 := fun x => (em x).2.2.2.2
              simp only [List.getElem?_toArray, past_at e hi16] at ca
              simp only [List.getElem?_toArray, List.getElem?_cons_zero, List.getElem?_cons_succ] at e0 e1
              obtain ⟨y, hy⟩ : ∃ y, (past e).getD i 0 = y := ⟨_, rfl⟩
              simp only [hy] at ca
              have HR := Lib.hid (show r = (y == e.n 1 - 1 && chB e) by rw [HR.out, hi, hy])
              obtain ⟨z, hz⟩ : ∃ z, e.n 1 - 1 = z := ⟨_, rfl⟩
              rw [hz] at HR hw1
              obtain ⟨cb, hcb⟩ : ∃ z, chB e = z := ⟨_, rfl⟩
              have CC := CC.out
              rw [hcb] at HR
              simp only [show changeB (e.n 18) (e.n 19) (e.t 20).data.toList (e.t 21).data.toList (e.t 22).data.toList (e.t 23).data.toList (e.n 24) (e.n 25) (e.t 26).data.toList = cb from hcb] at CC
              have CC := Lib.hid CC
              clear hs hf hcb hk hlt em db hy d0 d1 lv l0
              by_cases hyz : y = z
              · subst hyz
                have HR := Lib.hid (show r = cb by rw [HR.out]; simp)
                go_wp2_with fail
                refine wp_region_chg (fun _ => False) (by kernel_rfl) (by kernel_rfl) ?_
                repeat (go_big_quiet_step ((go_at_call 12; with_reducible exact calls_new (CC.out _))))
                refine wpQuiet_nil ?_
                rintro ⟨wq, hq⟩
                simp only []
                go_wp2_with fail
                go_ret
                exact ⟨by rw [HR.out] <;> rfl, N2.out.trans hq fun _ _ => id⟩
              · have hyz2 : (y == z) = false := by simpa using hyz
                have HR := Lib.hid (show r = false by rw [HR.out, hyz2]; rfl)
                go_wp2_with fail
                refine wp_region_chg (fun _ => False) (by kernel_rfl) (by kernel_rfl) ?_
                repeat (go_big_quiet_step ((go_at_call 12; with_reducible exact calls_new (CC.out _))))
                refine wpQuiet_nil ?_
                rintro ⟨wq, hq⟩
                simp only []
                go_wp2_with fail
                go_ret
                exact ⟨by rw [HR.out] <;> rfl, N2.out.trans hq fun _ _ => id⟩
        · have HF := Lib.hid (show r = false by rw [HR.out, dotF_false (by omega)]; rfl)
          go_enter Tryd.func10, Tryd.ntmps10
          go_wp2_with fail
          go_ret
          exact ⟨by rw [HF.out] <;> simp [*], N2.out⟩
      · have HF := Lib.hid (show r = false by rw [HR.out, dotF_false (by omega)]; rfl)
        go_enter Tryd.func10, Tryd.ntmps10
        go_wp2_with fail
        go_ret
        exact ⟨by rw [HF.out] <;> simp [*], N2.out⟩
    · have HF := Lib.hid (show r = false by rw [HR.out, dotF_false (by omega)]; rfl)
      go_enter Tryd.func10, Tryd.ntmps10
      go_wp2_with fail
      go_ret
      exact ⟨by rw [HF.out] <;> simp [*], N2.out⟩
  · have HF := Lib.hid (show r = false by rw [HR.out, dotF_false (by omega)]; rfl)
    go_enter Tryd.func10, Tryd.ntmps10
    go_wp2_with fail
    go_ret
    exact ⟨by rw [HF.out] <;> simp [*], N2.out⟩
end Evt
end Go.Proofs.YtjkjbbmbfobdaaaDoor

/-
  The law's few and one: what they compute (no condition beyond the sizes).
-/
import Derived.Test.YtgfkopimjmggdaaDoorJ12
/- The document's events: which elements, changes and events may be (no condition beyond the sizes). -/
namespace Go.Proofs.YtgfkopimjmggdaaDoor
set_option linter.unusedSimpArgs false
set_option linter.unusedVariables false
open Go.ChangeShapes Go.WideShapes Go.RowKit Go.Deep
namespace Evt
open Val (elemB rightB nameB JoinC)
open Vec Num
attribute [local go_sem ↓] loadDot loadVec loadRow0 storeRow0 loadOnly0 loadOnly1 loadOnly2
theorem rname_new (W : World) (s : ByteArray) (hs : s.size < 4294967281) : Calls Tryd.prog 51 #[.string s] W fun e w' => e = .returned (.bool (nameB s.data.toList)) ∧ New W w' :=
  (Val.rname W s hs).mono fun e w' ⟨h1, h2⟩ => ⟨h1, h2 ▸ Chg.refl _ _⟩
theorem str_cases (b : ByteArray) : b = ⟨#[]⟩ ∨ (¬ b.toList = [] ∧ ¬ b.data.toList = [] ∧ (b.toList == []) = false ∧ (b.toList == (⟨#[]⟩ : ByteArray).toList) = false) := by
  by_cases h : b.data.toList = []
  · left
    apply ByteArray.ext
    exact Array.toList_inj.1 (by rw [h])
  · right
    have h2 : ¬ b.toList = [] := by rw [Val.toList_data]; exact h
    refine ⟨h2, h, by simpa using h2, ?_⟩
    rw [beq_eq_false_iff_ne, Val.toList_data, Val.toList_data]
    exact h
set_option maxHeartbeats 20000000 in
set_option maxRecDepth 20000 in
theorem relem (w : World) (k : Int) (a b c d : ByteArray) (hs : a.size ≤ 1000 ∧ b.size ≤ 1000 ∧ c.size ≤ 1000 ∧ d.size ≤ 1000) :
    Calls Tryd.prog 43 #[elemV k a b c d] w fun e w' => e = .returned (.bool (elemB k a.data.toList b.data.toList c.data.toList d.data.toList)) ∧ New w w' := by
  have CA := Lib.hid fun x : ChgW (fun _ => False) (w.alloc (.cells #[.int .i64 k, .string a, .string b, .string c, .string d] 31)) => rname_new x.W a (by omega)
  have CB := Lib.hid fun x : ChgW (fun _ => False) (w.alloc (.cells #[.int .i64 k, .string a, .string b, .string c, .string d] 31)) => rname_new x.W b (by omega)
  have CC := Lib.hid fun x : ChgW (fun _ => False) (w.alloc (.cells #[.int .i64 k, .string a, .string b, .string c, .string d] 31)) => rname_new x.W c (by omega)
  have CD := Lib.hid fun x : ChgW (fun _ => False) (w.alloc (.cells #[.int .i64 k, .string a, .string b, .string c, .string d] 31)) => rname_new x.W d (by omega)
  have B1 := Blk.new w 31 #[.int .i64 k, .string a, .string b, .string c, .string d]
  have N1 := Lib.hid ((Chg.refl (fun _ => False) w).alloc (.cells #[.int .i64 k, .string a, .string b, .string c, .string d] 31))
  have HB := Lib.hid B1
  have d1 := fun x : ChgW (fun _ => False) (w.alloc (.cells #[.int .i64 k, .string a, .string b, .string c, .string d] 31)) => (B1.chg x.chg id).cell 1
  have d2 := fun x : ChgW (fun _ => False) (w.alloc (.cells #[.int .i64 k, .string a, .string b, .string c, .string d] 31)) => (B1.chg x.chg id).cell 2
  have d3 := fun x : ChgW (fun _ => False) (w.alloc (.cells #[.int .i64 k, .string a, .string b, .string c, .string d] 31)) => (B1.chg x.chg id).cell 3
  have d4 := fun x : ChgW (fun _ => False) (w.alloc (.cells #[.int .i64 k, .string a, .string b, .string c, .string d] 31)) => (B1.chg x.chg id).cell 4
  simp only [List.getElem?_toArray, List.getElem?_cons_zero, List.getElem?_cons_succ] at d1 d2 d3 d4
  obtain ⟨r, hr⟩ : ∃ r, elemB k a.data.toList b.data.toList c.data.toList d.data.toList = r := ⟨_, rfl⟩
  rw [hr]
  obtain ⟨na, hna⟩ : ∃ x, nameB a.data.toList = x := ⟨_, rfl⟩
  obtain ⟨nb, hnb⟩ : ∃ x, nameB b.data.toList = x := ⟨_, rfl⟩
  obtain ⟨nc, hnc⟩ : ∃ x, nameB c.data.toList = x := ⟨_, rfl⟩
  obtain ⟨nd, hnd⟩ : ∃ x, nameB d.data.toList = x := ⟨_, rfl⟩
  unfold elemB at hr
  rw [hna, hnb, hnc, hnd] at hr
  rw [hna] at CA
  rw [hnb] at CB
  rw [hnc] at CC
  rw [hnd] at CD
  have HR := Lib.hid hr.symm
  have g1 := B1.lt
  clear hna hnb hnc hnd hs B1 hr
  by_cases h1 : k = 1
  · subst h1
    cases na
    · go_enter Tryd.func43, Tryd.ntmps43
      go_wp2_with fail
      refine wp_region_chg (fun _ => False) (by kernel_rfl) (by kernel_rfl) ?_
      repeat (go_big_quiet_step ((go_at_call 51; first | with_reducible exact calls_new (CA.out _) | with_reducible exact calls_new (CB.out _) | with_reducible exact calls_new (CC.out _) | with_reducible exact calls_new (CD.out _))))
      refine wpQuiet_nil ?_
      rintro ⟨wq, hq⟩
      simp only []
      have HN := Lib.hid (N1.out.trans hq fun _ _ => id)
      have hB2 := HB.out.chg hq id
      have q0 := hB2.cell 0
      have q2 := hB2.cell 2
      have q3 := hB2.cell 3
      have q4 := hB2.cell 4
      simp only [List.getElem?_toArray, List.getElem?_cons_zero, List.getElem?_cons_succ] at q0 q2 q3 q4
      have qg := hB2.lt
      clear hq hB2
      go_wp2_with fail
      go_ret
      exact ⟨by rw [HR.out] <;> simp [*], HN.out⟩
    · skip
      rcases str_cases b with rfl | ⟨z1b, z2b, z3b, z4b⟩
      · skip
        rcases str_cases c with rfl | ⟨z1c, z2c, z3c, z4c⟩
        · skip
          rcases str_cases d with rfl | ⟨z1d, z2d, z3d, z4d⟩
          · skip
            go_enter Tryd.func43, Tryd.ntmps43
            go_wp2_with fail
            refine wp_region_chg (fun _ => False) (by kernel_rfl) (by kernel_rfl) ?_
            repeat (go_big_quiet_step ((go_at_call 51; first | with_reducible exact calls_new (CA.out _) | with_reducible exact calls_new (CB.out _) | with_reducible exact calls_new (CC.out _) | with_reducible exact calls_new (CD.out _))))
            refine wpQuiet_nil ?_
            rintro ⟨wq, hq⟩
            simp only []
            have HN := Lib.hid (N1.out.trans hq fun _ _ => id)
            have hB2 := HB.out.chg hq id
            have q0 := hB2.cell 0
            have q2 := hB2.cell 2
            have q3 := hB2.cell 3
            have q4 := hB2.cell 4
            simp only [List.getElem?_toArray, List.getElem?_cons_zero, List.getElem?_cons_succ] at q0 q2 q3 q4
            have qg := hB2.lt
            clear hq hB2
            go_wp2_with fail
            go_ret
            exact ⟨by rw [HR.out] <;> simp [*], HN.out⟩
          · go_enter Tryd.func43, Tryd.ntmps43
            go_wp2_with fail
            refine wp_region_chg (fun _ => False) (by kernel_rfl) (by kernel_rfl) ?_
            repeat (go_big_quiet_step ((go_at_call 51; first | with_reducible exact calls_new (CA.out _) | with_reducible exact calls_new (CB.out _) | with_reducible exact calls_new (CC.out _) | with_reducible exact calls_new (CD.out _))))
            refine wpQuiet_nil ?_
            rintro ⟨wq, hq⟩
            simp only []
            have HN := Lib.hid (N1.out.trans hq fun _ _ => id)
            have hB2 := HB.out.chg hq id
            have q0 := hB2.cell 0
            have q2 := hB2.cell 2
            have q3 := hB2.cell 3
            have q4 := hB2.cell 4
            simp only [List.getElem?_toArray, List.getElem?_cons_zero, List.getElem?_cons_succ] at q0 q2 q3 q4
            have qg := hB2.lt
            clear hq hB2
            go_wp2_with fail
            go_ret
            exact ⟨by rw [HR.out] <;> simp [*], HN.out⟩
        · go_enter Tryd.func43, Tryd.ntmps43
          go_wp2_with fail
          refine wp_region_chg (fun _ => False) (by kernel_rfl) (by kernel_rfl) ?_
          repeat (go_big_quiet_step ((go_at_call 51; first | with_reducible exact calls_new (CA.out _) | with_reducible exact calls_new (CB.out _) | with_reducible exact calls_new (CC.out _) | with_reducible exact calls_new (CD.out _))))
          refine wpQuiet_nil ?_
          rintro ⟨wq, hq⟩
          simp only []
          have HN := Lib.hid (N1.out.trans hq fun _ _ => id)
          have hB2 := HB.out.chg hq id
          have q0 := hB2.cell 0
          have q2 := hB2.cell 2
          have q3 := hB2.cell 3
          have q4 := hB2.cell 4
          simp only [List.getElem?_toArray, List.getElem?_cons_zero, List.getElem?_cons_succ] at q0 q2 q3 q4
          have qg := hB2.lt
          clear hq hB2
          go_wp2_with fail
          go_ret
          exact ⟨by rw [HR.out] <;> simp [*], HN.out⟩
      · go_enter Tryd.func43, Tryd.ntmps43
        go_wp2_with fail
        refine wp_region_chg (fun _ => False) (by kernel_rfl) (by kernel_rfl) ?_
        repeat (go_big_quiet_step ((go_at_call 51; first | with_reducible exact calls_new (CA.out _) | with_reducible exact calls_new (CB.out _) | with_reducible exact calls_new (CC.out _) | with_reducible exact calls_new (CD.out _))))
        refine wpQuiet_nil ?_
        rintro ⟨wq, hq⟩
        simp only []
        have HN := Lib.hid (N1.out.trans hq fun _ _ => id)
        have hB2 := HB.out.chg hq id
        have q0 := hB2.cell 0
        have q2 := hB2.cell 2
        have q3 := hB2.cell 3
        have q4 := hB2.cell 4
        simp only [List.getElem?_toArray, List.getElem?_cons_zero, List.getElem?_cons_succ] at q0 q2 q3 q4
        have qg := hB2.lt
        clear hq hB2
        go_wp2_with fail
        go_ret
        exact ⟨by rw [HR.out] <;> simp [*], HN.out⟩
  by_cases h2 : k = 2
  · subst h2
    cases na
    · go_enter Tryd.func43, Tryd.ntmps43
      go_wp2_with fail
      refine wp_region_chg (fun _ => False) (by kernel_rfl) (by kernel_rfl) ?_
      repeat (go_big_quiet_step ((go_at_call 51; first | with_reducible exact calls_new (CA.out _) | with_reducible exact calls_new (CB.out _) | with_reducible exact calls_new (CC.out _) | with_reducible exact calls_new (CD.out _))))
      refine wpQuiet_nil ?_
      rintro ⟨wq, hq⟩
      simp only []
      have HN := Lib.hid (N1.out.trans hq fun _ _ => id)
      have hB2 := HB.out.chg hq id
      have q0 := hB2.cell 0
      have q2 := hB2.cell 2
      have q3 := hB2.cell 3
      have q4 := hB2.cell 4
      simp only [List.getElem?_toArray, List.getElem?_cons_zero, List.getElem?_cons_succ] at q0 q2 q3 q4
      have qg := hB2.lt
      clear hq hB2
      go_wp2_with fail
      go_ret
      exact ⟨by rw [HR.out] <;> simp [*], HN.out⟩
    · skip
      rcases str_cases b with rfl | ⟨z1b, z2b, z3b, z4b⟩
      · skip
        rcases str_cases c with rfl | ⟨z1c, z2c, z3c, z4c⟩
        · skip
          cases nd
          · go_enter Tryd.func43, Tryd.ntmps43
            go_wp2_with fail
            refine wp_region_chg (fun _ => False) (by kernel_rfl) (by kernel_rfl) ?_
            repeat (go_big_quiet_step ((go_at_call 51; first | with_reducible exact calls_new (CA.out _) | with_reducible exact calls_new (CB.out _) | with_reducible exact calls_new (CC.out _) | with_reducible exact calls_new (CD.out _))))
            refine wpQuiet_nil ?_
            rintro ⟨wq, hq⟩
            simp only []
            have HN := Lib.hid (N1.out.trans hq fun _ _ => id)
            have hB2 := HB.out.chg hq id
            have q0 := hB2.cell 0
            have q2 := hB2.cell 2
            have q3 := hB2.cell 3
            have q4 := hB2.cell 4
            simp only [List.getElem?_toArray, List.getElem?_cons_zero, List.getElem?_cons_succ] at q0 q2 q3 q4
            have qg := hB2.lt
            clear hq hB2
            go_wp2_with fail
            go_ret
            exact ⟨by rw [HR.out] <;> simp [*], HN.out⟩
          · skip
            go_enter Tryd.func43, Tryd.ntmps43
            go_wp2_with fail
            refine wp_region_chg (fun _ => False) (by kernel_rfl) (by kernel_rfl) ?_
            repeat (go_big_quiet_step ((go_at_call 51; first | with_reducible exact calls_new (CA.out _) | with_reducible exact calls_new (CB.out _) | with_reducible exact calls_new (CC.out _) | with_reducible exact calls_new (CD.out _))))
            refine wpQuiet_nil ?_
            rintro ⟨wq, hq⟩
            simp only []
            have HN := Lib.hid (N1.out.trans hq fun _ _ => id)
            have hB2 := HB.out.chg hq id
            have q0 := hB2.cell 0
            have q2 := hB2.cell 2
            have q3 := hB2.cell 3
            have q4 := hB2.cell 4
            simp only [List.getElem?_toArray, List.getElem?_cons_zero, List.getElem?_cons_succ] at q0 q2 q3 q4
            have qg := hB2.lt
            clear hq hB2
            go_wp2_with fail
            go_ret
            exact ⟨by rw [HR.out] <;> simp [*], HN.out⟩
        · go_enter Tryd.func43, Tryd.ntmps43
          go_wp2_with fail
          refine wp_region_chg (fun _ => False) (by kernel_rfl) (by kernel_rfl) ?_
          repeat (go_big_quiet_step ((go_at_call 51; first | with_reducible exact calls_new (CA.out _) | with_reducible exact calls_new (CB.out _) | with_reducible exact calls_new (CC.out _) | with_reducible exact calls_new (CD.out _))))
          refine wpQuiet_nil ?_
          rintro ⟨wq, hq⟩
          simp only []
          have HN := Lib.hid (N1.out.trans hq fun _ _ => id)
          have hB2 := HB.out.chg hq id
          have q0 := hB2.cell 0
          have q2 := hB2.cell 2
          have q3 := hB2.cell 3
          have q4 := hB2.cell 4
          simp only [List.getElem?_toArray, List.getElem?_cons_zero, List.getElem?_cons_succ] at q0 q2 q3 q4
          have qg := hB2.lt
          clear hq hB2
          go_wp2_with fail
          go_ret
          exact ⟨by rw [HR.out] <;> simp [*], HN.out⟩
      · go_enter Tryd.func43, Tryd.ntmps43
        go_wp2_with fail
        refine wp_region_chg (fun _ => False) (by kernel_rfl) (by kernel_rfl) ?_
        repeat (go_big_quiet_step ((go_at_call 51; first | with_reducible exact calls_new (CA.out _) | with_reducible exact calls_new (CB.out _) | with_reducible exact calls_new (CC.out _) | with_reducible exact calls_new (CD.out _))))
        refine wpQuiet_nil ?_
        rintro ⟨wq, hq⟩
        simp only []
        have HN := Lib.hid (N1.out.trans hq fun _ _ => id)
        have hB2 := HB.out.chg hq id
        have q0 := hB2.cell 0
        have q2 := hB2.cell 2
        have q3 := hB2.cell 3
        have q4 := hB2.cell 4
        simp only [List.getElem?_toArray, List.getElem?_cons_zero, List.getElem?_cons_succ] at q0 q2 q3 q4
        have qg := hB2.lt
        clear hq hB2
        go_wp2_with fail
        go_ret
        exact ⟨by rw [HR.out] <;> simp [*], HN.out⟩
  by_cases h4 : k = 4
  · subst h4
    cases na
    · go_enter Tryd.func43, Tryd.ntmps43
      go_wp2_with fail
      refine wp_region_chg (fun _ => False) (by kernel_rfl) (by kernel_rfl) ?_
      repeat (go_big_quiet_step ((go_at_call 51; first | with_reducible exact calls_new (CA.out _) | with_reducible exact calls_new (CB.out _) | with_reducible exact calls_new (CC.out _) | with_reducible exact calls_new (CD.out _))))
      refine wpQuiet_nil ?_
      rintro ⟨wq, hq⟩
      simp only []
      have HN := Lib.hid (N1.out.trans hq fun _ _ => id)
      have hB2 := HB.out.chg hq id
      have q0 := hB2.cell 0
      have q2 := hB2.cell 2
      have q3 := hB2.cell 3
      have q4 := hB2.cell 4
      simp only [List.getElem?_toArray, List.getElem?_cons_zero, List.getElem?_cons_succ] at q0 q2 q3 q4
      have qg := hB2.lt
      clear hq hB2
      go_wp2_with fail
      go_ret
      exact ⟨by rw [HR.out] <;> simp [*], HN.out⟩
    · skip
      rcases str_cases b with rfl | ⟨z1b, z2b, z3b, z4b⟩
      · skip
        rcases str_cases c with rfl | ⟨z1c, z2c, z3c, z4c⟩
        · skip
          cases nd
          · go_enter Tryd.func43, Tryd.ntmps43
            go_wp2_with fail
            refine wp_region_chg (fun _ => False) (by kernel_rfl) (by kernel_rfl) ?_
            repeat (go_big_quiet_step ((go_at_call 51; first | with_reducible exact calls_new (CA.out _) | with_reducible exact calls_new (CB.out _) | with_reducible exact calls_new (CC.out _) | with_reducible exact calls_new (CD.out _))))
            refine wpQuiet_nil ?_
            rintro ⟨wq, hq⟩
            simp only []
            have HN := Lib.hid (N1.out.trans hq fun _ _ => id)
            have hB2 := HB.out.chg hq id
            have q0 := hB2.cell 0
            have q2 := hB2.cell 2
            have q3 := hB2.cell 3
            have q4 := hB2.cell 4
            simp only [List.getElem?_toArray, List.getElem?_cons_zero, List.getElem?_cons_succ] at q0 q2 q3 q4
            have qg := hB2.lt
            clear hq hB2
            go_wp2_with fail
            go_ret
            exact ⟨by rw [HR.out] <;> simp [*], HN.out⟩
          · skip
            go_enter Tryd.func43, Tryd.ntmps43
            go_wp2_with fail
            refine wp_region_chg (fun _ => False) (by kernel_rfl) (by kernel_rfl) ?_
            repeat (go_big_quiet_step ((go_at_call 51; first | with_reducible exact calls_new (CA.out _) | with_reducible exact calls_new (CB.out _) | with_reducible exact calls_new (CC.out _) | with_reducible exact calls_new (CD.out _))))
            refine wpQuiet_nil ?_
            rintro ⟨wq, hq⟩
            simp only []
            have HN := Lib.hid (N1.out.trans hq fun _ _ => id)
            have hB2 := HB.out.chg hq id
            have q0 := hB2.cell 0
            have q2 := hB2.cell 2
            have q3 := hB2.cell 3
            have q4 := hB2.cell 4
            simp only [List.getElem?_toArray, List.getElem?_cons_zero, List.getElem?_cons_succ] at q0 q2 q3 q4
            have qg := hB2.lt
            clear hq hB2
            go_wp2_with fail
            go_ret
            exact ⟨by rw [HR.out] <;> simp [*], HN.out⟩
        · go_enter Tryd.func43, Tryd.ntmps43
          go_wp2_with fail
          refine wp_region_chg (fun _ => False) (by kernel_rfl) (by kernel_rfl) ?_
          repeat (go_big_quiet_step ((go_at_call 51; first | with_reducible exact calls_new (CA.out _) | with_reducible exact calls_new (CB.out _) | with_reducible exact calls_new (CC.out _) | with_reducible exact calls_new (CD.out _))))
          refine wpQuiet_nil ?_
          rintro ⟨wq, hq⟩
          simp only []
          have HN := Lib.hid (N1.out.trans hq fun _ _ => id)
          have hB2 := HB.out.chg hq id
          have q0 := hB2.cell 0
          have q2 := hB2.cell 2
          have q3 := hB2.cell 3
          have q4 := hB2.cell 4
          simp only [List.getElem?_toArray, List.getElem?_cons_zero, List.getElem?_cons_succ] at q0 q2 q3 q4
          have qg := hB2.lt
          clear hq hB2
          go_wp2_with fail
          go_ret
          exact ⟨by rw [HR.out] <;> simp [*], HN.out⟩
      · go_enter Tryd.func43, Tryd.ntmps43
        go_wp2_with fail
        refine wp_region_chg (fun _ => False) (by kernel_rfl) (by kernel_rfl) ?_
        repeat (go_big_quiet_step ((go_at_call 51; first | with_reducible exact calls_new (CA.out _) | with_reducible exact calls_new (CB.out _) | with_reducible exact calls_new (CC.out _) | with_reducible exact calls_new (CD.out _))))
        refine wpQuiet_nil ?_
        rintro ⟨wq, hq⟩
        simp only []
        have HN := Lib.hid (N1.out.trans hq fun _ _ => id)
        have hB2 := HB.out.chg hq id
        have q0 := hB2.cell 0
        have q2 := hB2.cell 2
        have q3 := hB2.cell 3
        have q4 := hB2.cell 4
        simp only [List.getElem?_toArray, List.getElem?_cons_zero, List.getElem?_cons_succ] at q0 q2 q3 q4
        have qg := hB2.lt
        clear hq hB2
        go_wp2_with fail
        go_ret
        exact ⟨by rw [HR.out] <;> simp [*], HN.out⟩
  by_cases h3 : k = 3
  · subst h3
    cases na
    · go_enter Tryd.func43, Tryd.ntmps43
      go_wp2_with fail
      refine wp_region_chg (fun _ => False) (by kernel_rfl) (by kernel_rfl) ?_
      repeat (go_big_quiet_step ((go_at_call 51; first | with_reducible exact calls_new (CA.out _) | with_reducible exact calls_new (CB.out _) | with_reducible exact calls_new (CC.out _) | with_reducible exact calls_new (CD.out _))))
      refine wpQuiet_nil ?_
      rintro ⟨wq, hq⟩
      simp only []
      have HN := Lib.hid (N1.out.trans hq fun _ _ => id)
      have hB2 := HB.out.chg hq id
      have q0 := hB2.cell 0
      have q2 := hB2.cell 2
      have q3 := hB2.cell 3
      have q4 := hB2.cell 4
      simp only [List.getElem?_toArray, List.getElem?_cons_zero, List.getElem?_cons_succ] at q0 q2 q3 q4
      have qg := hB2.lt
      clear hq hB2
      go_wp2_with fail
      go_ret
      exact ⟨by rw [HR.out] <;> simp [*], HN.out⟩
    · skip
      cases nb
      · go_enter Tryd.func43, Tryd.ntmps43
        go_wp2_with fail
        refine wp_region_chg (fun _ => False) (by kernel_rfl) (by kernel_rfl) ?_
        repeat (go_big_quiet_step ((go_at_call 51; first | with_reducible exact calls_new (CA.out _) | with_reducible exact calls_new (CB.out _) | with_reducible exact calls_new (CC.out _) | with_reducible exact calls_new (CD.out _))))
        refine wpQuiet_nil ?_
        rintro ⟨wq, hq⟩
        simp only []
        have HN := Lib.hid (N1.out.trans hq fun _ _ => id)
        have hB2 := HB.out.chg hq id
        have q0 := hB2.cell 0
        have q2 := hB2.cell 2
        have q3 := hB2.cell 3
        have q4 := hB2.cell 4
        simp only [List.getElem?_toArray, List.getElem?_cons_zero, List.getElem?_cons_succ] at q0 q2 q3 q4
        have qg := hB2.lt
        clear hq hB2
        go_wp2_with fail
        go_ret
        exact ⟨by rw [HR.out] <;> simp [*], HN.out⟩
      · skip
        cases nc
        · go_enter Tryd.func43, Tryd.ntmps43
          go_wp2_with fail
          refine wp_region_chg (fun _ => False) (by kernel_rfl) (by kernel_rfl) ?_
          repeat (go_big_quiet_step ((go_at_call 51; first | with_reducible exact calls_new (CA.out _) | with_reducible exact calls_new (CB.out _) | with_reducible exact calls_new (CC.out _) | with_reducible exact calls_new (CD.out _))))
          refine wpQuiet_nil ?_
          rintro ⟨wq, hq⟩
          simp only []
          have HN := Lib.hid (N1.out.trans hq fun _ _ => id)
          have hB2 := HB.out.chg hq id
          have q0 := hB2.cell 0
          have q2 := hB2.cell 2
          have q3 := hB2.cell 3
          have q4 := hB2.cell 4
          simp only [List.getElem?_toArray, List.getElem?_cons_zero, List.getElem?_cons_succ] at q0 q2 q3 q4
          have qg := hB2.lt
          clear hq hB2
          go_wp2_with fail
          go_ret
          exact ⟨by rw [HR.out] <;> simp [*], HN.out⟩
        · skip
          rcases str_cases d with rfl | ⟨z1d, z2d, z3d, z4d⟩
          · skip
            go_enter Tryd.func43, Tryd.ntmps43
            go_wp2_with fail
            refine wp_region_chg (fun _ => False) (by kernel_rfl) (by kernel_rfl) ?_
            repeat (go_big_quiet_step ((go_at_call 51; first | with_reducible exact calls_new (CA.out _) | with_reducible exact calls_new (CB.out _) | with_reducible exact calls_new (CC.out _) | with_reducible exact calls_new (CD.out _))))
            refine wpQuiet_nil ?_
            rintro ⟨wq, hq⟩
            simp only []
            have HN := Lib.hid (N1.out.trans hq fun _ _ => id)
            have hB2 := HB.out.chg hq id
            have q0 := hB2.cell 0
            have q2 := hB2.cell 2
            have q3 := hB2.cell 3
            have q4 := hB2.cell 4
            simp only [List.getElem?_toArray, List.getElem?_cons_zero, List.getElem?_cons_succ] at q0 q2 q3 q4
            have qg := hB2.lt
            clear hq hB2
            go_wp2_with fail
            go_ret
            exact ⟨by rw [HR.out] <;> simp [*], HN.out⟩
          · go_enter Tryd.func43, Tryd.ntmps43
            go_wp2_with fail
            refine wp_region_chg (fun _ => False) (by kernel_rfl) (by kernel_rfl) ?_
            repeat (go_big_quiet_step ((go_at_call 51; first | with_reducible exact calls_new (CA.out _) | with_reducible exact calls_new (CB.out _) | with_reducible exact calls_new (CC.out _) | with_reducible exact calls_new (CD.out _))))
            refine wpQuiet_nil ?_
            rintro ⟨wq, hq⟩
            simp only []
            have HN := Lib.hid (N1.out.trans hq fun _ _ => id)
            have hB2 := HB.out.chg hq id
            have q0 := hB2.cell 0
            have q2 := hB2.cell 2
            have q3 := hB2.cell 3
            have q4 := hB2.cell 4
            simp only [List.getElem?_toArray, List.getElem?_cons_zero, List.getElem?_cons_succ] at q0 q2 q3 q4
            have qg := hB2.lt
            clear hq hB2
            go_wp2_with fail
            go_ret
            exact ⟨by rw [HR.out] <;> simp [*], HN.out⟩
  by_cases h5 : k = 5
  · subst h5
    cases na
    · go_enter Tryd.func43, Tryd.ntmps43
      go_wp2_with fail
      refine wp_region_chg (fun _ => False) (by kernel_rfl) (by kernel_rfl) ?_
      repeat (go_big_quiet_step ((go_at_call 51; first | with_reducible exact calls_new (CA.out _) | with_reducible exact calls_new (CB.out _) | with_reducible exact calls_new (CC.out _) | with_reducible exact calls_new (CD.out _))))
      refine wpQuiet_nil ?_
      rintro ⟨wq, hq⟩
      simp only []
      have HN := Lib.hid (N1.out.trans hq fun _ _ => id)
      have hB2 := HB.out.chg hq id
      have q0 := hB2.cell 0
      have q2 := hB2.cell 2
      have q3 := hB2.cell 3
      have q4 := hB2.cell 4
      simp only [List.getElem?_toArray, List.getElem?_cons_zero, List.getElem?_cons_succ] at q0 q2 q3 q4
      have qg := hB2.lt
      clear hq hB2
      go_wp2_with fail
      go_ret
      exact ⟨by rw [HR.out] <;> simp [*], HN.out⟩
    · skip
      cases nb
      · go_enter Tryd.func43, Tryd.ntmps43
        go_wp2_with fail
        refine wp_region_chg (fun _ => False) (by kernel_rfl) (by kernel_rfl) ?_
        repeat (go_big_quiet_step ((go_at_call 51; first | with_reducible exact calls_new (CA.out _) | with_reducible exact calls_new (CB.out _) | with_reducible exact calls_new (CC.out _) | with_reducible exact calls_new (CD.out _))))
        refine wpQuiet_nil ?_
        rintro ⟨wq, hq⟩
        simp only []
        have HN := Lib.hid (N1.out.trans hq fun _ _ => id)
        have hB2 := HB.out.chg hq id
        have q0 := hB2.cell 0
        have q2 := hB2.cell 2
        have q3 := hB2.cell 3
        have q4 := hB2.cell 4
        simp only [List.getElem?_toArray, List.getElem?_cons_zero, List.getElem?_cons_succ] at q0 q2 q3 q4
        have qg := hB2.lt
        clear hq hB2
        go_wp2_with fail
        go_ret
        exact ⟨by rw [HR.out] <;> simp [*], HN.out⟩
      · skip
        cases nc
        · go_enter Tryd.func43, Tryd.ntmps43
          go_wp2_with fail
          refine wp_region_chg (fun _ => False) (by kernel_rfl) (by kernel_rfl) ?_
          repeat (go_big_quiet_step ((go_at_call 51; first | with_reducible exact calls_new (CA.out _) | with_reducible exact calls_new (CB.out _) | with_reducible exact calls_new (CC.out _) | with_reducible exact calls_new (CD.out _))))
          refine wpQuiet_nil ?_
          rintro ⟨wq, hq⟩
          simp only []
          have HN := Lib.hid (N1.out.trans hq fun _ _ => id)
          have hB2 := HB.out.chg hq id
          have q0 := hB2.cell 0
          have q2 := hB2.cell 2
          have q3 := hB2.cell 3
          have q4 := hB2.cell 4
          simp only [List.getElem?_toArray, List.getElem?_cons_zero, List.getElem?_cons_succ] at q0 q2 q3 q4
          have qg := hB2.lt
          clear hq hB2
          go_wp2_with fail
          go_ret
          exact ⟨by rw [HR.out] <;> simp [*], HN.out⟩
        · skip
          cases nd
          · go_enter Tryd.func43, Tryd.ntmps43
            go_wp2_with fail
            refine wp_region_chg (fun _ => False) (by kernel_rfl) (by kernel_rfl) ?_
            repeat (go_big_quiet_step ((go_at_call 51; first | with_reducible exact calls_new (CA.out _) | with_reducible exact calls_new (CB.out _) | with_reducible exact calls_new (CC.out _) | with_reducible exact calls_new (CD.out _))))
            refine wpQuiet_nil ?_
            rintro ⟨wq, hq⟩
            simp only []
            have HN := Lib.hid (N1.out.trans hq fun _ _ => id)
            have hB2 := HB.out.chg hq id
            have q0 := hB2.cell 0
            have q2 := hB2.cell 2
            have q3 := hB2.cell 3
            have q4 := hB2.cell 4
            simp only [List.getElem?_toArray, List.getElem?_cons_zero, List.getElem?_cons_succ] at q0 q2 q3 q4
            have qg := hB2.lt
            clear hq hB2
            go_wp2_with fail
            go_ret
            exact ⟨by rw [HR.out] <;> simp [*], HN.out⟩
          · skip
            go_enter Tryd.func43, Tryd.ntmps43
            go_wp2_with fail
            refine wp_region_chg (fun _ => False) (by kernel_rfl) (by kernel_rfl) ?_
            repeat (go_big_quiet_step ((go_at_call 51; first | with_reducible exact calls_new (CA.out _) | with_reducible exact calls_new (CB.out _) | with_reducible exact calls_new (CC.out _) | with_reducible exact calls_new (CD.out _))))
            refine wpQuiet_nil ?_
            rintro ⟨wq, hq⟩
            simp only []
            have HN := Lib.hid (N1.out.trans hq fun _ _ => id)
            have hB2 := HB.out.chg hq id
            have q0 := hB2.cell 0
            have q2 := hB2.cell 2
            have q3 := hB2.cell 3
            have q4 := hB2.cell 4
            simp only [List.getElem?_toArray, List.getElem?_cons_zero, List.getElem?_cons_succ] at q0 q2 q3 q4
            have qg := hB2.lt
            clear hq hB2
            go_wp2_with fail
            go_ret
            exact ⟨by rw [HR.out] <;> simp [*], HN.out⟩
  have b1 : (k == 1) = false := by simpa using h1
  have b2 : (k == 2) = false := by simpa using h2
  have b3 : (k == 3) = false := by simpa using h3
  have b4 : (k == 4) = false := by simpa using h4
  have b5 : (k == 5) = false := by simpa using h5
  go_enter Tryd.func43, Tryd.ntmps43
  go_wp2_with fail
  refine wp_region_chg (fun _ => False) (by kernel_rfl) (by kernel_rfl) ?_
  repeat (go_big_quiet_step ((go_at_call 51; first | with_reducible exact calls_new (CA.out _) | with_reducible exact calls_new (CB.out _) | with_reducible exact calls_new (CC.out _) | with_reducible exact calls_new (CD.out _))))
  refine wpQuiet_nil ?_
  rintro ⟨wq, hq⟩
  simp only []
  have HN := Lib.hid (N1.out.trans hq fun _ _ => id)
  have hB2 := HB.out.chg hq id
  have q0 := hB2.cell 0
  have q2 := hB2.cell 2
  have q3 := hB2.cell 3
  have q4 := hB2.cell 4
  simp only [List.getElem?_toArray, List.getElem?_cons_zero, List.getElem?_cons_succ] at q0 q2 q3 q4
  have qg := hB2.lt
  clear hq hB2
  go_wp2_with fail
  go_ret
  exact ⟨by rw [HR.out] <;> simp [*], HN.out⟩
end Evt
end Go.Proofs.YtgfkopimjmggdaaDoor

/- The document's changes and events: which may be (no condition beyond the sizes). -/
namespace Go.Proofs.YtgfkopimjmggdaaDoor
set_option linter.unusedSimpArgs false
set_option linter.unusedVariables false
open Go.ChangeShapes Go.WideShapes Go.RowKit Go.Deep
namespace Evt
open Val (elemB rightB nameB JoinC)
open Vec Num
attribute [local go_sem ↓] loadDot loadVec loadRow0 storeRow0 loadOnly0 loadOnly1 loadOnly2
set_option maxHeartbeats 20000000 in
set_option maxRecDepth 20000 in
theorem rchange (w : World) (op k : Int) (a b c d : ByteArray) (vk vn : Int) (vt : ByteArray) (hs : a.size ≤ 1000 ∧ b.size ≤ 1000 ∧ c.size ≤ 1000 ∧ d.size ≤ 1000) (ht : vt.size ≤ 1000) :
    Calls Tryd.prog 34 #[chV op k a b c d vk vn vt] w fun e w' => e = .returned (.bool (changeB op k a.data.toList b.data.toList c.data.toList d.data.toList vk vn vt.data.toList)) ∧ New w w' := by
  have n1 := (Chg.refl (fun _ => False) w).alloc (.cells #[.int .i64 op, .int .i64 k, .string a, .string b, .string c, .string d, .int .i64 vk, .int .i64 vn, .string vt] 57)
  have B1 := Blk.new w 57 #[.int .i64 op, .int .i64 k, .string a, .string b, .string c, .string d, .int .i64 vk, .int .i64 vn, .string vt]
  have l1 := (blk_ch B1).1
  have CE := Lib.hid fun W => relem W k a b c d hs
  have CSc := Lib.hid fun W => Val.rright W vk vn vt ht
  have hz : ∀ W, (zeroValue 33).run Tryd.prog W = .ok (.agg #[.int .i64 0, .int .i64 0, .string ⟨#[]⟩]) W := fun W => by kernel_rfl
  have hq := eql_none vk vn vt
  have hel : elemB k a.data.toList b.data.toList c.data.toList d.data.toList = true → keptB k = decide (4 ≤ k) := fun h => by
    have := (elem_len h).1
    unfold keptB
    rw [Bool.eq_iff_iff]
    simp
    omega
  obtain ⟨eb, heb⟩ : ∃ x, elemB k a.data.toList b.data.toList c.data.toList d.data.toList = x := ⟨_, rfl⟩
  obtain ⟨rb, hrb⟩ : ∃ x, rightB vk vn vt.data.toList = x := ⟨_, rfl⟩
  obtain ⟨nb, hnb⟩ : ∃ x, noneB vk vn vt.data.toList = x := ⟨_, rfl⟩
  have hr : changeB op k a.data.toList b.data.toList c.data.toList d.data.toList vk vn vt.data.toList = (eb && (if op = 1 ∨ op = 2 then nb && !keptB k else if op = 3 then keptB k && (decide (1 ≤ vk) && decide (vk ≤ 3) && rb) else if op = 4 then nb && keptB k else false)) := by
    unfold changeB scalarB
    rw [heb, hnb, hrb]
  rw [hr]
  simp only [heb] at CE hel
  simp only [hrb] at CSc
  rw [hnb] at hq
  have N1 := Lib.hid n1
  have HB := Lib.hid B1
  have hg1 := B1.lt
  clear n1 B1 heb hrb hnb hs ht hr
  cases eb
  · rw [Bool.false_and]
    go_enter Tryd.func34, Tryd.ntmps34
    go_wp2_with fail
    with_reducible refine (CE.out _).mono ?_
    rintro e w2 ⟨rfl, n2⟩
    have N2 := Lib.hid (N1.out.trans n2 fun _ _ => id)
    clear n2
    go_wp2_with fail
    go_ret
    exact ⟨rfl, N2.out⟩
  rw [Bool.true_and, hel rfl]
  obtain ⟨r, hr⟩ : ∃ r, (if op = 1 ∨ op = 2 then nb && !decide (4 ≤ k) else if op = 3 then decide (4 ≤ k) && (decide (1 ≤ vk) && decide (vk ≤ 3) && rb) else if op = 4 then nb && decide (4 ≤ k) else false) = r := ⟨_, rfl⟩
  rw [hr]
  have HR := Lib.hid hr.symm
  clear hr hel
  go_enter Tryd.func34, Tryd.ntmps34
  go_wp2_with fail
  with_reducible refine (CE.out _).mono ?_
  rintro e w2 ⟨rfl, n2⟩
  have HB2 := Lib.hid (HB.out.chg n2 id)
  have N2 := Lib.hid (N1.out.trans n2 fun _ _ => id)
  have m2 := (blk_ch HB2.out).2.1
  have c2 := (blk_ch HB2.out).2.2.1
  have c3 := HB2.out.cell 1
  have c4 := HB2.out.cell 6
  simp only [List.getElem?_toArray, List.getElem?_cons_zero, List.getElem?_cons_succ] at c3 c4
  have g2 := HB2.out.lt
  clear n2 l1 CE
  by_cases h4 : 4 ≤ k
  · by_cases o1 : op = 1
    · subst o1
      go_wp2_with fail
      go_ret
      exact ⟨by rw [HR.out] <;> first | (simp [*]; done) | (simp [*] <;> intros <;> omega) | (cases nb <;> simp [*]; done) | (cases nb <;> simp [*] <;> intros <;> omega), N2.out⟩
    by_cases o2 : op = 2
    · subst o2
      go_wp2_with fail
      go_ret
      exact ⟨by rw [HR.out] <;> first | (simp [*]; done) | (simp [*] <;> intros <;> omega) | (cases nb <;> simp [*]; done) | (cases nb <;> simp [*] <;> intros <;> omega), N2.out⟩
    by_cases o3 : op = 3
    · subst o3
      by_cases v1 : 1 ≤ vk
      · by_cases v3 : vk ≤ 3
        · go_wp2_with fail
          with_reducible refine (CSc.out _).mono ?_
          rintro e w3 ⟨rfl, n3⟩
          have N2 := Lib.hid (N2.out.trans n3 fun _ _ => id)
          clear n3
          go_wp2_with fail
          go_ret
          exact ⟨by rw [HR.out] <;> first | (simp [*]; done) | (simp [*] <;> intros <;> omega) | (cases nb <;> simp [*]; done) | (cases nb <;> simp [*] <;> intros <;> omega), N2.out⟩
        · go_wp2_with fail
          go_ret
          exact ⟨by rw [HR.out] <;> first | (simp [*]; done) | (simp [*] <;> intros <;> omega) | (cases nb <;> simp [*]; done) | (cases nb <;> simp [*] <;> intros <;> omega), N2.out⟩
      · go_wp2_with fail
        go_ret
        exact ⟨by rw [HR.out] <;> first | (simp [*]; done) | (simp [*] <;> intros <;> omega) | (cases nb <;> simp [*]; done) | (cases nb <;> simp [*] <;> intros <;> omega), N2.out⟩
    by_cases o4 : op = 4
    · subst o4
      go_wp2_with fail
      go_ret
      exact ⟨by rw [HR.out] <;> first | (simp [*]; done) | (simp [*] <;> intros <;> omega) | (cases nb <;> simp [*]; done) | (cases nb <;> simp [*] <;> intros <;> omega), N2.out⟩
    have b1 : (op == 1) = false := by simpa using o1
    have b2 : (op == 2) = false := by simpa using o2
    have b3 : (op == 3) = false := by simpa using o3
    have b4 : (op == 4) = false := by simpa using o4
    go_wp2_with fail
    go_ret
    exact ⟨by rw [HR.out] <;> first | (simp [*]; done) | (simp [*] <;> intros <;> omega) | (cases nb <;> simp [*]; done) | (cases nb <;> simp [*] <;> intros <;> omega), N2.out⟩
  · by_cases o1 : op = 1
    · subst o1
      go_wp2_with fail
      go_ret
      exact ⟨by rw [HR.out] <;> first | (simp [*]; done) | (simp [*] <;> intros <;> omega) | (cases nb <;> simp [*]; done) | (cases nb <;> simp [*] <;> intros <;> omega), N2.out⟩
    by_cases o2 : op = 2
    · subst o2
      go_wp2_with fail
      go_ret
      exact ⟨by rw [HR.out] <;> first | (simp [*]; done) | (simp [*] <;> intros <;> omega) | (cases nb <;> simp [*]; done) | (cases nb <;> simp [*] <;> intros <;> omega), N2.out⟩
    by_cases o3 : op = 3
    · subst o3
      go_wp2_with fail
      go_ret
      exact ⟨by rw [HR.out] <;> first | (simp [*]; done) | (simp [*] <;> intros <;> omega) | (cases nb <;> simp [*]; done) | (cases nb <;> simp [*] <;> intros <;> omega), N2.out⟩
    by_cases o4 : op = 4
    · subst o4
      go_wp2_with fail
      go_ret
      exact ⟨by rw [HR.out] <;> first | (simp [*]; done) | (simp [*] <;> intros <;> omega) | (cases nb <;> simp [*]; done) | (cases nb <;> simp [*] <;> intros <;> omega), N2.out⟩
    have b1 : (op == 1) = false := by simpa using o1
    have b2 : (op == 2) = false := by simpa using o2
    have b3 : (op == 3) = false := by simpa using o3
    have b4 : (op == 4) = false := by simpa using o4
    go_wp2_with fail
    go_ret
    exact ⟨by rw [HR.out] <;> first | (simp [*]; done) | (simp [*] <;> intros <;> omega) | (cases nb <;> simp [*]; done) | (cases nb <;> simp [*] <;> intros <;> omega), N2.out⟩
end Evt
end Go.Proofs.YtgfkopimjmggdaaDoor

/- The document's Right of events; the law's code (no condition beyond the sizes). -/
namespace Go.Proofs.YtgfkopimjmggdaaDoor
set_option linter.unusedSimpArgs false
set_option linter.unusedVariables false
open Go.ChangeShapes Go.WideShapes Go.RowKit Go.Deep
namespace Evt
open Val (elemB rightB nameB JoinC)
open Vec Num
attribute [local go_sem ↓] loadDot loadVec loadRow0 storeRow0 loadOnly0 loadOnly1 loadOnly2
theorem past_at (e : Ev) {i : Nat} (h : i < 16) : e.cs[2 + i]? = some (.int .i64 ((past e).getD i 0)) := by
  rcases (show i = 0 ∨ i = 1 ∨ i = 2 ∨ i = 3 ∨ i = 4 ∨ i = 5 ∨ i = 6 ∨ i = 7 ∨ i = 8 ∨ i = 9 ∨ i = 10 ∨ i = 11 ∨ i = 12 ∨ i = 13 ∨ i = 14 ∨ i = 15 by omega) with rfl | rfl | rfl | rfl | rfl | rfl | rfl | rfl | rfl | rfl | rfl | rfl | rfl | rfl | rfl | rfl <;> rfl
/-- what the document asks of an event's texts -/
structure Small (e : Ev) : Prop where
  t : ∀ i, (e.t i).size ≤ 1000
theorem Came.small {e : Ev} (h : Came e) (hs : total e ≤ 300) : Small e := by
  refine ⟨fun i => ?_⟩
  unfold total at hs
  by_cases h1 : i = 20
  · subst h1; omega
  by_cases h2 : i = 21
  · subst h2; omega
  by_cases h3 : i = 22
  · subst h3; omega
  by_cases h4 : i = 23
  · subst h4; omega
  by_cases h5 : i = 26
  · subst h5; omega
  · rw [h.no i h1 h2 h3 h4 h5]; decide
set_option maxHeartbeats 20000000 in
set_option maxRecDepth 20000 in
theorem rrightE (w : World) (e : Ev) (h : Small e) : Calls Tryd.prog 22 #[e.val] w fun x w' => x = .returned (.bool (rightE e)) ∧ New w w' := by
  have a1 := (Chg.refl (fun _ => False) w).alloc (.cells e.cs.toArray 35)
  have B1 := Blk.new w 35 e.cs.toArray
  obtain ⟨l0, _, _⟩ := blk_ev B1
  have a2 := a1.alloc (.cells #[.int .i64 (e.n 0), .int .i64 (e.n 1)] 29)
  have B2 := B1.alloc (.cells #[.int .i64 (e.n 0), .int .i64 (e.n 1)] 29)
  have D2 := Blk.new1 w (.cells e.cs.toArray 35) 29 #[.int .i64 (e.n 0), .int .i64 (e.n 1)]
  have d0 := D2.cell 0
  have d1 := D2.cell 1
  simp only [List.getElem?_toArray, List.getElem?_cons_zero, List.getElem?_cons_succ] at d0 d1
  have lv := (blk_ev B2).2.1
  have hg1 := B1.lt
  have hg2 := B2.lt
  have hg3 := D2.lt
  have CC := Lib.hid fun W => rchange W (e.n 18) (e.n 19) (e.t 20) (e.t 21) (e.t 22) (e.t 23) (e.n 24) (e.n 25) (e.t 26) ⟨h.t 20, h.t 21, h.t 22, h.t 23⟩ (h.t 26)
  have N2 := Lib.hid a2
  have HB := Lib.hid (And.intro B2 D2)
  have hr : rightE e = (dotF (e.n 0) (e.n 1) && ((past e).getD (e.n 0).toNat 0 == e.n 1 - 1) && rightF (past e) && chB e) := rfl
  obtain ⟨r, hre⟩ : ∃ r, rightE e = r := ⟨_, rfl⟩
  rw [hre] at hr ⊢
  have HR := Lib.hid hr
  clear a1 B1 a2 B2 D2 h hre hr
  by_cases h1 : 0 ≤ e.n 0
  · by_cases h2 : e.n 0 ≤ 15
    · by_cases h3 : 1 ≤ e.n 1
      · by_cases h4 : e.n 1 ≤ 1048576
        · have hd : dotF (e.n 0) (e.n 1) = true := dotF_true.2 ⟨h1, by omega, h3, h4⟩
          have HR := Lib.hid (show r = ((past e).getD (e.n 0).toNat 0 == e.n 1 - 1 && rightF (past e) && chB e) by rw [HR.out, hd, Bool.true_and])
          have hm1 : ¬ e.n 0 < 0 := by omega
          have hm2 : ¬ (15 : Int) < e.n 0 := by omega
          have hm3 : ¬ e.n 1 < 1 := by omega
          have hm4 : ¬ (1048576 : Int) < e.n 1 := by omega
          have hw1 : IntKind.i64.wrap (e.n 1 - 1) = e.n 1 - 1 := IntWalk.i64_in _ (by omega)
          obtain ⟨i, hi⟩ : ∃ i, (e.n 0).toNat = i := ⟨_, rfl⟩
          have hi16 : i < 16 := by omega
          have hd16 : e.n 0 < 16 := by omega
          clear hd
          go_enter Tryd.func22, Tryd.ntmps22
          go_wp2_with fail
          go_loopw [28] (fun iv wr => ∃ k : Nat, k ≤ 16 ∧ iv = .int .i64 k ∧ Hid (rightF (past e) = rightF ((past e).drop k)) ∧ wr = (w.alloc (.cells e.cs.toArray 35)).alloc (.cells #[.int .i64 (e.n 0), .int .i64 (e.n 1)] 29)) (fun iv _ => 16 - (intOf iv).toNat)
          case atStart => exact ⟨0, by omega, rfl, rfl, rfl⟩
          case round =>
            obtain ⟨k, hk, rfl, hs, rfl⟩ := hrel
            by_cases hlt : k < 16
            · have hix : ∀ W, (Instr.index 23 (.agg #[.int .i64 (e.n 2), .int .i64 (e.n 3), .int .i64 (e.n 4), .int .i64 (e.n 5), .int .i64 (e.n 6), .int .i64 (e.n 7), .int .i64 (e.n 8), .int .i64 (e.n 9), .int .i64 (e.n 10), .int .i64 (e.n 11), .int .i64 (e.n 12), .int .i64 (e.n 13), .int .i64 (e.n 14), .int .i64 (e.n 15), .int .i64 (e.n 16), .int .i64 (e.n 17)]) (.int .i64 (k : Int))).run Tryd.prog W = .ok (.int .i64 ((past e).getD k 0)) W := fun W => Vec.ixV (xs := past e) rfl hlt W
              have hdc := drop_cons (show k < (past e).length from hlt)
              rw [hdc] at hs
              have hki : (k : Int) < 16 := by omega
              obtain ⟨x, hx⟩ : ∃ x, (past e).getD k 0 = x := ⟨_, rfl⟩
              rw [hx] at hs
              simp only [hx] at hix
              clear hdc hx
              by_cases h5 : x < 0
              · have hf : rightF (x :: (past e).drop (k + 1)) = false := by
                  have : decide (0 ≤ x) = false := by simp; omega
                  simp [rightF, this]
                have HF := Lib.hid (show r = false by rw [HR.out, hs.out, hf]; simp)
                clear hf
                go_wp2_with fail
                go_ret
                exact ⟨by rw [HF.out] <;> rfl, N2.out⟩
              · by_cases h6 : 1048576 < x
                · have hf : rightF (x :: (past e).drop (k + 1)) = false := by
                    have : decide (x ≤ 1048576) = false := by simp; omega
                    simp [rightF, this]
                  have HF := Lib.hid (show r = false by rw [HR.out, hs.out, hf]; simp)
                  clear hf
                  go_wp2_with fail
                  go_ret
                  exact ⟨by rw [HF.out] <;> rfl, N2.out⟩
                · have hf : rightF (x :: (past e).drop (k + 1)) = rightF ((past e).drop (k + 1)) := by
                    have h7 : decide (0 ≤ x) = true := by simp; omega
                    have h8 : decide (x ≤ 1048576) = true := by simp; omega
                    simp [rightF, h7, h8]
                  have HF := Lib.hid (hs.out.trans hf)
                  have hw2 : IntKind.i64.wrap ((k : Int) + 1) = (k : Int) + 1 := IntWalk.i64_in _ (by omega)
                  clear hf hs
                  go_wp2_with fail
                  go_roundw
                  case rel => exact ⟨k + 1, by omega, by go_num, HF, by first | rfl | exact True.intro⟩
                  case measure => simp [intOf]; omega
            · have hf : rightF (past e) = true := by
                rw [hs.out, show k = 16 by omega]
                rfl
              have hgi : ¬ ((k : Int) < 16) := by omega
              have HR := Lib.hid (show r = ((past e).getD (e.n 0).toNat 0 == e.n 1 - 1 && chB e) by rw [HR.out, hf, Bool.and_true])
              have ca := fun x : ChgW (fun _ => False) ((w.alloc (.cells e.cs.toArray 35)).alloc (.cells #[.int .i64 (e.n 0), .int .i64 (e.n 1)] 29)) => (HB.out.1.chg x.chg id).cell (2 + i)
              have db := fun x : ChgW (fun _ => False) ((w.alloc (.cells e.cs.toArray 35)).alloc (.cells #[.int .i64 (e.n 0), .int .i64 (e.n 1)] 29)) => (HB.out.2.chg x.chg id)
              have e0 := fun x => (db x).cell 0
              have e1 := fun x => (db x).cell 1
              have em := fun x : ChgW (fun _ => False) ((w.alloc (.cells e.cs.toArray 35)).alloc (.cells #[.int .i64 (e.n 0), .int .i64 (e.n 1)] 29)) => blk_ev (HB.out.1.chg x.chg id)
              have f18 := fun x => (em x).2.2.1
              have f19 := fun x => (em x).2.2.2.1
              have f24 := fun x => (em x).2.2.2.2
              simp only [List.getElem?_toArray, past_at e hi16] at ca
              simp only [List.getElem?_toArray, List.getElem?_cons_zero, List.getElem?_cons_succ] at e0 e1
              obtain ⟨y, hy⟩ : ∃ y, (past e).getD i 0 = y := ⟨_, rfl⟩
              simp only [hy] at ca
              have HR := Lib.hid (show r = (y == e.n 1 - 1 && chB e) by rw [HR.out, hi, hy])
              obtain ⟨z, hz⟩ : ∃ z, e.n 1 - 1 = z := ⟨_, rfl⟩
              rw [hz] at HR hw1
              obtain ⟨cb, hcb⟩ : ∃ z, chB e = z := ⟨_, rfl⟩
              have CC := CC.out
              rw [hcb] at HR
              simp only [show changeB (e.n 18) (e.n 19) (e.t 20).data.toList (e.t 21).data.toList (e.t 22).data.toList (e.t 23).data.toList (e.n 24) (e.n 25) (e.t 26).data.toList = cb from hcb] at CC
              have CC := Lib.hid CC
              clear hs hf hcb hk hlt em db hy d0 d1 lv l0
              by_cases hyz : y = z
              · subst hyz
                have HR := Lib.hid (show r = cb by rw [HR.out]; simp)
                go_wp2_with fail
                refine wp_region_chg (fun _ => False) (by kernel_rfl) (by kernel_rfl) ?_
                repeat (go_big_quiet_step ((go_at_call 34; with_reducible exact calls_new (CC.out _))))
                refine wpQuiet_nil ?_
                rintro ⟨wq, hq⟩
                simp only []
                go_wp2_with fail
                go_ret
                exact ⟨by rw [HR.out] <;> rfl, N2.out.trans hq fun _ _ => id⟩
              · have hyz2 : (y == z) = false := by simpa using hyz
                have HR := Lib.hid (show r = false by rw [HR.out, hyz2]; rfl)
                go_wp2_with fail
                refine wp_region_chg (fun _ => False) (by kernel_rfl) (by kernel_rfl) ?_
                repeat (go_big_quiet_step ((go_at_call 34; with_reducible exact calls_new (CC.out _))))
                refine wpQuiet_nil ?_
                rintro ⟨wq, hq⟩
                simp only []
                go_wp2_with fail
                go_ret
                exact ⟨by rw [HR.out] <;> rfl, N2.out.trans hq fun _ _ => id⟩
        · have HF := Lib.hid (show r = false by rw [HR.out, dotF_false (by omega)]; rfl)
          go_enter Tryd.func22, Tryd.ntmps22
          go_wp2_with fail
          go_ret
          exact ⟨by rw [HF.out] <;> simp [*], N2.out⟩
      · have HF := Lib.hid (show r = false by rw [HR.out, dotF_false (by omega)]; rfl)
        go_enter Tryd.func22, Tryd.ntmps22
        go_wp2_with fail
        go_ret
        exact ⟨by rw [HF.out] <;> simp [*], N2.out⟩
    · have HF := Lib.hid (show r = false by rw [HR.out, dotF_false (by omega)]; rfl)
      go_enter Tryd.func22, Tryd.ntmps22
      go_wp2_with fail
      go_ret
      exact ⟨by rw [HF.out] <;> simp [*], N2.out⟩
  · have HF := Lib.hid (show r = false by rw [HR.out, dotF_false (by omega)]; rfl)
    go_enter Tryd.func22, Tryd.ntmps22
    go_wp2_with fail
    go_ret
    exact ⟨by rw [HF.out] <;> simp [*], N2.out⟩
end Evt
end Go.Proofs.YtgfkopimjmggdaaDoor

/- The law's few and one: what they compute (no condition beyond the sizes). -/
namespace Go.Proofs.YtgfkopimjmggdaaDoor
set_option linter.unusedSimpArgs false
set_option linter.unusedVariables false
open Go.ChangeShapes Go.WideShapes Go.RowKit Go.Deep
namespace Acc
open Val (JoinC)
open Evt Vec Num Stable Cmp
attribute [local go_sem ↓] Evt.loadDot Evt.loadVec Evt.loadRow0 Evt.storeRow0 Evt.loadOnly0 Evt.loadOnly1 Evt.loadOnly2 Vec.loadRow0 Vec.storeRow0
def fewB (l : List Ev) : Bool := l.all (fun e => decide (total e ≤ 300)) && decide ((l.length : Int) ≤ 80)
theorem few_true {l : List Ev} (h : fewB l = true) : (∀ e ∈ l, total e ≤ 300) ∧ l.length ≤ 80 := by
  unfold fewB at h
  simp only [Bool.and_eq_true, List.all_eq_true, decide_eq_true_eq] at h
  exact ⟨h.1, by omega⟩
set_option maxHeartbeats 8000000 in
set_option maxRecDepth 20000 in
theorem few_ (w : World) (A : Option Addr) (n c : Nat) (F : Nat → Prop) (l : List Ev) (hr : Reads w F 27 A n (rowE l)) (hF : ∀ b, F b → b < w.heap.size) (hl : l.length = n) (hn : l.length ≤ 140737488351232) (hc : ∀ e ∈ l, Came e) :
    Calls Tryd.prog 8 #[.slice A n c] w fun x w' => x = .returned (.bool (fewB l)) ∧ New w w' := by
  have HV := Lib.hid (And.intro hr (And.intro hF hl))
  have HC := Lib.hid hc
  obtain ⟨r, hr⟩ : ∃ r, fewB l = r := ⟨_, rfl⟩
  rw [hr]
  have HR := Lib.hid (show r = (l.all (fun e => decide (total e ≤ 300)) && decide ((n : Int) ≤ 80)) by rw [← hr, ← hl]; rfl)
  rw [hl] at hn
  clear hc hl hr hF
  go_enter Tryd.func8, Tryd.ntmps8
  go_wp2_with fail
  go_loopw [7] (fun iv wr => ∃ i : Nat, i ≤ n ∧ iv = .int .i64 i ∧ Hid (l.all (fun e => decide (total e ≤ 300)) = (l.drop i).all (fun e => decide (total e ≤ 300))) ∧ New w wr) (fun iv _ => n - (intOf iv).toNat)
  case atStart => exact ⟨0, by omega, by go_num, rfl, Chg.refl _ _⟩
  case round =>
    obtain ⟨i, hi, rfl, hrest, hnw⟩ := hrel
    by_cases hlt : i < n
    · have hli : (i : Int) < n := by omega
      obtain ⟨e, he⟩ : ∃ e, l[i]? = some e := ⟨_, List.getElem?_eq_getElem (by rw [HV.out.2.2]; exact hlt)⟩
      have hall : l.all (fun e => decide (total e ≤ 300)) = (decide (total e ≤ 300) && (l.drop (i + 1)).all (fun e => decide (total e ≤ 300))) := by rw [hrest.out, drop_ev he]; rfl
      obtain ⟨ad, rfl, hld⟩ := ld_ev (HV.out.1.chg hnw fun b hb => ⟨HV.out.2.1 b hb, id⟩) he
      have hz : ∀ W, (zeroValue 35).run Tryd.prog W = .ok (.agg zero.cs.toArray) W := fun W => by kernel_rfl
      obtain ⟨W, hst, b3, n3, g3⟩ := new_ev wr e
      have hw : IntKind.i64.wrap ((i : Int) + 1) = (i : Int) + 1 := IntWalk.i64_in _ (by omega)
      have hl3 := ldE b3
      have gw := b3.lt
      obtain ⟨q, hq⟩ : ∃ q, decide (total e ≤ 300) = q := ⟨_, rfl⟩
      have C := short W e (HC.out e (List.mem_of_getElem? he))
      rw [hq] at C hall
      have C := Lib.hid C
      have HNW := Lib.hid (hnw.trans n3 fun _ _ => id)
      cases q
      · have HF := Lib.hid (show r = false by rw [HR.out, hall]; rfl)
        clear hq hrest hall he n3 b3 hnw
        go_wp2_with fail
        with_reducible refine C.out.mono ?_
        rintro x w4 ⟨rfl, n4⟩
        go_wp2_with fail
        go_ret
        exact ⟨by rw [HF.out] <;> rfl, HNW.out.trans n4 fun _ _ => id⟩
      · have HY := Lib.hid hall
        clear hq hrest hall he n3 b3 hnw
        go_wp2_with fail
        with_reducible refine C.out.mono ?_
        rintro x w4 ⟨rfl, n4⟩
        have HQ := Lib.hid (HNW.out.trans n4 fun _ _ => id)
        clear n4
        go_wp2_with fail
        go_roundw
        case rel => exact ⟨i + 1, by omega, by go_num, Lib.hid (HY.out.trans (Bool.true_and _)), HQ.out⟩
        case measure => simp [intOf]; omega
    · have hgi : ¬ ((i : Int) < n) := by omega
      have HT := Lib.hid (show r = decide ((n : Int) ≤ 80) by rw [HR.out, hrest.out, List.drop_of_length_le (by rw [HV.out.2.2]; omega)]; rfl)
      have HQ := Lib.hid hnw
      clear hnw hrest
      go_wp2_with fail
      go_ret
      exact ⟨by rw [HT.out] <;> rfl, HQ.out⟩
end Acc
end Go.Proofs.YtgfkopimjmggdaaDoor

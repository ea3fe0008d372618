/-
  The document's numbers and texts as bytes (no condition beyond the sizes).
-/
import Derived.Test.YtkmkpdmjdfbpjaaGreatDoorJ14
/- The document's events: which elements, changes and events may be (no condition beyond the sizes). -/
namespace Go.Proofs.YtkmkpdmjdfbpjaaGreatDoor
set_option linter.unusedSimpArgs false
set_option linter.unusedVariables false
open Go.ChangeShapes Go.WideShapes Go.RowKit Go.Deep
namespace Evt
open Val (elemB rightB nameB JoinC)
open Vec Num
attribute [local go_sem ↓] loadDot loadVec loadRow0 storeRow0 loadOnly0 loadOnly1 loadOnly2
theorem rname_new (W : World) (s : ByteArray) (hs : s.size < 4294967281) : Calls Tryz.prog 76 #[.string s] W fun e w' => e = .returned (.bool (nameB s.data.toList)) ∧ New W w' :=
  (Val.rname W s hs).mono fun e w' ⟨h1, h2⟩ => ⟨h1, h2 ▸ Chg.refl _ _⟩
theorem str_cases (b : ByteArray) : b = ⟨#[]⟩ ∨ (¬ b.toList = [] ∧ ¬ b.data.toList = [] ∧ (b.toList == []) = false ∧ (b.toList == (⟨#[]⟩ : ByteArray).toList) = false) := by
  by_cases h : b.data.toList = []
  · left
    apply ByteArray.ext
    exact Array.toList_inj.1 (by rw [h])
  · right
    have h2 : ¬ b.toList = [] := by rw [Val.toList_data]; exact h
    refine ⟨h2, h, by simpa using h2, ?_⟩
    rw [beq_eq_false_iff_ne, Val.toList_data, Val.toList_data]
    exact h
set_option maxHeartbeats 20000000 in
set_option maxRecDepth 20000 in
theorem relem (w : World) (k : Int) (a b c d : ByteArray) (hs : a.size ≤ 1000 ∧ b.size ≤ 1000 ∧ c.size ≤ 1000 ∧ d.size ≤ 1000) :
    Calls Tryz.prog 65 #[elemV k a b c d] w fun e w' => e = .returned (.bool (elemB k a.data.toList b.data.toList c.data.toList d.data.toList)) ∧ New w w' := by
  have CA := Lib.hid fun x : ChgW (fun _ => False) (w.alloc (.cells #[.int .i64 k, .string a, .string b, .string c, .string d] 44)) => rname_new x.W a (by omega)
  have CB := Lib.hid fun x : ChgW (fun _ => False) (w.alloc (.cells #[.int .i64 k, .string a, .string b, .string c, .string d] 44)) => rname_new x.W b (by omega)
  have CC := Lib.hid fun x : ChgW (fun _ => False) (w.alloc (.cells #[.int .i64 k, .string a, .string b, .string c, .string d] 44)) => rname_new x.W c (by omega)
  have CD := Lib.hid fun x : ChgW (fun _ => False) (w.alloc (.cells #[.int .i64 k, .string a, .string b, .string c, .string d] 44)) => rname_new x.W d (by omega)
  have B1 := Blk.new w 44 #[.int .i64 k, .string a, .string b, .string c, .string d]
  have N1 := Lib.hid ((Chg.refl (fun _ => False) w).alloc (.cells #[.int .i64 k, .string a, .string b, .string c, .string d] 44))
  have HB := Lib.hid B1
  have d1 := fun x : ChgW (fun _ => False) (w.alloc (.cells #[.int .i64 k, .string a, .string b, .string c, .string d] 44)) => (B1.chg x.chg id).cell 1
  have d2 := fun x : ChgW (fun _ => False) (w.alloc (.cells #[.int .i64 k, .string a, .string b, .string c, .string d] 44)) => (B1.chg x.chg id).cell 2
  have d3 := fun x : ChgW (fun _ => False) (w.alloc (.cells #[.int .i64 k, .string a, .string b, .string c, .string d] 44)) => (B1.chg x.chg id).cell 3
  have d4 := fun x : ChgW (fun _ => False) (w.alloc (.cells #[.int .i64 k, .string a, .string b, .string c, .string d] 44)) => (B1.chg x.chg id).cell 4
  simp only [List.getElem?_toArray, List.getElem?_cons_zero, List.getElem?_cons_succ] at d1 d2 d3 d4
  obtain ⟨r, hr⟩ : ∃ r, elemB k a.data.toList b.data.toList c.data.toList d.data.toList = r := ⟨_, rfl⟩
  rw [hr]
  obtain ⟨na, hna⟩ : ∃ x, nameB a.data.toList = x := ⟨_, rfl⟩
  obtain ⟨nb, hnb⟩ : ∃ x, nameB b.data.toList = x := ⟨_, rfl⟩
  obtain ⟨nc, hnc⟩ : ∃ x, nameB c.data.toList = x := ⟨_, rfl⟩
  obtain ⟨nd, hnd⟩ : ∃ x, nameB d.data.toList = x := ⟨_, rfl⟩
  unfold elemB at hr
  rw [hna, hnb, hnc, hnd] at hr
  rw [hna] at CA
  rw [hnb] at CB
  rw [hnc] at CC
  rw [hnd] at CD
  have HR := Lib.hid hr.symm
  have g1 := B1.lt
  clear hna hnb hnc hnd hs B1 hr
  by_cases h1 : k = 1
  · subst h1
    cases na
    · go_enter Tryz.func65, Tryz.ntmps65
      go_wp2_with fail
      refine wp_region_chg (fun _ => False) (by kernel_rfl) (by kernel_rfl) ?_
      repeat (go_big_quiet_step ((go_at_call 76; first | with_reducible exact calls_new (CA.out _) | with_reducible exact calls_new (CB.out _) | with_reducible exact calls_new (CC.out _) | with_reducible exact calls_new (CD.out _))))
      refine wpQuiet_nil ?_
      rintro ⟨wq, hq⟩
      simp only []
      have HN := Lib.hid (N1.out.trans hq fun _ _ => id)
      have hB2 := HB.out.chg hq id
      have q0 := hB2.cell 0
      have q2 := hB2.cell 2
      have q3 := hB2.cell 3
      have q4 := hB2.cell 4
      simp only [List.getElem?_toArray, List.getElem?_cons_zero, List.getElem?_cons_succ] at q0 q2 q3 q4
      have qg := hB2.lt
      clear hq hB2
      go_wp2_with fail
      go_ret
      exact ⟨by rw [HR.out] <;> simp [*], HN.out⟩
    · skip
      rcases str_cases b with rfl | ⟨z1b, z2b, z3b, z4b⟩
      · skip
        rcases str_cases c with rfl | ⟨z1c, z2c, z3c, z4c⟩
        · skip
          rcases str_cases d with rfl | ⟨z1d, z2d, z3d, z4d⟩
          · skip
            go_enter Tryz.func65, Tryz.ntmps65
            go_wp2_with fail
            refine wp_region_chg (fun _ => False) (by kernel_rfl) (by kernel_rfl) ?_
            repeat (go_big_quiet_step ((go_at_call 76; first | with_reducible exact calls_new (CA.out _) | with_reducible exact calls_new (CB.out _) | with_reducible exact calls_new (CC.out _) | with_reducible exact calls_new (CD.out _))))
            refine wpQuiet_nil ?_
            rintro ⟨wq, hq⟩
            simp only []
            have HN := Lib.hid (N1.out.trans hq fun _ _ => id)
            have hB2 := HB.out.chg hq id
            have q0 := hB2.cell 0
            have q2 := hB2.cell 2
            have q3 := hB2.cell 3
            have q4 := hB2.cell 4
            simp only [List.getElem?_toArray, List.getElem?_cons_zero, List.getElem?_cons_succ] at q0 q2 q3 q4
            have qg := hB2.lt
            clear hq hB2
            go_wp2_with fail
            go_ret
            exact ⟨by rw [HR.out] <;> simp [*], HN.out⟩
          · go_enter Tryz.func65, Tryz.ntmps65
            go_wp2_with fail
            refine wp_region_chg (fun _ => False) (by kernel_rfl) (by kernel_rfl) ?_
            repeat (go_big_quiet_step ((go_at_call 76; first | with_reducible exact calls_new (CA.out _) | with_reducible exact calls_new (CB.out _) | with_reducible exact calls_new (CC.out _) | with_reducible exact calls_new (CD.out _))))
            refine wpQuiet_nil ?_
            rintro ⟨wq, hq⟩
            simp only []
            have HN := Lib.hid (N1.out.trans hq fun _ _ => id)
            have hB2 := HB.out.chg hq id
            have q0 := hB2.cell 0
            have q2 := hB2.cell 2
            have q3 := hB2.cell 3
            have q4 := hB2.cell 4
            simp only [List.getElem?_toArray, List.getElem?_cons_zero, List.getElem?_cons_succ] at q0 q2 q3 q4
            have qg := hB2.lt
            clear hq hB2
            go_wp2_with fail
            go_ret
            exact ⟨by rw [HR.out] <;> simp [*], HN.out⟩
        · go_enter Tryz.func65, Tryz.ntmps65
          go_wp2_with fail
          refine wp_region_chg (fun _ => False) (by kernel_rfl) (by kernel_rfl) ?_
          repeat (go_big_quiet_step ((go_at_call 76; first | with_reducible exact calls_new (CA.out _) | with_reducible exact calls_new (CB.out _) | with_reducible exact calls_new (CC.out _) | with_reducible exact calls_new (CD.out _))))
          refine wpQuiet_nil ?_
          rintro ⟨wq, hq⟩
          simp only []
          have HN := Lib.hid (N1.out.trans hq fun _ _ => id)
          have hB2 := HB.out.chg hq id
          have q0 := hB2.cell 0
          have q2 := hB2.cell 2
          have q3 := hB2.cell 3
          have q4 := hB2.cell 4
          simp only [List.getElem?_toArray, List.getElem?_cons_zero, List.getElem?_cons_succ] at q0 q2 q3 q4
          have qg := hB2.lt
          clear hq hB2
          go_wp2_with fail
          go_ret
          exact ⟨by rw [HR.out] <;> simp [*], HN.out⟩
      · go_enter Tryz.func65, Tryz.ntmps65
        go_wp2_with fail
        refine wp_region_chg (fun _ => False) (by kernel_rfl) (by kernel_rfl) ?_
        repeat (go_big_quiet_step ((go_at_call 76; first | with_reducible exact calls_new (CA.out _) | with_reducible exact calls_new (CB.out _) | with_reducible exact calls_new (CC.out _) | with_reducible exact calls_new (CD.out _))))
        refine wpQuiet_nil ?_
        rintro ⟨wq, hq⟩
        simp only []
        have HN := Lib.hid (N1.out.trans hq fun _ _ => id)
        have hB2 := HB.out.chg hq id
        have q0 := hB2.cell 0
        have q2 := hB2.cell 2
        have q3 := hB2.cell 3
        have q4 := hB2.cell 4
        simp only [List.getElem?_toArray, List.getElem?_cons_zero, List.getElem?_cons_succ] at q0 q2 q3 q4
        have qg := hB2.lt
        clear hq hB2
        go_wp2_with fail
        go_ret
        exact ⟨by rw [HR.out] <;> simp [*], HN.out⟩
  by_cases h2 : k = 2
  · subst h2
    cases na
    · go_enter Tryz.func65, Tryz.ntmps65
      go_wp2_with fail
      refine wp_region_chg (fun _ => False) (by kernel_rfl) (by kernel_rfl) ?_
      repeat (go_big_quiet_step ((go_at_call 76; first | with_reducible exact calls_new (CA.out _) | with_reducible exact calls_new (CB.out _) | with_reducible exact calls_new (CC.out _) | with_reducible exact calls_new (CD.out _))))
      refine wpQuiet_nil ?_
      rintro ⟨wq, hq⟩
      simp only []
      have HN := Lib.hid (N1.out.trans hq fun _ _ => id)
      have hB2 := HB.out.chg hq id
      have q0 := hB2.cell 0
      have q2 := hB2.cell 2
      have q3 := hB2.cell 3
      have q4 := hB2.cell 4
      simp only [List.getElem?_toArray, List.getElem?_cons_zero, List.getElem?_cons_succ] at q0 q2 q3 q4
      have qg := hB2.lt
      clear hq hB2
      go_wp2_with fail
      go_ret
      exact ⟨by rw [HR.out] <;> simp [*], HN.out⟩
    · skip
      rcases str_cases b with rfl | ⟨z1b, z2b, z3b, z4b⟩
      · skip
        rcases str_cases c with rfl | ⟨z1c, z2c, z3c, z4c⟩
        · skip
          cases nd
          · go_enter Tryz.func65, Tryz.ntmps65
            go_wp2_with fail
            refine wp_region_chg (fun _ => False) (by kernel_rfl) (by kernel_rfl) ?_
            repeat (go_big_quiet_step ((go_at_call 76; first | with_reducible exact calls_new (CA.out _) | with_reducible exact calls_new (CB.out _) | with_reducible exact calls_new (CC.out _) | with_reducible exact calls_new (CD.out _))))
            refine wpQuiet_nil ?_
            rintro ⟨wq, hq⟩
            simp only []
            have HN := Lib.hid (N1.out.trans hq fun _ _ => id)
            have hB2 := HB.out.chg hq id
            have q0 := hB2.cell 0
            have q2 := hB2.cell 2
            have q3 := hB2.cell 3
            have q4 := hB2.cell 4
            simp only [List.getElem?_toArray, List.getElem?_cons_zero, List.getElem?_cons_succ] at q0 q2 q3 q4
            have qg := hB2.lt
            clear hq hB2
            go_wp2_with fail
            go_ret
            exact ⟨by rw [HR.out] <;> simp [*], HN.out⟩
          · skip
            go_enter Tryz.func65, Tryz.ntmps65
            go_wp2_with fail
            refine wp_region_chg (fun _ => False) (by kernel_rfl) (by kernel_rfl) ?_
            repeat (go_big_quiet_step ((go_at_call 76; first | with_reducible exact calls_new (CA.out _) | with_reducible exact calls_new (CB.out _) | with_reducible exact calls_new (CC.out _) | with_reducible exact calls_new (CD.out _))))
            refine wpQuiet_nil ?_
            rintro ⟨wq, hq⟩
            simp only []
            have HN := Lib.hid (N1.out.trans hq fun _ _ => id)
            have hB2 := HB.out.chg hq id
            have q0 := hB2.cell 0
            have q2 := hB2.cell 2
            have q3 := hB2.cell 3
            have q4 := hB2.cell 4
            simp only [List.getElem?_toArray, List.getElem?_cons_zero, List.getElem?_cons_succ] at q0 q2 q3 q4
            have qg := hB2.lt
            clear hq hB2
            go_wp2_with fail
            go_ret
            exact ⟨by rw [HR.out] <;> simp [*], HN.out⟩
        · go_enter Tryz.func65, Tryz.ntmps65
          go_wp2_with fail
          refine wp_region_chg (fun _ => False) (by kernel_rfl) (by kernel_rfl) ?_
          repeat (go_big_quiet_step ((go_at_call 76; first | with_reducible exact calls_new (CA.out _) | with_reducible exact calls_new (CB.out _) | with_reducible exact calls_new (CC.out _) | with_reducible exact calls_new (CD.out _))))
          refine wpQuiet_nil ?_
          rintro ⟨wq, hq⟩
          simp only []
          have HN := Lib.hid (N1.out.trans hq fun _ _ => id)
          have hB2 := HB.out.chg hq id
          have q0 := hB2.cell 0
          have q2 := hB2.cell 2
          have q3 := hB2.cell 3
          have q4 := hB2.cell 4
          simp only [List.getElem?_toArray, List.getElem?_cons_zero, List.getElem?_cons_succ] at q0 q2 q3 q4
          have qg := hB2.lt
          clear hq hB2
          go_wp2_with fail
          go_ret
          exact ⟨by rw [HR.out] <;> simp [*], HN.out⟩
      · go_enter Tryz.func65, Tryz.ntmps65
        go_wp2_with fail
        refine wp_region_chg (fun _ => False) (by kernel_rfl) (by kernel_rfl) ?_
        repeat (go_big_quiet_step ((go_at_call 76; first | with_reducible exact calls_new (CA.out _) | with_reducible exact calls_new (CB.out _) | with_reducible exact calls_new (CC.out _) | with_reducible exact calls_new (CD.out _))))
        refine wpQuiet_nil ?_
        rintro ⟨wq, hq⟩
        simp only []
        have HN := Lib.hid (N1.out.trans hq fun _ _ => id)
        have hB2 := HB.out.chg hq id
        have q0 := hB2.cell 0
        have q2 := hB2.cell 2
        have q3 := hB2.cell 3
        have q4 := hB2.cell 4
        simp only [List.getElem?_toArray, List.getElem?_cons_zero, List.getElem?_cons_succ] at q0 q2 q3 q4
        have qg := hB2.lt
        clear hq hB2
        go_wp2_with fail
        go_ret
        exact ⟨by rw [HR.out] <;> simp [*], HN.out⟩
  by_cases h4 : k = 4
  · subst h4
    cases na
    · go_enter Tryz.func65, Tryz.ntmps65
      go_wp2_with fail
      refine wp_region_chg (fun _ => False) (by kernel_rfl) (by kernel_rfl) ?_
      repeat (go_big_quiet_step ((go_at_call 76; first | with_reducible exact calls_new (CA.out _) | with_reducible exact calls_new (CB.out _) | with_reducible exact calls_new (CC.out _) | with_reducible exact calls_new (CD.out _))))
      refine wpQuiet_nil ?_
      rintro ⟨wq, hq⟩
      simp only []
      have HN := Lib.hid (N1.out.trans hq fun _ _ => id)
      have hB2 := HB.out.chg hq id
      have q0 := hB2.cell 0
      have q2 := hB2.cell 2
      have q3 := hB2.cell 3
      have q4 := hB2.cell 4
      simp only [List.getElem?_toArray, List.getElem?_cons_zero, List.getElem?_cons_succ] at q0 q2 q3 q4
      have qg := hB2.lt
      clear hq hB2
      go_wp2_with fail
      go_ret
      exact ⟨by rw [HR.out] <;> simp [*], HN.out⟩
    · skip
      rcases str_cases b with rfl | ⟨z1b, z2b, z3b, z4b⟩
      · skip
        rcases str_cases c with rfl | ⟨z1c, z2c, z3c, z4c⟩
        · skip
          cases nd
          · go_enter Tryz.func65, Tryz.ntmps65
            go_wp2_with fail
            refine wp_region_chg (fun _ => False) (by kernel_rfl) (by kernel_rfl) ?_
            repeat (go_big_quiet_step ((go_at_call 76; first | with_reducible exact calls_new (CA.out _) | with_reducible exact calls_new (CB.out _) | with_reducible exact calls_new (CC.out _) | with_reducible exact calls_new (CD.out _))))
            refine wpQuiet_nil ?_
            rintro ⟨wq, hq⟩
            simp only []
            have HN := Lib.hid (N1.out.trans hq fun _ _ => id)
            have hB2 := HB.out.chg hq id
            have q0 := hB2.cell 0
            have q2 := hB2.cell 2
            have q3 := hB2.cell 3
            have q4 := hB2.cell 4
            simp only [List.getElem?_toArray, List.getElem?_cons_zero, List.getElem?_cons_succ] at q0 q2 q3 q4
            have qg := hB2.lt
            clear hq hB2
            go_wp2_with fail
            go_ret
            exact ⟨by rw [HR.out] <;> simp [*], HN.out⟩
          · skip
            go_enter Tryz.func65, Tryz.ntmps65
            go_wp2_with fail
            refine wp_region_chg (fun _ => False) (by kernel_rfl) (by kernel_rfl) ?_
            repeat (go_big_quiet_step ((go_at_call 76; first | with_reducible exact calls_new (CA.out _) | with_reducible exact calls_new (CB.out _) | with_reducible exact calls_new (CC.out _) | with_reducible exact calls_new (CD.out _))))
            refine wpQuiet_nil ?_
            rintro ⟨wq, hq⟩
            simp only []
            have HN := Lib.hid (N1.out.trans hq fun _ _ => id)
            have hB2 := HB.out.chg hq id
            have q0 := hB2.cell 0
            have q2 := hB2.cell 2
            have q3 := hB2.cell 3
            have q4 := hB2.cell 4
            simp only [List.getElem?_toArray, List.getElem?_cons_zero, List.getElem?_cons_succ] at q0 q2 q3 q4
            have qg := hB2.lt
            clear hq hB2
            go_wp2_with fail
            go_ret
            exact ⟨by rw [HR.out] <;> simp [*], HN.out⟩
        · go_enter Tryz.func65, Tryz.ntmps65
          go_wp2_with fail
          refine wp_region_chg (fun _ => False) (by kernel_rfl) (by kernel_rfl) ?_
          repeat (go_big_quiet_step ((go_at_call 76; first | with_reducible exact calls_new (CA.out _) | with_reducible exact calls_new (CB.out _) | with_reducible exact calls_new (CC.out _) | with_reducible exact calls_new (CD.out _))))
          refine wpQuiet_nil ?_
          rintro ⟨wq, hq⟩
          simp only []
          have HN := Lib.hid (N1.out.trans hq fun _ _ => id)
          have hB2 := HB.out.chg hq id
          have q0 := hB2.cell 0
          have q2 := hB2.cell 2
          have q3 := hB2.cell 3
          have q4 := hB2.cell 4
          simp only [List.getElem?_toArray, List.getElem?_cons_zero, List.getElem?_cons_succ] at q0 q2 q3 q4
          have qg := hB2.lt
          clear hq hB2
          go_wp2_with fail
          go_ret
          exact ⟨by rw [HR.out] <;> simp [*], HN.out⟩
      · go_enter Tryz.func65, Tryz.ntmps65
        go_wp2_with fail
        refine wp_region_chg (fun _ => False) (by kernel_rfl) (by kernel_rfl) ?_
        repeat (go_big_quiet_step ((go_at_call 76; first | with_reducible exact calls_new (CA.out _) | with_reducible exact calls_new (CB.out _) | with_reducible exact calls_new (CC.out _) | with_reducible exact calls_new (CD.out _))))
        refine wpQuiet_nil ?_
        rintro ⟨wq, hq⟩
        simp only []
        have HN := Lib.hid (N1.out.trans hq fun _ _ => id)
        have hB2 := HB.out.chg hq id
        have q0 := hB2.cell 0
        have q2 := hB2.cell 2
        have q3 := hB2.cell 3
        have q4 := hB2.cell 4
        simp only [List.getElem?_toArray, List.getElem?_cons_zero, List.getElem?_cons_succ] at q0 q2 q3 q4
        have qg := hB2.lt
        clear hq hB2
        go_wp2_with fail
        go_ret
        exact ⟨by rw [HR.out] <;> simp [*], HN.out⟩
  by_cases h3 : k = 3
  · subst h3
    cases na
    · go_enter Tryz.func65, Tryz.ntmps65
      go_wp2_with fail
      refine wp_region_chg (fun _ => False) (by kernel_rfl) (by kernel_rfl) ?_
      repeat (go_big_quiet_step ((go_at_call 76; first | with_reducible exact calls_new (CA.out _) | with_reducible exact calls_new (CB.out _) | with_reducible exact calls_new (CC.out _) | with_reducible exact calls_new (CD.out _))))
      refine wpQuiet_nil ?_
      rintro ⟨wq, hq⟩
      simp only []
      have HN := Lib.hid (N1.out.trans hq fun _ _ => id)
      have hB2 := HB.out.chg hq id
      have q0 := hB2.cell 0
      have q2 := hB2.cell 2
      have q3 := hB2.cell 3
      have q4 := hB2.cell 4
      simp only [List.getElem?_toArray, List.getElem?_cons_zero, List.getElem?_cons_succ] at q0 q2 q3 q4
      have qg := hB2.lt
      clear hq hB2
      go_wp2_with fail
      go_ret
      exact ⟨by rw [HR.out] <;> simp [*], HN.out⟩
    · skip
      cases nb
      · go_enter Tryz.func65, Tryz.ntmps65
        go_wp2_with fail
        refine wp_region_chg (fun _ => False) (by kernel_rfl) (by kernel_rfl) ?_
        repeat (go_big_quiet_step ((go_at_call 76; first | with_reducible exact calls_new (CA.out _) | with_reducible exact calls_new (CB.out _) | with_reducible exact calls_new (CC.out _) | with_reducible exact calls_new (CD.out _))))
        refine wpQuiet_nil ?_
        rintro ⟨wq, hq⟩
        simp only []
        have HN := Lib.hid (N1.out.trans hq fun _ _ => id)
        have hB2 := HB.out.chg hq id
        have q0 := hB2.cell 0
        have q2 := hB2.cell 2
        have q3 := hB2.cell 3
        have q4 := hB2.cell 4
        simp only [List.getElem?_toArray, List.getElem?_cons_zero, List.getElem?_cons_succ] at q0 q2 q3 q4
        have qg := hB2.lt
        clear hq hB2
        go_wp2_with fail
        go_ret
        exact ⟨by rw [HR.out] <;> simp [*], HN.out⟩
      · skip
        cases nc
        · go_enter Tryz.func65, Tryz.ntmps65
          go_wp2_with fail
          refine wp_region_chg (fun _ => False) (by kernel_rfl) (by kernel_rfl) ?_
          repeat (go_big_quiet_step ((go_at_call 76; first | with_reducible exact calls_new (CA.out _) | with_reducible exact calls_new (CB.out _) | with_reducible exact calls_new (CC.out _) | with_reducible exact calls_new (CD.out _))))
          refine wpQuiet_nil ?_
          rintro ⟨wq, hq⟩
          simp only []
          have HN := Lib.hid (N1.out.trans hq fun _ _ => id)
          have hB2 := HB.out.chg hq id
          have q0 := hB2.cell 0
          have q2 := hB2.cell 2
          have q3 := hB2.cell 3
          have q4 := hB2.cell 4
          simp only [List.getElem?_toArray, List.getElem?_cons_zero, List.getElem?_cons_succ] at q0 q2 q3 q4
          have qg := hB2.lt
          clear hq hB2
          go_wp2_with fail
          go_ret
          exact ⟨by rw [HR.out] <;> simp [*], HN.out⟩
        · skip
          rcases str_cases d with rfl | ⟨z1d, z2d, z3d, z4d⟩
          · skip
            go_enter Tryz.func65, Tryz.ntmps65
            go_wp2_with fail
            refine wp_region_chg (fun _ => False) (by kernel_rfl) (by kernel_rfl) ?_
            repeat (go_big_quiet_step ((go_at_call 76; first | with_reducible exact calls_new (CA.out _) | with_reducible exact calls_new (CB.out _) | with_reducible exact calls_new (CC.out _) | with_reducible exact calls_new (CD.out _))))
            refine wpQuiet_nil ?_
            rintro ⟨wq, hq⟩
            simp only []
            have HN := Lib.hid (N1.out.trans hq fun _ _ => id)
            have hB2 := HB.out.chg hq id
            have q0 := hB2.cell 0
            have q2 := hB2.cell 2
            have q3 := hB2.cell 3
            have q4 := hB2.cell 4
            simp only [List.getElem?_toArray, List.getElem?_cons_zero, List.getElem?_cons_succ] at q0 q2 q3 q4
            have qg := hB2.lt
            clear hq hB2
            go_wp2_with fail
            go_ret
            exact ⟨by rw [HR.out] <;> simp [*], HN.out⟩
          · go_enter Tryz.func65, Tryz.ntmps65
            go_wp2_with fail
            refine wp_region_chg (fun _ => False) (by kernel_rfl) (by kernel_rfl) ?_
            repeat (go_big_quiet_step ((go_at_call 76; first | with_reducible exact calls_new (CA.out _) | with_reducible exact calls_new (CB.out _) | with_reducible exact calls_new (CC.out _) | with_reducible exact calls_new (CD.out _))))
            refine wpQuiet_nil ?_
            rintro ⟨wq, hq⟩
            simp only []
            have HN := Lib.hid (N1.out.trans hq fun _ _ => id)
            have hB2 := HB.out.chg hq id
            have q0 := hB2.cell 0
            have q2 := hB2.cell 2
            have q3 := hB2.cell 3
            have q4 := hB2.cell 4
            simp only [List.getElem?_toArray, List.getElem?_cons_zero, List.getElem?_cons_succ] at q0 q2 q3 q4
            have qg := hB2.lt
            clear hq hB2
            go_wp2_with fail
            go_ret
            exact ⟨by rw [HR.out] <;> simp [*], HN.out⟩
  by_cases h5 : k = 5
  · subst h5
    cases na
    · go_enter Tryz.func65, Tryz.ntmps65
      go_wp2_with fail
      refine wp_region_chg (fun _ => False) (by kernel_rfl) (by kernel_rfl) ?_
      repeat (go_big_quiet_step ((go_at_call 76; first | with_reducible exact calls_new (CA.out _) | with_reducible exact calls_new (CB.out _) | with_reducible exact calls_new (CC.out _) | with_reducible exact calls_new (CD.out _))))
      refine wpQuiet_nil ?_
      rintro ⟨wq, hq⟩
      simp only []
      have HN := Lib.hid (N1.out.trans hq fun _ _ => id)
      have hB2 := HB.out.chg hq id
      have q0 := hB2.cell 0
      have q2 := hB2.cell 2
      have q3 := hB2.cell 3
      have q4 := hB2.cell 4
      simp only [List.getElem?_toArray, List.getElem?_cons_zero, List.getElem?_cons_succ] at q0 q2 q3 q4
      have qg := hB2.lt
      clear hq hB2
      go_wp2_with fail
      go_ret
      exact ⟨by rw [HR.out] <;> simp [*], HN.out⟩
    · skip
      cases nb
      · go_enter Tryz.func65, Tryz.ntmps65
        go_wp2_with fail
        refine wp_region_chg (fun _ => False) (by kernel_rfl) (by kernel_rfl) ?_
        repeat (go_big_quiet_step ((go_at_call 76; first | with_reducible exact calls_new (CA.out _) | with_reducible exact calls_new (CB.out _) | with_reducible exact calls_new (CC.out _) | with_reducible exact calls_new (CD.out _))))
        refine wpQuiet_nil ?_
        rintro ⟨wq, hq⟩
        simp only []
        have HN := Lib.hid (N1.out.trans hq fun _ _ => id)
        have hB2 := HB.out.chg hq id
        have q0 := hB2.cell 0
        have q2 := hB2.cell 2
        have q3 := hB2.cell 3
        have q4 := hB2.cell 4
        simp only [List.getElem?_toArray, List.getElem?_cons_zero, List.getElem?_cons_succ] at q0 q2 q3 q4
        have qg := hB2.lt
        clear hq hB2
        go_wp2_with fail
        go_ret
        exact ⟨by rw [HR.out] <;> simp [*], HN.out⟩
      · skip
        cases nc
        · go_enter Tryz.func65, Tryz.ntmps65
          go_wp2_with fail
          refine wp_region_chg (fun _ => False) (by kernel_rfl) (by kernel_rfl) ?_
          repeat (go_big_quiet_step ((go_at_call 76; first | with_reducible exact calls_new (CA.out _) | with_reducible exact calls_new (CB.out _) | with_reducible exact calls_new (CC.out _) | with_reducible exact calls_new (CD.out _))))
          refine wpQuiet_nil ?_
          rintro ⟨wq, hq⟩
          simp only []
          have HN := Lib.hid (N1.out.trans hq fun _ _ => id)
          have hB2 := HB.out.chg hq id
          have q0 := hB2.cell 0
          have q2 := hB2.cell 2
          have q3 := hB2.cell 3
          have q4 := hB2.cell 4
          simp only [List.getElem?_toArray, List.getElem?_cons_zero, List.getElem?_cons_succ] at q0 q2 q3 q4
          have qg := hB2.lt
          clear hq hB2
          go_wp2_with fail
          go_ret
          exact ⟨by rw [HR.out] <;> simp [*], HN.out⟩
        · skip
          cases nd
          · go_enter Tryz.func65, Tryz.ntmps65
            go_wp2_with fail
            refine wp_region_chg (fun _ => False) (by kernel_rfl) (by kernel_rfl) ?_
            repeat (go_big_quiet_step ((go_at_call 76; first | with_reducible exact calls_new (CA.out _) | with_reducible exact calls_new (CB.out _) | with_reducible exact calls_new (CC.out _) | with_reducible exact calls_new (CD.out _))))
            refine wpQuiet_nil ?_
            rintro ⟨wq, hq⟩
            simp only []
            have HN := Lib.hid (N1.out.trans hq fun _ _ => id)
            have hB2 := HB.out.chg hq id
            have q0 := hB2.cell 0
            have q2 := hB2.cell 2
            have q3 := hB2.cell 3
            have q4 := hB2.cell 4
            simp only [List.getElem?_toArray, List.getElem?_cons_zero, List.getElem?_cons_succ] at q0 q2 q3 q4
            have qg := hB2.lt
            clear hq hB2
            go_wp2_with fail
            go_ret
            exact ⟨by rw [HR.out] <;> simp [*], HN.out⟩
          · skip
            go_enter Tryz.func65, Tryz.ntmps65
            go_wp2_with fail
            refine wp_region_chg (fun _ => False) (by kernel_rfl) (by kernel_rfl) ?_
            repeat (go_big_quiet_step ((go_at_call 76; first | with_reducible exact calls_new (CA.out _) | with_reducible exact calls_new (CB.out _) | with_reducible exact calls_new (CC.out _) | with_reducible exact calls_new (CD.out _))))
            refine wpQuiet_nil ?_
            rintro ⟨wq, hq⟩
            simp only []
            have HN := Lib.hid (N1.out.trans hq fun _ _ => id)
            have hB2 := HB.out.chg hq id
            have q0 := hB2.cell 0
            have q2 := hB2.cell 2
            have q3 := hB2.cell 3
            have q4 := hB2.cell 4
            simp only [List.getElem?_toArray, List.getElem?_cons_zero, List.getElem?_cons_succ] at q0 q2 q3 q4
            have qg := hB2.lt
            clear hq hB2
            go_wp2_with fail
            go_ret
            exact ⟨by rw [HR.out] <;> simp [*], HN.out⟩
  have b1 : (k == 1) = false := by simpa using h1
  have b2 : (k == 2) = false := by simpa using h2
  have b3 : (k == 3) = false := by simpa using h3
  have b4 : (k == 4) = false := by simpa using h4
  have b5 : (k == 5) = false := by simpa using h5
  go_enter Tryz.func65, Tryz.ntmps65
  go_wp2_with fail
  refine wp_region_chg (fun _ => False) (by kernel_rfl) (by kernel_rfl) ?_
  repeat (go_big_quiet_step ((go_at_call 76; first | with_reducible exact calls_new (CA.out _) | with_reducible exact calls_new (CB.out _) | with_reducible exact calls_new (CC.out _) | with_reducible exact calls_new (CD.out _))))
  refine wpQuiet_nil ?_
  rintro ⟨wq, hq⟩
  simp only []
  have HN := Lib.hid (N1.out.trans hq fun _ _ => id)
  have hB2 := HB.out.chg hq id
  have q0 := hB2.cell 0
  have q2 := hB2.cell 2
  have q3 := hB2.cell 3
  have q4 := hB2.cell 4
  simp only [List.getElem?_toArray, List.getElem?_cons_zero, List.getElem?_cons_succ] at q0 q2 q3 q4
  have qg := hB2.lt
  clear hq hB2
  go_wp2_with fail
  go_ret
  exact ⟨by rw [HR.out] <;> simp [*], HN.out⟩
end Evt
end Go.Proofs.YtkmkpdmjdfbpjaaGreatDoor

/- The document's changes and events: which may be (no condition beyond the sizes). -/
namespace Go.Proofs.YtkmkpdmjdfbpjaaGreatDoor
set_option linter.unusedSimpArgs false
set_option linter.unusedVariables false
open Go.ChangeShapes Go.WideShapes Go.RowKit Go.Deep
namespace Evt
open Val (elemB rightB nameB JoinC)
open Vec Num
attribute [local go_sem ↓] loadDot loadVec loadRow0 storeRow0 loadOnly0 loadOnly1 loadOnly2
set_option maxHeartbeats 20000000 in
set_option maxRecDepth 20000 in
theorem rchange (w : World) (op k : Int) (a b c d : ByteArray) (vk vn : Int) (vt : ByteArray) (hs : a.size ≤ 1000 ∧ b.size ≤ 1000 ∧ c.size ≤ 1000 ∧ d.size ≤ 1000) (ht : vt.size ≤ 1000) :
    Calls Tryz.prog 42 #[chV op k a b c d vk vn vt] w fun e w' => e = .returned (.bool (changeB op k a.data.toList b.data.toList c.data.toList d.data.toList vk vn vt.data.toList)) ∧ New w w' := by
  have n1 := (Chg.refl (fun _ => False) w).alloc (.cells #[.int .i64 op, .int .i64 k, .string a, .string b, .string c, .string d, .int .i64 vk, .int .i64 vn, .string vt] 78)
  have B1 := Blk.new w 78 #[.int .i64 op, .int .i64 k, .string a, .string b, .string c, .string d, .int .i64 vk, .int .i64 vn, .string vt]
  have l1 := (blk_ch B1).1
  have CE := Lib.hid fun W => relem W k a b c d hs
  have CSc := Lib.hid fun W => Val.rright W vk vn vt ht
  have hz : ∀ W, (zeroValue 46).run Tryz.prog W = .ok (.agg #[.int .i64 0, .int .i64 0, .string ⟨#[]⟩]) W := fun W => by kernel_rfl
  have hq := eql_none vk vn vt
  have hel : elemB k a.data.toList b.data.toList c.data.toList d.data.toList = true → keptB k = decide (4 ≤ k) := fun h => by
    have := (elem_len h).1
    unfold keptB
    rw [Bool.eq_iff_iff]
    simp
    omega
  obtain ⟨eb, heb⟩ : ∃ x, elemB k a.data.toList b.data.toList c.data.toList d.data.toList = x := ⟨_, rfl⟩
  obtain ⟨rb, hrb⟩ : ∃ x, rightB vk vn vt.data.toList = x := ⟨_, rfl⟩
  obtain ⟨nb, hnb⟩ : ∃ x, noneB vk vn vt.data.toList = x := ⟨_, rfl⟩
  have hr : changeB op k a.data.toList b.data.toList c.data.toList d.data.toList vk vn vt.data.toList = (eb && (if op = 1 ∨ op = 2 then nb && !keptB k else if op = 3 then keptB k && (decide (1 ≤ vk) && decide (vk ≤ 3) && rb) else if op = 4 then nb && keptB k else false)) := by
    unfold changeB scalarB
    rw [heb, hnb, hrb]
  rw [hr]
  simp only [heb] at CE hel
  simp only [hrb] at CSc
  rw [hnb] at hq
  have N1 := Lib.hid n1
  have HB := Lib.hid B1
  have hg1 := B1.lt
  clear n1 B1 heb hrb hnb hs ht hr
  cases eb
  · rw [Bool.false_and]
    go_enter Tryz.func42, Tryz.ntmps42
    go_wp2_with fail
    with_reducible refine (CE.out _).mono ?_
    rintro e w2 ⟨rfl, n2⟩
    have N2 := Lib.hid (N1.out.trans n2 fun _ _ => id)
    clear n2
    go_wp2_with fail
    go_ret
    exact ⟨rfl, N2.out⟩
  rw [Bool.true_and, hel rfl]
  obtain ⟨r, hr⟩ : ∃ r, (if op = 1 ∨ op = 2 then nb && !decide (4 ≤ k) else if op = 3 then decide (4 ≤ k) && (decide (1 ≤ vk) && decide (vk ≤ 3) && rb) else if op = 4 then nb && decide (4 ≤ k) else false) = r := ⟨_, rfl⟩
  rw [hr]
  have HR := Lib.hid hr.symm
  clear hr hel
  go_enter Tryz.func42, Tryz.ntmps42
  go_wp2_with fail
  with_reducible refine (CE.out _).mono ?_
  rintro e w2 ⟨rfl, n2⟩
  have HB2 := Lib.hid (HB.out.chg n2 id)
  have N2 := Lib.hid (N1.out.trans n2 fun _ _ => id)
  have m2 := (blk_ch HB2.out).2.1
  have c2 := (blk_ch HB2.out).2.2.1
  have c3 := HB2.out.cell 1
  have c4 := HB2.out.cell 6
  simp only [List.getElem?_toArray, List.getElem?_cons_zero, List.getElem?_cons_succ] at c3 c4
  have g2 := HB2.out.lt
  clear n2 l1 CE
  by_cases h4 : 4 ≤ k
  · by_cases o1 : op = 1
    · subst o1
      go_wp2_with fail
      go_ret
      exact ⟨by rw [HR.out] <;> first | (simp [*]; done) | (simp [*] <;> intros <;> omega) | (cases nb <;> simp [*]; done) | (cases nb <;> simp [*] <;> intros <;> omega), N2.out⟩
    by_cases o2 : op = 2
    · subst o2
      go_wp2_with fail
      go_ret
      exact ⟨by rw [HR.out] <;> first | (simp [*]; done) | (simp [*] <;> intros <;> omega) | (cases nb <;> simp [*]; done) | (cases nb <;> simp [*] <;> intros <;> omega), N2.out⟩
    by_cases o3 : op = 3
    · subst o3
      by_cases v1 : 1 ≤ vk
      · by_cases v3 : vk ≤ 3
        · go_wp2_with fail
          with_reducible refine (CSc.out _).mono ?_
          rintro e w3 ⟨rfl, n3⟩
          have N2 := Lib.hid (N2.out.trans n3 fun _ _ => id)
          clear n3
          go_wp2_with fail
          go_ret
          exact ⟨by rw [HR.out] <;> first | (simp [*]; done) | (simp [*] <;> intros <;> omega) | (cases nb <;> simp [*]; done) | (cases nb <;> simp [*] <;> intros <;> omega), N2.out⟩
        · go_wp2_with fail
          go_ret
          exact ⟨by rw [HR.out] <;> first | (simp [*]; done) | (simp [*] <;> intros <;> omega) | (cases nb <;> simp [*]; done) | (cases nb <;> simp [*] <;> intros <;> omega), N2.out⟩
      · go_wp2_with fail
        go_ret
        exact ⟨by rw [HR.out] <;> first | (simp [*]; done) | (simp [*] <;> intros <;> omega) | (cases nb <;> simp [*]; done) | (cases nb <;> simp [*] <;> intros <;> omega), N2.out⟩
    by_cases o4 : op = 4
    · subst o4
      go_wp2_with fail
      go_ret
      exact ⟨by rw [HR.out] <;> first | (simp [*]; done) | (simp [*] <;> intros <;> omega) | (cases nb <;> simp [*]; done) | (cases nb <;> simp [*] <;> intros <;> omega), N2.out⟩
    have b1 : (op == 1) = false := by simpa using o1
    have b2 : (op == 2) = false := by simpa using o2
    have b3 : (op == 3) = false := by simpa using o3
    have b4 : (op == 4) = false := by simpa using o4
    go_wp2_with fail
    go_ret
    exact ⟨by rw [HR.out] <;> first | (simp [*]; done) | (simp [*] <;> intros <;> omega) | (cases nb <;> simp [*]; done) | (cases nb <;> simp [*] <;> intros <;> omega), N2.out⟩
  · by_cases o1 : op = 1
    · subst o1
      go_wp2_with fail
      go_ret
      exact ⟨by rw [HR.out] <;> first | (simp [*]; done) | (simp [*] <;> intros <;> omega) | (cases nb <;> simp [*]; done) | (cases nb <;> simp [*] <;> intros <;> omega), N2.out⟩
    by_cases o2 : op = 2
    · subst o2
      go_wp2_with fail
      go_ret
      exact ⟨by rw [HR.out] <;> first | (simp [*]; done) | (simp [*] <;> intros <;> omega) | (cases nb <;> simp [*]; done) | (cases nb <;> simp [*] <;> intros <;> omega), N2.out⟩
    by_cases o3 : op = 3
    · subst o3
      go_wp2_with fail
      go_ret
      exact ⟨by rw [HR.out] <;> first | (simp [*]; done) | (simp [*] <;> intros <;> omega) | (cases nb <;> simp [*]; done) | (cases nb <;> simp [*] <;> intros <;> omega), N2.out⟩
    by_cases o4 : op = 4
    · subst o4
      go_wp2_with fail
      go_ret
      exact ⟨by rw [HR.out] <;> first | (simp [*]; done) | (simp [*] <;> intros <;> omega) | (cases nb <;> simp [*]; done) | (cases nb <;> simp [*] <;> intros <;> omega), N2.out⟩
    have b1 : (op == 1) = false := by simpa using o1
    have b2 : (op == 2) = false := by simpa using o2
    have b3 : (op == 3) = false := by simpa using o3
    have b4 : (op == 4) = false := by simpa using o4
    go_wp2_with fail
    go_ret
    exact ⟨by rw [HR.out] <;> first | (simp [*]; done) | (simp [*] <;> intros <;> omega) | (cases nb <;> simp [*]; done) | (cases nb <;> simp [*] <;> intros <;> omega), N2.out⟩
end Evt
end Go.Proofs.YtkmkpdmjdfbpjaaGreatDoor

/- The document's Right of events; the law's code (no condition beyond the sizes). -/
namespace Go.Proofs.YtkmkpdmjdfbpjaaGreatDoor
set_option linter.unusedSimpArgs false
set_option linter.unusedVariables false
open Go.ChangeShapes Go.WideShapes Go.RowKit Go.Deep
namespace Evt
open Val (elemB rightB nameB JoinC)
open Vec Num
attribute [local go_sem ↓] loadDot loadVec loadRow0 storeRow0 loadOnly0 loadOnly1 loadOnly2
theorem past_at (e : Ev) {i : Nat} (h : i < 16) : e.cs[2 + i]? = some (.int .i64 ((past e).getD i 0)) := by
  rcases (show i = 0 ∨ i = 1 ∨ i = 2 ∨ i = 3 ∨ i = 4 ∨ i = 5 ∨ i = 6 ∨ i = 7 ∨ i = 8 ∨ i = 9 ∨ i = 10 ∨ i = 11 ∨ i = 12 ∨ i = 13 ∨ i = 14 ∨ i = 15 by omega) with rfl | rfl | rfl | rfl | rfl | rfl | rfl | rfl | rfl | rfl | rfl | rfl | rfl | rfl | rfl | rfl <;> rfl
/-- what the document asks of an event's texts -/
structure Small (e : Ev) : Prop where
  t : ∀ i, (e.t i).size ≤ 1000
theorem Came.small {e : Ev} (h : Came e) (hs : total e ≤ 300) : Small e := by
  refine ⟨fun i => ?_⟩
  unfold total at hs
  by_cases h1 : i = 20
  · subst h1; omega
  by_cases h2 : i = 21
  · subst h2; omega
  by_cases h3 : i = 22
  · subst h3; omega
  by_cases h4 : i = 23
  · subst h4; omega
  by_cases h5 : i = 26
  · subst h5; omega
  · rw [h.no i h1 h2 h3 h4 h5]; decide
set_option maxHeartbeats 20000000 in
set_option maxRecDepth 20000 in
theorem rrightE (w : World) (e : Ev) (h : Small e) : Calls Tryz.prog 21 #[e.val] w fun x w' => x = .returned (.bool (rightE e)) ∧ New w w' := by
  have a1 := (Chg.refl (fun _ => False) w).alloc (.cells e.cs.toArray 48)
  have B1 := Blk.new w 48 e.cs.toArray
  obtain ⟨l0, _, _⟩ := blk_ev B1
  have a2 := a1.alloc (.cells #[.int .i64 (e.n 0), .int .i64 (e.n 1)] 42)
  have B2 := B1.alloc (.cells #[.int .i64 (e.n 0), .int .i64 (e.n 1)] 42)
  have D2 := Blk.new1 w (.cells e.cs.toArray 48) 42 #[.int .i64 (e.n 0), .int .i64 (e.n 1)]
  have d0 := D2.cell 0
  have d1 := D2.cell 1
  simp only [List.getElem?_toArray, List.getElem?_cons_zero, List.getElem?_cons_succ] at d0 d1
  have lv := (blk_ev B2).2.1
  have hg1 := B1.lt
  have hg2 := B2.lt
  have hg3 := D2.lt
  have CC := Lib.hid fun W => rchange W (e.n 18) (e.n 19) (e.t 20) (e.t 21) (e.t 22) (e.t 23) (e.n 24) (e.n 25) (e.t 26) ⟨h.t 20, h.t 21, h.t 22, h.t 23⟩ (h.t 26)
  have N2 := Lib.hid a2
  have HB := Lib.hid (And.intro B2 D2)
  have hr : rightE e = (dotF (e.n 0) (e.n 1) && ((past e).getD (e.n 0).toNat 0 == e.n 1 - 1) && rightF (past e) && chB e) := rfl
  obtain ⟨r, hre⟩ : ∃ r, rightE e = r := ⟨_, rfl⟩
  rw [hre] at hr ⊢
  have HR := Lib.hid hr
  clear a1 B1 a2 B2 D2 h hre hr
  by_cases h1 : 0 ≤ e.n 0
  · by_cases h2 : e.n 0 ≤ 15
    · by_cases h3 : 1 ≤ e.n 1
      · by_cases h4 : e.n 1 ≤ 1048576
        · have hd : dotF (e.n 0) (e.n 1) = true := dotF_true.2 ⟨h1, by omega, h3, h4⟩
          have HR := Lib.hid (show r = ((past e).getD (e.n 0).toNat 0 == e.n 1 - 1 && rightF (past e) && chB e) by rw [HR.out, hd, Bool.true_and])
          have hm1 : ¬ e.n 0 < 0 := by omega
          have hm2 : ¬ (15 : Int) < e.n 0 := by omega
          have hm3 : ¬ e.n 1 < 1 := by omega
          have hm4 : ¬ (1048576 : Int) < e.n 1 := by omega
          have hw1 : IntKind.i64.wrap (e.n 1 - 1) = e.n 1 - 1 := IntWalk.i64_in _ (by omega)
          obtain ⟨i, hi⟩ : ∃ i, (e.n 0).toNat = i := ⟨_, rfl⟩
          have hi16 : i < 16 := by omega
          have hd16 : e.n 0 < 16 := by omega
          clear hd
          go_enter Tryz.func21, Tryz.ntmps21
          go_wp2_with fail
          go_loopw [28] (fun iv wr => ∃ k : Nat, k ≤ 16 ∧ iv = .int .i64 k ∧ Hid (rightF (past e) = rightF ((past e).drop k)) ∧ wr = (w.alloc (.cells e.cs.toArray 48)).alloc (.cells #[.int .i64 (e.n 0), .int .i64 (e.n 1)] 42)) (fun iv _ => 16 - (intOf iv).toNat)
          case atStart => exact ⟨0, by omega, rfl, rfl, rfl⟩
          case round =>
            obtain ⟨k, hk, rfl, hs, rfl⟩ := hrel
            by_cases hlt : k < 16
            · have hix : ∀ W, (Instr.index 23 (.agg #[.int .i64 (e.n 2), .int .i64 (e.n 3), .int .i64 (e.n 4), .int .i64 (e.n 5), .int .i64 (e.n 6), .int .i64 (e.n 7), .int .i64 (e.n 8), .int .i64 (e.n 9), .int .i64 (e.n 10), .int .i64 (e.n 11), .int .i64 (e.n 12), .int .i64 (e.n 13), .int .i64 (e.n 14), .int .i64 (e.n 15), .int .i64 (e.n 16), .int .i64 (e.n 17)]) (.int .i64 (k : Int))).run Tryz.prog W = .ok (.int .i64 ((past e).getD k 0)) W := fun W => Vec.ixV (xs := past e) rfl hlt W
              have hdc := drop_cons (show k < (past e).length from hlt)
              rw [hdc] at hs
              have hki : (k : Int) < 16 := by omega
              obtain ⟨x, hx⟩ : ∃ x, (past e).getD k 0 = x := ⟨_, rfl⟩
              rw [hx] at hs
              simp only [hx] at hix
              clear hdc hx
              by_cases h5 : x < 0
              · have hf : rightF (x :: (past e).drop (k + 1)) = false := by
                  have : decide (0 ≤ x) = false := by simp; omega
                  simp [rightF, this]
                have HF := Lib.hid (show r = false by rw [HR.out, hs.out, hf]; simp)
                clear hf
                go_wp2_with fail
                go_ret
                exact ⟨by rw [HF.out] <;> rfl, N2.out⟩
              · by_cases h6 : 1048576 < x
                · have hf : rightF (x :: (past e).drop (k + 1)) = false := by
                    have : decide (x ≤ 1048576) = false := by simp; omega
                    simp [rightF, this]
                  have HF := Lib.hid (show r = false by rw [HR.out, hs.out, hf]; simp)
                  clear hf
                  go_wp2_with fail
                  go_ret
                  exact ⟨by rw [HF.out] <;> rfl, N2.out⟩
                · have hf : rightF (x :: (past e).drop (k + 1)) = rightF ((past e).drop (k + 1)) := by
                    have h7 : decide (0 ≤ x) = true := by simp; omega
                    have h8 : decide (x ≤ 1048576) = true := by simp; omega
                    simp [rightF, h7, h8]
                  have HF := Lib.hid (hs.out.trans hf)
                  have hw2 : IntKind.i64.wrap ((k : Int) + 1) = (k : Int) + 1 := IntWalk.i64_in _ (by omega)
                  clear hf hs
                  go_wp2_with fail
                  go_roundw
                  case rel => exact ⟨k + 1, by omega, by go_num, HF, by first | rfl | exact True.intro⟩
                  case measure => simp [intOf]; omega
            · have hf : rightF (past e) = true := by
                rw [hs.out, show k = 16 by omega]
                rfl
              have hgi : ¬ ((k : Int) < 16) := by omega
              have HR := Lib.hid (show r = ((past e).getD (e.n 0).toNat 0 == e.n 1 - 1 && chB e) by rw [HR.out, hf, Bool.and_true])
              have ca := fun x : ChgW (fun _ => False) ((w.alloc (.cells e.cs.toArray 48)).alloc (.cells #[.int .i64 (e.n 0), .int .i64 (e.n 1)] 42)) => (HB.out.1.chg x.chg id).cell (2 + i)
              have db := fun x : ChgW (fun _ => False) ((w.alloc (.cells e.cs.toArray 48)).alloc (.cells #[.int .i64 (e.n 0), .int .i64 (e.n 1)] 42)) => (HB.out.2.chg x.chg id)
              have e0 := fun x => (db x).cell 0
              have e1 := fun x => (db x).cell 1
              have em := fun x : ChgW (fun _ => False) ((w.alloc (.cells e.cs.toArray 48)).alloc (.cells #[.int .i64 (e.n 0), .int .i64 (e.n 1)] 42)) => blk_ev (HB.out.1.chg x.chg id)
              have f18 := fun x => (em x).2.2.1
              have f19 := fun x => (em x).2.2.2.1
              have f24 := fun x => (em x).2.2.2.2
              simp only [List.getElem?_toArray, past_at e hi16] at ca
              simp only [List.getElem?_toArray, List.getElem?_cons_zero, List.getElem?_cons_succ] at e0 e1
              obtain ⟨y, hy⟩ : ∃ y, (past e).getD i 0 = y := ⟨_, rfl⟩
              simp only [hy] at ca
              have HR := Lib.hid (show r = (y == e.n 1 - 1 && chB e) by rw [HR.out, hi, hy])
              obtain ⟨z, hz⟩ : ∃ z, e.n 1 - 1 = z := ⟨_, rfl⟩
              rw [hz] at HR hw1
              obtain ⟨cb, hcb⟩ : ∃ z, chB e = z := ⟨_, rfl⟩
              have CC := CC.out
              rw [hcb] at HR
              simp only [show changeB (e.n 18) (e.n 19) (e.t 20).data.toList (e.t 21).data.toList (e.t 22).data.toList (e.t 23).data.toList (e.n 24) (e.n 25) (e.t 26).data.toList = cb from hcb] at CC
              have CC := Lib.hid CC
              clear hs hf hcb hk hlt em db hy d0 d1 lv l0
              by_cases hyz : y = z
              · subst hyz
                have HR := Lib.hid (show r = cb by rw [HR.out]; simp)
                go_wp2_with fail
                refine wp_region_chg (fun _ => False) (by kernel_rfl) (by kernel_rfl) ?_
                repeat (go_big_quiet_step ((go_at_call 42; with_reducible exact calls_new (CC.out _))))
                refine wpQuiet_nil ?_
                rintro ⟨wq, hq⟩
                simp only []
                go_wp2_with fail
                go_ret
                exact ⟨by rw [HR.out] <;> rfl, N2.out.trans hq fun _ _ => id⟩
              · have hyz2 : (y == z) = false := by simpa using hyz
                have HR := Lib.hid (show r = false by rw [HR.out, hyz2]; rfl)
                go_wp2_with fail
                refine wp_region_chg (fun _ => False) (by kernel_rfl) (by kernel_rfl) ?_
                repeat (go_big_quiet_step ((go_at_call 42; with_reducible exact calls_new (CC.out _))))
                refine wpQuiet_nil ?_
                rintro ⟨wq, hq⟩
                simp only []
                go_wp2_with fail
                go_ret
                exact ⟨by rw [HR.out] <;> rfl, N2.out.trans hq fun _ _ => id⟩
        · have HF := Lib.hid (show r = false by rw [HR.out, dotF_false (by omega)]; rfl)
          go_enter Tryz.func21, Tryz.ntmps21
          go_wp2_with fail
          go_ret
          exact ⟨by rw [HF.out] <;> simp [*], N2.out⟩
      · have HF := Lib.hid (show r = false by rw [HR.out, dotF_false (by omega)]; rfl)
        go_enter Tryz.func21, Tryz.ntmps21
        go_wp2_with fail
        go_ret
        exact ⟨by rw [HF.out] <;> simp [*], N2.out⟩
    · have HF := Lib.hid (show r = false by rw [HR.out, dotF_false (by omega)]; rfl)
      go_enter Tryz.func21, Tryz.ntmps21
      go_wp2_with fail
      go_ret
      exact ⟨by rw [HF.out] <;> simp [*], N2.out⟩
  · have HF := Lib.hid (show r = false by rw [HR.out, dotF_false (by omega)]; rfl)
    go_enter Tryz.func21, Tryz.ntmps21
    go_wp2_with fail
    go_ret
    exact ⟨by rw [HF.out] <;> simp [*], N2.out⟩
end Evt
end Go.Proofs.YtkmkpdmjdfbpjaaGreatDoor

/- The document's numbers and texts as bytes (no condition beyond the sizes). -/
namespace Go.Proofs.YtkmkpdmjdfbpjaaGreatDoor
set_option linter.unusedSimpArgs false
set_option linter.unusedVariables false
open Go.ChangeShapes Go.WideShapes Go.RowKit
namespace Num
set_option maxHeartbeats 4000000 in
set_option maxRecDepth 20000 in
theorem rput (w : World) (base : Nat) (v : Value) (l : List UInt8) (hv : OwnB w base v l) (hbase : base ≤ w.heap.size) (hb : l.length ≤ 1000000000) (n : Int) :
    Calls Tryz.prog 57 #[v, .int .i64 n] w fun e w' => Puts w base v (l ++ putB n) e w' := by
  unfold Puts
  by_cases h0 : n < 0
  · rw [show putB n = [] by unfold putB; rw [if_neg (by omega)], List.append_nil]
    have HV := Lib.hid hv
    clear hv
    go_enter Tryz.func57, Tryz.ntmps57
    go_wp2_with fail
    go_ret
    exact ⟨_, rfl, HV.out, Chg.refl _ _, fun k hk => .inl hk⟩
  by_cases h1 : 4611686018427387904 ≤ n
  · rw [show putB n = [] by unfold putB; rw [if_neg (by omega)], List.append_nil]
    have HV := Lib.hid hv
    clear hv
    go_enter Tryz.func57, Tryz.ntmps57
    go_wp2_with fail
    go_ret
    exact ⟨_, rfl, HV.out, Chg.refl _ _, fun k hk => .inl hk⟩
  obtain ⟨z, rfl⟩ : ∃ z : Nat, n = (z : Int) := ⟨n.toNat, by omega⟩
  rw [putB_at (by omega)]
  have hlen := digits_len 8 z (by omega)
  obtain ⟨A, c, rfl, hc0, hc1, _⟩ := hv.form
  have o1 := OwnB.empty (w := w) (base := w.heap.size) (Nat.le_refl _)
  have a1 := (Chg.refl (fun _ => False) w).alloc (.cells #[] 5)
  have hr1 := Reads.of_own (own_chg (show w.ownsRow base 5 1 (.slice A l.length c) l.length (u8s l) from hv) a1 fun _ _ => id)
  have hs1 : (w.alloc (.cells #[] 5)).heap.size = w.heap.size + 1 := by simp
  have HL := Lib.hid hlen
  have HA1 := Lib.hid a1
  clear hv hlen a1
  obtain ⟨ln, hln⟩ : ∃ n, l.length = n := ⟨_, rfl⟩
  rw [hln] at hr1 ⊢
  have HLN := Lib.hid hln
  have hlnb : ln ≤ 1000000000 := by omega
  clear hln
  go_enter Tryz.func57, Tryz.ntmps57
  go_wp2_with (at_builtin; refine stop ?_)
  delta Stop
  refine append_u8 _ rfl _ _ rfl w.heap.size _ [] rfl o1 _ A ln c l rfl hr1 (by simp; omega) (by omega) ?_
  intro v2 w2 o2 g2 at2
  rw [List.nil_append] at o2
  have n2 : New w w2 := HA1.out.grown g2 fun k e hk => by have := (own_lt o1 e).1; omega
  have H2 := Lib.hid (And.intro o2 n2)
  have hs2 := n2.size
  clear o1 hr1 o2 g2 at2 n2 HA1
  go_wp2_with fail
  go_loopw [1, 5] (fun nv bv wr => ∃ (m : Nat) (done : List UInt8) (v' : Value), bv = v' ∧ nv = .int .i64 m ∧ m ≤ 4611686018427387903 ∧ done ++ digits m = digits z ∧ OwnB wr w.heap.size v' (l ++ done) ∧ New w wr) (fun nv _ _ => (intOf nv).toNat)
  case atStart => exact ⟨z, [], _, rfl, rfl, by omega, rfl, by rw [List.append_nil]; exact H2.out.1, H2.out.2⟩
  case round =>
    obtain ⟨m, done, v', rfl, rfl, hm, hd, ho, hn⟩ := hrel
    have hdl : done.length ≤ 9 := by
      have := congrArg List.length hd
      rw [List.length_append] at this
      have := HL.out
      omega
    have hsz := hn.size
    have hll := HLN.out
    by_cases hlt : m < 128
    · rw [digits_low hlt] at hd
      have hmi : ¬ ((127 : Int) < m) := by omega
      have e : (UInt8.ofNat m).toNat = m := by simp; omega
      have hw : IntKind.u8.wrap (m : Int) = (m : Int) := IntWalk.u8_in _ (by omega)
      have hr := Reads.of_blk (size := 1) (n := 1) (Blk.new wr 5 #[.int .u8 (m : Int)]) rfl
      have hr2 : Reads (wr.alloc (.cells #[.int .u8 (m : Int)] 5)) (fun b => b = wr.heap.size) 1 (some ⟨wr.heap.size, 0, none⟩) 1 (u8s [UInt8.ofNat m]) := by
        rw [lit1, e]; exact hr
      have HD := Lib.hid hd
      have HN := Lib.hid (hn.alloc (.cells #[.int .u8 (m : Int)] 5))
      have hbl : (l ++ done).length + 1 ≤ 1099511627776 := by rw [List.length_append]; omega
      clear hd hn hr e hll
      go_wp2_with (at_builtin; refine stop ?_)
      delta Stop
      refine append_u8 _ rfl _ _ rfl w.heap.size _ (l ++ done) rfl (World.ownsRow.alloc ho _) _ _ 1 1 [UInt8.ofNat m] rfl hr2 hbl (by simp; omega) ?_
      intro v3 w3 o3 g3 a3
      have n3 : New w w3 := HN.out.grown g3 fun k e hk => by have := (own_lt ho e).1; omega
      have HE := Lib.hid (And.intro o3 n3)
      clear o3 g3 a3 hr2 ho n3
      go_wp2_with fail
      go_ret
      exact ⟨_, rfl, own_mono (by have := HE.out.1; rw [List.append_assoc, HD.out] at this; exact this) hbase, HE.out.2.mono fun _ _ => False.elim, fun k hk => .inr (own_lt HE.out.1 hk).1⟩
    · rw [digits_high hlt] at hd
      have hmi : (127 : Int) < m := by omega
      obtain ⟨d, hde⟩ : ∃ d, m % 128 = d := ⟨_, rfl⟩
      have hd128 : d < 128 := by omega
      have h1 : (m : Int).tmod 128 = (d : Int) := by rw [Int.tmod_eq_emod_of_nonneg (by omega), ← hde]; rfl
      rw [hde] at hd
      obtain ⟨q, hqe⟩ : ∃ q, d + 128 = q := ⟨_, rfl⟩
      have h2 : IntKind.i64.wrap ((d : Int) + 128) = (q : Int) := (IntWalk.i64_in _ (by omega)).trans (by omega)
      rw [hqe] at hd
      have e : (UInt8.ofNat q).toNat = q := by simp; omega
      have hw : IntKind.u8.wrap (q : Int) = (q : Int) := IntWalk.u8_in _ (by omega)
      have hr := Reads.of_blk (size := 1) (n := 1) (Blk.new wr 5 #[.int .u8 (q : Int)]) rfl
      have hr2 : Reads (wr.alloc (.cells #[.int .u8 (q : Int)] 5)) (fun b => b = wr.heap.size) 1 (some ⟨wr.heap.size, 0, none⟩) 1 (u8s [UInt8.ofNat q]) := by
        rw [lit1, e]; exact hr
      obtain ⟨p, hpe⟩ : ∃ p, m / 128 = p := ⟨_, rfl⟩
      have hdv : (m : Int).tdiv 128 = (p : Int) := by rw [Int.tdiv_eq_ediv_of_nonneg (by omega), ← hpe]; rfl
      have hwp : IntKind.i64.wrap (p : Int) = (p : Int) := IntWalk.i64_in _ (by omega)
      have hwd : IntKind.i64.wrap (d : Int) = (d : Int) := IntWalk.i64_in _ (by omega)
      rw [hpe] at hd
      have hpm : p < m := by omega
      have HD := Lib.hid hd
      have HN := Lib.hid (hn.alloc (.cells #[.int .u8 (q : Int)] 5))
      have hbl : (l ++ done).length + 1 ≤ 1099511627776 := by rw [List.length_append]; omega
      clear hd hn hr e hpe hqe hde hll
      go_wp2_with (at_builtin; refine stop ?_)
      delta Stop
      refine append_u8 _ rfl _ _ rfl w.heap.size _ (l ++ done) rfl (World.ownsRow.alloc ho _) _ _ 1 1 [UInt8.ofNat q] rfl hr2 hbl (by simp; omega) ?_
      intro v3 w3 o3 g3 a3
      have n3 : New w w3 := HN.out.grown g3 fun k e hk => by have := (own_lt ho e).1; omega
      have HE := Lib.hid (And.intro o3 n3)
      clear o3 g3 a3 hr2 ho n3
      go_wp2_with fail
      go_roundw
      case rel => exact ⟨p, done ++ [UInt8.ofNat q], _, rfl, by first | rfl | (rw [hdv]), by omega, by rw [List.append_assoc]; exact HD.out, by have := HE.out.1; rwa [List.append_assoc] at this, HE.out.2⟩
      case measure => simp [intOf]; omega
set_option maxHeartbeats 4000000 in
set_option maxRecDepth 20000 in
theorem rsigned2 (w : World) (base : Nat) (v : Value) (l : List UInt8) (hv : OwnB w base v l) (hbase : base ≤ w.heap.size) (hb : l.length ≤ 1000000000) (n : Int) :
    Calls Tryz.prog 74 #[v, .int .i64 n] w fun e w' => Puts w base v (l ++ signedB n) e w' := by
  have C := Lib.hid fun m => rput w base v l hv hbase hb m
  have HV := Lib.hid hv
  clear hv
  by_cases h0 : n < -1152921504606846976
  · rw [show signedB n = [] by unfold signedB; rw [if_pos (.inl h0)], List.append_nil]
    unfold Puts at C ⊢
    go_enter Tryz.func74, Tryz.ntmps74
    go_wp2_with fail
    go_ret
    exact ⟨_, rfl, HV.out, Chg.refl _ _, fun k hk => .inl hk⟩
  by_cases h1 : 1152921504606846976 < n
  · rw [show signedB n = [] by unfold signedB; rw [if_pos (.inr h1)], List.append_nil]
    unfold Puts at C ⊢
    go_enter Tryz.func74, Tryz.ntmps74
    go_wp2_with fail
    go_ret
    exact ⟨_, rfl, HV.out, Chg.refl _ _, fun k hk => .inl hk⟩
  by_cases h2 : n < 0
  · have hw1 : IntKind.i64.wrap (-2 * n) = -2 * n := IntWalk.i64_in _ (by omega)
    have hw2 : IntKind.i64.wrap (-2 * n - 1) = -2 * n - 1 := IntWalk.i64_in _ (by omega)
    rw [show signedB n = putB (-2 * n - 1) by unfold signedB; rw [if_neg (by omega), if_pos h2]]
    have C1 := Lib.hid (C.out (-2 * n - 1))
    clear C
    unfold Puts at C1 ⊢
    go_enter Tryz.func74, Tryz.ntmps74
    go_wp2_with fail
    with_reducible refine C1.out.mono ?_
    rintro e w1 ⟨v', rfl, h⟩
    have HE := Lib.hid h
    clear h C1
    go_wp2_with fail
    go_ret
    exact ⟨_, rfl, HE.out⟩
  · have hw1 : IntKind.i64.wrap (2 * n) = 2 * n := IntWalk.i64_in _ (by omega)
    rw [show signedB n = putB (2 * n) by unfold signedB; rw [if_neg (by omega), if_neg h2]]
    have C1 := Lib.hid (C.out (2 * n))
    clear C
    unfold Puts at C1 ⊢
    go_enter Tryz.func74, Tryz.ntmps74
    go_wp2_with fail
    with_reducible refine C1.out.mono ?_
    rintro e w1 ⟨v', rfl, h⟩
    have HE := Lib.hid h
    clear h C1
    go_wp2_with fail
    go_ret
    exact ⟨_, rfl, HE.out⟩
set_option maxHeartbeats 4000000 in
set_option maxRecDepth 20000 in
theorem rtext2 (w : World) (base : Nat) (v : Value) (l : List UInt8) (hv : OwnB w base v l) (hbase : base ≤ w.heap.size) (hb : l.length ≤ 1000000000) (s : ByteArray) (hs : s.size ≤ 1000000000) :
    Calls Tryz.prog 73 #[v, .string s] w fun e w' => Puts w base v (l ++ textB s.data.toList) e w' := by
  have C := Lib.hid (rput w base v l hv hbase hb s.size)
  have HT := Lib.hid (show textB s.data.toList = putB s.size ++ s.data.toList by unfold textB; rw [Array.length_toList]; rfl)
  have hpl := putB_len s.size
  have HPL := Lib.hid hpl
  clear hv hpl
  unfold Puts at C ⊢
  rw [HT.out]
  go_enter Tryz.func73, Tryz.ntmps73
  go_wp2_with fail
  refine C.out.mono ?_
  rintro e w1 ⟨v1, rfl, o1, c1, a1⟩
  have hs1 := c1.size
  have HC := Lib.hid (And.intro c1 a1)
  clear c1 a1 C
  go_wp2_with (at_builtin; refine stop ?_)
  delta Stop
  refine append_str w1 rfl _ _ rfl base _ _ rfl o1 s rfl (by rw [List.length_append]; have := HPL.out; omega) (by omega) ?_
  intro v2 w2 o2 g2 a2
  have c2 := Chg.grown (Chg.refl (fun k => v1.ownBlock = some k) w1) g2 fun g e _ => e
  have HE := Lib.hid (And.intro o2 (And.intro (chg_trans HC.out.1 HC.out.2 c2) (at_trans HC.out.2 (of_at a2) hs1)))
  clear o2 g2 a2 c2 o1
  go_wp2_with fail
  go_ret
  exact ⟨_, rfl, by have := HE.out.1; rwa [List.append_assoc] at this, HE.out.2.1, HE.out.2.2⟩
end Num
end Go.Proofs.YtkmkpdmjdfbpjaaGreatDoor

/-
  The document's events: which elements, changes and events may be (no condition beyond the sizes).
-/
import Derived.Test.YtjkjbbmbfobdaaaDoorShort
import Derived.Test.YtjkjbbmbfobdaaaDoorRef3
namespace Go.Proofs.YtjkjbbmbfobdaaaDoor
set_option linter.unusedSimpArgs false
set_option linter.unusedVariables false
open Go.ChangeShapes Go.WideShapes Go.RowKit Go.Deep
namespace Evt
open Val (elemB rightB nameB JoinC)
open Vec Num
attribute [local go_sem ↓] loadDot loadVec loadRow0 storeRow0 loadOnly0 loadOnly1 loadOnly2
theorem rname_new (W : World) (s : ByteArray) (hs : s.size < 4294967281) : Calls Tryd.prog 37 #[.string s] W fun e w' => e = .returned (.bool (nameB s.data.toList)) ∧ New W w' :=
  (Val.rname W s hs).mono fun e w' ⟨h1, h2⟩ => ⟨h1, h2 ▸ Chg.refl _ _⟩
theorem str_cases (b : ByteArray) : b = ⟨#[]⟩ ∨ (¬ b.toList = [] ∧ ¬ b.data.toList = [] ∧ (b.toList == []) = false ∧ (b.toList == (⟨#[]⟩ : ByteArray).toList) = false) := by
  by_cases h : b.data.toList = []
  · left
    apply ByteArray.ext
    exact Array.toList_inj.1 (by rw [h])
  · right
    have h2 : ¬ b.toList = [] := by rw [Val.toList_data]; exact h
    refine ⟨h2, h, by simpa using h2, ?_⟩
    rw [beq_eq_false_iff_ne, Val.toList_data, Val.toList_data]
    exact h
set_option maxHeartbeats 20000000 in
set_option maxRecDepth 20000 in
theorem relem (w : World) (k : Int) (a b c d : ByteArray) (hs : a.size ≤ 1000 ∧ b.size ≤ 1000 ∧ c.size ≤ 1000 ∧ d.size ≤ 1000) :
    Calls Tryd.prog 22 #[elemV k a b c d] w fun e w' => e = .returned (.bool (elemB k a.data.toList b.data.toList c.data.toList d.data.toList)) ∧ New w w' := by
  have CA := Lib.hid fun x : ChgW (fun _ => False) (w.alloc (.cells #[.int .i64 k, .string a, .string b, .string c, .string d] 27)) => rname_new x.W a (by omega)
  have CB := Lib.hid fun x : ChgW (fun _ => False) (w.alloc (.cells #[.int .i64 k, .string a, .string b, .string c, .string d] 27)) => rname_new x.W b (by omega)
  have CC := Lib.hid fun x : ChgW (fun _ => False) (w.alloc (.cells #[.int .i64 k, .string a, .string b, .string c, .string d] 27)) => rname_new x.W c (by omega)
  have CD := Lib.hid fun x : ChgW (fun _ => False) (w.alloc (.cells #[.int .i64 k, .string a, .string b, .string c, .string d] 27)) => rname_new x.W d (by omega)
  have B1 := Blk.new w 27 #[.int .i64 k, .string a, .string b, .string c, .string d]
  have N1 := Lib.hid ((Chg.refl (fun _ => False) w).alloc (.cells #[.int .i64 k, .string a, .string b, .string c, .string d] 27))
  have HB := Lib.hid B1
  have d1 := fun x : ChgW (fun _ => False) (w.alloc (.cells #[.int .i64 k, .string a, .string b, .string c, .string d] 27)) => (B1.chg x.chg id).cell 1
  have d2 := fun x : ChgW (fun _ => False) (w.alloc (.cells #[.int .i64 k, .string a, .string b, .string c, .string d] 27)) => (B1.chg x.chg id).cell 2
  have d3 := fun x : ChgW (fun _ => False) (w.alloc (.cells #[.int .i64 k, .string a, .string b, .string c, .string d] 27)) => (B1.chg x.chg id).cell 3
  have d4 := fun x : ChgW (fun _ => False) (w.alloc (.cells #[.int .i64 k, .string a, .string b, .string c, .string d] 27)) => (B1.chg x.chg id).cell 4
  simp only [List.getElem?_toArray, List.getElem?_cons_zero, List.getElem?_cons_succ] at d1 d2 d3 d4
  obtain ⟨r, hr⟩ : ∃ r, elemB k a.data.toList b.data.toList c.data.toList d.data.toList = r := ⟨_, rfl⟩
  rw [hr]
  obtain ⟨na, hna⟩ : ∃ x, nameB a.data.toList = x := ⟨_, rfl⟩
  obtain ⟨nb, hnb⟩ : ∃ x, nameB b.data.toList = x := ⟨_, rfl⟩
  obtain ⟨nc, hnc⟩ : ∃ x, nameB c.data.toList = x := ⟨_, rfl⟩
  obtain ⟨nd, hnd⟩ : ∃ x, nameB d.data.toList = x := ⟨_, rfl⟩
  unfold elemB at hr
  rw [hna, hnb, hnc, hnd] at hr
  rw [hna] at CA
  rw [hnb] at CB
  rw [hnc] at CC
  rw [hnd] at CD
  have HR := Lib.hid hr.symm
  have g1 := B1.lt
  clear hna hnb hnc hnd hs B1 hr
  by_cases h1 : k = 1
  · subst h1
    cases na
    · go_enter Tryd.func22, Tryd.ntmps22
      go_wp2_with fail
      refine wp_region_chg (fun _ => False) (by kernel_rfl) (by kernel_rfl) ?_
      repeat (go_big_quiet_step ((go_at_call 37; first | with_reducible exact calls_new (CA.out _) | with_reducible exact calls_new (CB.out _) | with_reducible exact calls_new (CC.out _) | with_reducible exact calls_new (CD.out _))))
      refine wpQuiet_nil ?_
      rintro ⟨wq, hq⟩
      simp only []
      have HN := Lib.hid (N1.out.trans hq fun _ _ => id)
      have hB2 := HB.out.chg hq id
      have q0 := hB2.cell 0
      have q2 := hB2.cell 2
      have q3 := hB2.cell 3
      have q4 := hB2.cell 4
      simp only [List.getElem?_toArray, List.getElem?_cons_zero, List.getElem?_cons_succ] at q0 q2 q3 q4
      have qg := hB2.lt
      clear hq hB2
      go_wp2_with fail
      go_ret
      exact ⟨by rw [HR.out] <;> simp [*], HN.out⟩
    · skip
      rcases str_cases b with rfl | ⟨z1b, z2b, z3b, z4b⟩
      · skip
        rcases str_cases c with rfl | ⟨z1c, z2c, z3c, z4c⟩
        · skip
          rcases str_cases d with rfl | ⟨z1d, z2d, z3d, z4d⟩
          · skip
            go_enter Tryd.func22, Tryd.ntmps22
            go_wp2_with fail
            refine wp_region_chg (fun _ => False) (by kernel_rfl) (by kernel_rfl) ?_
            repeat (go_big_quiet_step ((go_at_call 37; first | with_reducible exact calls_new (CA.out _) | with_reducible exact calls_new (CB.out _) | with_reducible exact calls_new (CC.out _) | with_reducible exact calls_new (CD.out _))))
            refine wpQuiet_nil ?_
            rintro ⟨wq, hq⟩
            simp only []
            have HN := Lib.hid (N1.out.trans hq fun _ _ => id)
            have hB2 := HB.out.chg hq id
            have q0 := hB2.cell 0
            have q2 := hB2.cell 2
            have q3 := hB2.cell 3
            have q4 := hB2.cell 4
            simp only [List.getElem?_toArray, List.getElem?_cons_zero, List.getElem?_cons_succ] at q0 q2 q3 q4
            have qg := hB2.lt
            clear hq hB2
            go_wp2_with fail
            go_ret
            exact ⟨by rw [HR.out] <;> simp [*], HN.out⟩
          · go_enter Tryd.func22, Tryd.ntmps22
            go_wp2_with fail
            refine wp_region_chg (fun _ => False) (by kernel_rfl) (by kernel_rfl) ?_
            repeat (go_big_quiet_step ((go_at_call 37; first | with_reducible exact calls_new (CA.out _) | with_reducible exact calls_new (CB.out _) | with_reducible exact calls_new (CC.out _) | with_reducible exact calls_new (CD.out _))))
            refine wpQuiet_nil ?_
            rintro ⟨wq, hq⟩
            simp only []
            have HN := Lib.hid (N1.out.trans hq fun _ _ => id)
            have hB2 := HB.out.chg hq id
            have q0 := hB2.cell 0
            have q2 := hB2.cell 2
            have q3 := hB2.cell 3
            have q4 := hB2.cell 4
            simp only [List.getElem?_toArray, List.getElem?_cons_zero, List.getElem?_cons_succ] at q0 q2 q3 q4
            have qg := hB2.lt
            clear hq hB2
            go_wp2_with fail
            go_ret
            exact ⟨by rw [HR.out] <;> simp [*], HN.out⟩
        · go_enter Tryd.func22, Tryd.ntmps22
          go_wp2_with fail
          refine wp_region_chg (fun _ => False) (by kernel_rfl) (by kernel_rfl) ?_
          repeat (go_big_quiet_step ((go_at_call 37; first | with_reducible exact calls_new (CA.out _) | with_reducible exact calls_new (CB.out _) | with_reducible exact calls_new (CC.out _) | with_reducible exact calls_new (CD.out _))))
          refine wpQuiet_nil ?_
          rintro ⟨wq, hq⟩
          simp only []
          have HN := Lib.hid (N1.out.trans hq fun _ _ => id)
          have hB2 := HB.out.chg hq id
          have q0 := hB2.cell 0
          have q2 := hB2.cell 2
          have q3 := hB2.cell 3
          have q4 := hB2.cell 4
          simp only [List.getElem?_toArray, List.getElem?_cons_zero, List.getElem?_cons_succ] at q0 q2 q3 q4
          have qg := hB2.lt
          clear hq hB2
          go_wp2_with fail
          go_ret
          exact ⟨by rw [HR.out] <;> simp [*], HN.out⟩
      · go_enter Tryd.func22, Tryd.ntmps22
        go_wp2_with fail
        refine wp_region_chg (fun _ => False) (by kernel_rfl) (by kernel_rfl) ?_
        repeat (go_big_quiet_step ((go_at_call 37; first | with_reducible exact calls_new (CA.out _) | with_reducible exact calls_new (CB.out _) | with_reducible exact calls_new (CC.out _) | with_reducible exact calls_new (CD.out _))))
        refine wpQuiet_nil ?_
        rintro ⟨wq, hq⟩
        simp only []
        have HN := Lib.hid (N1.out.trans hq fun _ _ => id)
        have hB2 := HB.out.chg hq id
        have q0 := hB2.cell 0
        have q2 := hB2.cell 2
        have q3 := hB2.cell 3
        have q4 := hB2.cell 4
        simp only [List.getElem?_toArray, List.getElem?_cons_zero, List.getElem?_cons_succ] at q0 q2 q3 q4
        have qg := hB2.lt
        clear hq hB2
        go_wp2_with fail
        go_ret
        exact ⟨by rw [HR.out] <;> simp [*], HN.out⟩
  by_cases h2 : k = 2
  · subst h2
    cases na
    · go_enter Tryd.func22, Tryd.ntmps22
      go_wp2_with fail
      refine wp_region_chg (fun _ => False) (by kernel_rfl) (by kernel_rfl) ?_
      repeat (go_big_quiet_step ((go_at_call 37; first | with_reducible exact calls_new (CA.out _) | with_reducible exact calls_new (CB.out _) | with_reducible exact calls_new (CC.out _) | with_reducible exact calls_new (CD.out _))))
      refine wpQuiet_nil ?_
      rintro ⟨wq, hq⟩
      simp only []
      have HN := Lib.hid (N1.out.trans hq fun _ _ => id)
      have hB2 := HB.out.chg hq id
      have q0 := hB2.cell 0
      have q2 := hB2.cell 2
      have q3 := hB2.cell 3
      have q4 := hB2.cell 4
      simp only [List.getElem?_toArray, List.getElem?_cons_zero, List.getElem?_cons_succ] at q0 q2 q3 q4
      have qg := hB2.lt
      clear hq hB2
      go_wp2_with fail
      go_ret
      exact ⟨by rw [HR.out] <;> simp [*], HN.out⟩
    · skip
      rcases str_cases b with rfl | ⟨z1b, z2b, z3b, z4b⟩
      · skip
        rcases str_cases c with rfl | ⟨z1c, z2c, z3c, z4c⟩
        · skip
          cases nd
          · go_enter Tryd.func22, Tryd.ntmps22
            go_wp2_with fail
            refine wp_region_chg (fun _ => False) (by kernel_rfl) (by kernel_rfl) ?_
            repeat (go_big_quiet_step ((go_at_call 37; first | with_reducible exact calls_new (CA.out _) | with_reducible exact calls_new (CB.out _) | with_reducible exact calls_new (CC.out _) | with_reducible exact calls_new (CD.out _))))
            refine wpQuiet_nil ?_
            rintro ⟨wq, hq⟩
            simp only []
            have HN := Lib.hid (N1.out.trans hq fun _ _ => id)
            have hB2 := HB.out.chg hq id
            have q0 := hB2.cell 0
            have q2 := hB2.cell 2
            have q3 := hB2.cell 3
            have q4 := hB2.cell 4
            simp only [List.getElem?_toArray, List.getElem?_cons_zero, List.getElem?_cons_succ] at q0 q2 q3 q4
            have qg := hB2.lt
            clear hq hB2
            go_wp2_with fail
            go_ret
            exact ⟨by rw [HR.out] <;> simp [*], HN.out⟩
          · skip
            go_enter Tryd.func22, Tryd.ntmps22
            go_wp2_with fail
            refine wp_region_chg (fun _ => False) (by kernel_rfl) (by kernel_rfl) ?_
            repeat (go_big_quiet_step ((go_at_call 37; first | with_reducible exact calls_new (CA.out _) | with_reducible exact calls_new (CB.out _) | with_reducible exact calls_new (CC.out _) | with_reducible exact calls_new (CD.out _))))
            refine wpQuiet_nil ?_
            rintro ⟨wq, hq⟩
            simp only []
            have HN := Lib.hid (N1.out.trans hq fun _ _ => id)
            have hB2 := HB.out.chg hq id
            have q0 := hB2.cell 0
            have q2 := hB2.cell 2
            have q3 := hB2.cell 3
            have q4 := hB2.cell 4
            simp only [List.getElem?_toArray, List.getElem?_cons_zero, List.getElem?_cons_succ] at q0 q2 q3 q4
            have qg := hB2.lt
            clear hq hB2
            go_wp2_with fail
            go_ret
            exact ⟨by rw [HR.out] <;> simp [*], HN.out⟩
        · go_enter Tryd.func22, Tryd.ntmps22
          go_wp2_with fail
          refine wp_region_chg (fun _ => False) (by kernel_rfl) (by kernel_rfl) ?_
          repeat (go_big_quiet_step ((go_at_call 37; first | with_reducible exact calls_new (CA.out _) | with_reducible exact calls_new (CB.out _) | with_reducible exact calls_new (CC.out _) | with_reducible exact calls_new (CD.out _))))
          refine wpQuiet_nil ?_
          rintro ⟨wq, hq⟩
          simp only []
          have HN := Lib.hid (N1.out.trans hq fun _ _ => id)
          have hB2 := HB.out.chg hq id
          have q0 := hB2.cell 0
          have q2 := hB2.cell 2
          have q3 := hB2.cell 3
          have q4 := hB2.cell 4
          simp only [List.getElem?_toArray, List.getElem?_cons_zero, List.getElem?_cons_succ] at q0 q2 q3 q4
          have qg := hB2.lt
          clear hq hB2
          go_wp2_with fail
          go_ret
          exact ⟨by rw [HR.out] <;> simp [*], HN.out⟩
      · go_enter Tryd.func22, Tryd.ntmps22
        go_wp2_with fail
        refine wp_region_chg (fun _ => False) (by kernel_rfl) (by kernel_rfl) ?_
        repeat (go_big_quiet_step ((go_at_call 37; first | with_reducible exact calls_new (CA.out _) | with_reducible exact calls_new (CB.out _) | with_reducible exact calls_new (CC.out _) | with_reducible exact calls_new (CD.out _))))
        refine wpQuiet_nil ?_
        rintro ⟨wq, hq⟩
        simp only []
        have HN := Lib.hid (N1.out.trans hq fun _ _ => id)
        have hB2 := HB.out.chg hq id
        have q0 := hB2.cell 0
        have q2 := hB2.cell 2
        have q3 := hB2.cell 3
        have q4 := hB2.cell 4
        simp only [List.getElem?_toArray, List.getElem?_cons_zero, List.getElem?_cons_succ] at q0 q2 q3 q4
        have qg := hB2.lt
        clear hq hB2
        go_wp2_with fail
        go_ret
        exact ⟨by rw [HR.out] <;> simp [*], HN.out⟩
  by_cases h4 : k = 4
  · subst h4
    cases na
    · go_enter Tryd.func22, Tryd.ntmps22
      go_wp2_with fail
      refine wp_region_chg (fun _ => False) (by kernel_rfl) (by kernel_rfl) ?_
      repeat (go_big_quiet_step ((go_at_call 37; first | with_reducible exact calls_new (CA.out _) | with_reducible exact calls_new (CB.out _) | with_reducible exact calls_new (CC.out _) | with_reducible exact calls_new (CD.out _))))
      refine wpQuiet_nil ?_
      rintro ⟨wq, hq⟩
      simp only []
      have HN := Lib.hid (N1.out.trans hq fun _ _ => id)
      have hB2 := HB.out.chg hq id
      have q0 := hB2.cell 0
      have q2 := hB2.cell 2
      have q3 := hB2.cell 3
      have q4 := hB2.cell 4
      simp only [List.getElem?_toArray, List.getElem?_cons_zero, List.getElem?_cons_succ] at q0 q2 q3 q4
      have qg := hB2.lt
      clear hq hB2
      go_wp2_with fail
      go_ret
      exact ⟨by rw [HR.out] <;> simp [*], HN.out⟩
    · skip
      rcases str_cases b with rfl | ⟨z1b, z2b, z3b, z4b⟩
      · skip
        rcases str_cases c with rfl | ⟨z1c, z2c, z3c, z4c⟩
        · skip
          cases nd
          · go_enter Tryd.func22, Tryd.ntmps22
            go_wp2_with fail
            refine wp_region_chg (fun _ => False) (by kernel_rfl) (by kernel_rfl) ?_
            repeat (go_big_quiet_step ((go_at_call 37; first | with_reducible exact calls_new (CA.out _) | with_reducible exact calls_new (CB.out _) | with_reducible exact calls_new (CC.out _) | with_reducible exact calls_new (CD.out _))))
            refine wpQuiet_nil ?_
            rintro ⟨wq, hq⟩
            simp only []
            have HN := Lib.hid (N1.out.trans hq fun _ _ => id)
            have hB2 := HB.out.chg hq id
            have q0 := hB2.cell 0
            have q2 := hB2.cell 2
            have q3 := hB2.cell 3
            have q4 := hB2.cell 4
            simp only [List.getElem?_toArray, List.getElem?_cons_zero, List.getElem?_cons_succ] at q0 q2 q3 q4
            have qg := hB2.lt
            clear hq hB2
            go_wp2_with fail
            go_ret
            exact ⟨by rw [HR.out] <;> simp [*], HN.out⟩
          · skip
            go_enter Tryd.func22, Tryd.ntmps22
            go_wp2_with fail
            refine wp_region_chg (fun _ => False) (by kernel_rfl) (by kernel_rfl) ?_
            repeat (go_big_quiet_step ((go_at_call 37; first | with_reducible exact calls_new (CA.out _) | with_reducible exact calls_new (CB.out _) | with_reducible exact calls_new (CC.out _) | with_reducible exact calls_new (CD.out _))))
            refine wpQuiet_nil ?_
            rintro ⟨wq, hq⟩
            simp only []
            have HN := Lib.hid (N1.out.trans hq fun _ _ => id)
            have hB2 := HB.out.chg hq id
            have q0 := hB2.cell 0
            have q2 := hB2.cell 2
            have q3 := hB2.cell 3
            have q4 := hB2.cell 4
            simp only [List.getElem?_toArray, List.getElem?_cons_zero, List.getElem?_cons_succ] at q0 q2 q3 q4
            have qg := hB2.lt
            clear hq hB2
            go_wp2_with fail
            go_ret
            exact ⟨by rw [HR.out] <;> simp [*], HN.out⟩
        · go_enter Tryd.func22, Tryd.ntmps22
          go_wp2_with fail
          refine wp_region_chg (fun _ => False) (by kernel_rfl) (by kernel_rfl) ?_
          repeat (go_big_quiet_step ((go_at_call 37; first | with_reducible exact calls_new (CA.out _) | with_reducible exact calls_new (CB.out _) | with_reducible exact calls_new (CC.out _) | with_reducible exact calls_new (CD.out _))))
          refine wpQuiet_nil ?_
          rintro ⟨wq, hq⟩
          simp only []
          have HN := Lib.hid (N1.out.trans hq fun _ _ => id)
          have hB2 := HB.out.chg hq id
          have q0 := hB2.cell 0
          have q2 := hB2.cell 2
          have q3 := hB2.cell 3
          have q4 := hB2.cell 4
          simp only [List.getElem?_toArray, List.getElem?_cons_zero, List.getElem?_cons_succ] at q0 q2 q3 q4
          have qg := hB2.lt
          clear hq hB2
          go_wp2_with fail
          go_ret
          exact ⟨by rw [HR.out] <;> simp [*], HN.out⟩
      · go_enter Tryd.func22, Tryd.ntmps22
        go_wp2_with fail
        refine wp_region_chg (fun _ => False) (by kernel_rfl) (by kernel_rfl) ?_
        repeat (go_big_quiet_step ((go_at_call 37; first | with_reducible exact calls_new (CA.out _) | with_reducible exact calls_new (CB.out _) | with_reducible exact calls_new (CC.out _) | with_reducible exact calls_new (CD.out _))))
        refine wpQuiet_nil ?_
        rintro ⟨wq, hq⟩
        simp only []
        have HN := Lib.hid (N1.out.trans hq fun _ _ => id)
        have hB2 := HB.out.chg hq id
        have q0 := hB2.cell 0
        have q2 := hB2.cell 2
        have q3 := hB2.cell 3
        have q4 := hB2.cell 4
        simp only [List.getElem?_toArray, List.getElem?_cons_zero, List.getElem?_cons_succ] at q0 q2 q3 q4
        have qg := hB2.lt
        clear hq hB2
        go_wp2_with fail
        go_ret
        exact ⟨by rw [HR.out] <;> simp [*], HN.out⟩
  by_cases h3 : k = 3
  · subst h3
    cases na
    · go_enter Tryd.func22, Tryd.ntmps22
      go_wp2_with fail
      refine wp_region_chg (fun _ => False) (by kernel_rfl) (by kernel_rfl) ?_
      repeat (go_big_quiet_step ((go_at_call 37; first | with_reducible exact calls_new (CA.out _) | with_reducible exact calls_new (CB.out _) | with_reducible exact calls_new (CC.out _) | with_reducible exact calls_new (CD.out _))))
      refine wpQuiet_nil ?_
      rintro ⟨wq, hq⟩
      simp only []
      have HN := Lib.hid (N1.out.trans hq fun _ _ => id)
      have hB2 := HB.out.chg hq id
      have q0 := hB2.cell 0
      have q2 := hB2.cell 2
      have q3 := hB2.cell 3
      have q4 := hB2.cell 4
      simp only [List.getElem?_toArray, List.getElem?_cons_zero, List.getElem?_cons_succ] at q0 q2 q3 q4
      have qg := hB2.lt
      clear hq hB2
      go_wp2_with fail
      go_ret
      exact ⟨by rw [HR.out] <;> simp [*], HN.out⟩
    · skip
      cases nb
      · go_enter Tryd.func22, Tryd.ntmps22
        go_wp2_with fail
        refine wp_region_chg (fun _ => False) (by kernel_rfl) (by kernel_rfl) ?_
        repeat (go_big_quiet_step ((go_at_call 37; first | with_reducible exact calls_new (CA.out _) | with_reducible exact calls_new (CB.out _) | with_reducible exact calls_new (CC.out _) | with_reducible exact calls_new (CD.out _))))
        refine wpQuiet_nil ?_
        rintro ⟨wq, hq⟩
        simp only []
        have HN := Lib.hid (N1.out.trans hq fun _ _ => id)
        have hB2 := HB.out.chg hq id
        have q0 := hB2.cell 0
        have q2 := hB2.cell 2
        have q3 := hB2.cell 3
        have q4 := hB2.cell 4
        simp only [List.getElem?_toArray, List.getElem?_cons_zero, List.getElem?_cons_succ] at q0 q2 q3 q4
        have qg := hB2.lt
        clear hq hB2
        go_wp2_with fail
        go_ret
        exact ⟨by rw [HR.out] <;> simp [*], HN.out⟩
      · skip
        cases nc
        · go_enter Tryd.func22, Tryd.ntmps22
          go_wp2_with fail
          refine wp_region_chg (fun _ => False) (by kernel_rfl) (by kernel_rfl) ?_
          repeat (go_big_quiet_step ((go_at_call 37; first | with_reducible exact calls_new (CA.out _) | with_reducible exact calls_new (CB.out _) | with_reducible exact calls_new (CC.out _) | with_reducible exact calls_new (CD.out _))))
          refine wpQuiet_nil ?_
          rintro ⟨wq, hq⟩
          simp only []
          have HN := Lib.hid (N1.out.trans hq fun _ _ => id)
          have hB2 := HB.out.chg hq id
          have q0 := hB2.cell 0
          have q2 := hB2.cell 2
          have q3 := hB2.cell 3
          have q4 := hB2.cell 4
          simp only [List.getElem?_toArray, List.getElem?_cons_zero, List.getElem?_cons_succ] at q0 q2 q3 q4
          have qg := hB2.lt
          clear hq hB2
          go_wp2_with fail
          go_ret
          exact ⟨by rw [HR.out] <;> simp [*], HN.out⟩
        · skip
          rcases str_cases d with rfl | ⟨z1d, z2d, z3d, z4d⟩
          · skip
            go_enter Tryd.func22, Tryd.ntmps22
            go_wp2_with fail
            refine wp_region_chg (fun _ => False) (by kernel_rfl) (by kernel_rfl) ?_
            repeat (go_big_quiet_step ((go_at_call 37; first | with_reducible exact calls_new (CA.out _) | with_reducible exact calls_new (CB.out _) | with_reducible exact calls_new (CC.out _) | with_reducible exact calls_new (CD.out _))))
            refine wpQuiet_nil ?_
            rintro ⟨wq, hq⟩
            simp only []
            have HN := Lib.hid (N1.out.trans hq fun _ _ => id)
            have hB2 := HB.out.chg hq id
            have q0 := hB2.cell 0
            have q2 := hB2.cell 2
            have q3 := hB2.cell 3
            have q4 := hB2.cell 4
            simp only [List.getElem?_toArray, List.getElem?_cons_zero, List.getElem?_cons_succ] at q0 q2 q3 q4
            have qg := hB2.lt
            clear hq hB2
            go_wp2_with fail
            go_ret
            exact ⟨by rw [HR.out] <;> simp [*], HN.out⟩
          · go_enter Tryd.func22, Tryd.ntmps22
            go_wp2_with fail
            refine wp_region_chg (fun _ => False) (by kernel_rfl) (by kernel_rfl) ?_
            repeat (go_big_quiet_step ((go_at_call 37; first | with_reducible exact calls_new (CA.out _) | with_reducible exact calls_new (CB.out _) | with_reducible exact calls_new (CC.out _) | with_reducible exact calls_new (CD.out _))))
            refine wpQuiet_nil ?_
            rintro ⟨wq, hq⟩
            simp only []
            have HN := Lib.hid (N1.out.trans hq fun _ _ => id)
            have hB2 := HB.out.chg hq id
            have q0 := hB2.cell 0
            have q2 := hB2.cell 2
            have q3 := hB2.cell 3
            have q4 := hB2.cell 4
            simp only [List.getElem?_toArray, List.getElem?_cons_zero, List.getElem?_cons_succ] at q0 q2 q3 q4
            have qg := hB2.lt
            clear hq hB2
            go_wp2_with fail
            go_ret
            exact ⟨by rw [HR.out] <;> simp [*], HN.out⟩
  by_cases h5 : k = 5
  · subst h5
    cases na
    · go_enter Tryd.func22, Tryd.ntmps22
      go_wp2_with fail
      refine wp_region_chg (fun _ => False) (by kernel_rfl) (by kernel_rfl) ?_
      repeat (go_big_quiet_step ((go_at_call 37; first | with_reducible exact calls_new (CA.out _) | with_reducible exact calls_new (CB.out _) | with_reducible exact calls_new (CC.out _) | with_reducible exact calls_new (CD.out _))))
      refine wpQuiet_nil ?_
      rintro ⟨wq, hq⟩
      simp only []
      have HN := Lib.hid (N1.out.trans hq fun _ _ => id)
      have hB2 := HB.out.chg hq id
      have q0 := hB2.cell 0
      have q2 := hB2.cell 2
      have q3 := hB2.cell 3
      have q4 := hB2.cell 4
      simp only [List.getElem?_toArray, List.getElem?_cons_zero, List.getElem?_cons_succ] at q0 q2 q3 q4
      have qg := hB2.lt
      clear hq hB2
      go_wp2_with fail
      go_ret
      exact ⟨by rw [HR.out] <;> simp [*], HN.out⟩
    · skip
      cases nb
      · go_enter Tryd.func22, Tryd.ntmps22
        go_wp2_with fail
        refine wp_region_chg (fun _ => False) (by kernel_rfl) (by kernel_rfl) ?_
        repeat (go_big_quiet_step ((go_at_call 37; first | with_reducible exact calls_new (CA.out _) | with_reducible exact calls_new (CB.out _) | with_reducible exact calls_new (CC.out _) | with_reducible exact calls_new (CD.out _))))
        refine wpQuiet_nil ?_
        rintro ⟨wq, hq⟩
        simp only []
        have HN := Lib.hid (N1.out.trans hq fun _ _ => id)
        have hB2 := HB.out.chg hq id
        have q0 := hB2.cell 0
        have q2 := hB2.cell 2
        have q3 := hB2.cell 3
        have q4 := hB2.cell 4
        simp only [List.getElem?_toArray, List.getElem?_cons_zero, List.getElem?_cons_succ] at q0 q2 q3 q4
        have qg := hB2.lt
        clear hq hB2
        go_wp2_with fail
        go_ret
        exact ⟨by rw [HR.out] <;> simp [*], HN.out⟩
      · skip
        cases nc
        · go_enter Tryd.func22, Tryd.ntmps22
          go_wp2_with fail
          refine wp_region_chg (fun _ => False) (by kernel_rfl) (by kernel_rfl) ?_
          repeat (go_big_quiet_step ((go_at_call 37; first | with_reducible exact calls_new (CA.out _) | with_reducible exact calls_new (CB.out _) | with_reducible exact calls_new (CC.out _) | with_reducible exact calls_new (CD.out _))))
          refine wpQuiet_nil ?_
          rintro ⟨wq, hq⟩
          simp only []
          have HN := Lib.hid (N1.out.trans hq fun _ _ => id)
          have hB2 := HB.out.chg hq id
          have q0 := hB2.cell 0
          have q2 := hB2.cell 2
          have q3 := hB2.cell 3
          have q4 := hB2.cell 4
          simp only [List.getElem?_toArray, List.getElem?_cons_zero, List.getElem?_cons_succ] at q0 q2 q3 q4
          have qg := hB2.lt
          clear hq hB2
          go_wp2_with fail
          go_ret
          exact ⟨by rw [HR.out] <;> simp [*], HN.out⟩
        · skip
          cases nd
          · go_enter Tryd.func22, Tryd.ntmps22
            go_wp2_with fail
            refine wp_region_chg (fun _ => False) (by kernel_rfl) (by kernel_rfl) ?_
            repeat (go_big_quiet_step ((go_at_call 37; first | with_reducible exact calls_new (CA.out _) | with_reducible exact calls_new (CB.out _) | with_reducible exact calls_new (CC.out _) | with_reducible exact calls_new (CD.out _))))
            refine wpQuiet_nil ?_
            rintro ⟨wq, hq⟩
            simp only []
            have HN := Lib.hid (N1.out.trans hq fun _ _ => id)
            have hB2 := HB.out.chg hq id
            have q0 := hB2.cell 0
            have q2 := hB2.cell 2
            have q3 := hB2.cell 3
            have q4 := hB2.cell 4
            simp only [List.getElem?_toArray, List.getElem?_cons_zero, List.getElem?_cons_succ] at q0 q2 q3 q4
            have qg := hB2.lt
            clear hq hB2
            go_wp2_with fail
            go_ret
            exact ⟨by rw [HR.out] <;> simp [*], HN.out⟩
          · skip
            go_enter Tryd.func22, Tryd.ntmps22
            go_wp2_with fail
            refine wp_region_chg (fun _ => False) (by kernel_rfl) (by kernel_rfl) ?_
            repeat (go_big_quiet_step ((go_at_call 37; first | with_reducible exact calls_new (CA.out _) | with_reducible exact calls_new (CB.out _) | with_reducible exact calls_new (CC.out _) | with_reducible exact calls_new (CD.out _))))
            refine wpQuiet_nil ?_
            rintro ⟨wq, hq⟩
            simp only []
            have HN := Lib.hid (N1.out.trans hq fun _ _ => id)
            have hB2 := HB.out.chg hq id
            have q0 := hB2.cell 0
            have q2 := hB2.cell 2
            have q3 := hB2.cell 3
            have q4 := hB2.cell 4
            simp only [List.getElem?_toArray, List.getElem?_cons_zero, List.getElem?_cons_succ] at q0 q2 q3 q4
            have qg := hB2.lt
            clear hq hB2
            go_wp2_with fail
            go_ret
            exact ⟨by rw [HR.out] <;> simp [*], HN.out⟩
  have b1 : (k == 1) = false := by simpa using h1
  have b2 : (k == 2) = false := by simpa using h2
  have b3 : (k == 3) = false := by simpa using h3
  have b4 : (k == 4) = false := by simpa using h4
  have b5 : (k == 5) = false := by simpa using h5
  go_enter Tryd.func22, Tryd.ntmps22
  go_wp2_with fail
  refine wp_region_chg (fun _ => False) (by kernel_rfl) (by kernel_rfl) ?_
  repeat (go_big_quiet_step ((go_at_call 37; first | with_reducible exact calls_new (CA.out _) | with_reducible exact calls_new (CB.out _) | with_reducible exact calls_new (CC.out _) | with_reducible exact calls_new (CD.out _))))
  refine wpQuiet_nil ?_
  rintro ⟨wq, hq⟩
  simp only []
  have HN := Lib.hid (N1.out.trans hq fun _ _ => id)
  have hB2 := HB.out.chg hq id
  have q0 := hB2.cell 0
  have q2 := hB2.cell 2
  have q3 := hB2.cell 3
  have q4 := hB2.cell 4
  simp only [List.getElem?_toArray, List.getElem?_cons_zero, List.getElem?_cons_succ] at q0 q2 q3 q4
  have qg := hB2.lt
  clear hq hB2
  go_wp2_with fail
  go_ret
  exact ⟨by rw [HR.out] <;> simp [*], HN.out⟩
end Evt
end Go.Proofs.YtjkjbbmbfobdaaaDoor

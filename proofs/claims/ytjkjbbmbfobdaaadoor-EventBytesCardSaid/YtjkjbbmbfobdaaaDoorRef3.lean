/-
  Values by the document's own definition: what may be (no condition but on the texts' size).
-/
import Derived.Test.YtjkjbbmbfobdaaaDoorRef2
namespace Go.Proofs.YtjkjbbmbfobdaaaDoor
set_option linter.unusedSimpArgs false
set_option linter.unusedVariables false
open Go.ChangeShapes Go.WideShapes Go.RowKit Go.Deep
namespace Val
set_option maxHeartbeats 4000000 in
set_option maxRecDepth 20000 in
theorem rright (w : World) (k n : Int) (s : ByteArray) (hs : s.size ≤ 1000) :
    Calls Tryd.prog 23 #[.agg #[.int .i64 k, .int .i64 n, .string s]] w fun e w' => e = .returned (.bool (rightB k n s.data.toList)) ∧ New w w' := by
  have CL := Lib.hid fun W => rlink W s hs
  have CP := Lib.hid fun W => rplain W s (by omega)
  have CN := Lib.hid fun W => rname W s (by omega)
  have hz : ∀ W, (zeroValue 65).run Tryd.prog W = .ok (.agg #[.string ⟨#[]⟩, .string ⟨#[]⟩, .string ⟨#[]⟩]) W := fun W => by kernel_rfl
  have m1 := (Chg.refl (fun _ => False) w).alloc (.cells #[.int .i64 k, .int .i64 n, .string s] 29)
  have HM := Lib.hid m1
  have hemp : s.toList = [] ↔ s.data.toList = [] := by rw [toList_data]
  clear m1 hs
  by_cases h0 : k = 0
  · subst h0
    clear CL CP CN hz
    have hr : rightB 0 n s.data.toList = (decide (n = 0) && decide (s.data.toList = [])) := rfl
    rw [hr]
    by_cases hn : n = 0
    · subst hn
      by_cases he : s.toList = []
      · rw [decide_eq_true (hemp.1 he)]
        go_enter Tryd.func23, Tryd.ntmps23
        go_wp2_with fail
        go_ret
        exact ⟨by simp [he], HM.out⟩
      · rw [decide_eq_false (mt hemp.2 he)]
        go_enter Tryd.func23, Tryd.ntmps23
        go_wp2_with fail
        go_ret
        exact ⟨by simp [he], HM.out⟩
    · rw [decide_eq_false hn]
      go_enter Tryd.func23, Tryd.ntmps23
      go_wp2_with fail
      go_ret
      exact ⟨by simp, HM.out⟩
  by_cases h1 : k = 1
  · subst h1
    clear CL CP CN hz
    have hr : rightB 1 n s.data.toList = ((decide (n = 0) || decide (n = 1)) && decide (s.data.toList = [])) := rfl
    rw [hr]
    by_cases hn : n = 0
    · subst hn
      by_cases he : s.toList = []
      · rw [decide_eq_true (hemp.1 he)]
        go_enter Tryd.func23, Tryd.ntmps23
        go_wp2_with fail
        go_ret
        exact ⟨by simp [he], HM.out⟩
      · rw [decide_eq_false (mt hemp.2 he)]
        go_enter Tryd.func23, Tryd.ntmps23
        go_wp2_with fail
        go_ret
        exact ⟨by simp [he], HM.out⟩
    · by_cases hn1 : n = 1
      · subst hn1
        by_cases he : s.toList = []
        · rw [decide_eq_true (hemp.1 he)]
          go_enter Tryd.func23, Tryd.ntmps23
          go_wp2_with fail
          go_ret
          exact ⟨by simp [he], HM.out⟩
        · rw [decide_eq_false (mt hemp.2 he)]
          go_enter Tryd.func23, Tryd.ntmps23
          go_wp2_with fail
          go_ret
          exact ⟨by simp [he], HM.out⟩
      · rw [decide_eq_false hn, decide_eq_false hn1]
        go_enter Tryd.func23, Tryd.ntmps23
        go_wp2_with fail
        go_ret
        exact ⟨by simp, HM.out⟩
  by_cases h2 : k = 2
  · subst h2
    clear CL CP CN hz
    have hr : rightB 2 n s.data.toList = (decide (-1099511627776 ≤ n) && decide (n ≤ 1099511627776) && decide (s.data.toList = [])) := rfl
    rw [hr]
    by_cases hn1 : -1099511627776 ≤ n
    · by_cases hn2 : n ≤ 1099511627776
      · by_cases he : s.toList = []
        · rw [decide_eq_true (hemp.1 he), decide_eq_true hn1, decide_eq_true hn2]
          go_enter Tryd.func23, Tryd.ntmps23
          go_wp2_with fail
          go_ret
          exact ⟨by simp [he], HM.out⟩
        · rw [decide_eq_false (mt hemp.2 he)]
          go_enter Tryd.func23, Tryd.ntmps23
          go_wp2_with fail
          go_ret
          exact ⟨by simp [he], HM.out⟩
      · rw [decide_eq_false hn2]
        go_enter Tryd.func23, Tryd.ntmps23
        go_wp2_with fail
        go_ret
        exact ⟨by simp, HM.out⟩
    · rw [decide_eq_false hn1]
      go_enter Tryd.func23, Tryd.ntmps23
      go_wp2_with fail
      go_ret
      exact ⟨by simp, HM.out⟩
  by_cases h3 : k = 3
  · subst h3
    clear CL CN hz
    have hr : rightB 3 n s.data.toList = (decide (n = 0) && plainB s.data.toList) := rfl
    rw [hr]
    by_cases hn : n = 0
    · subst hn
      go_enter Tryd.func23, Tryd.ntmps23
      go_wp2_with fail
      refine (CP.out _).mono ?_
      rintro e w1 ⟨rfl, rfl⟩
      go_wp2_with fail
      go_ret
      exact ⟨by simp, HM.out⟩
    · rw [decide_eq_false hn]
      clear CP
      go_enter Tryd.func23, Tryd.ntmps23
      go_wp2_with fail
      go_ret
      exact ⟨by simp, HM.out⟩
  by_cases h4 : k = 4
  · subst h4
    clear CL CP hz
    have hr : rightB 4 n s.data.toList = (decide (n = 0) && nameB s.data.toList) := rfl
    rw [hr]
    by_cases hn : n = 0
    · subst hn
      go_enter Tryd.func23, Tryd.ntmps23
      go_wp2_with fail
      refine (CN.out _).mono ?_
      rintro e w1 ⟨rfl, rfl⟩
      go_wp2_with fail
      go_ret
      exact ⟨by simp, HM.out⟩
    · rw [decide_eq_false hn]
      clear CN
      go_enter Tryd.func23, Tryd.ntmps23
      go_wp2_with fail
      go_ret
      exact ⟨by simp, HM.out⟩
  by_cases h5 : k = 5
  · subst h5
    clear CP CN
    have hr : rightB 5 n s.data.toList = (decide (n = 0) && linkB s.data.toList) := rfl
    rw [hr]
    by_cases hn : n = 0
    · subst hn
      go_enter Tryd.func23, Tryd.ntmps23
      go_wp2_with fail
      refine (CL.out _).mono ?_
      rintro e w1 ⟨a, b, c, rfl, n1⟩
      have hb := (Blk.new w 29 #[.int .i64 5, .int .i64 0, .string s]).chg n1 id
      have d1 := hb.cell 1
      simp only [List.getElem?_toArray, List.getElem?_cons_zero, List.getElem?_cons_succ] at d1
      have hbl := hb.lt
      have HN := Lib.hid (HM.out.trans n1 fun _ _ => id)
      clear n1 CL hb
      go_wp2_with fail
      go_ret
      exact ⟨by simp, HN.out.alloc _⟩
    · rw [decide_eq_false hn]
      go_enter Tryd.func23, Tryd.ntmps23
      go_wp2_with fail
      refine (CL.out _).mono ?_
      rintro e w1 ⟨a, b, c, rfl, n1⟩
      have hb := (Blk.new w 29 #[.int .i64 5, .int .i64 n, .string s]).chg n1 id
      have d1 := hb.cell 1
      simp only [List.getElem?_toArray, List.getElem?_cons_zero, List.getElem?_cons_succ] at d1
      have hbl := hb.lt
      have HN := Lib.hid (HM.out.trans n1 fun _ _ => id)
      clear n1 CL hb
      go_wp2_with fail
      go_ret
      exact ⟨by simp, HN.out.alloc _⟩
  have hr : rightB k n s.data.toList = false := by
    unfold rightB
    rw [if_neg h0, if_neg h1, if_neg h2, if_neg h3, if_neg h4, if_neg h5]
  rw [hr]
  clear CL CP CN hr hz
  go_enter Tryd.func23, Tryd.ntmps23
  go_wp2_with fail
  go_ret
  exact ⟨by rfl, HM.out⟩
end Val
end Go.Proofs.YtjkjbbmbfobdaaaDoor

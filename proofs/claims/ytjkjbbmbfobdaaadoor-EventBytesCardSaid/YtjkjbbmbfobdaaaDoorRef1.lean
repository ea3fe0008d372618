/-
  Names and texts by the document's own definition: what its calls compute (no condition).
-/
import Derived.Test.YtjkjbbmbfobdaaaDoorVal3
namespace Go.Proofs.YtjkjbbmbfobdaaaDoor
set_option linter.unusedSimpArgs false
set_option linter.unusedVariables false
open Go.ChangeShapes Go.WideShapes Go.RowKit Go.Deep
namespace Val
theorem classes (x : Nat) : (97 ≤ x ∧ x ≤ 122) ∨ (65 ≤ x ∧ x ≤ 90) ∨ (48 ≤ x ∧ x ≤ 57) ∨ (x = 95) ∨ (x < 48) ∨ (58 ≤ x ∧ x ≤ 64) ∨ (91 ≤ x ∧ x ≤ 94) ∨ (x = 96) ∨ (123 ≤ x) := by omega
set_option maxHeartbeats 4000000 in
set_option maxRecDepth 20000 in
theorem rname (w : World) (s : ByteArray) (hs : s.size < 4294967281) : Calls Tryd.prog 37 #[.string s] w fun e w' => e = .returned (.bool (nameB s.data.toList)) ∧ w' = w := by
  obtain ⟨n, hn⟩ : ∃ n, s.size = n := ⟨_, rfl⟩
  have hlen := size_list s
  rw [hn] at hlen hs
  have hs2 : (n : Int) < 4294967281 := by omega
  clear hs
  go_enter Tryd.func37, Tryd.ntmps37
  go_wp2_with fail
  go_loopw [3, 4, 5, 6] (fun iv _ _ _ wr => ∃ i : Nat, i ≤ n ∧ iv = .int .i64 i ∧ wr = w ∧ (0 < i → (s.data.toList.take i).all innerB = true ∧ letterB (s.data.toList.getD 0 0) = true)) (fun iv _ _ _ _ => n - (intOf iv).toNat)
  case atStart => exact ⟨0, by omega, by go_num, rfl, fun h => by omega⟩
  case round =>
    obtain ⟨i, hi, rfl, rfl, hall⟩ := hrel
    by_cases hlt : i < n
    · have his : i < s.size := by omega
      have hii : (i : Int) < n := by omega
      obtain ⟨b, hb⟩ : ∃ b, s[i]'his = b := ⟨_, rfl⟩
      have htk : (s.data.toList.take (i + 1)).all innerB = ((s.data.toList.take i).all innerB && innerB b) := by
        rw [List.take_add_one, at_list his, List.all_append, hb]
        simp
      have hmem : b ∈ s.data.toList := by rw [← hb]; exact List.mem_of_getElem? (at_list his)
      have hget0 : i = 0 → s.data.toList.getD 0 0 = b := fun h => by
        subst h
        rw [List.getD_eq_getElem?_getD, at_list his, hb]
        rfl
      have hL : letterB b = ((decide (97 ≤ b.toNat) && decide (b.toNat ≤ 122)) || (decide (65 ≤ b.toNat) && decide (b.toNat ≤ 90))) := rfl
      have hI : innerB b = (letterB b || (decide (48 ≤ b.toNat) && decide (b.toNat ≤ 57)) || decide (b.toNat = 95)) := rfl
      have hbx : (s[i]'his).toNat = b.toNat := by rw [hb]
      obtain ⟨x, hx0⟩ : ∃ x, b.toNat = x := ⟨_, rfl⟩
      rw [hx0] at hL hI hbx
      clear hb hx0
      rcases classes x with hx | hx | hx | hx | hx | hx | hx | hx | hx
      · have c0 : (97 : Int) ≤ (x : Int) := by omega
        have c1 : (x : Int) ≤ 122 := by omega
        have c2 : (65 : Int) ≤ (x : Int) := by omega
        have c3 : ¬ (x : Int) ≤ 90 := by omega
        have c4 : (48 : Int) ≤ (x : Int) := by omega
        have c5 : ¬ (x : Int) ≤ 57 := by omega
        have c8 : ((x : Int) == 95) = false := by simp; omega
        have c9 : ¬ (x : Int) = 95 := by omega
        have hL2 : letterB b = true := by rw [hL]; simp; omega
        have hI2 : innerB b = true := by rw [hI, hL2]; simp; try omega
        have HT := Lib.hid (show (s.data.toList.take (i + 1)).all innerB = true ∧ letterB (s.data.toList.getD 0 0) = true by rw [htk]; refine ⟨by rw [hI2]; by_cases h : i = 0 <;> first | (subst h; simp; done) | (rw [(hall (by omega)).1]; rfl), ?_⟩; by_cases h : i = 0 <;> first | (rw [hget0 h]; exact hL2) | exact (hall (by omega)).2)
        clear htk hget0 hall hL hI hmem hL2 hI2
        go_wp2_with fail
        go_roundw
        case rel => exact ⟨i + 1, by omega, by go_num, by first | rfl | exact True.intro, fun _ => HT.out⟩
        case measure => simp [intOf]; omega
      · have c0 : ¬ (97 : Int) ≤ (x : Int) := by omega
        have c1 : (x : Int) ≤ 122 := by omega
        have c2 : (65 : Int) ≤ (x : Int) := by omega
        have c3 : (x : Int) ≤ 90 := by omega
        have c4 : (48 : Int) ≤ (x : Int) := by omega
        have c5 : ¬ (x : Int) ≤ 57 := by omega
        have c8 : ((x : Int) == 95) = false := by simp; omega
        have c9 : ¬ (x : Int) = 95 := by omega
        have hL2 : letterB b = true := by rw [hL]; simp; omega
        have hI2 : innerB b = true := by rw [hI, hL2]; simp; try omega
        have HT := Lib.hid (show (s.data.toList.take (i + 1)).all innerB = true ∧ letterB (s.data.toList.getD 0 0) = true by rw [htk]; refine ⟨by rw [hI2]; by_cases h : i = 0 <;> first | (subst h; simp; done) | (rw [(hall (by omega)).1]; rfl), ?_⟩; by_cases h : i = 0 <;> first | (rw [hget0 h]; exact hL2) | exact (hall (by omega)).2)
        clear htk hget0 hall hL hI hmem hL2 hI2
        go_wp2_with fail
        go_roundw
        case rel => exact ⟨i + 1, by omega, by go_num, by first | rfl | exact True.intro, fun _ => HT.out⟩
        case measure => simp [intOf]; omega
      · have c0 : ¬ (97 : Int) ≤ (x : Int) := by omega
        have c1 : (x : Int) ≤ 122 := by omega
        have c2 : ¬ (65 : Int) ≤ (x : Int) := by omega
        have c3 : (x : Int) ≤ 90 := by omega
        have c4 : (48 : Int) ≤ (x : Int) := by omega
        have c5 : (x : Int) ≤ 57 := by omega
        have c8 : ((x : Int) == 95) = false := by simp; omega
        have c9 : ¬ (x : Int) = 95 := by omega
        have hL2 : letterB b = false := by rw [hL]; simp; omega
        have hI2 : innerB b = true := by rw [hI, hL2]; simp; try omega
        by_cases h0 : i = 0
        · subst h0
          have HF := Lib.hid (show nameB s.data.toList = false by unfold nameB; rw [hget0 rfl, hL2]; simp)
          clear htk hget0 hall hL hI hmem hL2 hI2
          go_wp2_with fail
          go_ret
          rw [HF.out]
          exact ⟨rfl, by first | rfl | exact True.intro⟩
        · have hi0 : ((i : Int) == 0) = false := by simp; omega
          have hi1 : ¬ (i : Int) = 0 := by omega
          have HT := Lib.hid (show (s.data.toList.take (i + 1)).all innerB = true ∧ letterB (s.data.toList.getD 0 0) = true by rw [htk, hI2, (hall (by omega)).1]; exact ⟨rfl, (hall (by omega)).2⟩)
          clear htk hget0 hall hL hI hmem hL2 hI2
          go_wp2_with fail
          go_roundw
          case rel => exact ⟨i + 1, by omega, by go_num, by first | rfl | exact True.intro, fun _ => HT.out⟩
          case measure => simp [intOf]; omega
      · have c0 : ¬ (97 : Int) ≤ (x : Int) := by omega
        have c1 : (x : Int) ≤ 122 := by omega
        have c2 : (65 : Int) ≤ (x : Int) := by omega
        have c3 : ¬ (x : Int) ≤ 90 := by omega
        have c4 : (48 : Int) ≤ (x : Int) := by omega
        have c5 : ¬ (x : Int) ≤ 57 := by omega
        have c8 : ((x : Int) == 95) = true := by simp; omega
        have hL2 : letterB b = false := by rw [hL]; simp; omega
        have hI2 : innerB b = true := by rw [hI, hL2]; simp; try omega
        by_cases h0 : i = 0
        · subst h0
          have HF := Lib.hid (show nameB s.data.toList = false by unfold nameB; rw [hget0 rfl, hL2]; simp)
          clear htk hget0 hall hL hI hmem hL2 hI2
          go_wp2_with fail
          go_ret
          rw [HF.out]
          exact ⟨rfl, by first | rfl | exact True.intro⟩
        · have hi0 : ((i : Int) == 0) = false := by simp; omega
          have hi1 : ¬ (i : Int) = 0 := by omega
          have HT := Lib.hid (show (s.data.toList.take (i + 1)).all innerB = true ∧ letterB (s.data.toList.getD 0 0) = true by rw [htk, hI2, (hall (by omega)).1]; exact ⟨rfl, (hall (by omega)).2⟩)
          clear htk hget0 hall hL hI hmem hL2 hI2
          go_wp2_with fail
          go_roundw
          case rel => exact ⟨i + 1, by omega, by go_num, by first | rfl | exact True.intro, fun _ => HT.out⟩
          case measure => simp [intOf]; omega
      · have c0 : ¬ (97 : Int) ≤ (x : Int) := by omega
        have c1 : (x : Int) ≤ 122 := by omega
        have c2 : ¬ (65 : Int) ≤ (x : Int) := by omega
        have c3 : (x : Int) ≤ 90 := by omega
        have c4 : ¬ (48 : Int) ≤ (x : Int) := by omega
        have c5 : (x : Int) ≤ 57 := by omega
        have c8 : ((x : Int) == 95) = false := by simp; omega
        have c9 : ¬ (x : Int) = 95 := by omega
        have hL2 : letterB b = false := by rw [hL]; simp; omega
        have hI2 : innerB b = false := by rw [hI, hL2]; simp; try omega
        have HF := Lib.hid (show nameB s.data.toList = false by unfold nameB; rw [show s.data.toList.all innerB = false from List.all_eq_false.2 ⟨b, hmem, by rw [hI2]; simp⟩]; simp)
        clear htk hget0 hall hL hI hmem hL2 hI2
        go_wp2_with fail
        go_ret
        rw [HF.out]
        exact ⟨rfl, by first | rfl | exact True.intro⟩
      · have c0 : ¬ (97 : Int) ≤ (x : Int) := by omega
        have c1 : (x : Int) ≤ 122 := by omega
        have c2 : ¬ (65 : Int) ≤ (x : Int) := by omega
        have c3 : (x : Int) ≤ 90 := by omega
        have c4 : (48 : Int) ≤ (x : Int) := by omega
        have c5 : ¬ (x : Int) ≤ 57 := by omega
        have c8 : ((x : Int) == 95) = false := by simp; omega
        have c9 : ¬ (x : Int) = 95 := by omega
        have hL2 : letterB b = false := by rw [hL]; simp; omega
        have hI2 : innerB b = false := by rw [hI, hL2]; simp; try omega
        have HF := Lib.hid (show nameB s.data.toList = false by unfold nameB; rw [show s.data.toList.all innerB = false from List.all_eq_false.2 ⟨b, hmem, by rw [hI2]; simp⟩]; simp)
        clear htk hget0 hall hL hI hmem hL2 hI2
        go_wp2_with fail
        go_ret
        rw [HF.out]
        exact ⟨rfl, by first | rfl | exact True.intro⟩
      · have c0 : ¬ (97 : Int) ≤ (x : Int) := by omega
        have c1 : (x : Int) ≤ 122 := by omega
        have c2 : (65 : Int) ≤ (x : Int) := by omega
        have c3 : ¬ (x : Int) ≤ 90 := by omega
        have c4 : (48 : Int) ≤ (x : Int) := by omega
        have c5 : ¬ (x : Int) ≤ 57 := by omega
        have c8 : ((x : Int) == 95) = false := by simp; omega
        have c9 : ¬ (x : Int) = 95 := by omega
        have hL2 : letterB b = false := by rw [hL]; simp; omega
        have hI2 : innerB b = false := by rw [hI, hL2]; simp; try omega
        have HF := Lib.hid (show nameB s.data.toList = false by unfold nameB; rw [show s.data.toList.all innerB = false from List.all_eq_false.2 ⟨b, hmem, by rw [hI2]; simp⟩]; simp)
        clear htk hget0 hall hL hI hmem hL2 hI2
        go_wp2_with fail
        go_ret
        rw [HF.out]
        exact ⟨rfl, by first | rfl | exact True.intro⟩
      · have c0 : ¬ (97 : Int) ≤ (x : Int) := by omega
        have c1 : (x : Int) ≤ 122 := by omega
        have c2 : (65 : Int) ≤ (x : Int) := by omega
        have c3 : ¬ (x : Int) ≤ 90 := by omega
        have c4 : (48 : Int) ≤ (x : Int) := by omega
        have c5 : ¬ (x : Int) ≤ 57 := by omega
        have c8 : ((x : Int) == 95) = false := by simp; omega
        have c9 : ¬ (x : Int) = 95 := by omega
        have hL2 : letterB b = false := by rw [hL]; simp; omega
        have hI2 : innerB b = false := by rw [hI, hL2]; simp; try omega
        have HF := Lib.hid (show nameB s.data.toList = false by unfold nameB; rw [show s.data.toList.all innerB = false from List.all_eq_false.2 ⟨b, hmem, by rw [hI2]; simp⟩]; simp)
        clear htk hget0 hall hL hI hmem hL2 hI2
        go_wp2_with fail
        go_ret
        rw [HF.out]
        exact ⟨rfl, by first | rfl | exact True.intro⟩
      · have c0 : (97 : Int) ≤ (x : Int) := by omega
        have c1 : ¬ (x : Int) ≤ 122 := by omega
        have c2 : (65 : Int) ≤ (x : Int) := by omega
        have c3 : ¬ (x : Int) ≤ 90 := by omega
        have c4 : (48 : Int) ≤ (x : Int) := by omega
        have c5 : ¬ (x : Int) ≤ 57 := by omega
        have c8 : ((x : Int) == 95) = false := by simp; omega
        have c9 : ¬ (x : Int) = 95 := by omega
        have hL2 : letterB b = false := by rw [hL]; simp; omega
        have hI2 : innerB b = false := by rw [hI, hL2]; simp; try omega
        have HF := Lib.hid (show nameB s.data.toList = false by unfold nameB; rw [show s.data.toList.all innerB = false from List.all_eq_false.2 ⟨b, hmem, by rw [hI2]; simp⟩]; simp)
        clear htk hget0 hall hL hI hmem hL2 hI2
        go_wp2_with fail
        go_ret
        rw [HF.out]
        exact ⟨rfl, by first | rfl | exact True.intro⟩
    · obtain rfl : n = i := by omega
      by_cases h1 : 1 ≤ n
      · by_cases h16 : n ≤ 16
        · have g1 : (1 : Int) ≤ n := by omega
          have g2 : (n : Int) ≤ 16 := by omega
          have hr : nameB s.data.toList = true := by
            have := hall (by omega)
            rw [List.take_of_length_le (by rw [hlen]; exact Nat.le_refl _)] at this
            unfold nameB
            rw [this.1, this.2, hlen, decide_eq_true h16, decide_eq_true (show s.data.toList ≠ [] from fun e => by rw [e] at hlen; simp at hlen; omega)]
            rfl
          have HR := Lib.hid hr
          clear hr hall
          go_wp2_with fail
          go_ret
          rw [HR.out]
          exact ⟨rfl, by first | rfl | exact True.intro⟩
        · have g2 : ¬ (n : Int) ≤ 16 := by omega
          have g1 : (1 : Int) ≤ n := by omega
          have hr : nameB s.data.toList = false := by
            unfold nameB
            rw [hlen, decide_eq_false h16]
            simp
          have HR := Lib.hid hr
          clear hr hall
          go_wp2_with fail
          go_ret
          rw [HR.out]
          exact ⟨rfl, by first | rfl | exact True.intro⟩
      · have g1 : ¬ (1 : Int) ≤ n := by omega
        have hr : nameB s.data.toList = false := by
          unfold nameB
          rw [decide_eq_false (show ¬ s.data.toList ≠ [] from fun e => e (List.length_eq_zero_iff.1 (by omega)))]
          rfl
        have HR := Lib.hid hr
        clear hr hall
        go_wp2_with fail
        go_ret
        rw [HR.out]
        exact ⟨rfl, by first | rfl | exact True.intro⟩
set_option maxHeartbeats 4000000 in
theorem rplain (w : World) (s : ByteArray) (hs : s.size < 4294967281) : Calls Tryd.prog 38 #[.string s] w fun e w' => e = .returned (.bool (plainB s.data.toList)) ∧ w' = w := by
  obtain ⟨n, hn⟩ : ∃ n, s.size = n := ⟨_, rfl⟩
  have hlen := size_list s
  rw [hn] at hlen hs
  have hs2 : (n : Int) < 4294967281 := by omega
  clear hs
  go_enter Tryd.func38, Tryd.ntmps38
  go_wp2_with fail
  go_loopw [3] (fun iv wr => ∃ i : Nat, i ≤ n ∧ iv = .int .i64 i ∧ wr = w ∧ (s.data.toList.take i).all signB = true) (fun iv _ => n - (intOf iv).toNat)
  case atStart => exact ⟨0, by omega, by go_num, rfl, by simp⟩
  case round =>
    obtain ⟨i, hi, rfl, rfl, hall⟩ := hrel
    by_cases hlt : i < n
    · have his : i < s.size := by omega
      have hii : (i : Int) < n := by omega
      obtain ⟨b, hb⟩ : ∃ b, s[i]'his = b := ⟨_, rfl⟩
      have htk : (s.data.toList.take (i + 1)).all signB = ((s.data.toList.take i).all signB && signB b) := by
        rw [List.take_add_one, at_list his, List.all_append, hb]
        simp
      have hmem : b ∈ s.data.toList := by rw [← hb]; exact List.mem_of_getElem? (at_list his)
      have hS : signB b = (decide (32 ≤ b.toNat) && decide (b.toNat ≤ 126)) := rfl
      have hbx : (s[i]'his).toNat = b.toNat := by rw [hb]
      obtain ⟨x, hx0⟩ : ∃ x, b.toNat = x := ⟨_, rfl⟩
      rw [hx0] at hS hbx
      clear hb hx0
      by_cases h1 : (x : Int) < 32
      · have HF := Lib.hid (show plainB s.data.toList = false by
          unfold plainB; rw [show s.data.toList.all signB = false from List.all_eq_false.2 ⟨b, hmem, by rw [hS, decide_eq_false (show ¬ 32 ≤ x by omega)]; simp⟩]; rfl)
        clear htk hmem hS hall
        go_wp2_with fail
        go_ret
        rw [HF.out]
        exact ⟨rfl, by first | rfl | exact True.intro⟩
      · by_cases h2 : (126 : Int) < x
        · have HF := Lib.hid (show plainB s.data.toList = false by
            unfold plainB; rw [show s.data.toList.all signB = false from List.all_eq_false.2 ⟨b, hmem, by rw [hS, decide_eq_false (show ¬ x ≤ 126 by omega)]; simp⟩]; rfl)
          clear htk hmem hS hall
          go_wp2_with fail
          go_ret
          rw [HF.out]
          exact ⟨rfl, by first | rfl | exact True.intro⟩
        · have HT := Lib.hid (show (s.data.toList.take (i + 1)).all signB = true by rw [htk, hall, hS, decide_eq_true (show 32 ≤ x by omega), decide_eq_true (show x ≤ 126 by omega)]; rfl)
          clear htk hmem hS hall
          go_wp2_with fail
          go_roundw
          case rel => exact ⟨i + 1, by omega, by go_num, by first | rfl | exact True.intro, HT.out⟩
          case measure => simp [intOf]; omega
    · obtain rfl : n = i := by omega
      rw [List.take_of_length_le (by rw [hlen]; exact Nat.le_refl _)] at hall
      have HF := Lib.hid hall
      clear hall
      go_wp2_with fail
      go_ret
      refine ⟨?_, by first | rfl | exact True.intro⟩
      rw [plainB, HF.out, hlen, Bool.true_and]
      by_cases h : n ≤ 64
      · have h2 : (n : Int) ≤ 64 := by omega
        simp [h, h2]
      · have h2 : ¬ (n : Int) ≤ 64 := by omega
        simp [h, h2]
end Val
end Go.Proofs.YtjkjbbmbfobdaaaDoor

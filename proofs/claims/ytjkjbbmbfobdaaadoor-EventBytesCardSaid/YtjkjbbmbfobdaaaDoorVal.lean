/-
  Names, texts and values: what the program's calls compute (no condition).
-/
import Derived.Test.YtjkjbbmbfobdaaaDoorMem
import Derived.Test.YtjkjbbmbfobdaaaDoorValPlain
import Derived.Lib.Strings
import Derived.Laws.RangeAny
namespace Go.Proofs.YtjkjbbmbfobdaaaDoor
open Go.ChangeShapes Go.WideShapes Go.RowKit Go.Deep
namespace Val
theorem letter (w : World) (c : UInt8) : Calls Tryd.prog 53 #[.int .u8 (c.toNat : Int)] w fun e w' => e = .returned (.bool (letterB c)) ∧ w' = w := by
  unfold letterB
  obtain ⟨x, hx⟩ : ∃ x, c.toNat = x := ⟨_, rfl⟩
  rw [hx]
  clear hx
  by_cases h1 : (97 : Int) ≤ (x : Int)
  · by_cases h2 : (x : Int) ≤ 122
    · have e1 : decide (97 ≤ x) = true := by simp; omega
      have e2 : decide (x ≤ 122) = true := by simp; omega
      rw [e1, e2]
      clear e1 e2
      go_enter Tryd.func53, Tryd.ntmps53
      go_wp2_with fail
      go_ret
      exact ⟨rfl, rfl⟩
    · have e2 : decide (x ≤ 122) = false := by simp; omega
      have e4 : decide (x ≤ 90) = false := by simp; omega
      have h3 : (65 : Int) ≤ (x : Int) := by omega
      have h4 : ¬ (x : Int) ≤ 90 := by omega
      rw [e2, e4]
      simp only [Bool.and_false, Bool.or_false]
      clear e2 e4
      go_enter Tryd.func53, Tryd.ntmps53
      go_wp2_with fail
      go_ret
      exact ⟨rfl, rfl⟩
  · have e1 : decide (97 ≤ x) = false := by simp; omega
    rw [e1]
    by_cases h3 : (65 : Int) ≤ (x : Int)
    · by_cases h4 : (x : Int) ≤ 90
      · have e3 : decide (65 ≤ x) = true := by simp; omega
        have e4 : decide (x ≤ 90) = true := by simp; omega
        rw [e3, e4]
        clear e1 e3 e4
        go_enter Tryd.func53, Tryd.ntmps53
        go_wp2_with fail
        go_ret
        exact ⟨rfl, rfl⟩
      · have e4 : decide (x ≤ 90) = false := by simp; omega
        rw [e4]
        simp only [Bool.and_false, Bool.or_false, Bool.false_and]
        clear e1 e4
        go_enter Tryd.func53, Tryd.ntmps53
        go_wp2_with fail
        go_ret
        exact ⟨rfl, rfl⟩
    · have e3 : decide (65 ≤ x) = false := by simp; omega
      rw [e3]
      simp only [Bool.false_and, Bool.or_false]
      clear e1 e3
      go_enter Tryd.func53, Tryd.ntmps53
      go_wp2_with fail
      go_ret
      exact ⟨rfl, rfl⟩
theorem inner (w : World) (c : UInt8) : Calls Tryd.prog 54 #[.int .u8 (c.toNat : Int)] w fun e w' => e = .returned (.bool (innerB c)) ∧ w' = w := by
  have C := Lib.hid (letter w c)
  unfold innerB
  obtain ⟨l, hl⟩ : ∃ l, letterB c = l := ⟨_, rfl⟩
  rw [hl] at C ⊢
  obtain ⟨x, hx⟩ : ∃ x, c.toNat = x := ⟨_, rfl⟩
  rw [hx] at C ⊢
  clear hx hl
  cases l
  · by_cases h1 : (48 : Int) ≤ (x : Int)
    · by_cases h2 : (x : Int) ≤ 57
      · have e1 : decide (48 ≤ x) = true := by simp; omega
        have e2 : decide (x ≤ 57) = true := by simp; omega
        rw [e1, e2]
        clear e1 e2
        go_enter Tryd.func54, Tryd.ntmps54
        go_wp2_with fail
        refine C.out.mono ?_
        rintro e w1 ⟨rfl, rfl⟩
        go_wp2_with fail
        go_ret
        exact ⟨rfl, rfl⟩
      · have e2 : decide (x ≤ 57) = false := by simp; omega
        rw [e2]
        by_cases h3 : x = 95
        · subst h3
          clear e2
          go_enter Tryd.func54, Tryd.ntmps54
          go_wp2_with fail
          refine C.out.mono ?_
          rintro e w1 ⟨rfl, rfl⟩
          go_wp2_with fail
          go_ret
          exact ⟨rfl, rfl⟩
        · have h4 : ((x : Int) == 95) = false := by simp; omega
          have h5 : ¬ (x : Int) = 95 := by omega
          have e3 : decide (x = 95) = false := by simpa using h3
          have h6 : decide ((x : Int) ≤ 57) = false := by simp; omega
          rw [e3]
          simp only [Bool.and_false, Bool.or_false]
          clear e2 e3 h3
          go_enter Tryd.func54, Tryd.ntmps54
          go_wp2_with fail
          refine C.out.mono ?_
          rintro e w1 ⟨rfl, rfl⟩
          go_wp2_with fail
          go_ret
          exact ⟨rfl, rfl⟩
    · have e1 : decide (48 ≤ x) = false := by simp; omega
      have h4 : ((x : Int) == 95) = false := by simp; omega
      have h5 : ¬ (x : Int) = 95 := by omega
      have e3 : decide (x = 95) = false := by simp; omega
      rw [e1, e3]
      simp only [Bool.false_and, Bool.or_false]
      clear e1 e3
      go_enter Tryd.func54, Tryd.ntmps54
      go_wp2_with fail
      refine C.out.mono ?_
      rintro e w1 ⟨rfl, rfl⟩
      go_wp2_with fail
      go_ret
      exact ⟨rfl, rfl⟩
  · simp only [Bool.true_or]
    go_enter Tryd.func54, Tryd.ntmps54
    go_wp2_with fail
    refine C.out.mono ?_
    rintro e w1 ⟨rfl, rfl⟩
    go_wp2_with fail
    go_ret
    exact ⟨rfl, rfl⟩
theorem at_list {s : ByteArray} {k : Nat} (h : k < s.size) : s.data.toList[k]? = some (s[k]'h) := by
  rw [Array.getElem?_toList]
  exact Array.getElem?_eq_getElem h
theorem toList_data (s : ByteArray) : s.toList = s.data.toList := Lib.toList_data s
theorem size_list (s : ByteArray) : s.data.toList.length = s.size := rfl
set_option maxHeartbeats 1000000 in
theorem name (w : World) (s : ByteArray) : Calls Tryd.prog 49 #[.string s] w fun e w' => e = .returned (.bool (nameB s.data.toList)) ∧ w' = w := by
  by_cases h0 : s = ⟨#[]⟩
  · subst h0
    go_enter Tryd.func49, Tryd.ntmps49
    go_wp2_with fail
    go_ret
    exact ⟨rfl, rfl⟩
  have hpos : 0 < s.size := by
    rcases Nat.eq_zero_or_pos s.size with h | h
    · exact (h0 (by apply ByteArray.ext; exact Array.eq_empty_of_size_eq_zero h)).elim
    · exact h
  have hemp : s.toList.isEmpty = false := by
    rw [toList_data]
    cases hq : s.data.toList with
    | nil => have := size_list s; rw [hq] at this; simp at this; omega
    | cons _ _ => rfl
  have hemp2 : ¬ s.toList = [] := fun e => by rw [e] at hemp; cases hemp
  have hne : s.data.toList ≠ [] := by rw [← toList_data]; exact hemp2
  have hget : s.data.toList.getD 0 0 = s[0]'hpos := by rw [List.getD_eq_getElem?_getD, at_list hpos]; rfl
  obtain ⟨n, hn⟩ : ∃ n, s.size = n := ⟨_, rfl⟩
  have hlen := size_list s
  rw [hn] at hlen
  by_cases h16 : (16 : Int) < n
  · have hr : nameB s.data.toList = false := by
      unfold nameB
      rw [hlen, decide_eq_false (show ¬ n ≤ 16 by omega)]
      simp
    have HR := Lib.hid hr
    clear hr hget hne
    go_enter Tryd.func49, Tryd.ntmps49
    go_wp2_with fail
    go_ret
    rw [HR.out]
    exact ⟨rfl, rfl⟩
  have C := Lib.hid (letter w (s[0]'hpos))
  obtain ⟨l, hl⟩ : ∃ l, letterB (s[0]'hpos) = l := ⟨_, rfl⟩
  rw [hl] at C
  cases l
  · have hr : nameB s.data.toList = false := by
      unfold nameB
      rw [hget, hl]
      simp
    have HR := Lib.hid hr
    clear hr hget hne hl
    go_enter Tryd.func49, Tryd.ntmps49
    go_wp2_with fail
    refine C.out.mono ?_
    rintro e w1 ⟨rfl, rfl⟩
    go_wp2_with fail
    go_ret
    rw [HR.out]
    exact ⟨rfl, rfl⟩
  · have hr : nameB s.data.toList = s.data.toList.all innerB := by
      unfold nameB
      rw [hget, hl, hlen, decide_eq_true (show n ≤ 16 by omega), decide_eq_true hne]
      simp
    have HR := Lib.hid hr
    clear hr hget hne hl
    go_enter Tryd.func49, Tryd.ntmps49
    go_wp2_with fail
    refine C.out.mono ?_
    rintro e w1 ⟨rfl, rfl⟩
    clear C
    go_wp2_with fail
    go_loopw [3, 19] (fun _ iv wr => ∃ i : Nat, i ≤ n ∧ iv = .int .i64 i ∧ wr = w1 ∧ (s.data.toList.take i).all innerB = true) (fun _ iv _ => n - (intOf iv).toNat)
    case atStart => exact ⟨0, by omega, by go_num, rfl, by simp⟩
    case round =>
      obtain ⟨i, hi, rfl, rfl, hall⟩ := hrel
      by_cases hlt : i < n
      · have his : i < s.size := by omega
        have C := Lib.hid (inner wr (s[i]'his))
        have htk : (s.data.toList.take (i + 1)).all innerB = ((s.data.toList.take i).all innerB && innerB (s[i]'his)) := by
          rw [List.take_add_one, at_list his, List.all_append]
          simp
        have hmem : s[i]'his ∈ s.data.toList := List.mem_of_getElem? (at_list his)
        obtain ⟨l, hl⟩ : ∃ l, innerB (s[i]'his) = l := ⟨_, rfl⟩
        rw [hl] at C htk
        have hii : (i : Int) < n := by omega
        cases l
        · have hf : s.data.toList.all innerB = false := by
            rw [List.all_eq_false]
            exact ⟨_, hmem, by rw [hl]; simp⟩
          have HF := Lib.hid (HR.out.trans hf)
          clear htk hmem hl hall hf
          go_wp2_with fail
          refine C.out.mono ?_
          rintro e w2 ⟨rfl, rfl⟩
          go_wp2_with fail
          go_ret
          rw [HF.out]
          exact ⟨rfl, rfl⟩
        · have HT := Lib.hid (show (s.data.toList.take (i + 1)).all innerB = true by rw [htk, hall]; rfl)
          clear htk hmem hl hall
          go_wp2_with fail
          refine C.out.mono ?_
          rintro e w2 ⟨rfl, rfl⟩
          go_wp2_with fail
          go_roundw
          case rel => exact ⟨i + 1, by omega, by go_num, by first | trivial | rfl, HT.out⟩
          case measure => simp [intOf]; omega
      · obtain rfl : n = i := by omega
        rw [List.take_of_length_le (by rw [hlen]; exact Nat.le_refl _)] at hall
        have HF := Lib.hid (HR.out.trans hall)
        clear hall
        go_wp2_with fail
        go_ret
        rw [HF.out]
        exact ⟨rfl, rfl⟩
end Val
end Go.Proofs.YtjkjbbmbfobdaaaDoor

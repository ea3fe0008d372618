/-
  The document's changes and events: which may be (no condition beyond the sizes).
-/
import Derived.Test.YtjkjbbmbfobdaaaDoorRefEv
namespace Go.Proofs.YtjkjbbmbfobdaaaDoor
set_option linter.unusedSimpArgs false
set_option linter.unusedVariables false
open Go.ChangeShapes Go.WideShapes Go.RowKit Go.Deep
namespace Evt
open Val (elemB rightB nameB JoinC)
open Vec Num
attribute [local go_sem ↓] loadDot loadVec loadRow0 storeRow0 loadOnly0 loadOnly1 loadOnly2
set_option maxHeartbeats 20000000 in
set_option maxRecDepth 20000 in
theorem rchange (w : World) (op k : Int) (a b c d : ByteArray) (vk vn : Int) (vt : ByteArray) (hs : a.size ≤ 1000 ∧ b.size ≤ 1000 ∧ c.size ≤ 1000 ∧ d.size ≤ 1000) (ht : vt.size ≤ 1000) :
    Calls Tryd.prog 12 #[chV op k a b c d vk vn vt] w fun e w' => e = .returned (.bool (changeB op k a.data.toList b.data.toList c.data.toList d.data.toList vk vn vt.data.toList)) ∧ New w w' := by
  have n1 := (Chg.refl (fun _ => False) w).alloc (.cells #[.int .i64 op, .int .i64 k, .string a, .string b, .string c, .string d, .int .i64 vk, .int .i64 vn, .string vt] 35)
  have B1 := Blk.new w 35 #[.int .i64 op, .int .i64 k, .string a, .string b, .string c, .string d, .int .i64 vk, .int .i64 vn, .string vt]
  have l1 := (blk_ch B1).1
  have CE := Lib.hid fun W => relem W k a b c d hs
  have CSc := Lib.hid fun W => Val.rright W vk vn vt ht
  have hz : ∀ W, (zeroValue 29).run Tryd.prog W = .ok (.agg #[.int .i64 0, .int .i64 0, .string ⟨#[]⟩]) W := fun W => by kernel_rfl
  have hq := eql_none vk vn vt
  have hel : elemB k a.data.toList b.data.toList c.data.toList d.data.toList = true → keptB k = decide (4 ≤ k) := fun h => by
    have := (elem_len h).1
    unfold keptB
    rw [Bool.eq_iff_iff]
    simp
    omega
  obtain ⟨eb, heb⟩ : ∃ x, elemB k a.data.toList b.data.toList c.data.toList d.data.toList = x := ⟨_, rfl⟩
  obtain ⟨rb, hrb⟩ : ∃ x, rightB vk vn vt.data.toList = x := ⟨_, rfl⟩
  obtain ⟨nb, hnb⟩ : ∃ x, noneB vk vn vt.data.toList = x := ⟨_, rfl⟩
  have hr : changeB op k a.data.toList b.data.toList c.data.toList d.data.toList vk vn vt.data.toList = (eb && (if op = 1 ∨ op = 2 then nb && !keptB k else if op = 3 then keptB k && (decide (1 ≤ vk) && decide (vk ≤ 3) && rb) else if op = 4 then nb && keptB k else false)) := by
    unfold changeB scalarB
    rw [heb, hnb, hrb]
  rw [hr]
  simp only [heb] at CE hel
  simp only [hrb] at CSc
  rw [hnb] at hq
  have N1 := Lib.hid n1
  have HB := Lib.hid B1
  have hg1 := B1.lt
  clear n1 B1 heb hrb hnb hs ht hr
  cases eb
  · rw [Bool.false_and]
    go_enter Tryd.func12, Tryd.ntmps12
    go_wp2_with fail
    with_reducible refine (CE.out _).mono ?_
    rintro e w2 ⟨rfl, n2⟩
    have N2 := Lib.hid (N1.out.trans n2 fun _ _ => id)
    clear n2
    go_wp2_with fail
    go_ret
    exact ⟨rfl, N2.out⟩
  rw [Bool.true_and, hel rfl]
  obtain ⟨r, hr⟩ : ∃ r, (if op = 1 ∨ op = 2 then nb && !decide (4 ≤ k) else if op = 3 then decide (4 ≤ k) && (decide (1 ≤ vk) && decide (vk ≤ 3) && rb) else if op = 4 then nb && decide (4 ≤ k) else false) = r := ⟨_, rfl⟩
  rw [hr]
  have HR := Lib.hid hr.symm
  clear hr hel
  go_enter Tryd.func12, Tryd.ntmps12
  go_wp2_with fail
  with_reducible refine (CE.out _).mono ?_
  rintro e w2 ⟨rfl, n2⟩
  have HB2 := Lib.hid (HB.out.chg n2 id)
  have N2 := Lib.hid (N1.out.trans n2 fun _ _ => id)
  have m2 := (blk_ch HB2.out).2.1
  have c2 := (blk_ch HB2.out).2.2.1
  have c3 := HB2.out.cell 1
  have c4 := HB2.out.cell 6
  simp only [List.getElem?_toArray, List.getElem?_cons_zero, List.getElem?_cons_succ] at c3 c4
  have g2 := HB2.out.lt
  clear n2 l1 CE
  by_cases h4 : 4 ≤ k
  · by_cases o1 : op = 1
    · subst o1
      go_wp2_with fail
      go_ret
      exact ⟨by rw [HR.out] <;> first | (simp [*]; done) | (simp [*] <;> intros <;> omega) | (cases nb <;> simp [*]; done) | (cases nb <;> simp [*] <;> intros <;> omega), N2.out⟩
    by_cases o2 : op = 2
    · subst o2
      go_wp2_with fail
      go_ret
      exact ⟨by rw [HR.out] <;> first | (simp [*]; done) | (simp [*] <;> intros <;> omega) | (cases nb <;> simp [*]; done) | (cases nb <;> simp [*] <;> intros <;> omega), N2.out⟩
    by_cases o3 : op = 3
    · subst o3
      by_cases v1 : 1 ≤ vk
      · by_cases v3 : vk ≤ 3
        · go_wp2_with fail
          with_reducible refine (CSc.out _).mono ?_
          rintro e w3 ⟨rfl, n3⟩
          have N2 := Lib.hid (N2.out.trans n3 fun _ _ => id)
          clear n3
          go_wp2_with fail
          go_ret
          exact ⟨by rw [HR.out] <;> first | (simp [*]; done) | (simp [*] <;> intros <;> omega) | (cases nb <;> simp [*]; done) | (cases nb <;> simp [*] <;> intros <;> omega), N2.out⟩
        · go_wp2_with fail
          go_ret
          exact ⟨by rw [HR.out] <;> first | (simp [*]; done) | (simp [*] <;> intros <;> omega) | (cases nb <;> simp [*]; done) | (cases nb <;> simp [*] <;> intros <;> omega), N2.out⟩
      · go_wp2_with fail
        go_ret
        exact ⟨by rw [HR.out] <;> first | (simp [*]; done) | (simp [*] <;> intros <;> omega) | (cases nb <;> simp [*]; done) | (cases nb <;> simp [*] <;> intros <;> omega), N2.out⟩
    by_cases o4 : op = 4
    · subst o4
      go_wp2_with fail
      go_ret
      exact ⟨by rw [HR.out] <;> first | (simp [*]; done) | (simp [*] <;> intros <;> omega) | (cases nb <;> simp [*]; done) | (cases nb <;> simp [*] <;> intros <;> omega), N2.out⟩
    have b1 : (op == 1) = false := by simpa using o1
    have b2 : (op == 2) = false := by simpa using o2
    have b3 : (op == 3) = false := by simpa using o3
    have b4 : (op == 4) = false := by simpa using o4
    go_wp2_with fail
    go_ret
    exact ⟨by rw [HR.out] <;> first | (simp [*]; done) | (simp [*] <;> intros <;> omega) | (cases nb <;> simp [*]; done) | (cases nb <;> simp [*] <;> intros <;> omega), N2.out⟩
  · by_cases o1 : op = 1
    · subst o1
      go_wp2_with fail
      go_ret
      exact ⟨by rw [HR.out] <;> first | (simp [*]; done) | (simp [*] <;> intros <;> omega) | (cases nb <;> simp [*]; done) | (cases nb <;> simp [*] <;> intros <;> omega), N2.out⟩
    by_cases o2 : op = 2
    · subst o2
      go_wp2_with fail
      go_ret
      exact ⟨by rw [HR.out] <;> first | (simp [*]; done) | (simp [*] <;> intros <;> omega) | (cases nb <;> simp [*]; done) | (cases nb <;> simp [*] <;> intros <;> omega), N2.out⟩
    by_cases o3 : op = 3
    · subst o3
      go_wp2_with fail
      go_ret
      exact ⟨by rw [HR.out] <;> first | (simp [*]; done) | (simp [*] <;> intros <;> omega) | (cases nb <;> simp [*]; done) | (cases nb <;> simp [*] <;> intros <;> omega), N2.out⟩
    by_cases o4 : op = 4
    · subst o4
      go_wp2_with fail
      go_ret
      exact ⟨by rw [HR.out] <;> first | (simp [*]; done) | (simp [*] <;> intros <;> omega) | (cases nb <;> simp [*]; done) | (cases nb <;> simp [*] <;> intros <;> omega), N2.out⟩
    have b1 : (op == 1) = false := by simpa using o1
    have b2 : (op == 2) = false := by simpa using o2
    have b3 : (op == 3) = false := by simpa using o3
    have b4 : (op == 4) = false := by simpa using o4
    go_wp2_with fail
    go_ret
    exact ⟨by rw [HR.out] <;> first | (simp [*]; done) | (simp [*] <;> intros <;> omega) | (cases nb <;> simp [*]; done) | (cases nb <;> simp [*] <;> intros <;> omega), N2.out⟩
end Evt
end Go.Proofs.YtjkjbbmbfobdaaaDoor

/-
  value.Elem: which elements may be, if strings.Join joins (no condition beyond the sizes).
-/
import Derived.Test.YtjkjbbmbfobdaaaDoorVal3
namespace Go.Proofs.YtjkjbbmbfobdaaaDoor
set_option linter.unusedSimpArgs false
set_option linter.unusedVariables false
open Go.ChangeShapes Go.WideShapes Go.RowKit Go.Deep
namespace Val
/-- what strings.Join gives of texts with nothing between them -/
def JoinC : Prop := ∀ (w : World) (bk n c : Nat) (xs : List ByteArray), Blk w bk 9 (xs.map Value.string).toArray → xs.length = n → 0 < n → n ≤ 4 → n ≤ c → (∀ x ∈ xs, x.size ≤ 1000000) →
  Calls Tryd.prog 50 #[.slice (some ⟨bk, 0, none⟩) n c, .string ⟨#[]⟩] w fun e w' => e = .returned (.string ⟨(Lib.join (xs.map (·.data.toList)) []).toArray⟩) ∧ New w w'
def emptyB (xs : List ByteArray) : Bool := xs.all fun x => decide (x.data.toList = [])
set_option maxHeartbeats 4000000 in
set_option maxRecDepth 20000 in
theorem empty (hJ : JoinC) (w : World) (bk n c : Nat) (xs : List ByteArray) (hb : Blk w bk 9 (xs.map Value.string).toArray) (hl : xs.length = n) (h0 : 0 < n) (hn : n ≤ 4) (hc : n ≤ c) (hs : ∀ x ∈ xs, x.size ≤ 1000000) :
    Calls Tryd.prog 45 #[.slice (some ⟨bk, 0, none⟩) n c] w fun e w' => e = .returned (.bool (emptyB xs)) ∧ New w w' := by
  have C := Lib.hid (hJ w bk n c xs hb hl h0 hn hc hs)
  have he : emptyB xs = decide (Lib.join (xs.map (·.data.toList)) [] = []) := by
    unfold emptyB
    rw [Bool.eq_iff_iff, List.all_eq_true, decide_eq_true_eq, join_nil_iff]
    simp
  rw [he]
  obtain ⟨j, hj⟩ : ∃ j, Lib.join (xs.map (·.data.toList)) [] = j := ⟨_, rfl⟩
  rw [hj] at C ⊢
  clear he hj hb hl hs
  cases j with
  | nil =>
    go_enter Tryd.func45, Tryd.ntmps45
    go_wp2_with fail
    with_reducible refine C.out.mono ?_
    rintro e w1 ⟨rfl, n1⟩
    have H := Lib.hid n1
    clear n1 C
    go_wp2_with fail
    go_ret
    exact ⟨rfl, H.out⟩
  | cons b l =>
    obtain ⟨x, hx⟩ : ∃ x : ByteArray, ⟨(b :: l).toArray⟩ = x := ⟨_, rfl⟩
    have hne : (x.toList == (⟨#[]⟩ : ByteArray).toList) = false := by
      rw [beq_eq_false_iff_ne]
      intro e
      rw [← hx, toList_data, toList_data] at e
      simp at e
    have hne2 : (x == (⟨#[]⟩ : ByteArray)) = false := by
      rw [Go.beq_toListBytes]; exact hne
    have hne3 : ¬ x = ⟨#[]⟩ := fun e => by rw [← hx] at e; simp at e
    have hne4 : ¬ x.toList = [] := fun e => by rw [← hx, toList_data] at e; simp at e
    rw [hx] at C
    clear hx
    go_enter Tryd.func45, Tryd.ntmps45
    go_wp2_with fail
    with_reducible refine C.out.mono ?_
    rintro e w1 ⟨rfl, n1⟩
    have H := Lib.hid n1
    clear n1 C
    go_wp2_with fail
    go_ret
    exact ⟨by simp [hne, hne2, hne3, hne4], H.out⟩
/-- texts that a call lays side by side -/
theorem laid {w : World} (xs : List ByteArray) : Blk (w.alloc (.cells (xs.map Value.string).toArray 9)) w.heap.size 9 (xs.map Value.string).toArray := Blk.new _ _ _
theorem laid_reads {w : World} {g : Nat} {xs : List ByteArray} (h : Blk w g 9 (xs.map Value.string).toArray) (n : Nat) (hl : xs.length = n) : Reads w (fun b => b < w.heap.size) 1 (some ⟨g, 0, none⟩) n (xs.map Value.string) := by
  have := Reads.of_blk (n := n) (size := 1) h (by simp [hl])
  exact this.mono fun b hb => by rw [hb]; exact h.lt
set_option maxHeartbeats 20000000 in
set_option maxRecDepth 20000 in
theorem elem (hJ : JoinC) (w : World) (k : Int) (a b c d : ByteArray) (hs : a.size ≤ 1000000 ∧ b.size ≤ 1000000 ∧ c.size ≤ 1000000 ∧ d.size ≤ 1000000) :
    Calls Tryd.prog 34 #[.agg #[.int .i64 k, .string a, .string b, .string c, .string d]] w fun e w' => e = .returned (.bool (elemB k a.data.toList b.data.toList c.data.toList d.data.toList)) ∧ New w w' := by
  obtain ⟨r, hr⟩ : ∃ r, elemB k a.data.toList b.data.toList c.data.toList d.data.toList = r := ⟨_, rfl⟩
  rw [hr]
  have HS := Lib.hid hs
  clear hs
  by_cases h1 : k = 1
  · subst h1
    have hb2 : Blk ((w.alloc (.cells #[.int .i64 1, .string a, .string b, .string c, .string d] 27)).alloc (.cells #[.string a] 9)) (w.heap.size + 1) 9 ([a].map Value.string).toArray := Blk.new1 w (.cells #[.int .i64 1, .string a, .string b, .string c, .string d] 27) 9 #[.string a]
    have CN := Lib.hid (names _ _ 1 1 [a] (laid_reads hb2 1 rfl) (by decide))
    simp only [List.all_cons, List.all_nil, Bool.and_true] at CN
    have hb3 : Blk (((w.alloc (.cells #[.int .i64 1, .string a, .string b, .string c, .string d] 27)).alloc (.cells #[.string a] 9)).alloc (.cells #[.string b, .string c, .string d] 9)) (w.heap.size + 2) 9 ([b, c, d].map Value.string).toArray := Blk.new2 w (.cells #[.int .i64 1, .string a, .string b, .string c, .string d] 27) (.cells #[.string a] 9) 9 #[.string b, .string c, .string d]
    have CE := Lib.hid (empty hJ _ _ 3 3 [b, c, d] hb3 rfl (by decide) (by decide) (by decide) (by simp [HS.out]))
    unfold emptyB at CE
    simp only [List.all_cons, List.all_nil, Bool.and_true] at CE
    obtain ⟨nb, hnb⟩ : ∃ x, (nameB a.data.toList) = x := ⟨_, rfl⟩
    obtain ⟨eb, heb⟩ : ∃ x, (decide (b.data.toList = []) && (decide (c.data.toList = []) && decide (d.data.toList = []))) = x := ⟨_, rfl⟩
    have hr : r = (nb && eb) := by rw [← hnb, ← heb, ← hr]; unfold elemB; simp only [reduceIte, Int.reduceEq, or_self, or_true, true_or, or_false, false_or]; simp only [Bool.and_assoc, Bool.and_comm, Bool.and_left_comm]
    rw [heb] at CE
    rw [hnb] at CN
    subst hr
    clear hnb hb2 heb hb3
    have N1 := Lib.hid (((Chg.refl (fun _ => False) w).alloc (.cells #[.int .i64 1, .string a, .string b, .string c, .string d] 27)).alloc (.cells #[.string a] 9))
    cases nb
    · go_enter Tryd.func34, Tryd.ntmps34
      go_wp2_with fail
      with_reducible refine CN.out.mono ?_
      rintro e w1 ⟨rfl, rfl⟩
      go_wp2_with fail
      go_ret
      exact ⟨rfl, N1.out⟩
    · go_enter Tryd.func34, Tryd.ntmps34
      go_wp2_with fail
      with_reducible refine CN.out.mono ?_
      rintro e w1 ⟨rfl, rfl⟩
      go_wp2_with fail
      with_reducible refine CE.out.mono ?_
      rintro e w2 ⟨rfl, n2⟩
      have N2 := Lib.hid ((N1.out.alloc (.cells #[.string b, .string c, .string d] 9)).trans n2 fun _ _ => id)
      clear n2 CE
      go_wp2_with fail
      go_ret
      exact ⟨rfl, N2.out⟩
  by_cases h2 : k = 2
  · subst h2
    have hb2 : Blk ((w.alloc (.cells #[.int .i64 2, .string a, .string b, .string c, .string d] 27)).alloc (.cells #[.string a, .string d] 9)) (w.heap.size + 1) 9 ([a, d].map Value.string).toArray := Blk.new1 w (.cells #[.int .i64 2, .string a, .string b, .string c, .string d] 27) 9 #[.string a, .string d]
    have CN := Lib.hid (names _ _ 2 2 [a, d] (laid_reads hb2 2 rfl) (by decide))
    simp only [List.all_cons, List.all_nil, Bool.and_true] at CN
    have hb3 : Blk (((w.alloc (.cells #[.int .i64 2, .string a, .string b, .string c, .string d] 27)).alloc (.cells #[.string a, .string d] 9)).alloc (.cells #[.string b, .string c] 9)) (w.heap.size + 2) 9 ([b, c].map Value.string).toArray := Blk.new2 w (.cells #[.int .i64 2, .string a, .string b, .string c, .string d] 27) (.cells #[.string a, .string d] 9) 9 #[.string b, .string c]
    have CE := Lib.hid (empty hJ _ _ 2 2 [b, c] hb3 rfl (by decide) (by decide) (by decide) (by simp [HS.out]))
    unfold emptyB at CE
    simp only [List.all_cons, List.all_nil, Bool.and_true] at CE
    obtain ⟨nb, hnb⟩ : ∃ x, (nameB a.data.toList && nameB d.data.toList) = x := ⟨_, rfl⟩
    obtain ⟨eb, heb⟩ : ∃ x, (decide (b.data.toList = []) && decide (c.data.toList = [])) = x := ⟨_, rfl⟩
    have hr : r = (nb && eb) := by rw [← hnb, ← heb, ← hr]; unfold elemB; simp only [reduceIte, Int.reduceEq, or_self, or_true, true_or, or_false, false_or]; simp only [Bool.and_assoc, Bool.and_comm, Bool.and_left_comm]
    rw [heb] at CE
    rw [hnb] at CN
    subst hr
    clear hnb hb2 heb hb3
    have N1 := Lib.hid (((Chg.refl (fun _ => False) w).alloc (.cells #[.int .i64 2, .string a, .string b, .string c, .string d] 27)).alloc (.cells #[.string a, .string d] 9))
    cases nb
    · go_enter Tryd.func34, Tryd.ntmps34
      go_wp2_with fail
      with_reducible refine CN.out.mono ?_
      rintro e w1 ⟨rfl, rfl⟩
      go_wp2_with fail
      go_ret
      exact ⟨rfl, N1.out⟩
    · go_enter Tryd.func34, Tryd.ntmps34
      go_wp2_with fail
      with_reducible refine CN.out.mono ?_
      rintro e w1 ⟨rfl, rfl⟩
      go_wp2_with fail
      with_reducible refine CE.out.mono ?_
      rintro e w2 ⟨rfl, n2⟩
      have N2 := Lib.hid ((N1.out.alloc (.cells #[.string b, .string c] 9)).trans n2 fun _ _ => id)
      clear n2 CE
      go_wp2_with fail
      go_ret
      exact ⟨rfl, N2.out⟩
  by_cases h4 : k = 4
  · subst h4
    have hb2 : Blk ((w.alloc (.cells #[.int .i64 4, .string a, .string b, .string c, .string d] 27)).alloc (.cells #[.string a, .string d] 9)) (w.heap.size + 1) 9 ([a, d].map Value.string).toArray := Blk.new1 w (.cells #[.int .i64 4, .string a, .string b, .string c, .string d] 27) 9 #[.string a, .string d]
    have CN := Lib.hid (names _ _ 2 2 [a, d] (laid_reads hb2 2 rfl) (by decide))
    simp only [List.all_cons, List.all_nil, Bool.and_true] at CN
    have hb3 : Blk (((w.alloc (.cells #[.int .i64 4, .string a, .string b, .string c, .string d] 27)).alloc (.cells #[.string a, .string d] 9)).alloc (.cells #[.string b, .string c] 9)) (w.heap.size + 2) 9 ([b, c].map Value.string).toArray := Blk.new2 w (.cells #[.int .i64 4, .string a, .string b, .string c, .string d] 27) (.cells #[.string a, .string d] 9) 9 #[.string b, .string c]
    have CE := Lib.hid (empty hJ _ _ 2 2 [b, c] hb3 rfl (by decide) (by decide) (by decide) (by simp [HS.out]))
    unfold emptyB at CE
    simp only [List.all_cons, List.all_nil, Bool.and_true] at CE
    obtain ⟨nb, hnb⟩ : ∃ x, (nameB a.data.toList && nameB d.data.toList) = x := ⟨_, rfl⟩
    obtain ⟨eb, heb⟩ : ∃ x, (decide (b.data.toList = []) && decide (c.data.toList = [])) = x := ⟨_, rfl⟩
    have hr : r = (nb && eb) := by rw [← hnb, ← heb, ← hr]; unfold elemB; simp only [reduceIte, Int.reduceEq, or_self, or_true, true_or, or_false, false_or]; simp only [Bool.and_assoc, Bool.and_comm, Bool.and_left_comm]
    rw [heb] at CE
    rw [hnb] at CN
    subst hr
    clear hnb hb2 heb hb3
    have N1 := Lib.hid (((Chg.refl (fun _ => False) w).alloc (.cells #[.int .i64 4, .string a, .string b, .string c, .string d] 27)).alloc (.cells #[.string a, .string d] 9))
    cases nb
    · go_enter Tryd.func34, Tryd.ntmps34
      go_wp2_with fail
      with_reducible refine CN.out.mono ?_
      rintro e w1 ⟨rfl, rfl⟩
      go_wp2_with fail
      go_ret
      exact ⟨rfl, N1.out⟩
    · go_enter Tryd.func34, Tryd.ntmps34
      go_wp2_with fail
      with_reducible refine CN.out.mono ?_
      rintro e w1 ⟨rfl, rfl⟩
      go_wp2_with fail
      with_reducible refine CE.out.mono ?_
      rintro e w2 ⟨rfl, n2⟩
      have N2 := Lib.hid ((N1.out.alloc (.cells #[.string b, .string c] 9)).trans n2 fun _ _ => id)
      clear n2 CE
      go_wp2_with fail
      go_ret
      exact ⟨rfl, N2.out⟩
  by_cases h3 : k = 3
  · subst h3
    have hb2 : Blk ((w.alloc (.cells #[.int .i64 3, .string a, .string b, .string c, .string d] 27)).alloc (.cells #[.string a, .string b, .string c] 9)) (w.heap.size + 1) 9 ([a, b, c].map Value.string).toArray := Blk.new1 w (.cells #[.int .i64 3, .string a, .string b, .string c, .string d] 27) 9 #[.string a, .string b, .string c]
    have CN := Lib.hid (names _ _ 3 3 [a, b, c] (laid_reads hb2 3 rfl) (by decide))
    simp only [List.all_cons, List.all_nil, Bool.and_true] at CN
    have hb3 : Blk (((w.alloc (.cells #[.int .i64 3, .string a, .string b, .string c, .string d] 27)).alloc (.cells #[.string a, .string b, .string c] 9)).alloc (.cells #[.string d] 9)) (w.heap.size + 2) 9 ([d].map Value.string).toArray := Blk.new2 w (.cells #[.int .i64 3, .string a, .string b, .string c, .string d] 27) (.cells #[.string a, .string b, .string c] 9) 9 #[.string d]
    have CE := Lib.hid (empty hJ _ _ 1 1 [d] hb3 rfl (by decide) (by decide) (by decide) (by simp [HS.out]))
    unfold emptyB at CE
    simp only [List.all_cons, List.all_nil, Bool.and_true] at CE
    obtain ⟨nb, hnb⟩ : ∃ x, (nameB a.data.toList && (nameB b.data.toList && nameB c.data.toList)) = x := ⟨_, rfl⟩
    obtain ⟨eb, heb⟩ : ∃ x, (decide (d.data.toList = [])) = x := ⟨_, rfl⟩
    have hr : r = (nb && eb) := by rw [← hnb, ← heb, ← hr]; unfold elemB; simp only [reduceIte, Int.reduceEq, or_self, or_true, true_or, or_false, false_or]; simp only [Bool.and_assoc, Bool.and_comm, Bool.and_left_comm]
    rw [heb] at CE
    rw [hnb] at CN
    subst hr
    clear hnb hb2 heb hb3
    have N1 := Lib.hid (((Chg.refl (fun _ => False) w).alloc (.cells #[.int .i64 3, .string a, .string b, .string c, .string d] 27)).alloc (.cells #[.string a, .string b, .string c] 9))
    cases nb
    · go_enter Tryd.func34, Tryd.ntmps34
      go_wp2_with fail
      with_reducible refine CN.out.mono ?_
      rintro e w1 ⟨rfl, rfl⟩
      go_wp2_with fail
      go_ret
      exact ⟨rfl, N1.out⟩
    · go_enter Tryd.func34, Tryd.ntmps34
      go_wp2_with fail
      with_reducible refine CN.out.mono ?_
      rintro e w1 ⟨rfl, rfl⟩
      go_wp2_with fail
      with_reducible refine CE.out.mono ?_
      rintro e w2 ⟨rfl, n2⟩
      have N2 := Lib.hid ((N1.out.alloc (.cells #[.string d] 9)).trans n2 fun _ _ => id)
      clear n2 CE
      go_wp2_with fail
      go_ret
      exact ⟨rfl, N2.out⟩
  by_cases h5 : k = 5
  · subst h5
    have hb2 : Blk ((w.alloc (.cells #[.int .i64 5, .string a, .string b, .string c, .string d] 27)).alloc (.cells #[.string a, .string b, .string c, .string d] 9)) (w.heap.size + 1) 9 ([a, b, c, d].map Value.string).toArray := Blk.new1 w (.cells #[.int .i64 5, .string a, .string b, .string c, .string d] 27) 9 #[.string a, .string b, .string c, .string d]
    have CN := Lib.hid (names _ _ 4 4 [a, b, c, d] (laid_reads hb2 4 rfl) (by decide))
    simp only [List.all_cons, List.all_nil, Bool.and_true] at CN
    obtain ⟨nb, hnb⟩ : ∃ x, (nameB a.data.toList && (nameB b.data.toList && (nameB c.data.toList && nameB d.data.toList))) = x := ⟨_, rfl⟩
    have hr : r = nb := by rw [← hnb, ← hr]; unfold elemB; simp only [reduceIte, Int.reduceEq, or_self, or_true, true_or, or_false, false_or]; simp only [Bool.and_assoc, Bool.and_comm, Bool.and_left_comm]
    rw [hnb] at CN
    subst hr
    clear hnb hb2
    have N1 := Lib.hid (((Chg.refl (fun _ => False) w).alloc (.cells #[.int .i64 5, .string a, .string b, .string c, .string d] 27)).alloc (.cells #[.string a, .string b, .string c, .string d] 9))
    go_enter Tryd.func34, Tryd.ntmps34
    go_wp2_with fail
    with_reducible refine CN.out.mono ?_
    rintro e w1 ⟨rfl, rfl⟩
    go_wp2_with fail
    go_ret
    exact ⟨rfl, N1.out⟩
  have hr : r = false := by rw [← hr]; unfold elemB; rw [if_neg h1, if_neg (by omega), if_neg h3, if_neg h5]
  subst hr
  have b1 : (k == 1) = false := by simpa using h1
  have b2 : (k == 2) = false := by simpa using h2
  have b3 : (k == 3) = false := by simpa using h3
  have b4 : (k == 4) = false := by simpa using h4
  have b5 : (k == 5) = false := by simpa using h5
  have N1 := Lib.hid ((Chg.refl (fun _ => False) w).alloc (.cells #[.int .i64 k, .string a, .string b, .string c, .string d] 27))
  go_enter Tryd.func34, Tryd.ntmps34
  go_wp2_with fail
  go_ret
  exact ⟨rfl, N1.out⟩
end Val
end Go.Proofs.YtjkjbbmbfobdaaaDoor

/-
  Values by the document's own definition: what may be (no condition but on the texts' size).
-/
import Derived.Test.YtgfkopimjmggdaaDoorJ11
/- Short: what it computes; which events an argument may be (no condition beyond the sizes). -/
namespace Go.Proofs.YtgfkopimjmggdaaDoor
set_option linter.unusedSimpArgs false
set_option linter.unusedVariables false
open Go.ChangeShapes Go.WideShapes Go.RowKit Go.Deep
namespace Evt
open Val (JoinC)
open Vec Num
attribute [local go_sem ↓] loadDot loadVec loadRow0 storeRow0 loadOnly0 loadOnly1 loadOnly2
def total (e : Ev) : Nat := (e.t 20).size + (e.t 21).size + (e.t 22).size + (e.t 23).size + (e.t 26).size
/-- an event that may come as an argument -/
structure Came (e : Ev) : Prop where
  t : ∀ i, (e.t i).size ≤ 140737488351232
  n : -9223372036854775808 ≤ e.n 25 ∧ e.n 25 ≤ 9223372036854775807
  no : ∀ i, i ≠ 20 → i ≠ 21 → i ≠ 22 → i ≠ 23 → i ≠ 26 → (e.t i).size = 0
  big : ∀ i, -9223372036854775808 ≤ e.n i ∧ e.n i ≤ 9223372036854775807
theorem Came.fit {e : Ev} (h : Came e) (hs : total e ≤ 300) : Fit e := by
  refine ⟨fun i => ?_, h.n⟩
  unfold total at hs
  by_cases h1 : i = 20
  · subst h1; omega
  by_cases h2 : i = 21
  · subst h2; omega
  by_cases h3 : i = 22
  · subst h3; omega
  by_cases h4 : i = 23
  · subst h4; omega
  by_cases h5 : i = 26
  · subst h5; omega
  · rw [h.no i h1 h2 h3 h4 h5]; decide
theorem short_len {e : Ev} (hs : total e ≤ 300) : e.bytes.length ≤ 600 := by
  have := items_len e
  unfold total at hs
  omega
set_option maxHeartbeats 4000000 in
set_option maxRecDepth 20000 in
theorem short (w : World) (e : Ev) (h : Came e) : Calls Tryd.prog 17 #[e.val] w fun x w' => x = .returned (.bool (decide (total e ≤ 300))) ∧ New w w' := by
  have B := Blk.new w 35 e.cs.toArray
  have c0 : (w.alloc (.cells e.cs.toArray 35)).cell? ⟨w.heap.size, 20, none⟩ = some (.string (e.t 20)) := B.cell 20
  have c1 : (w.alloc (.cells e.cs.toArray 35)).cell? ⟨w.heap.size, 21, none⟩ = some (.string (e.t 21)) := B.cell 21
  have c2 : (w.alloc (.cells e.cs.toArray 35)).cell? ⟨w.heap.size, 22, none⟩ = some (.string (e.t 22)) := B.cell 22
  have c3 : (w.alloc (.cells e.cs.toArray 35)).cell? ⟨w.heap.size, 23, none⟩ = some (.string (e.t 23)) := B.cell 23
  have c4 : (w.alloc (.cells e.cs.toArray 35)).cell? ⟨w.heap.size, 26, none⟩ = some (.string (e.t 26)) := B.cell 26
  have t0 := h.t 20
  have t1 := h.t 21
  have t2 := h.t 22
  have t3 := h.t 23
  have t4 := h.t 26
  have ht : decide (total e ≤ 300) = decide (((e.t 20).size : Int) + (e.t 21).size + (e.t 22).size + (e.t 23).size + (e.t 26).size ≤ 300) := by
    rw [decide_eq_decide]
    unfold total
    omega
  rw [ht]
  obtain ⟨a, ha⟩ : ∃ a, (e.t 20).size = a := ⟨_, rfl⟩
  obtain ⟨b, hb⟩ : ∃ a, (e.t 21).size = a := ⟨_, rfl⟩
  obtain ⟨c, hc⟩ : ∃ a, (e.t 22).size = a := ⟨_, rfl⟩
  obtain ⟨d, hd⟩ : ∃ a, (e.t 23).size = a := ⟨_, rfl⟩
  obtain ⟨f, hf⟩ : ∃ a, (e.t 26).size = a := ⟨_, rfl⟩
  rw [ha] at t0
  rw [hb] at t1
  rw [hc] at t2
  rw [hd] at t3
  rw [hf] at t4
  have w1 : IntKind.i64.wrap ((a : Int) + b) = (a : Int) + b := IntWalk.i64_in _ (by omega)
  have w2 : IntKind.i64.wrap ((a : Int) + b + c) = (a : Int) + b + c := IntWalk.i64_in _ (by omega)
  have w3 : IntKind.i64.wrap ((a : Int) + b + c + d) = (a : Int) + b + c + d := IntWalk.i64_in _ (by omega)
  have w4 : IntKind.i64.wrap ((a : Int) + b + c + d + f) = (a : Int) + b + c + d + f := IntWalk.i64_in _ (by omega)
  rw [ha, hb, hc, hd, hf]
  have g0 := B.lt
  clear B ht t0 t1 t2 t3 t4
  go_enter Tryd.func17, Tryd.ntmps17
  go_wp2_with fail
  go_ret
  exact ⟨rfl, (Chg.refl _ w).alloc _⟩
end Evt
end Go.Proofs.YtgfkopimjmggdaaDoor

/- Names and texts by the document's own definition: what its calls compute (no condition). -/
namespace Go.Proofs.YtgfkopimjmggdaaDoor
set_option linter.unusedSimpArgs false
set_option linter.unusedVariables false
open Go.ChangeShapes Go.WideShapes Go.RowKit Go.Deep
namespace Val
theorem classes (x : Nat) : (97 ≤ x ∧ x ≤ 122) ∨ (65 ≤ x ∧ x ≤ 90) ∨ (48 ≤ x ∧ x ≤ 57) ∨ (x = 95) ∨ (x < 48) ∨ (58 ≤ x ∧ x ≤ 64) ∨ (91 ≤ x ∧ x ≤ 94) ∨ (x = 96) ∨ (123 ≤ x) := by omega
set_option maxHeartbeats 4000000 in
set_option maxRecDepth 20000 in
theorem rname (w : World) (s : ByteArray) (hs : s.size < 4294967281) : Calls Tryd.prog 51 #[.string s] w fun e w' => e = .returned (.bool (nameB s.data.toList)) ∧ w' = w := by
  obtain ⟨n, hn⟩ : ∃ n, s.size = n := ⟨_, rfl⟩
  have hlen := size_list s
  rw [hn] at hlen hs
  have hs2 : (n : Int) < 4294967281 := by omega
  clear hs
  go_enter Tryd.func51, Tryd.ntmps51
  go_wp2_with fail
  go_loopw [3, 4, 5, 6] (fun iv _ _ _ wr => ∃ i : Nat, i ≤ n ∧ iv = .int .i64 i ∧ wr = w ∧ (0 < i → (s.data.toList.take i).all innerB = true ∧ letterB (s.data.toList.getD 0 0) = true)) (fun iv _ _ _ _ => n - (intOf iv).toNat)
  case atStart => exact ⟨0, by omega, by go_num, rfl, fun h => by omega⟩
  case round =>
    obtain ⟨i, hi, rfl, rfl, hall⟩ := hrel
    by_cases hlt : i < n
    · have his : i < s.size := by omega
      have hii : (i : Int) < n := by omega
      obtain ⟨b, hb⟩ : ∃ b, s[i]'his = b := ⟨_, rfl⟩
      have htk : (s.data.toList.take (i + 1)).all innerB = ((s.data.toList.take i).all innerB && innerB b) := by
        rw [List.take_add_one, at_list his, List.all_append, hb]
        simp
      have hmem : b ∈ s.data.toList := by rw [← hb]; exact List.mem_of_getElem? (at_list his)
      have hget0 : i = 0 → s.data.toList.getD 0 0 = b := fun h => by
        subst h
        rw [List.getD_eq_getElem?_getD, at_list his, hb]
        rfl
      have hL : letterB b = ((decide (97 ≤ b.toNat) && decide (b.toNat ≤ 122)) || (decide (65 ≤ b.toNat) && decide (b.toNat ≤ 90))) := rfl
      have hI : innerB b = (letterB b || (decide (48 ≤ b.toNat) && decide (b.toNat ≤ 57)) || decide (b.toNat = 95)) := rfl
      have hbx : (s[i]'his).toNat = b.toNat := by rw [hb]
      obtain ⟨x, hx0⟩ : ∃ x, b.toNat = x := ⟨_, rfl⟩
      rw [hx0] at hL hI hbx
      clear hb hx0
      rcases classes x with hx | hx | hx | hx | hx | hx | hx | hx | hx
      · have c0 : (97 : Int) ≤ (x : Int) := by omega
        have c1 : (x : Int) ≤ 122 := by omega
        have c2 : (65 : Int) ≤ (x : Int) := by omega
        have c3 : ¬ (x : Int) ≤ 90 := by omega
        have c4 : (48 : Int) ≤ (x : Int) := by omega
        have c5 : ¬ (x : Int) ≤ 57 := by omega
        have c8 : ((x : Int) == 95) = false := by simp; omega
        have c9 : ¬ (x : Int) = 95 := by omega
        have hL2 : letterB b = true := by rw [hL]; simp; omega
        have hI2 : innerB b = true := by rw [hI, hL2]; simp; try omega
        have HT := Lib.hid (show (s.data.toList.take (i + 1)).all innerB = true ∧ letterB (s.data.toList.getD 0 0) = true by rw [htk]; refine ⟨by rw [hI2]; by_cases h : i = 0 <;> first | (subst h; simp; done) | (rw [(hall (by omega)).1]; rfl), ?_⟩; by_cases h : i = 0 <;> first | (rw [hget0 h]; exact hL2) | exact (hall (by omega)).2)
        clear htk hget0 hall hL hI hmem hL2 hI2
        go_wp2_with fail
        go_roundw
        case rel => exact ⟨i + 1, by omega, by go_num, by first | rfl | exact True.intro, fun _ => HT.out⟩
        case measure => simp [intOf]; omega
      · have c0 : ¬ (97 : Int) ≤ (x : Int) := by omega
        have c1 : (x : Int) ≤ 122 := by omega
        have c2 : (65 : Int) ≤ (x : Int) := by omega
        have c3 : (x : Int) ≤ 90 := by omega
        have c4 : (48 : Int) ≤ (x : Int) := by omega
        have c5 : ¬ (x : Int) ≤ 57 := by omega
        have c8 : ((x : Int) == 95) = false := by simp; omega
        have c9 : ¬ (x : Int) = 95 := by omega
        have hL2 : letterB b = true := by rw [hL]; simp; omega
        have hI2 : innerB b = true := by rw [hI, hL2]; simp; try omega
        have HT := Lib.hid (show (s.data.toList.take (i + 1)).all innerB = true ∧ letterB (s.data.toList.getD 0 0) = true by rw [htk]; refine ⟨by rw [hI2]; by_cases h : i = 0 <;> first | (subst h; simp; done) | (rw [(hall (by omega)).1]; rfl), ?_⟩; by_cases h : i = 0 <;> first | (rw [hget0 h]; exact hL2) | exact (hall (by omega)).2)
        clear htk hget0 hall hL hI hmem hL2 hI2
        go_wp2_with fail
        go_roundw
        case rel => exact ⟨i + 1, by omega, by go_num, by first | rfl | exact True.intro, fun _ => HT.out⟩
        case measure => simp [intOf]; omega
      · have c0 : ¬ (97 : Int) ≤ (x : Int) := by omega
        have c1 : (x : Int) ≤ 122 := by omega
        have c2 : ¬ (65 : Int) ≤ (x : Int) := by omega
        have c3 : (x : Int) ≤ 90 := by omega
        have c4 : (48 : Int) ≤ (x : Int) := by omega
        have c5 : (x : Int) ≤ 57 := by omega
        have c8 : ((x : Int) == 95) = false := by simp; omega
        have c9 : ¬ (x : Int) = 95 := by omega
        have hL2 : letterB b = false := by rw [hL]; simp; omega
        have hI2 : innerB b = true := by rw [hI, hL2]; simp; try omega
        by_cases h0 : i = 0
        · subst h0
          have HF := Lib.hid (show nameB s.data.toList = false by unfold nameB; rw [hget0 rfl, hL2]; simp)
          clear htk hget0 hall hL hI hmem hL2 hI2
          go_wp2_with fail
          go_ret
          rw [HF.out]
          exact ⟨rfl, by first | rfl | exact True.intro⟩
        · have hi0 : ((i : Int) == 0) = false := by simp; omega
          have hi1 : ¬ (i : Int) = 0 := by omega
          have HT := Lib.hid (show (s.data.toList.take (i + 1)).all innerB = true ∧ letterB (s.data.toList.getD 0 0) = true by rw [htk, hI2, (hall (by omega)).1]; exact ⟨rfl, (hall (by omega)).2⟩)
          clear htk hget0 hall hL hI hmem hL2 hI2
          go_wp2_with fail
          go_roundw
          case rel => exact ⟨i + 1, by omega, by go_num, by first | rfl | exact True.intro, fun _ => HT.out⟩
          case measure => simp [intOf]; omega
      · have c0 : ¬ (97 : Int) ≤ (x : Int) := by omega
        have c1 : (x : Int) ≤ 122 := by omega
        have c2 : (65 : Int) ≤ (x : Int) := by omega
        have c3 : ¬ (x : Int) ≤ 90 := by omega
        have c4 : (48 : Int) ≤ (x : Int) := by omega
        have c5 : ¬ (x : Int) ≤ 57 := by omega
        have c8 : ((x : Int) == 95) = true := by simp; omega
        have hL2 : letterB b = false := by rw [hL]; simp; omega
        have hI2 : innerB b = true := by rw [hI, hL2]; simp; try omega
        by_cases h0 : i = 0
        · subst h0
          have HF := Lib.hid (show nameB s.data.toList = false by unfold nameB; rw [hget0 rfl, hL2]; simp)
          clear htk hget0 hall hL hI hmem hL2 hI2
          go_wp2_with fail
          go_ret
          rw [HF.out]
          exact ⟨rfl, by first | rfl | exact True.intro⟩
        · have hi0 : ((i : Int) == 0) = false := by simp; omega
          have hi1 : ¬ (i : Int) = 0 := by omega
          have HT := Lib.hid (show (s.data.toList.take (i + 1)).all innerB = true ∧ letterB (s.data.toList.getD 0 0) = true by rw [htk, hI2, (hall (by omega)).1]; exact ⟨rfl, (hall (by omega)).2⟩)
          clear htk hget0 hall hL hI hmem hL2 hI2
          go_wp2_with fail
          go_roundw
          case rel => exact ⟨i + 1, by omega, by go_num, by first | rfl | exact True.intro, fun _ => HT.out⟩
          case measure => simp [intOf]; omega
      · have c0 : ¬ (97 : Int) ≤ (x : Int) := by omega
        have c1 : (x : Int) ≤ 122 := by omega
        have c2 : ¬ (65 : Int) ≤ (x : Int) := by omega
        have c3 : (x : Int) ≤ 90 := by omega
        have c4 : ¬ (48 : Int) ≤ (x : Int) := by omega
        have c5 : (x : Int) ≤ 57 := by omega
        have c8 : ((x : Int) == 95) = false := by simp; omega
        have c9 : ¬ (x : Int) = 95 := by omega
        have hL2 : letterB b = false := by rw [hL]; simp; omega
        have hI2 : innerB b = false := by rw [hI, hL2]; simp; try omega
        have HF := Lib.hid (show nameB s.data.toList = false by unfold nameB; rw [show s.data.toList.all innerB = false from List.all_eq_false.2 ⟨b, hmem, by rw [hI2]; simp⟩]; simp)
        clear htk hget0 hall hL hI hmem hL2 hI2
        go_wp2_with fail
        go_ret
        rw [HF.out]
        exact ⟨rfl, by first | rfl | exact True.intro⟩
      · have c0 : ¬ (97 : Int) ≤ (x : Int) := by omega
        have c1 : (x : Int) ≤ 122 := by omega
        have c2 : ¬ (65 : Int) ≤ (x : Int) := by omega
        have c3 : (x : Int) ≤ 90 := by omega
        have c4 : (48 : Int) ≤ (x : Int) := by omega
        have c5 : ¬ (x : Int) ≤ 57 := by omega
        have c8 : ((x : Int) == 95) = false := by simp; omega
        have c9 : ¬ (x : Int) = 95 := by omega
        have hL2 : letterB b = false := by rw [hL]; simp; omega
        have hI2 : innerB b = false := by rw [hI, hL2]; simp; try omega
        have HF := Lib.hid (show nameB s.data.toList = false by unfold nameB; rw [show s.data.toList.all innerB = false from List.all_eq_false.2 ⟨b, hmem, by rw [hI2]; simp⟩]; simp)
        clear htk hget0 hall hL hI hmem hL2 hI2
        go_wp2_with fail
        go_ret
        rw [HF.out]
        exact ⟨rfl, by first | rfl | exact True.intro⟩
      · have c0 : ¬ (97 : Int) ≤ (x : Int) := by omega
        have c1 : (x : Int) ≤ 122 := by omega
        have c2 : (65 : Int) ≤ (x : Int) := by omega
        have c3 : ¬ (x : Int) ≤ 90 := by omega
        have c4 : (48 : Int) ≤ (x : Int) := by omega
        have c5 : ¬ (x : Int) ≤ 57 := by omega
        have c8 : ((x : Int) == 95) = false := by simp; omega
        have c9 : ¬ (x : Int) = 95 := by omega
        have hL2 : letterB b = false := by rw [hL]; simp; omega
        have hI2 : innerB b = false := by rw [hI, hL2]; simp; try omega
        have HF := Lib.hid (show nameB s.data.toList = false by unfold nameB; rw [show s.data.toList.all innerB = false from List.all_eq_false.2 ⟨b, hmem, by rw [hI2]; simp⟩]; simp)
        clear htk hget0 hall hL hI hmem hL2 hI2
        go_wp2_with fail
        go_ret
        rw [HF.out]
        exact ⟨rfl, by first | rfl | exact True.intro⟩
      · have c0 : ¬ (97 : Int) ≤ (x : Int) := by omega
        have c1 : (x : Int) ≤ 122 := by omega
        have c2 : (65 : Int) ≤ (x : Int) := by omega
        have c3 : ¬ (x : Int) ≤ 90 := by omega
        have c4 : (48 : Int) ≤ (x : Int) := by omega
        have c5 : ¬ (x : Int) ≤ 57 := by omega
        have c8 : ((x : Int) == 95) = false := by simp; omega
        have c9 : ¬ (x : Int) = 95 := by omega
        have hL2 : letterB b = false := by rw [hL]; simp; omega
        have hI2 : innerB b = false := by rw [hI, hL2]; simp; try omega
        have HF := Lib.hid (show nameB s.data.toList = false by unfold nameB; rw [show s.data.toList.all innerB = false from List.all_eq_false.2 ⟨b, hmem, by rw [hI2]; simp⟩]; simp)
        clear htk hget0 hall hL hI hmem hL2 hI2
        go_wp2_with fail
        go_ret
        rw [HF.out]
        exact ⟨rfl, by first | rfl | exact True.intro⟩
      · have c0 : (97 : Int) ≤ (x : Int) := by omega
        have c1 : ¬ (x : Int) ≤ 122 := by omega
        have c2 : (65 : Int) ≤ (x : Int) := by omega
        have c3 : ¬ (x : Int) ≤ 90 := by omega
        have c4 : (48 : Int) ≤ (x : Int) := by omega
        have c5 : ¬ (x : Int) ≤ 57 := by omega
        have c8 : ((x : Int) == 95) = false := by simp; omega
        have c9 : ¬ (x : Int) = 95 := by omega
        have hL2 : letterB b = false := by rw [hL]; simp; omega
        have hI2 : innerB b = false := by rw [hI, hL2]; simp; try omega
        have HF := Lib.hid (show nameB s.data.toList = false by unfold nameB; rw [show s.data.toList.all innerB = false from List.all_eq_false.2 ⟨b, hmem, by rw [hI2]; simp⟩]; simp)
        clear htk hget0 hall hL hI hmem hL2 hI2
        go_wp2_with fail
        go_ret
        rw [HF.out]
        exact ⟨rfl, by first | rfl | exact True.intro⟩
    · obtain rfl : n = i := by omega
      by_cases h1 : 1 ≤ n
      · by_cases h16 : n ≤ 16
        · have g1 : (1 : Int) ≤ n := by omega
          have g2 : (n : Int) ≤ 16 := by omega
          have hr : nameB s.data.toList = true := by
            have := hall (by omega)
            rw [List.take_of_length_le (by rw [hlen]; exact Nat.le_refl _)] at this
            unfold nameB
            rw [this.1, this.2, hlen, decide_eq_true h16, decide_eq_true (show s.data.toList ≠ [] from fun e => by rw [e] at hlen; simp at hlen; omega)]
            rfl
          have HR := Lib.hid hr
          clear hr hall
          go_wp2_with fail
          go_ret
          rw [HR.out]
          exact ⟨rfl, by first | rfl | exact True.intro⟩
        · have g2 : ¬ (n : Int) ≤ 16 := by omega
          have g1 : (1 : Int) ≤ n := by omega
          have hr : nameB s.data.toList = false := by
            unfold nameB
            rw [hlen, decide_eq_false h16]
            simp
          have HR := Lib.hid hr
          clear hr hall
          go_wp2_with fail
          go_ret
          rw [HR.out]
          exact ⟨rfl, by first | rfl | exact True.intro⟩
      · have g1 : ¬ (1 : Int) ≤ n := by omega
        have hr : nameB s.data.toList = false := by
          unfold nameB
          rw [decide_eq_false (show ¬ s.data.toList ≠ [] from fun e => e (List.length_eq_zero_iff.1 (by omega)))]
          rfl
        have HR := Lib.hid hr
        clear hr hall
        go_wp2_with fail
        go_ret
        rw [HR.out]
        exact ⟨rfl, by first | rfl | exact True.intro⟩
set_option maxHeartbeats 4000000 in
theorem rplain (w : World) (s : ByteArray) (hs : s.size < 4294967281) : Calls Tryd.prog 52 #[.string s] w fun e w' => e = .returned (.bool (plainB s.data.toList)) ∧ w' = w := by
  obtain ⟨n, hn⟩ : ∃ n, s.size = n := ⟨_, rfl⟩
  have hlen := size_list s
  rw [hn] at hlen hs
  have hs2 : (n : Int) < 4294967281 := by omega
  clear hs
  go_enter Tryd.func52, Tryd.ntmps52
  go_wp2_with fail
  go_loopw [3] (fun iv wr => ∃ i : Nat, i ≤ n ∧ iv = .int .i64 i ∧ wr = w ∧ (s.data.toList.take i).all signB = true) (fun iv _ => n - (intOf iv).toNat)
  case atStart => exact ⟨0, by omega, by go_num, rfl, by simp⟩
  case round =>
    obtain ⟨i, hi, rfl, rfl, hall⟩ := hrel
    by_cases hlt : i < n
    · have his : i < s.size := by omega
      have hii : (i : Int) < n := by omega
      obtain ⟨b, hb⟩ : ∃ b, s[i]'his = b := ⟨_, rfl⟩
      have htk : (s.data.toList.take (i + 1)).all signB = ((s.data.toList.take i).all signB && signB b) := by
        rw [List.take_add_one, at_list his, List.all_append, hb]
        simp
      have hmem : b ∈ s.data.toList := by rw [← hb]; exact List.mem_of_getElem? (at_list his)
      have hS : signB b = (decide (32 ≤ b.toNat) && decide (b.toNat ≤ 126)) := rfl
      have hbx : (s[i]'his).toNat = b.toNat := by rw [hb]
      obtain ⟨x, hx0⟩ : ∃ x, b.toNat = x := ⟨_, rfl⟩
      rw [hx0] at hS hbx
      clear hb hx0
      by_cases h1 : (x : Int) < 32
      · have HF := Lib.hid (show plainB s.data.toList = false by
          unfold plainB; rw [show s.data.toList.all signB = false from List.all_eq_false.2 ⟨b, hmem, by rw [hS, decide_eq_false (show ¬ 32 ≤ x by omega)]; simp⟩]; rfl)
        clear htk hmem hS hall
        go_wp2_with fail
        go_ret
        rw [HF.out]
        exact ⟨rfl, by first | rfl | exact True.intro⟩
      · by_cases h2 : (126 : Int) < x
        · have HF := Lib.hid (show plainB s.data.toList = false by
            unfold plainB; rw [show s.data.toList.all signB = false from List.all_eq_false.2 ⟨b, hmem, by rw [hS, decide_eq_false (show ¬ x ≤ 126 by omega)]; simp⟩]; rfl)
          clear htk hmem hS hall
          go_wp2_with fail
          go_ret
          rw [HF.out]
          exact ⟨rfl, by first | rfl | exact True.intro⟩
        · have HT := Lib.hid (show (s.data.toList.take (i + 1)).all signB = true by rw [htk, hall, hS, decide_eq_true (show 32 ≤ x by omega), decide_eq_true (show x ≤ 126 by omega)]; rfl)
          clear htk hmem hS hall
          go_wp2_with fail
          go_roundw
          case rel => exact ⟨i + 1, by omega, by go_num, by first | rfl | exact True.intro, HT.out⟩
          case measure => simp [intOf]; omega
    · obtain rfl : n = i := by omega
      rw [List.take_of_length_le (by rw [hlen]; exact Nat.le_refl _)] at hall
      have HF := Lib.hid hall
      clear hall
      go_wp2_with fail
      go_ret
      refine ⟨?_, by first | rfl | exact True.intro⟩
      rw [plainB, HF.out, hlen, Bool.true_and]
      by_cases h : n ≤ 64
      · have h2 : (n : Int) ≤ 64 := by omega
        simp [h, h2]
      · have h2 : ¬ (n : Int) ≤ 64 := by omega
        simp [h, h2]
end Val
end Go.Proofs.YtgfkopimjmggdaaDoor

/- Edges' texts and values by the document's own definition: what its calls compute (no condition but on the texts' size). -/
namespace Go.Proofs.YtgfkopimjmggdaaDoor
set_option linter.unusedSimpArgs false
set_option linter.unusedVariables false
open Go.ChangeShapes Go.WideShapes Go.RowKit Go.Deep
namespace Val
def strs (l : List ByteArray) : List Value := l.map Value.string
theorem strs_one (l : List ByteArray) : ∀ u ∈ strs l, u.oneCell' = true := by
  intro u hu
  obtain ⟨c, _, rfl⟩ := List.mem_map.1 hu
  rfl
abbrev OwnS (w : World) (base : Nat) (v : Value) (l : List ByteArray) : Prop := w.ownsRow base 9 1 v l.length (strs l)
theorem strInfo : (Tryd.prog.info? 9).map (fun i => (i.zero, i.size, i.bytes)) = some (some (.string ⟨#[]⟩), 1, 16) := by kernel_rfl
theorem OwnS.form {w : World} {base : Nat} {v : Value} {l : List ByteArray} (h : OwnS w base v l) (hl : 0 < l.length) : ∃ g c, v = .slice (some ⟨g, 0, none⟩) l.length c ∧ base ≤ g ∧ g < w.heap.size := by
  rcases h.2 with ⟨_, h0⟩ | ⟨g, cap, cur, rfl, hb, hg, _⟩
  · omega
  · exact ⟨g, cap, rfl, hb, (Array.getElem?_eq_some_iff.1 hg).1⟩
theorem OwnS.cell {w : World} {base g c n : Nat} {l : List ByteArray} (h : OwnS w base (.slice (some ⟨g, 0, none⟩) n c) l) {i : Nat} {x : ByteArray} (hx : l[i]? = some x) : w.cell? ⟨g, i, none⟩ = some (.string x) := by
  have hi := (List.getElem?_eq_some_iff.1 hx).1
  have hn : n = l.length := by
    rcases h.2 with ⟨h0, h1⟩ | ⟨_, _, _, h0, _⟩
    · cases h0
    · injection h0
  subst hn
  have := World.ownsRow.cellAt h i (by omega)
  rw [show (strs l)[i]? = some (.string x) by simp [strs, hx]] at this
  exact this
theorem OwnS.frozen {w : World} {base g c n : Nat} {l : List ByteArray} (h : OwnS w base (.slice (some ⟨g, 0, none⟩) n c) l) (i : Nat) : w.frozen? ⟨g, i, none⟩ = false := by
  rcases h.2 with ⟨h0, _⟩ | ⟨g', cap, cur, hv, hb, hg, _⟩
  · cases h0
  · injection hv with hv1
    injection hv1 with hv1
    injection hv1 with hv1 _ _
    subst hv1
    exact Blk.frozen (t := 9) (cs := cur) hg i
theorem OwnS.stored {w : World} {base g c n : Nat} {l : List ByteArray} (h : OwnS w base (.slice (some ⟨g, 0, none⟩) n c) l) (i : Nat) (x : ByteArray) :
    OwnS (w.setCell ⟨g, i, none⟩ (.string x)) base (.slice (some ⟨g, 0, none⟩) n c) (l.set i x) := by
  have hn : n = l.length := by
    rcases h.2 with ⟨h0, h1⟩ | ⟨_, _, _, h0, _⟩
    · cases h0
    · injection h0
  subst hn
  have := World.ownsRow.stored h i (.string x)
  unfold OwnS
  rw [List.length_set, show strs (l.set i x) = (strs l).set i (.string x) by simp [strs, List.map_set]]
  exact this.1
theorem OwnS.one {w : World} {lo g : Nat} {x : ByteArray} (h : Blk w g 9 #[.string x]) (hlo : lo ≤ g) : OwnS w lo (.slice (some ⟨g, 0, none⟩) 1 1) [x] :=
  ⟨by simp [strs], .inr ⟨g, 1, _, rfl, hlo, h, Nat.le_refl _, by simp only [maxLen]; omega, by simp, by simp [strs]⟩⟩
theorem append_strs (w : World) {ops : Array Oper} {rest : List Oper} {o : Oper} {a : Act} {Q : Exit → Act → World → Prop} (hgd : o.guard = none) (s x : Operand)
    (ho : o.op = .call { callee := .builtin .append, args := #[s, x], argTypes := #[80, 80] })
    (base : Nat) (v : Value) (l : List ByteArray) (hs : a.eval s = v) (hown : OwnS w base v l)
    (F : Nat → Prop) (A : Option Addr) (m c : Nat) (k : List ByteArray) (hx : a.eval x = .slice A m c) (hr : Reads w F 1 A m (strs k))
    (hb : l.length + m ≤ 1000000) (hbase : base ≤ w.heap.size)
    (h : ∀ v' w', OwnS w' base v' (l ++ k) → w.grownBy w' v.ownBlock → (v'.ownBlock = v.ownBlock ∨ v'.ownBlock = some w.heap.size) → wpList Tryd.prog ops Q rest (a.put o.dst v') w') : wpList Tryd.prog ops Q (o :: rest) a w := by
  obtain ⟨i, hi, hz0, hz1, hz2⟩ := info_parts strInfo
  refine wpList_append_any w hgd s x _ ho base _ i _ 1 16 Tryd.underlying80 hi hz0 hz1 hz2 rfl (by omega) v l.length (strs l) hs hown F A m c (strs k) hx hr (strs_one k) (by simp only [maxLen]; omega) (by omega) hbase ?_
  intro v' w' ho' hg hat
  refine h v' w' ?_ hg hat
  have hk := hr.len
  unfold OwnS
  rw [show strs (l ++ k) = strs l ++ strs k by simp [strs], List.length_append, show k.length = m by simpa [strs] using hk]
  exact ho'
def toL (x : ByteArray) : List UInt8 := x.data.toList
theorem lastSnoc_set (b : UInt8) (y : ByteArray) : ∀ (xs : List ByteArray) (x : ByteArray), xs[xs.length - 1]? = some x → toL y = toL x ++ [b] → lastSnoc b (xs.map toL) = (xs.set (xs.length - 1) y).map toL
  | [], x, h, _ => by simp at h
  | [z], x, h, e => by simp at h; subst h; simp [lastSnoc, e]
  | z :: z2 :: xs, x, h, e => by
    have ih := lastSnoc_set b y (z2 :: xs) x (by simpa using h) e
    simp only [List.map_cons, lastSnoc, List.length_cons, Nat.add_sub_cancel] at ih ⊢
    rw [ih]
    simp
theorem cut_small {c : UInt8} {l p : List UInt8} (h : p ∈ cutAt c l) : p.length ≤ l.length := by
  have h1 := cut_len c l
  have h2 : ∀ L : List (List UInt8), p ∈ L → p.length + 1 ≤ (L.map fun p => p.length + 1).sum := by
    intro L
    induction L with
    | nil => intro hm; cases hm
    | cons a L ih =>
      intro hm
      simp only [List.map_cons, List.sum_cons]
      rcases List.mem_cons.1 hm with rfl | hm
      · omega
      · have := ih hm; omega
  have := h2 _ h
  omega
theorem extract_one {s : ByteArray} {i : Nat} (h : i < s.size) : toL (s.extract i (i + 1)) = [s[i]'h] := by
  unfold toL
  have := at_list h
  simp only [ByteArray.data_extract, Array.toList_extract, List.extract_eq_take_drop]
  rw [show i + 1 - i = 1 by omega, List.drop_eq_getElem_cons (by rw [size_list]; exact h)]
  simp
  have h2 := (List.getElem?_eq_some_iff.1 this).2
  simpa using h2
set_option maxHeartbeats 4000000 in
set_option maxRecDepth 20000 in
theorem rsplit (w : World) (s : ByteArray) (c : UInt8) (hs : s.size ≤ 1000) : Calls Tryd.prog 58 #[.string s, .int .u8 (c.toNat : Int)] w fun e w' => ∃ v xs, e = .returned v ∧ OwnS w' w.heap.size v xs ∧ xs.map toL = cutAt c (toL s) ∧ New w w' := by
  obtain ⟨n, hn⟩ : ∃ n, s.size = n := ⟨_, rfl⟩
  have hlen := size_list s
  rw [hn] at hlen hs
  have hs2 : (n : Int) ≤ 1000 := by omega
  obtain ⟨cx, hcx⟩ : ∃ x, c.toNat = x := ⟨_, rfl⟩
  rw [hcx]
  have hstart : OwnS (w.alloc (.cells #[.string ⟨#[]⟩] 9)) w.heap.size (.slice (some ⟨w.heap.size, 0, none⟩) 1 1) [⟨#[]⟩] := OwnS.one (Blk.new w 9 _) (Nat.le_refl _)
  have H0 := Lib.hid hstart
  clear hstart
  go_enter Tryd.func58, Tryd.ntmps58
  go_wp2_with fail
  go_loopw [5, 6] (fun v iv wr => ∃ (i : Nat) (xs : List ByteArray), i ≤ n ∧ iv = .int .i64 i ∧ OwnS wr w.heap.size v xs ∧ xs.map toL = cutAt c ((toL s).take i) ∧ xs.length ≤ i + 1 ∧ New w wr) (fun _ iv _ => n - (intOf iv).toNat)
  case atStart => exact ⟨0, _, by omega, by go_num, H0.out, rfl, by simp, (Chg.refl _ _).alloc _⟩
  case round =>
    clear H0
    obtain ⟨i, xs, hi, rfl, o, hx, hxl, nw⟩ := hrel
    have hpos : 0 < xs.length := by
      have := congrArg List.length hx
      rw [List.length_map] at this
      have h2 := List.length_pos_iff.2 (cutAt_ne c ((toL s).take i))
      omega
    by_cases hlt : i < n
    · have his : i < s.size := by omega
      have hii : (i : Int) < n := by omega
      have htk : (toL s).take (i + 1) = (toL s).take i ++ [s[i]'his] := by
        unfold toL
        rw [List.take_add_one, at_list his]
        rfl
      have hcut := cut_snoc c (s[i]'his) ((toL s).take i)
      rw [← htk, ← hx] at hcut
      have hext := extract_one his
      obtain ⟨g, cap, rfl, hlo, hgl⟩ := o.form hpos
      obtain ⟨L, hL⟩ : ∃ L, xs.length = L := ⟨_, rfl⟩
      have o : OwnS wr w.heap.size (.slice (some ⟨g, 0, none⟩) L cap) xs := by rw [← hL]; exact o
      by_cases he : s[i]'his = c
      · rw [if_pos he] at hcut
        have hb : (s[i]'his).toNat = cx := by rw [he, hcx]
        have HX := Lib.hid (And.intro o (And.intro hcut (And.intro nw hL)))
        rw [hL] at hxl hpos ⊢
        clear o hcut nw hext htk he hx hcx hL
        go_wp2_with (at_builtin; refine stop ?_)
        delta Stop
        have m3 := (Chg.refl (fun _ => False) wr).alloc (.cells #[.string ⟨#[]⟩] 9)
        have o3 := own_chg HX.out.1 m3 fun _ _ => id
        refine append_strs _ rfl _ _ rfl w.heap.size (.slice (some ⟨g, 0, none⟩) L cap) xs rfl o3 _ _ _ _ [⟨#[]⟩] rfl (Reads.of_row (n := 1) (size := 1) (heap_alloc_new wr _) (by simp)) (by rw [HX.out.2.2.2]; omega) (by have := m3.size; have := HX.out.2.2.1.size; omega) ?_
        intro v6 w6 o6 g6 a6
        have n6 := (HX.out.2.2.1.trans m3 fun _ _ => id).trans ((Chg.refl (fun k => (Value.slice (some ⟨g, 0, none⟩) L cap).ownBlock = some k) _).grown g6 fun k e _ => e) fun k hk e => by
          have : g = k := by simpa [Value.ownBlock] using e
          omega
        have hx6 : (xs ++ [(⟨#[]⟩ : ByteArray)]).map toL = cutAt c ((toL s).take (i + 1)) := by
          rw [HX.out.2.1]
          simp [toL]
        have HZ := Lib.hid (And.intro o6 (And.intro hx6 (And.intro (show (xs ++ [(⟨#[]⟩ : ByteArray)]).length ≤ i + 1 + 1 by rw [List.length_append, HX.out.2.2.2]; simp; omega) n6)))
        clear m3 o3 o6 g6 a6 n6 hx6
        go_wp2_with fail
        go_roundw
        case rel => exact ⟨i + 1, _, by omega, by go_num, HZ.out⟩
        case measure => simp [intOf]; omega
      · rw [if_neg he] at hcut
        have hb : ((s[i]'his).toNat == cx) = false := by
          rw [← hcx]
          simpa using fun e => he (UInt8.toNat_inj.1 e)
        have hb2 : ¬ (s[i]'his).toNat = cx := by simpa using hb
        obtain ⟨b, hbe⟩ : ∃ b, (s[i]'his).toNat = b := ⟨_, rfl⟩
        rw [hbe] at hb hb2
        have hb3 : ((b : Int) == (cx : Int)) = false := by simp; omega
        have hb4 : ¬ (b : Int) = (cx : Int) := by omega
        obtain ⟨x, hxx⟩ : ∃ x, xs[L - 1]? = some x := ⟨_, List.getElem?_eq_getElem (by omega)⟩
        have hxs : x.size ≤ 1000 := by
          have h1 : toL x ∈ cutAt c ((toL s).take i) := by rw [← hx]; exact List.mem_map.2 ⟨x, List.mem_of_getElem? hxx, rfl⟩
          have h2 := cut_small h1
          rw [List.length_take] at h2
          have h3 : (toL x).length = x.size := size_list x
          omega
        have hes : (s.extract i (i + 1)).size = 1 := by
          have := congrArg List.length hext
          have h3 : (toL (s.extract i (i + 1))).length = (s.extract i (i + 1)).size := size_list _
          rw [← h3, this]; rfl
        have hcell := o.cell hxx
        have hfz := o.frozen (L - 1)
        have hls := lastSnoc_set (s[i]'his) (x ++ s.extract i (i + 1)) xs x (by rw [hL]; exact hxx) (by
          rw [← hext]
          unfold toL
          simp)
        rw [hls, hL] at hcut
        have o2 := o.stored (L - 1) (x ++ s.extract i (i + 1))
        have c2 := (Chg.refl (fun k => k = g) wr).setCell (p := ⟨g, L - 1, none⟩) (fun _ => rfl) (.string (x ++ s.extract i (i + 1)))
        have n2 := nw.trans c2 fun k hk e => by omega
        have HZ := Lib.hid (And.intro o2 (And.intro hcut.symm (And.intro (show (xs.set (L - 1) (x ++ s.extract i (i + 1))).length ≤ i + 1 + 1 by rw [List.length_set]; omega) n2)))
        obtain ⟨K, rfl⟩ : ∃ K, L = K + 1 := ⟨L - 1, by omega⟩
        simp only [Nat.add_sub_cancel] at hcell hfz HZ hxx
        rw [hL] at hxl hpos ⊢
        clear o hcut nw hext htk he hx hcx hL o2 c2 n2 hls hb hb2 hxx
        go_wp2_with fail
        refine wp_region_tailq 17 (by kernel_rfl) (by kernel_rfl) ?_
        simp only [List.take_succ_cons, List.take_zero, List.drop_succ_cons, List.drop_zero]
        repeat (go_big_quiet_step (fail))
        refine wpQuiet_nil ?_
        go_wp2_with fail
        go_roundw
        case rel => exact ⟨i + 1, _, by omega, by go_num, own_chg HZ.out.1 (Chg.refl _ _).drew fun _ _ => id, HZ.out.2.1, HZ.out.2.2.1, HZ.out.2.2.2.drew⟩
        case measure => simp [intOf]; omega
    · obtain rfl : n = i := by omega
      rw [List.take_of_length_le (by unfold toL; rw [hlen]; exact Nat.le_refl _)] at hx
      have HZ := Lib.hid (And.intro o (And.intro hx nw))
      clear o hx nw
      go_wp2_with fail
      go_ret
      exact ⟨_, xs, rfl, HZ.out⟩
theorem blk3 {w : World} {g : Nat} {t : TypeId} {p q r : Value} (h : Blk w g t #[p, q, r]) (x y z : Value) : Blk (((w.setCell ⟨g, 0, none⟩ x).setCell ⟨g, 1, none⟩ y).setCell ⟨g, 2, none⟩ z) g t #[x, y, z] := by
  have := ((h.set_ 0 x).set_ 1 y).set_ 2 z
  simpa using this
theorem chg3 {a w : World} {g : Nat} (h : New a w) (hg : ¬ g < a.heap.size) (x y z : Value) : New a (((w.setCell ⟨g, 0, none⟩ x).setCell ⟨g, 1, none⟩ y).setCell ⟨g, 2, none⟩ z) :=
  ((h.setCell (p := ⟨g, 0, none⟩) (fun e => (hg e).elim) x).setCell (p := ⟨g, 1, none⟩) (fun e => (hg e).elim) y).setCell (p := ⟨g, 2, none⟩) (fun e => (hg e).elim) z
set_option maxHeartbeats 4000000 in
set_option maxRecDepth 20000 in
theorem rlink (w : World) (s : ByteArray) (hs : s.size ≤ 1000) : Calls Tryd.prog 53 #[.string s] w fun e w' => ∃ a b c, e = .returned (.tuple #[.agg #[.string a, .string b, .string c], .bool (linkB s.data.toList)]) ∧ New w w' := by
  have hz : ∀ W, (zeroValue 75).run Tryd.prog W = .ok (.agg #[.string ⟨#[]⟩, .string ⟨#[]⟩, .string ⟨#[]⟩]) W := fun W => by kernel_rfl
  obtain ⟨n, hn⟩ : ∃ n, s.size = n := ⟨_, rfl⟩
  have M1 := (Chg.refl (fun _ => False) w).alloc (.cells #[.string ⟨#[]⟩, .string ⟨#[]⟩, .string ⟨#[]⟩] 75)
  have HM := Lib.hid M1
  clear M1
  by_cases h60 : (60 : Int) < n
  · have hl : linkB s.data.toList = false := by
      cases hq : linkB s.data.toList with
      | false => rfl
      | true =>
        have := linkB_len hq
        rw [size_list, hn] at this
        omega
    have HL := Lib.hid hl
    clear hl
    go_enter Tryd.func53, Tryd.ntmps53
    go_wp2_with fail
    exact bodyPost_ret (resLk rfl _ _ w.heap.size _ _ _ _ rfl (Blk.new _ _ _)) rfl ⟨_, _, _, by rw [HL.out]; rfl, HM.out⟩
  have C := Lib.hid fun W => rsplit W s 62 hs
  go_enter Tryd.func53, Tryd.ntmps53
  go_wp2_with fail
  refine (C.out _).mono ?_
  rintro e w1 ⟨v, xs, rfl, o, hx, n1⟩
  have hb : Blk w1 w.heap.size 75 #[.string ⟨#[]⟩, .string ⟨#[]⟩, .string ⟨#[]⟩] := (Blk.new w 75 _).chg n1 id
  have HN := Lib.hid (HM.out.trans n1 fun _ _ => id)
  have HB := Lib.hid hb
  have hbl := hb.lt
  have hxl : 0 < xs.length := by
    have := congrArg List.length hx
    rw [List.length_map] at this
    have h2 := List.length_pos_iff.2 (cutAt_ne 62 (toL s))
    omega
  obtain ⟨g, cap, rfl, hlo, hgl⟩ := o.form hxl
  obtain ⟨L, hL⟩ : ∃ L, xs.length = L := ⟨_, rfl⟩
  have o : OwnS w1 (w.heap.size + 1) (.slice (some ⟨g, 0, none⟩) L cap) xs := by
    have := o
    rw [World.size_alloc] at this
    rw [← hL]
    exact this
  have hcut : linkB s.data.toList = (match xs.map toL with | [a, b, c] => nameB a && nameB b && nameB c | _ => false) := by
    rw [hx]; rfl
  have HC := Lib.hid (And.intro hcut hL)
  have HO := Lib.hid o
  have hsm := Lib.hid fun (x : ByteArray) (hm : x ∈ xs) => show x.size < 4294967281 by
    have h1 : toL x ∈ cutAt 62 (toL s) := by rw [← hx]; exact List.mem_map.2 ⟨x, hm, rfl⟩
    have h2 := cut_small h1
    have h3 : (toL x).length = x.size := size_list x
    have h4 : (toL s).length = s.size := size_list s
    omega
  have d0 := hb.cell 0
  have d1 := hb.cell 1
  have d2 := hb.cell 2
  simp only [List.getElem?_toArray, List.getElem?_cons_zero, List.getElem?_cons_succ] at d0 d1 d2
  have f0 := hb.frozen 0
  have f1 := hb.frozen 1
  have f2 := hb.frozen 2
  rw [hL]
  clear n1 hb o hcut hx C hL hxl hlo
  by_cases h3 : L = 3
  · subst h3
    obtain ⟨a, b, c, hxe⟩ : ∃ a b c, xs = [a, b, c] := by
      have := HC.out.2
      match xs, this with
      | [a, b, c], _ => exact ⟨a, b, c, rfl⟩
    subst hxe
    have ca := HO.out.cell (i := 0) (x := a) rfl
    have cb := HO.out.cell (i := 1) (x := b) rfl
    have cc := HO.out.cell (i := 2) (x := c) rfl
    have Ca := Lib.hid fun W => rname W a (hsm.out a (by simp))
    have Cb := Lib.hid fun W => rname W b (hsm.out b (by simp))
    have Cc := Lib.hid fun W => rname W c (hsm.out c (by simp))
    have hll : linkB s.data.toList = (nameB a.data.toList && nameB b.data.toList && nameB c.data.toList) := HC.out.1
    have hne : g ≠ w.heap.size := fun e => by
      have := own_lt HO.out (k := g) rfl
      omega
    obtain ⟨ra, hra⟩ : ∃ r, nameB a.data.toList = r := ⟨_, rfl⟩
    obtain ⟨rb, hrb⟩ : ∃ r, nameB b.data.toList = r := ⟨_, rfl⟩
    obtain ⟨rc, hrc⟩ : ∃ r, nameB c.data.toList = r := ⟨_, rfl⟩
    rw [hra] at Ca hll
    rw [hrb] at Cb hll
    rw [hrc] at Cc hll
    have HL := Lib.hid hll
    clear hra hrb hrc hll HC hsm
    cases ra
    · go_wp2_with fail
      refine (Ca.out _).mono ?_
      rintro e w2 ⟨rfl, rfl⟩
      clear Ca
      go_wp2_with fail
      exact bodyPost_ret (resLk rfl _ _ w.heap.size _ _ _ _ rfl (blk3 HB.out _ _ _)) rfl ⟨_, _, _, by rw [HL.out]; rfl, chg3 HN.out (Nat.lt_irrefl _) _ _ _⟩
    · go_wp2_with fail
      refine (Ca.out _).mono ?_
      rintro e w2 ⟨rfl, rfl⟩
      clear Ca
      go_wp2_with fail
      refine (Cb.out _).mono ?_
      rintro e w2 ⟨rfl, rfl⟩
      clear Cb
      cases rb
      · go_wp2_with fail
        exact bodyPost_ret (resLk rfl _ _ w.heap.size _ _ _ _ rfl (blk3 HB.out _ _ _)) rfl ⟨_, _, _, by rw [HL.out]; rfl, chg3 HN.out (Nat.lt_irrefl _) _ _ _⟩
      · go_wp2_with fail
        refine (Cc.out _).mono ?_
        rintro e w2 ⟨rfl, rfl⟩
        clear Cc
        cases rc
        · go_wp2_with fail
          exact bodyPost_ret (resLk rfl _ _ w.heap.size _ _ _ _ rfl (blk3 HB.out _ _ _)) rfl ⟨_, _, _, by rw [HL.out]; rfl, chg3 HN.out (Nat.lt_irrefl _) _ _ _⟩
        · go_wp2_with fail
          refine wp_region_tail 10 (by kernel_rfl) (by kernel_rfl) ?_
          simp only [List.take_succ_cons, List.take_zero, List.drop_succ_cons, List.drop_zero]
          repeat still_step
          refine wpStill_nil ?_
          go_wp2_with fail
          exact bodyPost_ret (resLk rfl _ _ w.heap.size _ _ _ _ rfl (blk3 HB.out _ _ _).drew) rfl ⟨_, _, _, by rw [HL.out]; rfl, (chg3 HN.out (Nat.lt_irrefl _) _ _ _).drew⟩
  · have h33 : ((L : Int) == 3) = false := by simp; omega
    have h34 : ¬ (L : Int) = 3 := by omega
    have hl : linkB s.data.toList = false := by
      rw [HC.out.1]
      split
      · next a b c e =>
        have := congrArg List.length e
        rw [List.length_map, HC.out.2] at this
        exact (h3 this).elim
      · rfl
    have HL := Lib.hid hl
    clear hl
    go_wp2_with fail
    exact bodyPost_ret (resLk rfl _ _ w.heap.size _ _ _ _ rfl (blk3 HB.out _ _ _)) rfl ⟨_, _, _, by rw [HL.out]; rfl, chg3 HN.out (Nat.lt_irrefl _) _ _ _⟩
end Val
end Go.Proofs.YtgfkopimjmggdaaDoor

/- Values by the document's own definition: what may be (no condition but on the texts' size). -/
namespace Go.Proofs.YtgfkopimjmggdaaDoor
set_option linter.unusedSimpArgs false
set_option linter.unusedVariables false
open Go.ChangeShapes Go.WideShapes Go.RowKit Go.Deep
namespace Val
set_option maxHeartbeats 4000000 in
set_option maxRecDepth 20000 in
theorem rright (w : World) (k n : Int) (s : ByteArray) (hs : s.size ≤ 1000) :
    Calls Tryd.prog 44 #[.agg #[.int .i64 k, .int .i64 n, .string s]] w fun e w' => e = .returned (.bool (rightB k n s.data.toList)) ∧ New w w' := by
  have CL := Lib.hid fun W => rlink W s hs
  have CP := Lib.hid fun W => rplain W s (by omega)
  have CN := Lib.hid fun W => rname W s (by omega)
  have hz : ∀ W, (zeroValue 75).run Tryd.prog W = .ok (.agg #[.string ⟨#[]⟩, .string ⟨#[]⟩, .string ⟨#[]⟩]) W := fun W => by kernel_rfl
  have m1 := (Chg.refl (fun _ => False) w).alloc (.cells #[.int .i64 k, .int .i64 n, .string s] 33)
  have HM := Lib.hid m1
  have hemp : s.toList = [] ↔ s.data.toList = [] := by rw [toList_data]
  clear m1 hs
  by_cases h0 : k = 0
  · subst h0
    clear CL CP CN hz
    have hr : rightB 0 n s.data.toList = (decide (n = 0) && decide (s.data.toList = [])) := rfl
    rw [hr]
    by_cases hn : n = 0
    · subst hn
      by_cases he : s.toList = []
      · rw [decide_eq_true (hemp.1 he)]
        go_enter Tryd.func44, Tryd.ntmps44
        go_wp2_with fail
        go_ret
        exact ⟨by simp [he], HM.out⟩
      · rw [decide_eq_false (mt hemp.2 he)]
        go_enter Tryd.func44, Tryd.ntmps44
        go_wp2_with fail
        go_ret
        exact ⟨by simp [he], HM.out⟩
    · rw [decide_eq_false hn]
      go_enter Tryd.func44, Tryd.ntmps44
      go_wp2_with fail
      go_ret
      exact ⟨by simp, HM.out⟩
  by_cases h1 : k = 1
  · subst h1
    clear CL CP CN hz
    have hr : rightB 1 n s.data.toList = ((decide (n = 0) || decide (n = 1)) && decide (s.data.toList = [])) := rfl
    rw [hr]
    by_cases hn : n = 0
    · subst hn
      by_cases he : s.toList = []
      · rw [decide_eq_true (hemp.1 he)]
        go_enter Tryd.func44, Tryd.ntmps44
        go_wp2_with fail
        go_ret
        exact ⟨by simp [he], HM.out⟩
      · rw [decide_eq_false (mt hemp.2 he)]
        go_enter Tryd.func44, Tryd.ntmps44
        go_wp2_with fail
        go_ret
        exact ⟨by simp [he], HM.out⟩
    · by_cases hn1 : n = 1
      · subst hn1
        by_cases he : s.toList = []
        · rw [decide_eq_true (hemp.1 he)]
          go_enter Tryd.func44, Tryd.ntmps44
          go_wp2_with fail
          go_ret
          exact ⟨by simp [he], HM.out⟩
        · rw [decide_eq_false (mt hemp.2 he)]
          go_enter Tryd.func44, Tryd.ntmps44
          go_wp2_with fail
          go_ret
          exact ⟨by simp [he], HM.out⟩
      · rw [decide_eq_false hn, decide_eq_false hn1]
        go_enter Tryd.func44, Tryd.ntmps44
        go_wp2_with fail
        go_ret
        exact ⟨by simp, HM.out⟩
  by_cases h2 : k = 2
  · subst h2
    clear CL CP CN hz
    have hr : rightB 2 n s.data.toList = (decide (-1099511627776 ≤ n) && decide (n ≤ 1099511627776) && decide (s.data.toList = [])) := rfl
    rw [hr]
    by_cases hn1 : -1099511627776 ≤ n
    · by_cases hn2 : n ≤ 1099511627776
      · by_cases he : s.toList = []
        · rw [decide_eq_true (hemp.1 he), decide_eq_true hn1, decide_eq_true hn2]
          go_enter Tryd.func44, Tryd.ntmps44
          go_wp2_with fail
          go_ret
          exact ⟨by simp [he], HM.out⟩
        · rw [decide_eq_false (mt hemp.2 he)]
          go_enter Tryd.func44, Tryd.ntmps44
          go_wp2_with fail
          go_ret
          exact ⟨by simp [he], HM.out⟩
      · rw [decide_eq_false hn2]
        go_enter Tryd.func44, Tryd.ntmps44
        go_wp2_with fail
        go_ret
        exact ⟨by simp, HM.out⟩
    · rw [decide_eq_false hn1]
      go_enter Tryd.func44, Tryd.ntmps44
      go_wp2_with fail
      go_ret
      exact ⟨by simp, HM.out⟩
  by_cases h3 : k = 3
  · subst h3
    clear CL CN hz
    have hr : rightB 3 n s.data.toList = (decide (n = 0) && plainB s.data.toList) := rfl
    rw [hr]
    by_cases hn : n = 0
    · subst hn
      go_enter Tryd.func44, Tryd.ntmps44
      go_wp2_with fail
      refine (CP.out _).mono ?_
      rintro e w1 ⟨rfl, rfl⟩
      go_wp2_with fail
      go_ret
      exact ⟨by simp, HM.out⟩
    · rw [decide_eq_false hn]
      clear CP
      go_enter Tryd.func44, Tryd.ntmps44
      go_wp2_with fail
      go_ret
      exact ⟨by simp, HM.out⟩
  by_cases h4 : k = 4
  · subst h4
    clear CL CP hz
    have hr : rightB 4 n s.data.toList = (decide (n = 0) && nameB s.data.toList) := rfl
    rw [hr]
    by_cases hn : n = 0
    · subst hn
      go_enter Tryd.func44, Tryd.ntmps44
      go_wp2_with fail
      refine (CN.out _).mono ?_
      rintro e w1 ⟨rfl, rfl⟩
      go_wp2_with fail
      go_ret
      exact ⟨by simp, HM.out⟩
    · rw [decide_eq_false hn]
      clear CN
      go_enter Tryd.func44, Tryd.ntmps44
      go_wp2_with fail
      go_ret
      exact ⟨by simp, HM.out⟩
  by_cases h5 : k = 5
  · subst h5
    clear CP CN
    have hr : rightB 5 n s.data.toList = (decide (n = 0) && linkB s.data.toList) := rfl
    rw [hr]
    by_cases hn : n = 0
    · subst hn
      go_enter Tryd.func44, Tryd.ntmps44
      go_wp2_with fail
      refine (CL.out _).mono ?_
      rintro e w1 ⟨a, b, c, rfl, n1⟩
      have hb := (Blk.new w 33 #[.int .i64 5, .int .i64 0, .string s]).chg n1 id
      have d1 := hb.cell 1
      simp only [List.getElem?_toArray, List.getElem?_cons_zero, List.getElem?_cons_succ] at d1
      have hbl := hb.lt
      have HN := Lib.hid (HM.out.trans n1 fun _ _ => id)
      clear n1 CL hb
      go_wp2_with fail
      go_ret
      exact ⟨by simp, HN.out.alloc _⟩
    · rw [decide_eq_false hn]
      go_enter Tryd.func44, Tryd.ntmps44
      go_wp2_with fail
      refine (CL.out _).mono ?_
      rintro e w1 ⟨a, b, c, rfl, n1⟩
      have hb := (Blk.new w 33 #[.int .i64 5, .int .i64 n, .string s]).chg n1 id
      have d1 := hb.cell 1
      simp only [List.getElem?_toArray, List.getElem?_cons_zero, List.getElem?_cons_succ] at d1
      have hbl := hb.lt
      have HN := Lib.hid (HM.out.trans n1 fun _ _ => id)
      clear n1 CL hb
      go_wp2_with fail
      go_ret
      exact ⟨by simp, HN.out.alloc _⟩
  have hr : rightB k n s.data.toList = false := by
    unfold rightB
    rw [if_neg h0, if_neg h1, if_neg h2, if_neg h3, if_neg h4, if_neg h5]
  rw [hr]
  clear CL CP CN hr hz
  go_enter Tryd.func44, Tryd.ntmps44
  go_wp2_with fail
  go_ret
  exact ⟨by rfl, HM.out⟩
end Val
end Go.Proofs.YtgfkopimjmggdaaDoor

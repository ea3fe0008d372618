/-
  The fixed facts at the head of chapter 38's statements (no condition).
-/
import Derived.Test.YtoddgakhiaokaaaMerkle5
namespace Go.Proofs.Ytoddgakhiaokaaa
open Go.ChangeShapes Go.WideShapes Go.RowKit Go.Maps
namespace Merkle
/-- a tree of none -/
def nilT : Lv := fun _ _ => none
theorem fix_chain : chain (putF ns nilT 4660 7) nilT 4660 4 0 = true := by decide +kernel
theorem fix_node : (sumAt (putF ns nilT 4660 7) 3 291 != 0) = true := by decide +kernel
theorem fix_leaf : (sumAt (putF ns nilT 4660 7) 4 4660 != 0) = true := by decide +kernel
theorem fix_drop : sumAt (dropF ns (putF ns nilT 4660 7) 4660) 0 0 = 0 := by decide +kernel
/-- a tree of the law's own: what it holds, and nothing that was there has changed -/
structure St (w W : World) (lo b : Nat) (gs : Nat → Nat) (n : Nat) (T : Lv) : Prop where
  at_ : At W lo b gs n T
  new : New w W
  lo : w.heap.size ≤ lo
theorem St.news {w W W' : World} {lo b n : Nat} {gs : Nat → Nat} {T : Lv} (h : St w W lo b gs n T) (hc : New W W') : St w W' lo b gs n T := ⟨h.at_.new hc, h.new.trans hc fun _ _ => id, h.lo⟩
theorem St.post {w W W' : World} {lo b n m : Nat} {gs : Nat → Nat} {T T' : Lv} (h : St w W lo b gs n T) (ha : At W' lo b gs m T') (hc : Chg (Foot gs) W W') : St w W' lo b gs m T' :=
  ⟨ha, h.new.trans hc fun k hk e => by
    obtain ⟨l, hl, rfl⟩ := e
    have := h.at_.low.2 l hl
    have := h.lo
    omega, h.lo⟩
theorem At.is {W : World} {lo b n : Nat} {gs : Nat → Nat} {T : Lv} (h : At W lo b gs n T) : Is W (ptr b) T := ⟨.inr ⟨lo, b, gs, n, rfl, h⟩⟩
theorem fix_diff : diffF (putF ns nilT 4660 7) nilT = ([4660], 65) := by
  refine (diff_path (key := 4660) (by omega) (by omega) (fun l x hx => ?_) ?_).1 fix_chain
  · unfold sumAt
    rw [put_off hx]
  · have := fix_leaf
    simp only [bne_iff_ne] at this
    exact this
set_option maxHeartbeats 4000000 in
set_option maxRecDepth 100000 in
theorem fixed (w : World) : Calls Try.prog 7 #[] w fun e w' => LawEnd w e w' := by
  have fd := fix_diff
  have fn := fix_node
  have fp := fix_drop
  go_enter Try.func7, Try.ntmps7
  go_wp2_with fail
  refine (new_ w).mono ?_
  rintro e w1 ⟨gs, rfl, h1, n1⟩
  have s1 : St w w1 w.heap.size w.heap.size gs 0 nilT := ⟨h1, n1, Nat.le_refl _⟩
  clear h1 n1
  obtain ⟨b, hb⟩ : ∃ b, w.heap.size = b := ⟨_, rfl⟩
  rw [hb] at s1 ⊢
  clear hb
  have C := Lib.hid (show Calls Try.prog 14 #[ptr b] w1 fun e w' => e = .returned (.int .u32 0) ∧ w1 = w' from root w1 b b 0 gs nilT s1.at_)
  have CP := put_ok w1 b b 0 gs nilT s1.at_ 4660 7 (by omega) (by omega) (by omega) (by omega)
  obtain ⟨F, hF⟩ : ∃ F, putF ns nilT 4660 7 = F := ⟨_, rfl⟩
  have fl := fix_leaf
  rw [hF] at fd fn fp fl
  have fl := Lib.hid (show sumAt F 4 4660 ≠ 0 by simpa using fl)
  have CP := Lib.hid (show Calls Try.prog 9 #[ptr b, .int .i64 4660, .int .u32 7] w1 fun e w' => e = .returned (.int .i64 0) ∧ At w' b b gs 5 F ∧ Chg (Foot gs) w1 w' from by rw [← hF]; exact CP)
  have S := Lib.hid s1
  clear s1 hF
  go_wp2_with fail
  refine C.out.mono ?_
  rintro e w1' ⟨rfl, rfl⟩
  go_wp2_with fail
  refine CP.out.mono ?_
  rintro e w2 ⟨rfl, h2, c2⟩
  have s2 := S.out.post h2 c2
  clear C CP S h2 c2
  obtain ⟨x, hx⟩ : ∃ x, sumAt F 3 291 = x := ⟨_, rfl⟩
  rw [hx] at fn
  have C := node w2 b b 5 gs F s2.at_ 3 (by omega) 291 (by omega)
  have C := Lib.hid (show Calls Try.prog 10 #[ptr b, .int .i64 3, .int .i64 291] w2 fun e w' => e = .returned (.tuple #[.int .u32 x, .bool true]) ∧ w2 = w' from by rw [← hx]; exact C)
  clear hx
  have CD := diff w2 (ptr b) (.pointer none) F nilT s2.at_.is ⟨.inl ⟨rfl, fun _ _ => rfl⟩⟩
  rw [fd] at CD
  have CD := Lib.hid CD
  have S := Lib.hid s2
  clear s2 fd
  have hxn : (x == 0) = false := by simpa using fn
  have hxd : decide (x = 0) = false := by simpa using fn
  have hx0 : ¬ x = 0 := by simpa using fn
  go_wp2_with fail
  refine C.out.mono ?_
  rintro e w2' ⟨rfl, rfl⟩
  go_wp2_with fail
  refine CD.out.mono ?_
  rintro e w3 ⟨v, rfl, ov, n3⟩
  have s3 := S.out.news n3
  obtain ⟨g, c, rfl, hbg, _⟩ := World.ownsRow.form ov (by simp)
  have hcell : w3.cell? ⟨g, 0, none⟩ = some (.int .i64 4660) := World.ownsRow.cellAt ov 0 (by simp)
  have hgs : ∀ l, l ≤ 4 → gs l < w2.heap.size := foot_lt S.out.at_
  clear C CD S n3 ov
  have hne : sumAt F 4 4660 ≠ 0 := fl.out
  have C := drop_ok w3 b b 5 gs F s3.at_ 4660 (by omega) hne (by omega)
  obtain ⟨D, hD⟩ : ∃ D, dropF ns F 4660 = D := ⟨_, rfl⟩
  rw [hD] at fp
  have C := Lib.hid (show Calls Try.prog 12 #[ptr b, .int .i64 4660] w3 fun e w' => e = .returned (.bool true) ∧ At w' b b gs 10 D ∧ Chg (Foot gs) w3 w' from by rw [← hD]; exact C)
  have S := Lib.hid (And.intro s3 (And.intro hcell hgs))
  clear s3 hcell hgs hD hne
  go_wp2_with fail
  refine C.out.mono ?_
  rintro e w4 ⟨rfl, h4, c4⟩
  have s4 := S.out.1.post h4 c4
  have hcell := (c4.cell (p := ⟨g, 0, none⟩) (block_lt_of_cell S.out.2.1) (fun ⟨l, hl, e⟩ => by have := S.out.2.2 l hl; simp at e; omega)).trans S.out.2.1
  clear C S h4 c4
  have CR := root w4 b b 10 gs D s4.at_
  rw [fp] at CR
  have CR := Lib.hid CR
  have C1 := Lib.hid (put_out w4 b (-1) 1 (by omega))
  have C2 := Lib.hid (put_zero w4 b 1 (by omega) (by omega))
  have C3 := Lib.hid (put_nil w4 (.int .i64 1) (.int .u32 1))
  have C4 := Lib.hid (root_nil w4)
  have S := Lib.hid s4
  clear s4 fp
  go_wp2_with fail
  refine CR.out.mono ?_
  rintro e w5 ⟨rfl, rfl⟩
  go_wp2_with fail
  refine C1.out.mono ?_
  rintro e w5 ⟨rfl, rfl⟩
  go_wp2_with fail
  refine C2.out.mono ?_
  rintro e w5 ⟨rfl, rfl⟩
  go_wp2_with fail
  refine C3.out.mono ?_
  rintro e w5 ⟨rfl, rfl⟩
  go_wp2_with fail
  refine C4.out.mono ?_
  rintro e w5 ⟨rfl, rfl⟩
  go_wp2_with fail
  go_ret
  exact ⟨rfl, S.out.new⟩
end Merkle
end Go.Proofs.Ytoddgakhiaokaaa

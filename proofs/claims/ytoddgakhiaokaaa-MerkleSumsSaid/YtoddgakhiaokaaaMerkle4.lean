/-
  What the program's merkle package computes: where two trees are unlike (no condition beyond the numbers' bounds).
-/
import Derived.Test.YtoddgakhiaokaaaMerkle3
import Derived.Test.YtoddgakhiaokaaaIter
namespace Go.Proofs.Ytoddgakhiaokaaa
open Go.ChangeShapes Go.WideShapes Go.RowKit Go.Maps
namespace Merkle
/-- v is nil, or points to the tree T -/
structure Is (w : World) (v : Value) (T : Lv) : Prop where
  is : (v = .pointer none ∧ ∀ l x, T l x = none) ∨ ∃ (lo b : Nat) (gs : Nat → Nat) (n : Nat), v = ptr b ∧ At w lo b gs n T
theorem Is.new {w w' : World} {v : Value} {T : Lv} (h : Is w v T) (hc : New w w') : Is w' v T := by
  rcases h.is with hz | ⟨lo, b, gs, n, rfl, ha⟩
  · exact ⟨.inl hz⟩
  · exact ⟨.inr ⟨lo, b, gs, n, rfl, ha.new hc⟩⟩
theorem Is.sum {w : World} {v : Value} {T : Lv} (h : Is w v T) (l : Nat) (hl : l ≤ 4) (x : Int) (h1 : -9223372036854775808 ≤ x) (h2 : x ≤ 9223372036854775807) :
    Calls Try.prog 17 #[v, .int .i64 (l : Int), .int .i64 x] w fun e w' => e = .returned (.int .u32 (sumAt T l x)) ∧ New w w' := by
  rcases h.is with ⟨rfl, hz⟩ | ⟨lo, b, gs, n, rfl, ha⟩
  · refine (sum_nil w _ _).mono ?_
    rintro e w' ⟨rfl, rfl⟩
    exact ⟨by unfold sumAt; rw [hz]; rfl, Chg.refl _ _⟩
  · refine (Merkle.sum w lo b n gs T ha l hl x h1 h2).mono ?_
    rintro e w' ⟨rfl, rfl⟩
    exact ⟨rfl, Chg.refl _ _⟩
set_option maxHeartbeats 800000 in
theorem test (w : World) (bt bl bu : Nat) (tv uv : Value) (T U : Lv) (l : Nat) (hl : l ≤ 4) (x : Int) (h1 : -9223372036854775808 ≤ x) (h2 : x ≤ 9223372036854775807) (ht : Is w tv T) (hu : Is w uv U)
    (kt : w.cell? ⟨bt, 0, none⟩ = some tv) (kl : w.cell? ⟨bl, 0, none⟩ = some (.int .i64 (l : Int))) (ku : w.cell? ⟨bu, 0, none⟩ = some uv) :
    Calls Try.prog 19 #[.int .i64 x, ptr bt, ptr bl, ptr bu] w fun e w' => e = .returned (.bool (sumAt T l x == sumAt U l x)) ∧ New w w' := by
  have C1 := Lib.hid (fun X : ChgW (fun _ => False) w => (ht.new X.chg).sum l hl x h1 h2)
  have C2 := Lib.hid (fun X : ChgW (fun _ => False) w => (hu.new X.chg).sum l hl x h1 h2)
  have f1 : ∀ X : ChgW (fun _ => False) w, X.W.cell? ⟨bt, 0, none⟩ = some tv := fun X => (X.chg.cell (p := ⟨bt, 0, none⟩) (block_lt_of_cell kt) id).trans kt
  have f2 : ∀ X : ChgW (fun _ => False) w, X.W.cell? ⟨bl, 0, none⟩ = some (.int .i64 (l : Int)) := fun X => (X.chg.cell (p := ⟨bl, 0, none⟩) (block_lt_of_cell kl) id).trans kl
  have f3 : ∀ X : ChgW (fun _ => False) w, X.W.cell? ⟨bu, 0, none⟩ = some uv := fun X => (X.chg.cell (p := ⟨bu, 0, none⟩) (block_lt_of_cell ku) id).trans ku
  clear ht hu kt kl ku
  generalize sumAt T l x = s1 at *
  generalize sumAt U l x = s2 at *
  go_enter Try.func19, Try.ntmps19
  go_wp2_with fail
  refine wp_region_chg (fun _ => False) (by kernel_rfl) (by kernel_rfl) ?_
  repeat (go_big_quiet_step ((first | (with_reducible exact calls_new (C1.out _)) | (with_reducible exact calls_new (C2.out _)))))
  refine wpQuiet_nil ?_
  rintro ⟨wq, hq⟩
  simp only []
  go_wp2_with fail
  go_ret
  exact ⟨rfl, hq⟩
end Merkle
end Go.Proofs.Ytoddgakhiaokaaa

/-
  All, Put and Join with no register; Join.
-/
import Derived.Test.YtgnlbekagdffoaaDoorAll
namespace Go.Proofs.YtgnlbekagdffoaaDoor
set_option linter.unusedSimpArgs false
set_option linter.unusedVariables false
open Go.ChangeShapes Go.WideShapes Go.RowKit Go.Deep
namespace Lat
open MapR (MapAt KeyOk Rng)
attribute [local go_sem ↓] loadOnly0 loadOnly1 loadOnly2
set_option maxHeartbeats 4000000 in
set_option maxRecDepth 20000 in
theorem all_nil (w : World) : Calls Tryd.prog 13 #[.pointer none] w fun e w' => e = .returned (.slice none 0 0) ∧ w' = w := by
  go_enter Tryd.func13, Tryd.ntmps13
  go_wp2_with fail
  go_ret
  exact ⟨rfl, rfl⟩
set_option maxHeartbeats 4000000 in
set_option maxRecDepth 20000 in
theorem put_nil (w : World) (c : Cl) : Calls Tryd.prog 12 #[.pointer none, c.val] w fun e w' => e = .returned (.tuple #[.bool false, .int .i64 1]) ∧ New w w' := by
  have m1 := (Chg.refl (fun _ => False) w).alloc (.cells #[.string c.name, .int .i64 c.t, .int .i64 c.r, .int .i64 c.k, .int .i64 c.n, .string c.txt] 33)
  have H1 := Lib.hid m1
  clear m1
  unfold Cl.val
  go_enter Tryd.func12, Tryd.ntmps12
  go_wp2_with fail
  go_ret2
  exact ⟨rfl, H1.out⟩
set_option maxHeartbeats 4000000 in
set_option maxRecDepth 20000 in
theorem join_nil (hS : SortsC) (w : World) (lo b m : Nat) (M : St) (h : At w lo b m M) (N : Nat) (hF : Few M N) (hN : N ≤ 1000) :
    Calls Tryd.prog 15 #[.pointer none, .pointer (some ⟨b, 0, none⟩)] w fun e w' => e = .returned (.int .i64 0) ∧ New w w' := by
  have CA := Lib.hid (all hS w lo b m M h N hF hN)
  clear h hF hS
  go_enter Tryd.func15, Tryd.ntmps15
  go_wp2_with fail
  refine CA.out.mono ?_
  rintro e w1 ⟨u, L, rfl, ho, _, hlen, n1⟩
  obtain ⟨A, cp, rfl⟩ := ho.form
  obtain ⟨n, hn⟩ : ∃ n, L.length = n := ⟨_, rfl⟩
  have HL := Lib.hid (And.intro ho (And.intro n1 hn))
  rw [hn] at hlen ⊢
  clear ho n1 CA hn
  go_wp2_with fail
  go_loopw [5, 13] (fun x i wr => ∃ k : Nat, k ≤ n ∧ i = .int .i64 k ∧ x = .int .i64 0 ∧ New w1 wr) (fun _ i _ => n - (intOf i).toNat)
  case atStart => exact ⟨0, by omega, rfl, rfl, Chg.refl _ _⟩
  case round =>
    obtain ⟨k, hk, rfl, rfl, nw⟩ := hrel
    by_cases hlt : k < n
    · obtain ⟨c, hc⟩ : ∃ c, L[k]? = some c := ⟨_, List.getElem?_eq_getElem (by rw [HL.out.2.2]; exact hlt)⟩
      have ow := own_chg HL.out.1 nw fun _ _ => id
      rw [HL.out.2.2] at ow
      obtain ⟨ad, rfl, hld⟩ := ld_cl (Reads.of_own ow) hc
      have hld2 := (blk_cell (Blk.new wr 33 #[.string c.name, .int .i64 c.t, .int .i64 c.r, .int .i64 c.k, .int .i64 c.n, .string c.txt])).2.2.1
      have CP := Lib.hid fun W => put_nil W c
      have HN := Lib.hid nw
      have hkn : (k : Int) < n := by omega
      unfold Cl.val at hld hld2 CP
      clear ow nw hc
      go_wp2_with fail
      refine (CP.out _).mono ?_
      rintro e w3 ⟨rfl, n3⟩
      have hg1 : w1.heap.size ≤ wr.heap.size := HN.out.size
      have HN3 := Lib.hid (HN.out.trans (((Chg.refl (fun _ => False) wr).alloc _).trans n3 fun _ _ => id) fun _ _ => id)
      have hw : IntKind.i64.wrap ((k : Int) + 1) = (k : Int) + 1 := IntWalk.i64_in _ (by omega)
      clear n3 CP hld hld2
      go_wp2_with fail
      go_roundw
      case rel => exact ⟨k + 1, by omega, by go_num, rfl, HN3.out⟩
      case measure => simp [intOf]; omega
    · obtain rfl : k = n := by omega
      have HN := Lib.hid nw
      clear nw
      go_wp2_with fail
      go_ret
      exact ⟨rfl, HL.out.2.1.trans HN.out fun _ _ => id⟩
end Lat
end Go.Proofs.YtgnlbekagdffoaaDoor

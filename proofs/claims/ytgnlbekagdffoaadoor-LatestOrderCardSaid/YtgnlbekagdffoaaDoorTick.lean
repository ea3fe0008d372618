/-
  Tick, and Get: what they compute (no condition).
-/
import Derived.Test.YtgnlbekagdffoaaDoorPut
namespace Go.Proofs.YtgnlbekagdffoaaDoor
set_option linter.unusedSimpArgs false
set_option linter.unusedVariables false
open Go.ChangeShapes Go.WideShapes Go.RowKit Go.Deep
namespace Lat
theorem resSt {fn : Func} {p : Tmp} (h : fn.results = #[.cell p 29]) (tmps : Array Value) (w : World) (g : Nat) (t : TypeId) (x y : Value)
    (hp : tmps.getD p undef = .pointer (some ⟨g, 0, none⟩)) (hg : Blk w g t #[x, y]) : (results fn tmps).run Tryd.prog w = .ok (.agg #[x, y]) w :=
  results_cell_row h tmps w g t _ (0, 0) _ hp hg Tryd.underlying29 rfl (by kernel_rfl)
def tickT (a b : Int) : Int := min (max (max a b) 0) 1099511627775 + 1
def tickR (r : Int) : Int := min (max r 0) 15
set_option maxHeartbeats 4000000 in
set_option maxRecDepth 20000 in
theorem tick (w : World) (a b c d r : Int) (hb : a ≤ 9223372036854775807 ∧ c ≤ 9223372036854775807) : Calls Tryd.prog 16 #[.agg #[.int .i64 a, .int .i64 b], .agg #[.int .i64 c, .int .i64 d], .int .i64 r] w fun e w' => e = .returned (.agg #[.int .i64 (tickT a c), .int .i64 (tickR r)]) ∧ New w w' := by
  have hT : tickT a c = min (max (max a c) 0) 1099511627775 + 1 := rfl
  have hR : tickR r = min (max r 0) 15 := rfl
  have HT := Lib.hid (And.intro hT hR)
  have hz : ∀ W, (zeroValue 29).run Tryd.prog W = .ok (.agg #[.int .i64 0, .int .i64 0]) W := fun W => by kernel_rfl
  clear hT hR
  by_cases h1 : a < c
  · by_cases h2 : c < 0
    · go_enter Tryd.func16, Tryd.ntmps16
      go_wp2_with fail
      exact bodyPost_ret (resSt rfl _ _ (w.heap.size + 1 + 1) _ _ _ rfl (Blk.new2 _ _ _ _ _)) rfl ⟨by rw [HT.out.1, HT.out.2, show min (max (max a c) 0) 1099511627775 + 1 = min 0 1099511627775 + 1 by omega], (((Chg.refl _ w).alloc _).alloc _).alloc _⟩
    · have hw : IntKind.i64.wrap (min c 1099511627775 + 1) = min c 1099511627775 + 1 := IntWalk.i64_in _ (by omega)
      go_enter Tryd.func16, Tryd.ntmps16
      go_wp2_with fail
      exact bodyPost_ret (resSt rfl _ _ (w.heap.size + 1 + 1) _ _ _ rfl (Blk.new2 _ _ _ _ _)) rfl ⟨by rw [HT.out.1, HT.out.2, show min (max (max a c) 0) 1099511627775 + 1 = min c 1099511627775 + 1 by omega], (((Chg.refl _ w).alloc _).alloc _).alloc _⟩
  · by_cases h2 : a < 0
    · go_enter Tryd.func16, Tryd.ntmps16
      go_wp2_with fail
      exact bodyPost_ret (resSt rfl _ _ (w.heap.size + 1 + 1) _ _ _ rfl (Blk.new2 _ _ _ _ _)) rfl ⟨by rw [HT.out.1, HT.out.2, show min (max (max a c) 0) 1099511627775 + 1 = min 0 1099511627775 + 1 by omega], (((Chg.refl _ w).alloc _).alloc _).alloc _⟩
    · have hw : IntKind.i64.wrap (min a 1099511627775 + 1) = min a 1099511627775 + 1 := IntWalk.i64_in _ (by omega)
      go_enter Tryd.func16, Tryd.ntmps16
      go_wp2_with fail
      exact bodyPost_ret (resSt rfl _ _ (w.heap.size + 1 + 1) _ _ _ rfl (Blk.new2 _ _ _ _ _)) rfl ⟨by rw [HT.out.1, HT.out.2, show min (max (max a c) 0) 1099511627775 + 1 = min a 1099511627775 + 1 by omega], (((Chg.refl _ w).alloc _).alloc _).alloc _⟩
theorem resGet {fn : Func} {p q : Tmp} (h : fn.results = #[.cell p 33, .tmp q]) (tmps : Array Value) (w : World) (g : Nat) (t : TypeId) (x y z u v s : Value)
    (hp : tmps.getD p undef = .pointer (some ⟨g, 0, none⟩)) (hg : Blk w g t #[x, y, z, u, v, s]) : (results fn tmps).run Tryd.prog w = .ok (.tuple #[.agg #[x, y, z, u, v, s], tmps.getD q undef]) w := by
  rw [results_cell_tmp h, hp]
  have := run_LoadRow (P := Tryd.prog) (t := 33) Tryd.underlying33 rfl (n := 6) (cs := [x, y, z, u, v, s]) (by kernel_rfl) rfl (hg.range_all (cs := [x, y, z, u, v, s]))
  unfold LoadRow at this
  simp only [asAddr, Sem.run_pure, Result.andThen_ok, this]
set_option maxHeartbeats 4000000 in
set_option maxRecDepth 20000 in
theorem get (w : World) (lo b m : Nat) (M : St) (h : At w lo b m M) (x : ByteArray) : Calls Tryd.prog 14 #[.pointer (some ⟨b, 0, none⟩), .string x] w fun e w' => e = .returned (.tuple #[valOf M x, .bool (M x).isSome]) ∧ New w w' := by
  have hz := zeroCell
  have hbl := h.blk.lt
  obtain ⟨d, r, hd⟩ : ∃ (d : Cl) (r : Bool), (M x).isSome = r ∧ valOf M x = .agg #[.string d.name, .int .i64 d.t, .int .i64 d.r, .int .i64 d.k, .int .i64 d.n, .string d.txt] := by
    unfold valOf
    cases M x with
    | none => exact ⟨⟨⟨#[]⟩, 0, 0, 0, 0, ⟨#[]⟩⟩, false, rfl, rfl⟩
    | some d => exact ⟨d, true, rfl, rfl⟩
  rw [hd.1, hd.2]
  have h1 := h.new ((Chg.refl (fun _ => False) w).alloc (.cells #[.string ⟨#[]⟩, .int .i64 0, .int .i64 0, .int .i64 0, .int .i64 0, .string ⟨#[]⟩] 33))
  have hlk := h1.look x
  rw [hd.1, hd.2] at hlk
  have hcb := h1.blk.cell 0
  simp only [List.getElem?_toArray, List.getElem?_cons_zero] at hcb
  have HD := Lib.hid hd
  clear h hd h1
  unfold zeroC at hz
  go_enter Tryd.func14, Tryd.ntmps14
  go_wp2_with fail
  exact bodyPost_ret (resGet rfl _ _ w.heap.size _ _ _ _ _ _ _ rfl ((Blk.new _ _ _).alloc _)) rfl ⟨rfl, ((Chg.refl _ w).alloc _).alloc _⟩
end Lat
end Go.Proofs.YtgnlbekagdffoaaDoor

/-
  The law's own fixed calls answer as the document says: hedgerowlaw03.fixed returns true (no condition).
-/
import Derived.Test.YtonmkaiogmhhpaaCrcRef
import Derived.Deep.RegionWith
namespace Go.Proofs.Ytonmkaiogmhhpaa
open Go.ChangeShapes Go.WideShapes Go.RowKit
namespace Crc

theorem sum_digits : sum [49, 50, 51, 52, 53, 54, 55, 56, 57] = 3421780262 := by decide +kernel
theorem sum_nil : sum [] = 0 := by decide +kernel

set_option maxHeartbeats 1000000 in
set_option maxRecDepth 100000 in
theorem fixed (w : World) : Calls Try.prog 6 #[] w fun e w' => LawEnd w e w' := by
  have kc := fun (w : World) (C : Array Value) (n c : Nat) => Lib.run_convert_bytes_const (P := Try.prog) w 22 5 C n c Try.underlying22 Try.underlying5
  go_enter Try.func6, Try.ntmps6
  go_wp2_with fail
  have c1 := of_ (w.alloc (.cells (u8s [49, 50, 51, 52, 53, 54, 55, 56, 57]).toArray 5 (9, 10))) (fun b => b = w.heap.size) (some ⟨w.heap.size, 0, none⟩) 9 9 [49, 50, 51, 52, 53, 54, 55, 56, 57]
    (Reads.of_row (heap_alloc_new w _) rfl) (fun b hb => by subst hb; simp) (by simp [maxLen])
  rw [sum_digits] at c1
  refine c1.mono ?_
  clear c1
  rintro e w1 ⟨rfl, hn1⟩
  have hz1 := hn1.size
  go_wp2_with fail
  have c2 := of_ w1 (fun _ => False) none 0 0 [] (Reads.none_ _) (fun b hb => hb.elim) (by simp [maxLen])
  rw [sum_nil] at c2
  refine c2.mono ?_
  clear c2
  rintro e w2 ⟨rfl, hn2⟩
  go_wp2_with fail
  refine (bytes w2 16909060 (by omega)).mono ?_
  rintro e w3 ⟨rfl, rfl⟩
  have hstr := run_str (P := Try.prog) (dst := 9) Try.underlying22 Try.underlying5 Try.underlying9 (Reads.of_blk (size := 1) (n := 4) (Blk.new w2 40 (u8s (sumBytes 16909060)).toArray) rfl) 4
  have hsb : (⟨(sumBytes 16909060).toArray⟩ : ByteArray) = ⟨#[4, 3, 2, 1]⟩ := by decide +kernel
  rw [hsb] at hstr
  clear hsb
  go_wp2_with fail
  refine (add_nil _ _).mono ?_
  rintro e w4 ⟨rfl, rfl⟩
  go_wp2_with fail
  refine (value_nil _).mono ?_
  rintro e w5 ⟨rfl, rfl⟩
  go_wp2
  go_ret
  exact ⟨rfl, ((((Chg.refl _ _).alloc _).trans hn1 (fun _ _ => False.elim)).trans hn2 (fun _ _ => False.elim)).alloc _⟩
end Crc
end Go.Proofs.Ytonmkaiogmhhpaa

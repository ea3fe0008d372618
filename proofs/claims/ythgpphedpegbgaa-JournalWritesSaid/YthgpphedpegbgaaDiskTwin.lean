/-
  What the program's disk package computes, the third part: a twin, for a disk whose bytes are known (no condition beyond the disk's own bounds).
-/
import Derived.Test.YthgpphedpegbgaaDiskCrash
import Derived.Deep.RegionHeld3
namespace Go.Proofs.Ythgpphedpegbgaa
open Go.ChangeShapes Go.WideShapes Go.RowKit
namespace Disk
set_option maxHeartbeats 800000 in
theorem twin (w : World) (lo b : Nat) (v : Value) (d : Dsk) (h : At w lo b v d) :
    Calls Try.prog 25 #[ptr b] w fun e w' => ∃ b' v', e = .returned (ptr b') ∧ At w' w.heap.size b' v' d ∧ New w w' := by
  have hc1 : w.cell? ⟨b, 1, none⟩ = some (.int .i64 (d.s : Int)) := h.blk.cell 1
  have hblt := h.blk.lt
  have hok := h.ok
  have C := Lib.hid (bytes w.drew lo b v d h.drew)
  have HC := Lib.hid (show w.drew.cell? ⟨b, 1, none⟩ = some (.int .i64 (d.s : Int)) from hc1)
  clear h
  go_enter Try.func25, Try.ntmps25
  go_wp2
  go_region_held3 (fun V => V.cell? ⟨b, 1, none⟩ = some (.int .i64 (d.s : Int))) (first | exact HC.out | exact kS | exact (World.cell?_alloc_lt _ _ _ hbl).trans kS | fail)
    (first | ((with_reducible refine C.out.mono ?_); rintro e w1 ⟨u, rfl, ho, hn⟩; obtain ⟨A, c, hu, _⟩ := ho.form; subst hu; have kS := (hn.cell (p := ⟨b, 1, none⟩) hblt id).trans HC.out; have hbl := Nat.lt_of_lt_of_le hblt hn.size) | fail)
  go_wp2
  go_ret
  refine ⟨_, _, rfl, ⟨hok, Blk.new w1 _ _, own_chg ho ((Chg.refl (fun _ => False) w1).alloc _) (fun _ _ => id), hn.size⟩, ?_⟩
  exact (Chg.mono (S := fun _ => False) ((Chg.refl _ w).drew.trans hn (fun _ _ => id)) fun _ _ => id).alloc _
end Disk
end Go.Proofs.Ythgpphedpegbgaa

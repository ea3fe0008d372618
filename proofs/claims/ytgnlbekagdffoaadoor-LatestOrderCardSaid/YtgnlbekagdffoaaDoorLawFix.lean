/-
  The law's fixed: true.
-/
import Derived.Test.YtgnlbekagdffoaaDoorJoin
namespace Go.Proofs.YtgnlbekagdffoaaDoor
set_option linter.unusedSimpArgs false
set_option linter.unusedVariables false
open Go.ChangeShapes Go.WideShapes Go.RowKit Go.Deep
namespace Lat
open MapR (MapAt KeyOk Rng)
attribute [local go_sem ↓] loadOnly0 loadOnly1 loadOnly2
def xS : ByteArray := ⟨#[120]⟩
def c1 : Cl := ⟨⟨#[120]⟩, 5, 0, 2, 1, ⟨#[]⟩⟩
def c2 : Cl := ⟨⟨#[120]⟩, 3, 9, 0, 0, ⟨#[]⟩⟩
def c3 : Cl := ⟨⟨#[]⟩, 0, 0, 0, 0, ⟨#[]⟩⟩
def m1 : St := put none_ c1
theorem r1 : c1.right = true := by decide +kernel
theorem r2 : c2.right = true := by decide +kernel
theorem r3 : c3.right = false := by decide +kernel
theorem k1 : counts none_ c1 = true := by unfold counts; rw [r1]; rfl
theorem m1_x : m1 ⟨#[120]⟩ = some c1 := by unfold m1 put; rw [if_pos k1]; exact if_pos rfl
theorem k2 : counts m1 c2 = false := by
  unfold counts
  rw [r2, show m1 c2.name = some c1 from m1_x]
  decide +kernel
theorem k3 : counts m1 c3 = false := by unfold counts; rw [r3]; rfl
theorem p2 : put m1 c2 = m1 := by unfold put; rw [k2]; rfl
theorem p3 : put m1 c3 = m1 := by unfold put; rw [k3]; rfl
set_option maxHeartbeats 8000000 in
set_option maxRecDepth 20000 in
theorem fixed (hS : SortsC) (w : World) (hm : Val.MaxAt w) : Calls Tryd.prog 7 #[] w fun e w' => e = .returned (.bool true) ∧ New w w' := by
  have C0 := Lib.hid (new_ w)
  have HM := Lib.hid (And.intro hm hS)
  clear hm hS
  go_enter Tryd.func7, Tryd.ntmps7
  go_wp2_with fail
  refine C0.out.mono ?_
  rintro e w1 ⟨rfl, h1, n1⟩
  obtain ⟨b, hb⟩ : ∃ b, w.heap.size + 1 = b := ⟨_, rfl⟩
  obtain ⟨m, hme⟩ : ∃ m, w.heap.size = m := ⟨_, rfl⟩
  rw [hb, hme] at h1
  rw [hb]
  have a2 := (Chg.refl (fun _ => False) w1).alloc (.cells #[.int .i64 2, .int .i64 1, .string ⟨#[]⟩] 31)
  have hV := Blk.new w1 31 #[.int .i64 2, .int .i64 1, .string ⟨#[]⟩]
  have hlv := run_LoadRow (P := Tryd.prog) (n := 3) (cs := [.int .i64 2, .int .i64 1, .string ⟨#[]⟩]) Tryd.underlying31 rfl (by kernel_rfl) rfl (Blk.range_all (cs := [_, _, _]) hV)
  have n2 := n1.trans a2 fun _ _ => id
  have h2 := h1.new a2
  have C1 := Lib.hid (put_ _ _ _ _ _ h2 c1 (by decide) (by decide) (by decide) (HM.out.1.new n2))
  have HV := Lib.hid (And.intro hV (And.intro n2 (And.intro hb hme)))
  have hs1 : m < w1.heap.size := by
    obtain ⟨ks, q, _⟩ := h1.map
    exact q.lt
  clear h1 n1 a2 h2 C0 n2 hb hme hV
  rw [k1, r1, show put none_ c1 = m1 from rfl] at C1
  unfold c1 Cl.val at C1
  go_wp2_with fail
  refine C1.out.mono ?_
  rintro e w3 ⟨rfl, h3, g3⟩
  have hV3 := HV.out.1.chg g3 (by omega)
  have n3 : New w w3 := HV.out.2.1.trans g3 fun i hi e => by have := HV.out.2.2.2; omega
  have C2 := Lib.hid (put_ w3 _ _ _ _ h3 c2 (by decide) (by decide) (by decide) (HM.out.1.new n3))
  have hv3 := hV3.lt
  have HV3 := Lib.hid (And.intro hV3 n3)
  clear h3 g3 hV3 n3 C1 hlv
  rw [k2, r2, p2] at C2
  unfold c2 Cl.val at C2
  go_wp2_with fail
  refine C2.out.mono ?_
  rintro e w4 ⟨rfl, h4, g4⟩
  have hV4 := HV3.out.1.chg g4 (by omega)
  have n4 : New w w4 := HV3.out.2.trans g4 fun i hi e => by have := HV.out.2.2.2; omega
  have C3 := Lib.hid (get w4 _ _ _ _ h4 ⟨#[120]⟩)
  have hv4 := hV4.lt
  have HV4 := Lib.hid (And.intro hV4 (And.intro n4 h4))
  clear h4 g4 hV4 n4 C2
  rw [valOf_some m1_x, m1_x] at C3
  unfold c1 Cl.val at C3
  go_wp2_with fail
  refine C3.out.mono ?_
  rintro e w5 ⟨rfl, n5⟩
  have g5 := ((Chg.refl (fun _ => False) w5).alloc (.cells #[.string ⟨#[120]⟩, .int .i64 5, .int .i64 0, .int .i64 2, .int .i64 1, .string ⟨#[]⟩] 33))
  have hB5 := Blk.new w5 33 #[.string ⟨#[120]⟩, .int .i64 5, .int .i64 0, .int .i64 2, .int .i64 1, .string ⟨#[]⟩]
  have n45 := n5.trans g5 fun _ _ => id
  have hV5 := HV4.out.1.chg n45 id
  have n6 : New w _ := HV4.out.2.1.trans n45 fun _ _ => id
  have h5 := HV4.out.2.2.new n45
  have C4 := Lib.hid (put_ _ _ _ _ _ h5 c3 (by decide) (by decide) (by decide) (HM.out.1.new n6))
  have hs5 : m < w5.heap.size := by
    obtain ⟨ks, q, _⟩ := (HV4.out.2.2.new n5).map
    exact q.lt
  have HV5 := Lib.hid (And.intro hV5 (And.intro hB5 n6))
  clear n5 g5 hB5 n45 hV5 n6 h5 C3
  rw [k3, r3, p3] at C4
  unfold c3 Cl.val at C4
  go_wp2_with fail
  refine C4.out.mono ?_
  rintro e w6 ⟨rfl, h6, g6⟩
  have hV6 := HV5.out.1.chg g6 (by omega)
  have hB6 := HV5.out.2.1.chg g6 (by omega)
  have n6 : New w w6 := HV5.out.2.2.trans g6 fun i hi e => by have := HV.out.2.2.2; omega
  have C5 := Lib.hid (tick w6 3 0 7 0 2 (by decide))
  rw [show tickT 3 7 = 8 by decide, show tickR 2 = 2 by decide] at C5
  have HV6 := Lib.hid (And.intro hV6 (And.intro hB6 (And.intro n6 h6)))
  clear hV6 hB6 n6 h6 g6 C4
  go_wp2_with fail
  refine C5.out.mono ?_
  rintro e w7 ⟨rfl, n7⟩
  have g7 := n7.trans ((Chg.refl (fun _ => False) w7).alloc (.cells #[.int .i64 8, .int .i64 2] 29)) fun _ _ => id
  have hT8 := Blk.new w7 29 #[.int .i64 8, .int .i64 2]
  have hlt8 := run_LoadRow (P := Tryd.prog) (n := 2) (cs := [.int .i64 8, .int .i64 2]) Tryd.underlying29 rfl (by kernel_rfl) rfl (Blk.range_all (cs := [_, _]) hT8)
  have hlv8 := run_LoadRow (P := Tryd.prog) (n := 3) (cs := [.int .i64 2, .int .i64 1, .string ⟨#[]⟩]) Tryd.underlying31 rfl (by kernel_rfl) rfl (Blk.range_all (cs := [_, _, _]) (HV6.out.1.chg g7 id))
  have hlc8 := blk_cell (c := c1) (HV6.out.2.1.chg g7 id)
  simp only [c1] at hlc8
  have hls8 := hlc8.1
  have hlw8 := hlc8.2.1
  have n8 := HV6.out.2.2.1.trans g7 fun _ _ => id
  have h8 := HV6.out.2.2.2.new g7
  have C6 := Lib.hid fun W => later W 8 2 5 0
  rw [show decide (0 < orL [cmpI 8 5, cmpI 2 0]) = true by decide] at C6
  have C7 := Lib.hid fun W => all_nil W
  have C8 := Lib.hid fun W (hW : New _ W) => join_nil HM.out.2 W _ _ _ _ (h8.new hW) 1 (Few.none.put c1) (by omega)
  have HN := Lib.hid n8
  clear n7 g7 hT8 n8 h8 C5 hlc8
  go_wp2_with fail
  refine (C6.out _).mono ?_
  rintro e w9 ⟨rfl, n9⟩
  have H9 := Lib.hid n9
  clear n9
  go_wp2_with fail
  refine (C7.out _).mono ?_
  rintro e w10 ⟨rfl, hw10⟩
  subst hw10
  go_wp2_with fail
  refine (C8.out _ H9.out).mono ?_
  rintro e w11 ⟨rfl, n11⟩
  have H11 := Lib.hid n11
  clear n11
  go_wp2_with fail
  go_ret
  exact ⟨rfl, (HN.out.trans H9.out fun _ _ => id).trans H11.out fun _ _ => id⟩
end Lat
end Go.Proofs.YtgnlbekagdffoaaDoor

/-
  The law's own fixed calls answer as the document says: hedgerowlaw35.fixed returns true (no condition).
-/
import Derived.Test.YtihmajdgfalhdaaCounter2
namespace Go.Proofs.Ytihmajdgfalhdaa
open Go.ChangeShapes Go.WideShapes Go.RowKit
namespace Counter
def c1 : Cnt := (addF zero 0 5).2
def c2 : Cnt := (addF c1 1 (-2)).2
def d3 : Cnt := (addF c2 0 1).2
theorem getD_fix : c2.m.getD 1 0 = 0 ∧ c2.l.getD 1 0 = 2 := by decide +kernel
theorem val_fix : val c2 = 3 ∧ val d3 = 4 := by decide +kernel
theorem below_fix : belowF c2 d3 = true ∧ belowF d3 c2 = false ∧ belowF zero c2 = true ∧ belowF c2 zero = false := by decide +kernel
theorem addF1 : (addF zero 0 5).1 = 0 := by decide +kernel
theorem addF2 : (addF c1 1 (-2)).1 = 0 := by decide +kernel
theorem addF4 : addF c2 16 1 = (4, c2) := by unfold addF; rw [if_pos (by omega)]
theorem addF5 : (addF c2 0 1099511627776).1 = 6 := by decide +kernel
theorem addF5' : (addF c2 0 1099511627776).2 = c2 := by
  have h : (addF c2 0 1099511627776).2.m = c2.m ∧ (addF c2 0 1099511627776).2.l = c2.l := by decide +kernel
  cases h1 : (addF c2 0 1099511627776).2
  cases h2 : c2
  simp_all

set_option maxHeartbeats 2000000 in
set_option maxRecDepth 100000 in
theorem fixed (w : World) : Calls Try.prog 6 #[] w fun e w' => LawEnd w e w' := by
  go_enter Try.func6, Try.ntmps6
  go_wp2_with fail
  refine (new_ _).mono ?_
  rintro e w1 ⟨rfl, h1, n1⟩
  go_wp2_with fail
  have k1 := add w1 _ zero 0 5 h1 (by omega) (by omega)
  rw [addF1] at k1
  refine k1.mono ?_
  clear k1
  rintro e w2 ⟨rfl, h2, u2⟩
  have n2 : New w w2 := n1.trans u2 (fun i hi e => by omega)
  go_wp2_with fail
  have k2 := add w2 _ c1 1 (-2) h2 (by omega) (by omega)
  rw [addF2] at k2
  refine k2.mono ?_
  clear k2
  rintro e w3 ⟨rfl, h3, u3⟩
  have n3 : New w w3 := n2.trans u3 (fun i hi e => by omega)
  go_wp2_with fail
  refine (twin w3 _ c2 h3).mono ?_
  rintro e w4 ⟨rfl, h4, n4⟩
  have h3' := h3.new n4
  have n4' := n3.trans n4 (fun _ _ => False.elim)
  have hlt := h3.lt
  go_wp2_with fail
  refine (add w4 _ c2 0 1 h4 (by omega) (by omega)).mono ?_
  rintro e w5 ⟨rfl, h5, u5⟩
  have h35 := h3'.chg u5 (fun e => by omega)
  have n5 : New w w5 := n4'.trans u5 (fun i hi e => by omega)
  go_wp2_with fail
  have k5 := own_in w5 _ c2 h35 1 (by omega)
  rw [getD_fix.1, getD_fix.2] at k5
  refine k5.mono ?_
  clear k5
  rintro e w6 ⟨rfl, rfl⟩
  have h35d : At w5.drew w.heap.size c2 := ⟨h35.ok, h35.blk⟩
  have h5d : At w5.drew w3.heap.size d3 := ⟨h5.ok, h5.blk⟩
  have n5d := n5.drew
  generalize w5.drew = v0 at *
  go_wp2_with fail
  have k6 := value v0 _ c2 h35d
  rw [val_fix.1] at k6
  refine k6.mono ?_
  clear k6
  rintro e v1 ⟨rfl, m1⟩
  go_wp2_with fail
  have k7 := value v1 _ d3 (h5d.new m1)
  rw [val_fix.2] at k7
  refine k7.mono ?_
  clear k7
  rintro e v2 ⟨rfl, m2⟩
  have hc2 := (h35d.new m1).new m2
  have hd2 := (h5d.new m1).new m2
  have nn2 := (n5d.trans m1 (fun _ _ => False.elim)).trans m2 (fun _ _ => False.elim)
  go_wp2_with fail
  have k8 := below_ v2 _ _ c2 d3 (.inl ⟨_, rfl, hc2⟩) (.inl ⟨_, rfl, hd2⟩)
  rw [below_fix.1] at k8
  refine k8.mono ?_
  clear k8
  rintro e v3 ⟨rfl, m3⟩
  go_wp2_with fail
  have k9 := below_ v3 _ _ d3 c2 (.inl ⟨_, rfl, hd2.new m3⟩) (.inl ⟨_, rfl, hc2.new m3⟩)
  rw [below_fix.2.1] at k9
  refine k9.mono ?_
  clear k9
  rintro e v4 ⟨rfl, m4⟩
  have hc4 := (hc2.new m3).new m4
  have nn4 := (nn2.trans m3 (fun _ _ => False.elim)).trans m4 (fun _ _ => False.elim)
  go_wp2_with fail
  have k10 := add v4 _ c2 16 1 hc4 (by omega) (by omega)
  rw [addF4] at k10
  refine k10.mono ?_
  clear k10
  rintro e v5 ⟨rfl, hc5, u5⟩
  have nn5 : New w v5 := nn4.trans u5 (fun i hi e => by omega)
  go_wp2_with fail
  have k11 := add v5 _ c2 0 1099511627776 hc5 (by omega) (by omega)
  rw [addF5, addF5'] at k11
  refine k11.mono ?_
  clear k11
  rintro e v6 ⟨rfl, hc6, u6⟩
  have nn6 : New w v6 := nn5.trans u6 (fun i hi e => by omega)
  go_wp2_with fail
  refine (add_nil _ _ _).mono ?_
  rintro e v7 ⟨rfl, rfl⟩
  go_wp2_with fail
  refine (value_nil _).mono ?_
  rintro e v8 ⟨rfl, rfl⟩
  go_wp2_with fail
  refine (twin_nil _).mono ?_
  rintro e v9 ⟨rfl, rfl⟩
  go_wp2_with fail
  have k12 := below_ v6 _ _ zero c2 (.inr ⟨rfl, rfl⟩) (.inl ⟨_, rfl, hc6⟩)
  rw [below_fix.2.2.1] at k12
  refine k12.mono ?_
  clear k12
  rintro e v10 ⟨rfl, m10⟩
  go_wp2_with fail
  have k13 := below_ v10 _ _ c2 zero (.inl ⟨_, rfl, hc6.new m10⟩) (.inr ⟨rfl, rfl⟩)
  rw [below_fix.2.2.2] at k13
  refine k13.mono ?_
  clear k13
  rintro e v11 ⟨rfl, m11⟩
  go_wp2
  go_ret
  exact ⟨rfl, (nn6.trans m10 (fun _ _ => False.elim)).trans m11 (fun _ _ => False.elim)⟩
end Counter
end Go.Proofs.Ytihmajdgfalhdaa

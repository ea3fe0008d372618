/-
  MessageTurned, walked: true.
-/
import Derived.Test.YtkmkpdmjdfbpjaaGreatDoorJ17
namespace Go.Proofs.YtkmkpdmjdfbpjaaGreatDoor
set_option linter.unusedSimpArgs false
set_option linter.unusedVariables false
open Go.ChangeShapes Go.WideShapes Go.RowKit Go.Deep
namespace Msg
open Val (JoinC)
open Num Evt Vec
attribute [local go_sem ↓] loadRow0 storeRow0
attribute [local go_sem ↓] Evt.loadDot Evt.loadVec Evt.loadRow0 Evt.storeRow0 Evt.loadOnly0 Evt.loadOnly1 Evt.loadOnly2
theorem turn_E {m : Ms} (h : rightM m = true) (hp : (payload m).length ≤ 1048576) {k : Nat} (hk : k < (payload m).length + 8) (y : UInt8) :
    (parseE ((Frame.frameL (payload m)).set k ((Frame.frameL (payload m)).getD k 0 ^^^ y)) == 0) = ((y.toNat : Int) == 0) := by
  by_cases hy : y = 0
  · subst hy
    have e : (Frame.frameL (payload m)).set k ((Frame.frameL (payload m)).getD k 0 ^^^ 0) = Frame.frameL (payload m) := by
      have hk2 : k < (Frame.frameL (payload m)).length := by rw [Frame.frameL_length]; exact hk
      rw [UInt8.xor_zero, List.getD_eq_getElem?_getD, List.getElem?_eq_getElem hk2, Option.getD_some, List.set_getElem_self]
    rw [e, (parse_frame h hp).2]
    rfl
  · rw [parse_turn _ hp hk hy]
    symm
    have : ¬ y.toNat = 0 := fun h0 => hy (UInt8.toNat_inj.1 h0)
    rw [beq_eq_false_iff_ne.2 (by decide : (7 : Int) ≠ 0), beq_eq_false_iff_ne]
    omega
theorem behind_E {m : Ms} (h : rightM m = true) (hp : (payload m).length ≤ 1048576) (q : List UInt8) : (parseE (Frame.frameL (payload m) ++ q) == 0) = ((q.length : Int) == 0) := by
  by_cases hq : q = []
  · subst hq
    rw [List.append_nil, (parse_frame h hp).2]
    rfl
  · rw [parse_behind _ q hp hq]
    symm
    have : ¬ q.length = 0 := fun h0 => hq (List.eq_nil_of_length_eq_zero h0)
    rw [beq_eq_false_iff_ne.2 (by decide : (2 : Int) ≠ 0), beq_eq_false_iff_ne]
    omega
set_option maxHeartbeats 20000000 in
set_option maxRecDepth 100000 in
theorem turnW (hJ : JoinC) (w : World) (hm : Val.MaxAt w) (F : Nat → Prop) (m : Ms) (v : Value) (hv : RowE w F v m.es) (hF : ∀ b, F b → b < w.heap.size) (hc : ∀ e ∈ m.es, Came e) (hl : m.es.length ≤ 140737488351232)
    (at_ : Nat) (hat : at_ < 65536) (y : UInt8) (cut : Nat) (hcut : cut < 65536) (D : Option Addr) (n cm : Nat) (q : List UInt8) (hq : Reads w (fun b => b < w.heap.size) 1 D n (u8s q)) (hnc : n ≤ cm) :
    Calls Tryz.prog 5 #[m.val v, .int .u16 (at_ : Int), .int .u8 (y.toNat : Int), .int .u16 (cut : Int), .slice D n cm] w fun x w' => x = .returned (.bool true) ∧ New w w' := by
  have n1 := (Chg.refl (fun _ => False) w).alloc (.cells (m.cs v).toArray 26)
  have B1 := Blk.new w 26 (m.cs v).toArray
  have hz : ∀ W, (zeroValue 26).run Tryz.prog W = .ok (.agg (m0.cs (.slice none 0 0)).toArray) W := fun W => by kernel_rfl
  have CF := Lib.hid (fixed hJ _ (hm.new n1))
  have H1 := Lib.hid (And.intro B1 (And.intro n1 (hv.new n1)))
  have HM := Lib.hid (And.intro hm (And.intro hJ (And.intro hc (And.intro hl hF))))
  have hql := hq.u8len
  have HQ := Lib.hid (And.intro hq hql)
  have g1 := B1.lt
  clear n1 B1 hm hJ hc hv hl hF hq hql
  go_enter Tryz.func5, Tryz.ntmps5
  go_wp2_with fail
  with_reducible refine CF.out.mono ?_
  rintro x w2 ⟨rfl, n2⟩
  have H2 := Lib.hid (And.intro (H1.out.1.chg n2 id) (And.intro (H1.out.2.1.trans n2 fun _ _ => id) (H1.out.2.2.new n2)))
  have CS := Lib.hid (few_ w2 F m v H2.out.2.2 HM.out.2.2.1 HM.out.2.2.2.1)
  have l2 := ldM H2.out.1
  have g2 := H2.out.1.lt
  clear n2 CF
  go_wp2_with fail
  with_reducible refine CS.out.mono ?_
  rintro x w3 ⟨rfl, n3⟩
  have H3 := Lib.hid (And.intro (H2.out.1.chg n3 id) (And.intro (H2.out.2.1.trans n3 fun _ _ => id) (H2.out.2.2.new n3)))
  have l3 := ldM H3.out.1
  have g3 := H3.out.1.lt
  clear n3 CS l2 g2
  obtain ⟨sh, hsh⟩ : ∃ b, fewB m = b := ⟨_, rfl⟩
  rw [hsh]
  cases sh
  · clear hsh
    go_wp2_with fail
    go_ret
    exact ⟨rfl, H3.out.2.1⟩
  have hfew := few_true hsh
  have hfit : ∀ e ∈ m.es, Fit e := fun e he => (HM.out.2.2.1 e he).fit (hfew.1 e he)
  have hsm : ∀ e ∈ m.es, Small e := fun e he => (HM.out.2.2.1 e he).small (hfew.1 e he)
  have hpl := small_payload hfew.1 hfew.2
  have hl30 := hfew.2
  have HX := Lib.hid (And.intro hfit (And.intro hsm (And.intro hpl hl30)))
  have CR := rright w3 F m v H3.out.2.2 HX.out.2.1 (by omega)
  obtain ⟨rb, hrb⟩ : ∃ b, rightM m = b := ⟨_, rfl⟩
  rw [hrb] at CR
  have CR := Lib.hid CR
  clear hsh hfew hfit hsm hpl
  go_wp2_with fail
  with_reducible refine CR.out.mono ?_
  rintro x w4 ⟨rfl, n4⟩
  have H4 := Lib.hid (And.intro (H3.out.1.chg n4 id) (And.intro (H3.out.2.1.trans n4 fun _ _ => id) (H3.out.2.2.new n4)))
  have l4 := ldM H4.out.1
  have g4 := H4.out.1.lt
  clear n4 CR l3 g3
  cases rb
  · clear hrb
    go_wp2_with fail
    go_ret
    exact ⟨rfl, H4.out.2.1⟩
  by_cases hm100 : (100 : Int) < n
  · clear hrb
    go_wp2_with fail
    go_ret
    exact ⟨rfl, H4.out.2.1⟩
  have HR := Lib.hid hrb
  have CB := Lib.hid (rbytes w4 F m v H4.out.2.2 (fun b hb => Nat.lt_of_lt_of_le (HM.out.2.2.2.2 b hb) H4.out.2.1.size) HX.out.1 (by omega) (by have := HX.out.2.2.1; omega))
  obtain ⟨L, hL⟩ : ∃ L, (Frame.frameL (payload m)).length = L := ⟨_, rfl⟩
  have hL2 : 8 ≤ L ∧ L ≤ 18188 := by have := HX.out.2.2.1; rw [← hL, Frame.frameL_length]; omega
  have HL := Lib.hid hL
  clear hrb hL
  go_wp2_with fail
  with_reducible refine CB.out.mono ?_
  rintro x w5 ⟨u5, rfl, o5, n5⟩
  obtain ⟨A, c, hv5, hcL, hcm, _, _⟩ := o5.form
  rw [HL.out] at hv5 hcL
  subst hv5
  have hr5 := (Reads.of_own (show w5.ownsRow w4.heap.size 5 1 (.slice A L c) L (u8s (Frame.frameL (payload m))) from by have := o5; unfold OwnB at this; rw [HL.out] at this; exact this)).mono (G := fun b => b < w5.heap.size) fun b hb => hb.2.1
  have H5 := Lib.hid (And.intro (H4.out.2.1.trans n5 fun _ _ => id) (And.intro o5 H4.out.2.1.size))
  obtain ⟨k, hk⟩ : ∃ k, cut % L = k := ⟨_, rfl⟩
  have hkL : k < L := by rw [← hk]; exact Nat.mod_lt _ (by omega)
  have hw1 : IntKind.i64.wrap (cut : Int) = (cut : Int) := IntWalk.i64_in _ (by omega)
  have hrem : (cut : Int).tmod (L : Int) = (k : Int) := by rw [Int.tmod_eq_emod_of_nonneg (by omega), ← hk]; rfl
  have hL0 : ¬ (L : Int) = 0 := by omega
  have hL1 : ((L : Int) == 0) = false := by simpa using hL0
  have hsl := slice_u8_to A L c k (by omega)
  have CP := parse_ HM.out.2.1 w5 _ A k c _ (Reads.takeB hr5 (k := k) (by omega)) (fun b hb => hb) (by omega) (by omega) (HM.out.1.new H5.out.1)
  have hpe := parse_part (payload m) (k := k) (by have := HX.out.2.2.1; omega) (by have := HL.out; rw [Frame.frameL_length] at this; omega)
  rw [hpe] at CP
  obtain ⟨M1, hM1⟩ : ∃ M, (parseM ((Frame.frameL (payload m)).take k)).getD m0 = M := ⟨_, rfl⟩
  rw [hM1] at CP
  have CP := Lib.hid CP
  clear o5 n5 hr5 CB hpe hM1 hk l4 g4
  go_wp2_with fail
  with_reducible refine CP.out.mono ?_
  rintro x w6 ⟨u6, rfl, o6, n6⟩
  obtain ⟨w7, hst7, b7, n7, g7⟩ := new_ms w6 M1 u6 (by obtain ⟨_, _, h⟩ := o6.form; rw [h]; rfl)
  have n67 := n6.trans n7 fun _ _ => id
  obtain ⟨ga, hga⟩ : ∃ g, w6.heap.size = g := ⟨_, rfl⟩
  rw [hga] at hst7 g7
  have o7 := own_chg H5.out.2.1 n67 fun _ _ => id
  have H7 := Lib.hid (And.intro (H5.out.1.trans n67 fun _ _ => id) o7)
  have hr7 := (Reads.of_own (show w7.ownsRow w4.heap.size 5 1 (.slice A L c) L (u8s (Frame.frameL (payload m))) from by have := o7; unfold OwnB at this; rw [HL.out] at this; exact this)).mono (G := fun b => b < w7.heap.size) fun b hb => hb.2.1
  have a8 := (Chg.refl (fun _ => False) w7).alloc (.cells #[] 5)
  have hr8 := hr7.chg a8 fun b hb => ⟨hb, id⟩
  have o8 := OwnB.empty (w := w7) (base := w7.heap.size) (Nat.le_refl _)
  have hs8 : (w7.alloc (.cells #[] 5)).heap.size = w7.heap.size + 1 := by simp
  have HA8 := Lib.hid a8
  clear o6 n6 n7 n67 b7 CP a8 o7 hr7
  go_wp2_with (at_builtin; refine stop ?_)
  delta Stop
  refine append_u8 _ rfl _ _ rfl w7.heap.size _ [] rfl o8 _ A L c (Frame.frameL (payload m)) rfl hr8 (by simp; omega) (by omega) ?_
  intro v9 w9 o9 ga9 at9
  have hw9 := H7.out.1.size
  have c9 : New w7 w9 := HA8.out.grown ga9 fun k e hk => by have := (own_lt o8 e).1; omega
  have hq9 : Reads w9 (fun b => b < w.heap.size) 1 D n (u8s q) := HQ.out.1.chg (H7.out.1.trans c9 fun _ _ => id) fun b hb => ⟨hb, id⟩
  rw [List.nil_append] at o9
  have hs9 := c9.size
  clear o8 hr8 ga9 at9
  go_wp2_with (at_builtin; refine stop ?_)
  delta Stop
  refine append_u8 _ rfl _ _ rfl w7.heap.size _ (Frame.frameL (payload m)) rfl o9 _ D n cm q rfl hq9 (by rw [HL.out]; omega) (by omega) ?_
  intro v10 w10 o10 g10 at10
  have c10 : New w7 w10 := c9.grown g10 fun k e hk => by have := (own_lt o9 e).1; omega
  obtain ⟨A10, c10p, rfl, hc10, _⟩ := o10.form
  obtain ⟨n10, hn10⟩ : ∃ n, (Frame.frameL (payload m) ++ q).length = n := ⟨_, rfl⟩
  have hn10' : n10 = L + n := by rw [← hn10, List.length_append, HL.out, HQ.out.2]
  rw [hn10] at hc10 ⊢
  have hr10 : Reads w10 (fun b => b < w10.heap.size) 1 A10 n10 (u8s (Frame.frameL (payload m) ++ q)) := by
    have h := Reads.of_own (show w10.ownsRow w7.heap.size 5 1 (.slice A10 n10 c10p) n10 (u8s (Frame.frameL (payload m) ++ q)) from by have := o10; unfold OwnB at this; rw [hn10] at this; exact this)
    exact h.mono fun b hb => hb.2.1
  have H10 := Lib.hid (And.intro (H7.out.1.trans c10 fun _ _ => id) (own_chg H7.out.2 c10 fun _ _ => id))
  have CP := parse_ HM.out.2.1 w10 _ A10 n10 c10p _ hr10 (fun b hb => hb) (by omega) hc10 (HM.out.1.new H10.out.1)
  have hb1 := behind_E HR.out (by have := HX.out.2.2.1; omega) q
  rw [HQ.out.2] at hb1
  obtain ⟨M2, hM2⟩ : ∃ M, (parseM (Frame.frameL (payload m) ++ q)).getD m0 = M := ⟨_, rfl⟩
  obtain ⟨E2, hE2⟩ : ∃ M, parseE (Frame.frameL (payload m) ++ q) = M := ⟨_, rfl⟩
  rw [hM2, hE2] at CP
  rw [hE2] at hb1
  obtain ⟨P2, hP2⟩ : ∃ b, (E2 == 0) = b := ⟨_, rfl⟩
  have hQ2 : ((n : Int) == 0) = P2 := by rw [← hb1, hP2]
  have CP := Lib.hid CP
  clear o10 o9 hq9 g10 at10 c9 c10 hr10 hn10 hc10 hs8 hs9 hw9 hn10' hM2 hE2 hb1
  go_wp2_with fail
  with_reducible refine CP.out.mono ?_
  rintro x w11 ⟨u11, rfl, o11, n11⟩
  obtain ⟨w12, hst12, b12, n12, g12⟩ := new_ms w11 M2 u11 (by obtain ⟨_, _, h⟩ := o11.form; rw [h]; rfl)
  have n1112 := n11.trans n12 fun _ _ => id
  obtain ⟨gb, hgb⟩ : ∃ g, w11.heap.size = g := ⟨_, rfl⟩
  rw [hgb] at hst12 g12
  have H12 := Lib.hid (And.intro (H10.out.1.trans n1112 fun _ _ => id) (own_chg H10.out.2 n1112 fun _ _ => id))
  clear o11 n11 n12 n1112 b12 CP
  obtain ⟨p, hp⟩ : ∃ q, at_ % L = q := ⟨_, rfl⟩
  have hpL : p < L := by rw [← hp]; exact Nat.mod_lt _ (by omega)
  have hw2 : IntKind.i64.wrap (at_ : Int) = (at_ : Int) := IntWalk.i64_in _ (by omega)
  have hrem2 : (at_ : Int).tmod (L : Int) = (p : Int) := by rw [Int.tmod_eq_emod_of_nonneg (by omega), ← hp]; rfl
  have o12 := H12.out.2
  obtain ⟨gr, c5, hgbe, hgr, hgl⟩ := World.ownsRow.form o12 (by rw [HL.out]; omega)
  have hA : A = some ⟨gr, 0, none⟩ := by injection hgbe
  subst hA
  clear hgbe
  have hcl : (Frame.frameL (payload m))[p]? = some ((Frame.frameL (payload m)).getD p 0) := by
    have : p < (Frame.frameL (payload m)).length := by rw [HL.out]; exact hpL
    rw [List.getD_eq_getElem?_getD, List.getElem?_eq_getElem this, Option.getD_some]
  have o12' : w12.ownsRow w4.heap.size 5 1 (.slice (some ⟨gr, 0, none⟩) L c) L (u8s (Frame.frameL (payload m))) := by have := o12; unfold OwnB at this; rw [HL.out] at this; exact this
  have hcb2 := World.ownsRow.cellAt o12' p (by omega)
  rw [u8s_get, hcl] at hcb2
  replace hcb2 : w12.cell? ⟨gr, p, none⟩ = some (.int .u8 (((Frame.frameL (payload m)).getD p 0).toNat : Int)) := hcb2
  have hfr := World.ownsRow.frozenAt o12' p
  have o13 := OwnB.stored (i := p) o12 ((Frame.frameL (payload m)).getD p 0 ^^^ y)
  have hbase := H5.out.2.2
  have m13 : New w (w12.setCell ⟨gr, p, none⟩ (.int .u8 (((Frame.frameL (payload m)).getD p 0 ^^^ y).toNat : Int))) := H12.out.1.setCell (p := ⟨gr, p, none⟩) (fun h => by simp at h; omega) _
  have hxor := Frame.xor_u8 ((Frame.frameL (payload m)).getD p 0) y
  have hb3 := turn_E HR.out (by have := HX.out.2.2.1; omega) (k := p) (by have := HL.out; rw [Frame.frameL_length] at this; omega) y
  have hL13 : ((Frame.frameL (payload m)).set p ((Frame.frameL (payload m)).getD p 0 ^^^ y)).length = L := by rw [List.length_set, HL.out]
  obtain ⟨x, hx⟩ : ∃ x, (Frame.frameL (payload m)).getD p 0 = x := ⟨_, rfl⟩
  rw [hx] at hxor hcb2 m13 o13 hb3 hL13
  obtain ⟨zz, hzz⟩ : ∃ z : UInt8, x ^^^ y = z := ⟨_, rfl⟩
  rw [hzz] at hxor m13 o13 hb3 hL13
  have hr13 := (Reads.of_own (show (w12.setCell ⟨gr, p, none⟩ (.int .u8 (zz.toNat : Int))).ownsRow w4.heap.size 5 1 (.slice (some ⟨gr, 0, none⟩) L c) L (u8s ((Frame.frameL (payload m)).set p zz)) from by have := o13; unfold OwnB at this; rw [hL13] at this; exact this)).mono (G := fun b => b < (w12.setCell ⟨gr, p, none⟩ (.int .u8 (zz.toNat : Int))).heap.size) fun b hb => hb.2.1
  have CP := parse_ HM.out.2.1 _ _ (some ⟨gr, 0, none⟩) L c _ hr13 (fun b hb => hb) (by omega) hcL (HM.out.1.new m13)
  obtain ⟨M3, hM3⟩ : ∃ M, (parseM ((Frame.frameL (payload m)).set p zz)).getD m0 = M := ⟨_, rfl⟩
  obtain ⟨E3, hE3⟩ : ∃ M, parseE ((Frame.frameL (payload m)).set p zz) = M := ⟨_, rfl⟩
  rw [hM3, hE3] at CP
  rw [hE3] at hb3
  obtain ⟨P3, hP3⟩ : ∃ b, (E3 == 0) = b := ⟨_, rfl⟩
  have hQ3 : ((y.toNat : Int) == 0) = P3 := by rw [← hb3, hP3]
  have CP := Lib.hid CP
  have HM13 := Lib.hid m13
  clear o12 o12' o13 hcl hx hzz hr13 hM3 hE3 hb3 hL13 hp m13 hbase
  go_wp2_with fail
  with_reducible refine CP.out.mono ?_
  rintro z w14 ⟨u14, rfl, o14, n14⟩
  obtain ⟨w15, hst15, b15, n15, g15⟩ := new_ms w14 M3 u14 (by obtain ⟨_, _, h⟩ := o14.form; rw [h]; rfl)
  have N15 := Lib.hid (HM13.out.trans (n14.trans n15 fun _ _ => id) fun _ _ => id)
  obtain ⟨gc, hgc⟩ : ∃ g, w14.heap.size = g := ⟨_, rfl⟩
  rw [hgc] at hst15 g15
  clear o14 n14 n15 b15 CP
  go_wp2_with fail
  go_ret
  exact ⟨rfl, N15.out⟩
end Msg
end Go.Proofs.YtkmkpdmjdfbpjaaGreatDoor

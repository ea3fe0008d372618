/-
  MessageAlone, walked: true.
-/
import Derived.Test.YtkmkpdmjdfbpjaaGreatDoorJ17
namespace Go.Proofs.YtkmkpdmjdfbpjaaGreatDoor
set_option linter.unusedSimpArgs false
set_option linter.unusedVariables false
open Go.ChangeShapes Go.WideShapes Go.RowKit Go.Deep
namespace Msg
open Val (JoinC)
open Num Evt Vec
attribute [local go_sem ↓] loadRow0 storeRow0
attribute [local go_sem ↓] Evt.loadDot Evt.loadVec Evt.loadRow0 Evt.storeRow0 Evt.loadOnly0 Evt.loadOnly1 Evt.loadOnly2
theorem alone_eq {m n : Ms} (hm : rightM m = true) (hn : rightM n = true) (pm : (payload m).length ≤ 1048576) (pn : (payload n).length ≤ 1048576) :
    ((⟨(Frame.frameL (payload m)).toArray⟩ : ByteArray).data.toList == (⟨(Frame.frameL (payload n)).toArray⟩ : ByteArray).data.toList) = sameM m n := by
  rw [Bool.eq_iff_iff, beq_iff_eq, ← parse_inj hm hn pm pn]
set_option maxHeartbeats 20000000 in
set_option maxRecDepth 100000 in
theorem aloneW (hJ : JoinC) (w : World) (hm : Val.MaxAt w) (F : Nat → Prop) (m n : Ms) (v u : Value) (hv : RowE w F v m.es) (hu : RowE w F u n.es) (hF : ∀ b, F b → b < w.heap.size) (hc : ∀ e ∈ m.es, Came e) (hd : ∀ e ∈ n.es, Came e) (hl : m.es.length ≤ 140737488351232) (hk : n.es.length ≤ 140737488351232) :
    Calls Tryz.prog 6 #[m.val v, n.val u] w fun x w' => x = .returned (.bool true) ∧ New w w' := by
  have a1 := (Chg.refl (fun _ => False) w).alloc (.cells (m.cs v).toArray 26)
  have n1 := a1.alloc (.cells (n.cs u).toArray 26)
  have B1 := (Blk.new w 26 (m.cs v).toArray).alloc (.cells (n.cs u).toArray 26)
  have B2 := Blk.new1 w (.cells (m.cs v).toArray 26) 26 (n.cs u).toArray
  have hz : ∀ W, (zeroValue 26).run Tryz.prog W = .ok (.agg (m0.cs (.slice none 0 0)).toArray) W := fun W => by kernel_rfl
  have CF := Lib.hid (fixed hJ _ (hm.new n1))
  have H1 := Lib.hid (And.intro (And.intro B1 B2) (And.intro n1 (And.intro (hv.new n1) (hu.new n1))))
  have HM := Lib.hid (And.intro hm (And.intro hJ (And.intro (And.intro hc hd) (And.intro (And.intro hl hk) hF))))
  have g1 := B1.lt
  have g1' := B2.lt
  clear a1 n1 B1 B2 hm hJ hc hd hv hu hl hk hF
  go_enter Tryz.func6, Tryz.ntmps6
  go_wp2_with fail
  with_reducible refine CF.out.mono ?_
  rintro x w2 ⟨rfl, n2⟩
  have H2 := Lib.hid (And.intro (And.intro (H1.out.1.1.chg n2 id) (H1.out.1.2.chg n2 id)) (And.intro (H1.out.2.1.trans n2 fun _ _ => id) (And.intro (H1.out.2.2.1.new n2) (H1.out.2.2.2.new n2))))
  have CS := Lib.hid (few_ w2 F m v H2.out.2.2.1 HM.out.2.2.1.1 HM.out.2.2.2.1.1)
  have l2 := ldM H2.out.1.1
  have g2 := H2.out.1.1.lt
  clear n2 CF
  go_wp2_with fail
  with_reducible refine CS.out.mono ?_
  rintro x w3 ⟨rfl, n3⟩
  have H3 := Lib.hid (And.intro (And.intro (H2.out.1.1.chg n3 id) (H2.out.1.2.chg n3 id)) (And.intro (H2.out.2.1.trans n3 fun _ _ => id) (And.intro (H2.out.2.2.1.new n3) (H2.out.2.2.2.new n3))))
  have CT := Lib.hid (few_ w3 F n u H3.out.2.2.2 HM.out.2.2.1.2 HM.out.2.2.2.1.2)
  have l3 := ldM H3.out.1.2
  have g3 := H3.out.1.2.lt
  clear n3 CS l2 g2
  obtain ⟨sh, hsh⟩ : ∃ b, fewB m = b := ⟨_, rfl⟩
  rw [hsh]
  cases sh
  · clear hsh
    go_wp2_with fail
    go_ret
    exact ⟨rfl, H3.out.2.1⟩
  go_wp2_with fail
  with_reducible refine CT.out.mono ?_
  rintro x w4 ⟨rfl, n4⟩
  have H4 := Lib.hid (And.intro (And.intro (H3.out.1.1.chg n4 id) (H3.out.1.2.chg n4 id)) (And.intro (H3.out.2.1.trans n4 fun _ _ => id) (And.intro (H3.out.2.2.1.new n4) (H3.out.2.2.2.new n4))))
  have l4 := ldM H4.out.1.1
  have g4 := H4.out.1.1.lt
  clear n4 CT l3 g3
  obtain ⟨th, hth⟩ : ∃ b, fewB n = b := ⟨_, rfl⟩
  rw [hth]
  cases th
  · clear hsh hth
    go_wp2_with fail
    go_ret
    exact ⟨rfl, H4.out.2.1⟩
  have hfew := few_true hsh
  have hgew := few_true hth
  have hfit : ∀ e ∈ m.es, Fit e := fun e he => (HM.out.2.2.1.1 e he).fit (hfew.1 e he)
  have hgit : ∀ e ∈ n.es, Fit e := fun e he => (HM.out.2.2.1.2 e he).fit (hgew.1 e he)
  have hsm : ∀ e ∈ m.es, Small e := fun e he => (HM.out.2.2.1.1 e he).small (hfew.1 e he)
  have htm : ∀ e ∈ n.es, Small e := fun e he => (HM.out.2.2.1.2 e he).small (hgew.1 e he)
  have hpl := small_payload hfew.1 hfew.2
  have hpk := small_payload hgew.1 hgew.2
  have hl30 := hfew.2
  have hk30 := hgew.2
  have HX := Lib.hid (And.intro hfit (And.intro hgit (And.intro hpl hpk)))
  have HY := Lib.hid (And.intro hsm htm)
  have CR := rright w4 F m v H4.out.2.2.1 HY.out.1 (by omega)
  obtain ⟨rb, hrb⟩ : ∃ b, rightM m = b := ⟨_, rfl⟩
  rw [hrb] at CR
  have CR := Lib.hid CR
  clear hsh hth hfew hgew hfit hgit hsm htm hpl hpk
  go_wp2_with fail
  with_reducible refine CR.out.mono ?_
  rintro x w5 ⟨rfl, n5⟩
  have H5 := Lib.hid (And.intro (And.intro (H4.out.1.1.chg n5 id) (H4.out.1.2.chg n5 id)) (And.intro (H4.out.2.1.trans n5 fun _ _ => id) (And.intro (H4.out.2.2.1.new n5) (H4.out.2.2.2.new n5))))
  have l5 := ldM H5.out.1.2
  have g5 := H5.out.1.2.lt
  clear n5 CR l4 g4
  cases rb
  · clear hrb
    go_wp2_with fail
    go_ret
    exact ⟨rfl, H5.out.2.1⟩
  have CR := rright w5 F n u H5.out.2.2.2 HY.out.2 (by omega)
  obtain ⟨sb, hsb⟩ : ∃ b, rightM n = b := ⟨_, rfl⟩
  rw [hsb] at CR
  have CR := Lib.hid CR
  have HR := Lib.hid (And.intro hrb hsb)
  clear hrb
  go_wp2_with fail
  with_reducible refine CR.out.mono ?_
  rintro x w6 ⟨rfl, n6⟩
  have H6 := Lib.hid (And.intro (And.intro (H5.out.1.1.chg n6 id) (H5.out.1.2.chg n6 id)) (And.intro (H5.out.2.1.trans n6 fun _ _ => id) (And.intro (H5.out.2.2.1.new n6) (H5.out.2.2.2.new n6))))
  clear n6 CR l5 g5
  cases sb
  · clear hsb
    go_wp2_with fail
    go_ret
    exact ⟨rfl, H6.out.2.1⟩
  clear hsb
  obtain ⟨L, hL⟩ : ∃ L, (Frame.frameL (payload m)).length = L := ⟨_, rfl⟩
  obtain ⟨K, hK⟩ : ∃ L, (Frame.frameL (payload n)).length = L := ⟨_, rfl⟩
  have hL2 : L ≤ 18188 := by have := HX.out.2.2.1; rw [← hL, Frame.frameL_length]; omega
  have hK2 : K ≤ 18188 := by have := HX.out.2.2.2; rw [← hK, Frame.frameL_length]; omega
  have hK8 : 8 ≤ K := by rw [← hK, Frame.frameL_length]; omega
  have HL := Lib.hid (And.intro hL hK)
  have H6d := Lib.hid (And.intro (H6.out.2.2.1.new (Chg.refl _ _).drew) (H6.out.2.2.2.new (Chg.refl _ _).drew))
  have hbl : ∀ W, New w6.drew W → ∀ b, F b → b < W.heap.size := fun W hW b hb => Nat.lt_of_lt_of_le (HM.out.2.2.2.2 b hb) ((H6.out.2.1.drew).trans hW fun _ _ => id).size
  have HBL := Lib.hid hbl
  have FA := Lib.hid (fun W (hW : New w6.drew W) => And.intro (ldM (H6.out.1.1.drew.chg hW id)) (ldM (H6.out.1.2.drew.chg hW id)))
  have C1 := Lib.hid (rbytes w6.drew F m v H6d.out.1 (HBL.out _ (Chg.refl _ _)) HX.out.1 (by omega) (by have := HX.out.2.2.1; omega))
  clear hL hK hbl
  go_wp2_with fail
  refine grow_start (fun _ => False) (by kernel_rfl) ?_
  refine grow_take (i := 0) (oi := { dst := some 33, op := Op.load 26 (Operand.tmp 2), type := 26, pos := "law.go:87", after := #[], guard := none }) (v := ?_) rfl (by kernel_rfl) (by kernel_rfl) (by kernel_rfl) (by rfl) ?_ ?_; rotate_left; focus ((intro W hW; have fct := FA.out W hW; go_simp) <;> with_reducible rfl)
  simp only [Act.put, List.setIfInBounds_toArray, List.set_cons_zero, List.set_cons_succ]
  refine grow_take (i := 2) (oi := { dst := some 35, op := Op.load 26 (Operand.tmp 3), type := 26, pos := "law.go:87", after := #[], guard := none }) (v := ?_) rfl (by kernel_rfl) (by kernel_rfl) (by kernel_rfl) (by rfl) ?_ ?_; rotate_left; focus ((intro W hW; have fct := FA.out W hW; go_simp) <;> with_reducible rfl)
  simp only [Act.put, List.setIfInBounds_toArray, List.set_cons_zero, List.set_cons_succ]
  refine grow_next (i := 1) (oi := { dst := some 34, op := Op.call { callee := Callee.value (Operand.func 13), args := #[Operand.tmp 33], argTypes := #[26] }, type := 29, pos := "law.go:87", after := #[{ on := 0, ground := Ground.data }], guard := none }) (by kernel_rfl) rfl (by rfl) (fun K hK => ?_)
  go_simp
  with_reducible refine C1.out.mono ?_
  rintro x wa ⟨ua, rfl, oa, na⟩
  refine hK _ _ na ?_
  clear hK K
  try simp only [Act.put, List.setIfInBounds_toArray, List.set_cons_zero, List.set_cons_succ]
  have Fb := Lib.hid (fun W (hW : New wa W) => FA.out W (na.trans hW fun _ _ => id))
  have C2 := Lib.hid (rbytes wa F n u (H6d.out.2.new na) (HBL.out _ na) HX.out.2.1 (by omega) (by have := HX.out.2.2.2; omega))
  refine grow_next (i := 3) (oi := { dst := some 36, op := Op.call { callee := Callee.value (Operand.func 13), args := #[Operand.tmp 35], argTypes := #[26] }, type := 29, pos := "law.go:87", after := #[{ on := 2, ground := Ground.data }, { on := 1, ground := Ground.chain }], guard := none }) (by kernel_rfl) rfl (by rfl) (fun K hK => ?_)
  go_simp
  with_reducible refine C2.out.mono ?_
  rintro x wb ⟨ub, rfl, ob, nb⟩
  refine hK _ _ nb ?_
  clear hK K
  try simp only [Act.put, List.setIfInBounds_toArray, List.set_cons_zero, List.set_cons_succ]
  have nab := na.trans nb fun _ _ => id
  refine grow_take (i := 4) (oi := { dst := some 5, op := Op.assign (Operand.tmp 34), type := 29, pos := "law.go:87", after := #[{ on := 1, ground := Ground.data }, { on := 3, ground := Ground.chain }, { on := 0, ground := Ground.phase }, { on := 1, ground := Ground.phase }, { on := 2, ground := Ground.textOnly Departure.lateStores }, { on := 3, ground := Ground.textOnly Departure.lateStoresUnsure }], guard := none }) (v := ?_) rfl (by kernel_rfl) (by kernel_rfl) (by kernel_rfl) (by rfl) ?_ ?_; rotate_left; focus ((intro W hW; go_simp) <;> with_reducible rfl)
  simp only [Act.put, List.setIfInBounds_toArray, List.set_cons_zero, List.set_cons_succ]
  refine grow_take (i := 5) (oi := { dst := some 6, op := Op.assign (Operand.tmp 36), type := 29, pos := "law.go:87", after := #[{ on := 3, ground := Ground.data }, { on := 4, ground := Ground.chain }, { on := 0, ground := Ground.phase }, { on := 1, ground := Ground.phase }, { on := 2, ground := Ground.phase }, { on := 3, ground := Ground.phase }, { on := 4, ground := Ground.phase }], guard := none }) (v := ?_) rfl (by kernel_rfl) (by kernel_rfl) (by kernel_rfl) (by rfl) ?_ ?_; rotate_left; focus ((intro W hW; go_simp) <;> with_reducible rfl)
  simp only [Act.put, List.setIfInBounds_toArray, List.set_cons_zero, List.set_cons_succ]
  refine grow_done (by kernel_rfl) ?_ _
  obtain ⟨A, c, hva, hcL, _⟩ := oa.form
  rw [HL.out.1] at hva hcL
  subst hva
  obtain ⟨B, d, hvb, hdK, _⟩ := ob.form
  rw [HL.out.2] at hvb hdK
  subst hvb
  have H7 := Lib.hid (And.intro (And.intro (H6.out.1.1.drew.chg nab id) (H6.out.1.2.drew.chg nab id)) (And.intro (H6.out.2.1.drew.trans nab fun _ _ => id) (And.intro (H6d.out.1.new nab) (H6d.out.2.new nab))))
  have O7 := Lib.hid (And.intro (own_chg oa nb fun _ _ => id) ob)
  have hra := (Reads.of_own (show wb.ownsRow w6.drew.heap.size 5 1 (.slice A L c) L (u8s (Frame.frameL (payload m))) from by have := O7.out.1; unfold OwnB at this; rw [HL.out.1] at this; exact this)).mono (G := fun b => b < wb.heap.size) fun b hb => hb.2.1
  have hrb := (Reads.of_own (show wb.ownsRow wa.heap.size 5 1 (.slice B K d) K (u8s (Frame.frameL (payload n))) from by have := O7.out.2; unfold OwnB at this; rw [HL.out.2] at this; exact this)).mono (G := fun b => b < wb.heap.size) fun b hb => hb.2.1
  have HRR := Lib.hid (And.intro hra hrb)
  have CP := parse_ HM.out.2.1 wb _ A L c _ hra (fun b hb => hb) (by omega) hcL (HM.out.1.new H7.out.2.1)
  rw [(parse_frame HR.out.1 (by have := HX.out.2.2.1; omega)).1, (parse_frame HR.out.1 (by have := HX.out.2.2.1; omega)).2] at CP
  have CP := Lib.hid CP
  clear oa ob na nb nab C1 C2 Fb hra hrb
  go_wp2_with fail
  with_reducible refine CP.out.mono ?_
  rintro x w8 ⟨u8, rfl, o8, n8⟩
  have hval : ((some (back m)).getD m0).val u8 = (back m).val u8 := rfl
  obtain ⟨w9, hst9, b9, n9, g9⟩ := new_ms w8 (back m) u8 (by obtain ⟨_, _, h⟩ := o8.form; rw [h]; rfl)
  have n89 := n8.trans n9 fun _ _ => id
  have hro9 := RowE.of_own (own_chg o8 n9 fun _ _ => id)
  obtain ⟨gx, hgx⟩ : ∃ g, w8.heap.size = g := ⟨_, rfl⟩
  rw [hgx] at hst9 g9 b9
  have H9 := Lib.hid (And.intro H7.out.2.1 (And.intro n89 (And.intro hro9 b9)))
  have hrb9 := (HRR.out.2.chg n89 fun b hb => ⟨hb, id⟩).mono (G := fun b => b < w9.heap.size) fun b hb => Nat.lt_of_lt_of_le hb n89.size
  have CP := parse_ HM.out.2.1 w9 _ B K d _ hrb9 (fun b hb => hb) (by omega) hdK (HM.out.1.new (H7.out.2.1.trans n89 fun _ _ => id))
  rw [(parse_frame HR.out.2 (by have := HX.out.2.2.2; omega)).1, (parse_frame HR.out.2 (by have := HX.out.2.2.2; omega)).2] at CP
  have CP := Lib.hid CP
  clear o8 n8 n9 n89 b9 hro9 hrb9
  go_wp2_with fail
  with_reducible refine CP.out.mono ?_
  rintro x w10 ⟨u10, rfl, o10, n10⟩
  have hval2 : ((some (back n)).getD m0).val u10 = (back n).val u10 := rfl
  obtain ⟨w11, hst11, b11, n11, g11⟩ := new_ms w10 (back n) u10 (by obtain ⟨_, _, h⟩ := o10.form; rw [h]; rfl)
  have n1011 := n10.trans n11 fun _ _ => id
  have hro11 := RowE.of_own (own_chg o10 n11 fun _ _ => id)
  obtain ⟨gy, hgy⟩ : ∃ g, w10.heap.size = g := ⟨_, rfl⟩
  rw [hgy] at hst11 g11 b11
  have N711 := Lib.hid (H9.out.2.1.trans n1011 fun _ _ => id)
  have H11 := Lib.hid (And.intro (And.intro (H9.out.2.2.1.new n1011) hro11) (And.intro (H9.out.2.2.2.chg n1011 id) b11))
  have hra11 := (HRR.out.1.chg N711.out fun b hb => ⟨hb, id⟩).mono (G := fun b => b < w11.heap.size) fun b hb => Nat.lt_of_lt_of_le hb N711.out.size
  have hrb11 := (HRR.out.2.chg N711.out fun b hb => ⟨hb, id⟩).mono (G := fun b => b < w11.heap.size) fun b hb => Nat.lt_of_lt_of_le hb N711.out.size
  have a12 := (Chg.refl (fun _ => False) w11).alloc (.cells #[] 5)
  have hr12 := hra11.chg a12 fun b hb => ⟨hb, id⟩
  have o12 := OwnB.empty (w := w11) (base := w11.heap.size) (Nat.le_refl _)
  have hs12 : (w11.alloc (.cells #[] 5)).heap.size = w11.heap.size + 1 := by simp
  have HA12 := Lib.hid (And.intro a12 hrb11)
  clear o10 n10 n11 n1011 b11 CP a12 hro11 hra11 hrb11
  go_wp2_with (at_builtin; refine stop ?_)
  delta Stop
  refine append_u8 _ rfl _ _ rfl w11.heap.size _ [] rfl o12 _ A L c (Frame.frameL (payload m)) rfl hr12 (by simp; omega) (by omega) ?_
  intro v13 w13 o13 g13 at13
  have c13 : New w11 w13 := HA12.out.1.grown g13 fun k e hk => by have := (own_lt o12 e).1; omega
  have hr13 := HA12.out.2.chg c13 fun b hb => ⟨hb, id⟩
  rw [List.nil_append] at o13
  have hs13 := c13.size
  clear o12 hr12 g13 at13
  go_wp2_with (at_builtin; refine stop ?_)
  delta Stop
  refine append_u8 _ rfl _ _ rfl w11.heap.size _ (Frame.frameL (payload m)) rfl o13 _ B K d (Frame.frameL (payload n)) rfl hr13 (by rw [HL.out.1]; omega) (by omega) ?_
  intro v14 w14 o14 g14 at14
  have c14 : New w11 w14 := c13.grown g14 fun k e hk => by have := (own_lt o13 e).1; omega
  obtain ⟨A14, c14p, rfl, hc14, _⟩ := o14.form
  obtain ⟨n14, hn14⟩ : ∃ q, (Frame.frameL (payload m) ++ Frame.frameL (payload n)).length = q := ⟨_, rfl⟩
  have hn14' : n14 = L + K := by rw [← hn14, List.length_append, HL.out.1, HL.out.2]
  rw [hn14] at hc14 ⊢
  have hr14 : Reads w14 (fun b => b < w14.heap.size) 1 A14 n14 (u8s (Frame.frameL (payload m) ++ Frame.frameL (payload n))) := by
    have h := Reads.of_own (show w14.ownsRow w11.heap.size 5 1 (.slice A14 n14 c14p) n14 (u8s (Frame.frameL (payload m) ++ Frame.frameL (payload n))) from by have := o14; unfold OwnB at this; rw [hn14] at this; exact this)
    exact h.mono fun b hb => hb.2.1
  have N714 := Lib.hid (N711.out.trans c14 fun _ _ => id)
  have CP := parse_ HM.out.2.1 w14 _ A14 n14 c14p _ hr14 (fun b hb => hb) (by omega) hc14 (HM.out.1.new (H7.out.2.1.trans N714.out fun _ _ => id))
  rw [parse_behind _ _ (by have := HX.out.2.2.1; omega) (by intro h; have := HL.out.2; rw [h] at this; simp at this; omega)] at CP
  obtain ⟨M, hM⟩ : ∃ M, (parseM (Frame.frameL (payload m) ++ Frame.frameL (payload n))).getD m0 = M := ⟨_, rfl⟩
  rw [hM] at CP
  have CP := Lib.hid CP
  have H14 := Lib.hid (And.intro (And.intro (H11.out.1.1.new c14) (H11.out.1.2.new c14)) (And.intro (H11.out.2.1.chg c14 id) (H11.out.2.2.chg c14 id)))
  clear o14 o13 hr13 g14 at14 c13 c14 hr14 hn14 hc14 hs12 hs13 hn14' hM
  go_wp2_with fail
  with_reducible refine CP.out.mono ?_
  rintro x w15 ⟨u15, rfl, o15, n15⟩
  obtain ⟨w16, hst16, b16, n16, g16⟩ := new_ms w15 M u15 (by obtain ⟨_, _, h⟩ := o15.form; rw [h]; rfl)
  have n1516 := n15.trans n16 fun _ _ => id
  obtain ⟨gz, hgz⟩ : ∃ g, w15.heap.size = g := ⟨_, rfl⟩
  rw [hgz] at hst16 g16
  have n1516d : New w14 w16.drew := n1516.drew
  have N7 := Lib.hid (N714.out.trans n1516d fun _ _ => id)
  have H16 := Lib.hid (And.intro (And.intro (H7.out.1.1.chg N7.out id) (H7.out.1.2.chg N7.out id)) (And.intro (H7.out.2.1.trans N7.out fun _ _ => id) (And.intro (H7.out.2.2.1.new N7.out) (H7.out.2.2.2.new N7.out))))
  have H17 := Lib.hid (And.intro (And.intro (H14.out.1.1.new n1516d) (H14.out.1.2.new n1516d)) (And.intro (H14.out.2.1.chg n1516d id) (H14.out.2.2.chg n1516d id)))
  have O16 := Lib.hid (And.intro (own_chg O7.out.1 N7.out fun _ _ => id) (own_chg O7.out.2 N7.out fun _ _ => id))
  obtain ⟨S, hS⟩ : ∃ S, sameM m n = S := ⟨_, rfl⟩
  obtain ⟨ba, hba⟩ : ∃ b : ByteArray, ⟨(Frame.frameL (payload m)).toArray⟩ = b := ⟨_, rfl⟩
  obtain ⟨bb, hbb⟩ : ∃ b : ByteArray, ⟨(Frame.frameL (payload n)).toArray⟩ = b := ⟨_, rfl⟩
  have heq := alone_eq HR.out.1 HR.out.2 (by have := HX.out.2.2.1; omega) (by have := HX.out.2.2.2; omega)
  rw [hba, hbb, hS] at heq
  have heq2 : (ba.toList == bb.toList) = S := by rw [Val.toList_data, Val.toList_data]; exact heq
  have heq3 : (ba == bb) = S := by
    rw [← heq, Bool.eq_iff_iff, MapKept.bytes_beq, beq_iff_eq]
    constructor
    · intro h
      rw [h]
    · intro h
      cases ba
      cases bb
      congr 1
      exact Array.toList_inj.1 h
  have FA := Lib.hid (fun W (hW : New w16.drew W) => And.intro (And.intro (ldM (H16.out.1.1.chg hW id)) (ldM (H16.out.1.2.chg hW id))) (And.intro (And.intro (ldM (H17.out.2.1.chg hW id)) (ldM (H17.out.2.2.chg hW id))) (And.intro (show (convert 29 9 (.slice A L c)).run Tryz.prog W = .ok (.string ba) W by have := own_str O16.out.1 hW; rw [hba] at this; exact this) (show (convert 29 9 (.slice B K d)).run Tryz.prog W = .ok (.string bb) W by have := own_str O16.out.2 hW; rw [hbb] at this; exact this))))
  have HS := Lib.hid (And.intro hS (And.intro heq (And.intro heq2 heq3)))
  have C1 := same_ w16.drew _ F (back m) m u8 v H17.out.1.1 H16.out.2.2.1 (by show (m.es.map _).length ≤ _; rw [List.length_map]; omega)
  rw [sameM_back'] at C1
  have C1 := Lib.hid C1
  have gg1 := H16.out.1.1.lt
  have gg2 := H16.out.1.2.lt
  have gg3 := H17.out.2.1.lt
  have gg4 := H17.out.2.2.lt
  clear o15 n15 n16 n1516 n1516d b16 CP hS hba hbb heq heq2 heq3
  go_wp2_with fail
  refine grow_start (fun _ => False) (by kernel_rfl) ?_
  refine grow_take (i := 0) (oi := { dst := some 56, op := Op.move (Operand.tmp 8), type := 30, pos := "law.go:91", after := #[], guard := none }) (v := ?_) rfl (by kernel_rfl) (by kernel_rfl) (by kernel_rfl) (by rfl) ?_ ?_; rotate_left; focus ((intro W hW; go_simp) <;> with_reducible rfl)
  simp only [Act.put, List.setIfInBounds_toArray, List.set_cons_zero, List.set_cons_succ]
  refine grow_take (i := 1) (oi := { dst := some 57, op := Op.binOp BinOp.eql 30 (Operand.tmp 56) (Operand.const (Value.int IntKind.i64 0)) 30, type := 4, pos := "law.go:91", after := #[{ on := 0, ground := Ground.data }], guard := none }) (v := ?_) rfl (by kernel_rfl) (by kernel_rfl) (by kernel_rfl) (by rfl) ?_ ?_; rotate_left; focus ((intro W hW; have fct := FA.out W hW; go_simp) <;> with_reducible rfl)
  simp only [Act.put, List.setIfInBounds_toArray, List.set_cons_zero, List.set_cons_succ]
  refine grow_take (i := 2) (oi := { dst := some 58, op := Op.move (Operand.tmp 57), type := 4, pos := "law.go:91", after := #[{ on := 1, ground := Ground.data }], guard := none }) (v := ?_) rfl (by kernel_rfl) (by kernel_rfl) (by kernel_rfl) (by rfl) ?_ ?_; rotate_left; focus ((intro W hW; go_simp) <;> with_reducible rfl)
  simp only [Act.put, List.setIfInBounds_toArray, List.set_cons_zero, List.set_cons_succ]
  first | (refine grow_take (i := 3) (oi := { dst := some 59, op := Op.move (Operand.tmp 10), type := 30, pos := "law.go:91", after := #[{ on := 2, ground := Ground.guard }], guard := some (2, true) }) (v := ?_) rfl (by kernel_rfl) (by kernel_rfl) (by kernel_rfl) (by rfl) ?_ ?_; rotate_left; focus ((intro W hW; go_simp) <;> with_reducible rfl)) | refine grow_skip (i := 3) (oi := { dst := some 59, op := Op.move (Operand.tmp 10), type := 30, pos := "law.go:91", after := #[{ on := 2, ground := Ground.guard }], guard := some (2, true) }) rfl (by kernel_rfl) (by kernel_rfl) (by kernel_rfl) (by rfl) ?_ | fail "op 3"
  simp only [Act.put, List.setIfInBounds_toArray, List.set_cons_zero, List.set_cons_succ]
  first | (refine grow_take (i := 4) (oi := { dst := some 60, op := Op.binOp BinOp.eql 30 (Operand.tmp 59) (Operand.const (Value.int IntKind.i64 0)) 30, type := 4, pos := "law.go:91", after := #[{ on := 3, ground := Ground.data }, { on := 2, ground := Ground.guard }], guard := some (2, true) }) (v := ?_) rfl (by kernel_rfl) (by kernel_rfl) (by kernel_rfl) (by rfl) ?_ ?_; rotate_left; focus ((intro W hW; have fct := FA.out W hW; go_simp) <;> with_reducible rfl)) | refine grow_skip (i := 4) (oi := { dst := some 60, op := Op.binOp BinOp.eql 30 (Operand.tmp 59) (Operand.const (Value.int IntKind.i64 0)) 30, type := 4, pos := "law.go:91", after := #[{ on := 3, ground := Ground.data }, { on := 2, ground := Ground.guard }], guard := some (2, true) }) rfl (by kernel_rfl) (by kernel_rfl) (by kernel_rfl) (by rfl) ?_ | fail "op 4"
  simp only [Act.put, List.setIfInBounds_toArray, List.set_cons_zero, List.set_cons_succ]
  refine grow_take (i := 5) (oi := { dst := some 61, op := Op.pick (Operand.tmp 58) (Operand.tmp 60) (Operand.const (Value.bool false)), type := 4, pos := "law.go:91", after := #[{ on := 2, ground := Ground.data }, { on := 4, ground := Ground.data }], guard := none }) (v := ?_) rfl (by kernel_rfl) (by kernel_rfl) (by kernel_rfl) (by rfl) ?_ ?_; rotate_left; focus ((intro W hW; go_simp) <;> with_reducible rfl)
  simp only [Act.put, List.setIfInBounds_toArray, List.set_cons_zero, List.set_cons_succ]
  refine grow_take (i := 6) (oi := { dst := some 62, op := Op.move (Operand.tmp 61), type := 4, pos := "law.go:91", after := #[{ on := 5, ground := Ground.data }, { on := 2, ground := Ground.chain }], guard := none }) (v := ?_) rfl (by kernel_rfl) (by kernel_rfl) (by kernel_rfl) (by rfl) ?_ ?_; rotate_left; focus ((intro W hW; go_simp) <;> with_reducible rfl)
  simp only [Act.put, List.setIfInBounds_toArray, List.set_cons_zero, List.set_cons_succ]
  first | (refine grow_take (i := 7) (oi := { dst := some 63, op := Op.load 26 (Operand.tmp 7), type := 26, pos := "law.go:91", after := #[{ on := 6, ground := Ground.guard }], guard := some (6, true) }) (v := ?_) rfl (by kernel_rfl) (by kernel_rfl) (by kernel_rfl) (by rfl) ?_ ?_; rotate_left; focus ((intro W hW; have fct := FA.out W hW; go_simp) <;> with_reducible rfl)) | refine grow_skip (i := 7) (oi := { dst := some 63, op := Op.load 26 (Operand.tmp 7), type := 26, pos := "law.go:91", after := #[{ on := 6, ground := Ground.guard }], guard := some (6, true) }) rfl (by kernel_rfl) (by kernel_rfl) (by kernel_rfl) (by rfl) ?_ | fail "op 7"
  simp only [Act.put, List.setIfInBounds_toArray, List.set_cons_zero, List.set_cons_succ]
  first | (refine grow_take (i := 8) (oi := { dst := some 64, op := Op.load 26 (Operand.tmp 2), type := 26, pos := "law.go:91", after := #[{ on := 6, ground := Ground.guard }], guard := some (6, true) }) (v := ?_) rfl (by kernel_rfl) (by kernel_rfl) (by kernel_rfl) (by rfl) ?_ ?_; rotate_left; focus ((intro W hW; have fct := FA.out W hW; go_simp) <;> with_reducible rfl)) | refine grow_skip (i := 8) (oi := { dst := some 64, op := Op.load 26 (Operand.tmp 2), type := 26, pos := "law.go:91", after := #[{ on := 6, ground := Ground.guard }], guard := some (6, true) }) rfl (by kernel_rfl) (by kernel_rfl) (by kernel_rfl) (by rfl) ?_ | fail "op 8"
  simp only [Act.put, List.setIfInBounds_toArray, List.set_cons_zero, List.set_cons_succ]
  refine grow_next (i := 9) (oi := { dst := some 65, op := Op.call { callee := Callee.value (Operand.func 16), args := #[Operand.tmp 63, Operand.tmp 64], argTypes := #[26, 26] }, type := 4, pos := "law.go:91", after := #[{ on := 7, ground := Ground.data }, { on := 8, ground := Ground.data }, { on := 6, ground := Ground.chain }, { on := 6, ground := Ground.guard }], guard := some (6, true) }) (by kernel_rfl) rfl (by rfl) (fun K hK => ?_)
  go_simp
  with_reducible refine C1.out.mono ?_
  rintro x wc ⟨rfl, nc⟩
  refine hK _ _ nc ?_
  clear hK K
  try simp only [Act.put, List.setIfInBounds_toArray, List.set_cons_zero, List.set_cons_succ]
  have Fc := Lib.hid (fun W (hW : New wc W) => FA.out W (nc.trans hW fun _ _ => id))
  have C2 := same_ wc _ F (back n) n u10 u (H17.out.1.2.new nc) (H16.out.2.2.2.new nc) (by show (n.es.map _).length ≤ _; rw [List.length_map]; omega)
  rw [sameM_back'] at C2
  have C2 := Lib.hid C2
  refine grow_take (i := 10) (oi := { dst := some 66, op := Op.pick (Operand.tmp 62) (Operand.tmp 65) (Operand.const (Value.bool false)), type := 4, pos := "law.go:91", after := #[{ on := 6, ground := Ground.data }, { on := 9, ground := Ground.data }], guard := none }) (v := ?_) rfl (by kernel_rfl) (by kernel_rfl) (by kernel_rfl) (by rfl) ?_ ?_; rotate_left; focus ((intro W hW; go_simp) <;> with_reducible rfl)
  simp only [Act.put, List.setIfInBounds_toArray, List.set_cons_zero, List.set_cons_succ]
  refine grow_take (i := 11) (oi := { dst := some 67, op := Op.move (Operand.tmp 66), type := 4, pos := "law.go:91", after := #[{ on := 10, ground := Ground.data }, { on := 9, ground := Ground.chain }], guard := none }) (v := ?_) rfl (by kernel_rfl) (by kernel_rfl) (by kernel_rfl) (by rfl) ?_ ?_; rotate_left; focus ((intro W hW; go_simp) <;> with_reducible rfl)
  simp only [Act.put, List.setIfInBounds_toArray, List.set_cons_zero, List.set_cons_succ]
  first | (refine grow_take (i := 12) (oi := { dst := some 68, op := Op.load 26 (Operand.tmp 9), type := 26, pos := "law.go:91", after := #[{ on := 11, ground := Ground.guard }], guard := some (11, true) }) (v := ?_) rfl (by kernel_rfl) (by kernel_rfl) (by kernel_rfl) (by rfl) ?_ ?_; rotate_left; focus ((intro W hW; have fct := Fc.out W hW; go_simp) <;> with_reducible rfl)) | refine grow_skip (i := 12) (oi := { dst := some 68, op := Op.load 26 (Operand.tmp 9), type := 26, pos := "law.go:91", after := #[{ on := 11, ground := Ground.guard }], guard := some (11, true) }) rfl (by kernel_rfl) (by kernel_rfl) (by kernel_rfl) (by rfl) ?_ | fail "op 12"
  simp only [Act.put, List.setIfInBounds_toArray, List.set_cons_zero, List.set_cons_succ]
  first | (refine grow_take (i := 13) (oi := { dst := some 69, op := Op.load 26 (Operand.tmp 3), type := 26, pos := "law.go:91", after := #[{ on := 11, ground := Ground.guard }], guard := some (11, true) }) (v := ?_) rfl (by kernel_rfl) (by kernel_rfl) (by kernel_rfl) (by rfl) ?_ ?_; rotate_left; focus ((intro W hW; have fct := Fc.out W hW; go_simp) <;> with_reducible rfl)) | refine grow_skip (i := 13) (oi := { dst := some 69, op := Op.load 26 (Operand.tmp 3), type := 26, pos := "law.go:91", after := #[{ on := 11, ground := Ground.guard }], guard := some (11, true) }) rfl (by kernel_rfl) (by kernel_rfl) (by kernel_rfl) (by rfl) ?_ | fail "op 13"
  simp only [Act.put, List.setIfInBounds_toArray, List.set_cons_zero, List.set_cons_succ]
  refine grow_next (i := 14) (oi := { dst := some 70, op := Op.call { callee := Callee.value (Operand.func 16), args := #[Operand.tmp 68, Operand.tmp 69], argTypes := #[26, 26] }, type := 4, pos := "law.go:91", after := #[{ on := 12, ground := Ground.data }, { on := 13, ground := Ground.data }, { on := 11, ground := Ground.chain }, { on := 11, ground := Ground.guard }], guard := some (11, true) }) (by kernel_rfl) rfl (by rfl) (fun K hK => ?_)
  go_simp
  with_reducible refine C2.out.mono ?_
  rintro x wd ⟨rfl, nd⟩
  refine hK _ _ nd ?_
  clear hK K
  try simp only [Act.put, List.setIfInBounds_toArray, List.set_cons_zero, List.set_cons_succ]
  have ncd := nc.trans nd fun _ _ => id
  have Fd := Lib.hid (fun W (hW : New wd W) => FA.out W (ncd.trans hW fun _ _ => id))
  have C3 := same_ wd F F m n v u (H16.out.2.2.1.new ncd) (H16.out.2.2.2.new ncd) (by omega)
  rw [HS.out.1] at C3
  have C3 := Lib.hid C3
  refine grow_take (i := 15) (oi := { dst := some 71, op := Op.pick (Operand.tmp 67) (Operand.tmp 70) (Operand.const (Value.bool false)), type := 4, pos := "law.go:91", after := #[{ on := 11, ground := Ground.data }, { on := 14, ground := Ground.data }], guard := none }) (v := ?_) rfl (by kernel_rfl) (by kernel_rfl) (by kernel_rfl) (by rfl) ?_ ?_; rotate_left; focus ((intro W hW; go_simp) <;> with_reducible rfl)
  simp only [Act.put, List.setIfInBounds_toArray, List.set_cons_zero, List.set_cons_succ]
  refine grow_take (i := 16) (oi := { dst := some 72, op := Op.move (Operand.tmp 71), type := 4, pos := "law.go:91", after := #[{ on := 15, ground := Ground.data }, { on := 14, ground := Ground.chain }], guard := none }) (v := ?_) rfl (by kernel_rfl) (by kernel_rfl) (by kernel_rfl) (by rfl) ?_ ?_; rotate_left; focus ((intro W hW; go_simp) <;> with_reducible rfl)
  simp only [Act.put, List.setIfInBounds_toArray, List.set_cons_zero, List.set_cons_succ]
  first | (refine grow_take (i := 17) (oi := { dst := some 73, op := Op.move (Operand.tmp 12), type := 30, pos := "law.go:91", after := #[{ on := 16, ground := Ground.guard }], guard := some (16, true) }) (v := ?_) rfl (by kernel_rfl) (by kernel_rfl) (by kernel_rfl) (by rfl) ?_ ?_; rotate_left; focus ((intro W hW; go_simp) <;> with_reducible rfl)) | refine grow_skip (i := 17) (oi := { dst := some 73, op := Op.move (Operand.tmp 12), type := 30, pos := "law.go:91", after := #[{ on := 16, ground := Ground.guard }], guard := some (16, true) }) rfl (by kernel_rfl) (by kernel_rfl) (by kernel_rfl) (by rfl) ?_ | fail "op 17"
  simp only [Act.put, List.setIfInBounds_toArray, List.set_cons_zero, List.set_cons_succ]
  first | (refine grow_take (i := 18) (oi := { dst := some 74, op := Op.binOp BinOp.eql 30 (Operand.tmp 73) (Operand.const (Value.int IntKind.i64 2)) 30, type := 4, pos := "law.go:91", after := #[{ on := 17, ground := Ground.data }, { on := 16, ground := Ground.guard }], guard := some (16, true) }) (v := ?_) rfl (by kernel_rfl) (by kernel_rfl) (by kernel_rfl) (by rfl) ?_ ?_; rotate_left; focus ((intro W hW; have fct := Fd.out W hW; go_simp) <;> with_reducible rfl)) | refine grow_skip (i := 18) (oi := { dst := some 74, op := Op.binOp BinOp.eql 30 (Operand.tmp 73) (Operand.const (Value.int IntKind.i64 2)) 30, type := 4, pos := "law.go:91", after := #[{ on := 17, ground := Ground.data }, { on := 16, ground := Ground.guard }], guard := some (16, true) }) rfl (by kernel_rfl) (by kernel_rfl) (by kernel_rfl) (by rfl) ?_ | fail "op 18"
  simp only [Act.put, List.setIfInBounds_toArray, List.set_cons_zero, List.set_cons_succ]
  refine grow_take (i := 19) (oi := { dst := some 75, op := Op.pick (Operand.tmp 72) (Operand.tmp 74) (Operand.const (Value.bool false)), type := 4, pos := "law.go:91", after := #[{ on := 16, ground := Ground.data }, { on := 18, ground := Ground.data }], guard := none }) (v := ?_) rfl (by kernel_rfl) (by kernel_rfl) (by kernel_rfl) (by rfl) ?_ ?_; rotate_left; focus ((intro W hW; go_simp) <;> with_reducible rfl)
  simp only [Act.put, List.setIfInBounds_toArray, List.set_cons_zero, List.set_cons_succ]
  refine grow_take (i := 20) (oi := { dst := some 76, op := Op.move (Operand.tmp 75), type := 4, pos := "law.go:91", after := #[{ on := 19, ground := Ground.data }, { on := 16, ground := Ground.chain }], guard := none }) (v := ?_) rfl (by kernel_rfl) (by kernel_rfl) (by kernel_rfl) (by rfl) ?_ ?_; rotate_left; focus ((intro W hW; go_simp) <;> with_reducible rfl)
  simp only [Act.put, List.setIfInBounds_toArray, List.set_cons_zero, List.set_cons_succ]
  first | (refine grow_take (i := 21) (oi := { dst := some 77, op := Op.load 26 (Operand.tmp 2), type := 26, pos := "law.go:91", after := #[{ on := 20, ground := Ground.guard }], guard := some (20, true) }) (v := ?_) rfl (by kernel_rfl) (by kernel_rfl) (by kernel_rfl) (by rfl) ?_ ?_; rotate_left; focus ((intro W hW; have fct := Fd.out W hW; go_simp) <;> with_reducible rfl)) | refine grow_skip (i := 21) (oi := { dst := some 77, op := Op.load 26 (Operand.tmp 2), type := 26, pos := "law.go:91", after := #[{ on := 20, ground := Ground.guard }], guard := some (20, true) }) rfl (by kernel_rfl) (by kernel_rfl) (by kernel_rfl) (by rfl) ?_ | fail "op 21"
  simp only [Act.put, List.setIfInBounds_toArray, List.set_cons_zero, List.set_cons_succ]
  first | (refine grow_take (i := 22) (oi := { dst := some 78, op := Op.load 26 (Operand.tmp 3), type := 26, pos := "law.go:91", after := #[{ on := 20, ground := Ground.guard }], guard := some (20, true) }) (v := ?_) rfl (by kernel_rfl) (by kernel_rfl) (by kernel_rfl) (by rfl) ?_ ?_; rotate_left; focus ((intro W hW; have fct := Fd.out W hW; go_simp) <;> with_reducible rfl)) | refine grow_skip (i := 22) (oi := { dst := some 78, op := Op.load 26 (Operand.tmp 3), type := 26, pos := "law.go:91", after := #[{ on := 20, ground := Ground.guard }], guard := some (20, true) }) rfl (by kernel_rfl) (by kernel_rfl) (by kernel_rfl) (by rfl) ?_ | fail "op 22"
  simp only [Act.put, List.setIfInBounds_toArray, List.set_cons_zero, List.set_cons_succ]
  first | (refine grow_take (i := 24) (oi := { dst := some 80, op := Op.load 26 (Operand.tmp 2), type := 26, pos := "law.go:91", after := #[{ on := 20, ground := Ground.guard }], guard := some (20, true) }) (v := ?_) rfl (by kernel_rfl) (by kernel_rfl) (by kernel_rfl) (by rfl) ?_ ?_; rotate_left; focus ((intro W hW; have fct := Fd.out W hW; go_simp) <;> with_reducible rfl)) | refine grow_skip (i := 24) (oi := { dst := some 80, op := Op.load 26 (Operand.tmp 2), type := 26, pos := "law.go:91", after := #[{ on := 20, ground := Ground.guard }], guard := some (20, true) }) rfl (by kernel_rfl) (by kernel_rfl) (by kernel_rfl) (by rfl) ?_ | fail "op 24"
  simp only [Act.put, List.setIfInBounds_toArray, List.set_cons_zero, List.set_cons_succ]
  first | (refine grow_take (i := 25) (oi := { dst := some 81, op := Op.load 26 (Operand.tmp 3), type := 26, pos := "law.go:91", after := #[{ on := 20, ground := Ground.guard }], guard := some (20, true) }) (v := ?_) rfl (by kernel_rfl) (by kernel_rfl) (by kernel_rfl) (by rfl) ?_ ?_; rotate_left; focus ((intro W hW; have fct := Fd.out W hW; go_simp) <;> with_reducible rfl)) | refine grow_skip (i := 25) (oi := { dst := some 81, op := Op.load 26 (Operand.tmp 3), type := 26, pos := "law.go:91", after := #[{ on := 20, ground := Ground.guard }], guard := some (20, true) }) rfl (by kernel_rfl) (by kernel_rfl) (by kernel_rfl) (by rfl) ?_ | fail "op 25"
  simp only [Act.put, List.setIfInBounds_toArray, List.set_cons_zero, List.set_cons_succ]
  refine grow_next (i := 23) (oi := { dst := some 79, op := Op.call { callee := Callee.value (Operand.func 16), args := #[Operand.tmp 77, Operand.tmp 78], argTypes := #[26, 26] }, type := 4, pos := "law.go:91", after := #[{ on := 21, ground := Ground.data }, { on := 22, ground := Ground.data }, { on := 20, ground := Ground.chain }, { on := 20, ground := Ground.guard }], guard := some (20, true) }) (by kernel_rfl) rfl (by rfl) (fun K hK => ?_)
  go_simp
  with_reducible refine C3.out.mono ?_
  rintro x we ⟨rfl, ne⟩
  refine hK _ _ ne ?_
  clear hK K
  try simp only [Act.put, List.setIfInBounds_toArray, List.set_cons_zero, List.set_cons_succ]
  have nce := ncd.trans ne fun _ _ => id
  have Fe := Lib.hid (fun W (hW : New we W) => FA.out W (nce.trans hW fun _ _ => id))
  have C4 := rsame we F F m n v u (H16.out.2.2.1.new nce) (H16.out.2.2.2.new nce) (by omega)
  rw [HS.out.1] at C4
  have C4 := Lib.hid C4
  refine grow_next (i := 26) (oi := { dst := some 82, op := Op.call { callee := Callee.value (Operand.func 14), args := #[Operand.tmp 80, Operand.tmp 81], argTypes := #[26, 26] }, type := 4, pos := "law.go:91", after := #[{ on := 24, ground := Ground.data }, { on := 25, ground := Ground.data }, { on := 23, ground := Ground.chain }, { on := 20, ground := Ground.guard }], guard := some (20, true) }) (by kernel_rfl) rfl (by rfl) (fun K hK => ?_)
  go_simp
  with_reducible refine C4.out.mono ?_
  rintro x wf ⟨rfl, nf⟩
  refine hK _ _ nf ?_
  clear hK K
  try simp only [Act.put, List.setIfInBounds_toArray, List.set_cons_zero, List.set_cons_succ]
  have ncf := nce.trans nf fun _ _ => id
  have Ff := Lib.hid (fun W (hW : New wf W) => And.intro (FA.out W (ncf.trans hW fun _ _ => id)) HS.out.2)
  have C5 := rsame wf F F m n v u (H16.out.2.2.1.new ncf) (H16.out.2.2.2.new ncf) (by omega)
  rw [HS.out.1] at C5
  have C5 := Lib.hid C5
  first | (refine grow_take (i := 27) (oi := { dst := some 83, op := Op.binOp BinOp.eql 4 (Operand.tmp 79) (Operand.tmp 82) 4, type := 4, pos := "law.go:91", after := #[{ on := 23, ground := Ground.data }, { on := 26, ground := Ground.data }, { on := 20, ground := Ground.guard }], guard := some (20, true) }) (v := ?_) rfl (by kernel_rfl) (by kernel_rfl) (by kernel_rfl) (by rfl) ?_ ?_; rotate_left; focus ((intro W hW; have fct := Ff.out W hW; go_simp) <;> with_reducible rfl)) | refine grow_skip (i := 27) (oi := { dst := some 83, op := Op.binOp BinOp.eql 4 (Operand.tmp 79) (Operand.tmp 82) 4, type := 4, pos := "law.go:91", after := #[{ on := 23, ground := Ground.data }, { on := 26, ground := Ground.data }, { on := 20, ground := Ground.guard }], guard := some (20, true) }) rfl (by kernel_rfl) (by kernel_rfl) (by kernel_rfl) (by rfl) ?_ | fail "op 27"
  simp only [Act.put, List.setIfInBounds_toArray, List.set_cons_zero, List.set_cons_succ]
  refine grow_take (i := 28) (oi := { dst := some 84, op := Op.pick (Operand.tmp 76) (Operand.tmp 83) (Operand.const (Value.bool false)), type := 4, pos := "law.go:91", after := #[{ on := 20, ground := Ground.data }, { on := 27, ground := Ground.data }], guard := none }) (v := ?_) rfl (by kernel_rfl) (by kernel_rfl) (by kernel_rfl) (by rfl) ?_ ?_; rotate_left; focus ((intro W hW; go_simp) <;> with_reducible rfl)
  simp only [Act.put, List.setIfInBounds_toArray, List.set_cons_zero, List.set_cons_succ]
  refine grow_take (i := 29) (oi := { dst := some 85, op := Op.move (Operand.tmp 84), type := 4, pos := "law.go:91", after := #[{ on := 28, ground := Ground.data }, { on := 26, ground := Ground.chain }], guard := none }) (v := ?_) rfl (by kernel_rfl) (by kernel_rfl) (by kernel_rfl) (by rfl) ?_ ?_; rotate_left; focus ((intro W hW; go_simp) <;> with_reducible rfl)
  simp only [Act.put, List.setIfInBounds_toArray, List.set_cons_zero, List.set_cons_succ]
  first | (refine grow_take (i := 30) (oi := { dst := some 86, op := Op.move (Operand.tmp 5), type := 29, pos := "law.go:91", after := #[{ on := 29, ground := Ground.guard }], guard := some (29, true) }) (v := ?_) rfl (by kernel_rfl) (by kernel_rfl) (by kernel_rfl) (by rfl) ?_ ?_; rotate_left; focus ((intro W hW; go_simp) <;> with_reducible rfl)) | refine grow_skip (i := 30) (oi := { dst := some 86, op := Op.move (Operand.tmp 5), type := 29, pos := "law.go:91", after := #[{ on := 29, ground := Ground.guard }], guard := some (29, true) }) rfl (by kernel_rfl) (by kernel_rfl) (by kernel_rfl) (by rfl) ?_ | fail "op 30"
  simp only [Act.put, List.setIfInBounds_toArray, List.set_cons_zero, List.set_cons_succ]
  first | (refine grow_take (i := 31) (oi := { dst := some 87, op := Op.convert 29 9 (Operand.tmp 86), type := 9, pos := "law.go:91", after := #[{ on := 30, ground := Ground.data }, { on := 29, ground := Ground.guard }], guard := some (29, true) }) (v := ?_) rfl (by kernel_rfl) (by kernel_rfl) (by kernel_rfl) (by rfl) ?_ ?_; rotate_left; focus ((intro W hW; have fct := Ff.out W hW; go_simp) <;> with_reducible rfl)) | refine grow_skip (i := 31) (oi := { dst := some 87, op := Op.convert 29 9 (Operand.tmp 86), type := 9, pos := "law.go:91", after := #[{ on := 30, ground := Ground.data }, { on := 29, ground := Ground.guard }], guard := some (29, true) }) rfl (by kernel_rfl) (by kernel_rfl) (by kernel_rfl) (by rfl) ?_ | fail "op 31"
  simp only [Act.put, List.setIfInBounds_toArray, List.set_cons_zero, List.set_cons_succ]
  first | (refine grow_take (i := 32) (oi := { dst := some 88, op := Op.move (Operand.tmp 6), type := 29, pos := "law.go:91", after := #[{ on := 29, ground := Ground.guard }], guard := some (29, true) }) (v := ?_) rfl (by kernel_rfl) (by kernel_rfl) (by kernel_rfl) (by rfl) ?_ ?_; rotate_left; focus ((intro W hW; go_simp) <;> with_reducible rfl)) | refine grow_skip (i := 32) (oi := { dst := some 88, op := Op.move (Operand.tmp 6), type := 29, pos := "law.go:91", after := #[{ on := 29, ground := Ground.guard }], guard := some (29, true) }) rfl (by kernel_rfl) (by kernel_rfl) (by kernel_rfl) (by rfl) ?_ | fail "op 32"
  simp only [Act.put, List.setIfInBounds_toArray, List.set_cons_zero, List.set_cons_succ]
  first | (refine grow_take (i := 33) (oi := { dst := some 89, op := Op.convert 29 9 (Operand.tmp 88), type := 9, pos := "law.go:91", after := #[{ on := 32, ground := Ground.data }, { on := 29, ground := Ground.guard }], guard := some (29, true) }) (v := ?_) rfl (by kernel_rfl) (by kernel_rfl) (by kernel_rfl) (by rfl) ?_ ?_; rotate_left; focus ((intro W hW; have fct := Ff.out W hW; go_simp) <;> with_reducible rfl)) | refine grow_skip (i := 33) (oi := { dst := some 89, op := Op.convert 29 9 (Operand.tmp 88), type := 9, pos := "law.go:91", after := #[{ on := 32, ground := Ground.data }, { on := 29, ground := Ground.guard }], guard := some (29, true) }) rfl (by kernel_rfl) (by kernel_rfl) (by kernel_rfl) (by rfl) ?_ | fail "op 33"
  simp only [Act.put, List.setIfInBounds_toArray, List.set_cons_zero, List.set_cons_succ]
  first | (refine grow_take (i := 34) (oi := { dst := some 90, op := Op.binOp BinOp.eql 9 (Operand.tmp 87) (Operand.tmp 89) 9, type := 4, pos := "law.go:91", after := #[{ on := 31, ground := Ground.data }, { on := 33, ground := Ground.data }, { on := 29, ground := Ground.guard }], guard := some (29, true) }) (v := ?_) rfl (by kernel_rfl) (by kernel_rfl) (by kernel_rfl) (by rfl) ?_ ?_; rotate_left; focus ((intro W hW; have fct := Ff.out W hW; go_simp) <;> with_reducible rfl)) | refine grow_skip (i := 34) (oi := { dst := some 90, op := Op.binOp BinOp.eql 9 (Operand.tmp 87) (Operand.tmp 89) 9, type := 4, pos := "law.go:91", after := #[{ on := 31, ground := Ground.data }, { on := 33, ground := Ground.data }, { on := 29, ground := Ground.guard }], guard := some (29, true) }) rfl (by kernel_rfl) (by kernel_rfl) (by kernel_rfl) (by rfl) ?_ | fail "op 34"
  simp only [Act.put, List.setIfInBounds_toArray, List.set_cons_zero, List.set_cons_succ]
  first | (refine grow_take (i := 35) (oi := { dst := some 91, op := Op.load 26 (Operand.tmp 2), type := 26, pos := "law.go:91", after := #[{ on := 29, ground := Ground.guard }], guard := some (29, true) }) (v := ?_) rfl (by kernel_rfl) (by kernel_rfl) (by kernel_rfl) (by rfl) ?_ ?_; rotate_left; focus ((intro W hW; have fct := Ff.out W hW; go_simp) <;> with_reducible rfl)) | refine grow_skip (i := 35) (oi := { dst := some 91, op := Op.load 26 (Operand.tmp 2), type := 26, pos := "law.go:91", after := #[{ on := 29, ground := Ground.guard }], guard := some (29, true) }) rfl (by kernel_rfl) (by kernel_rfl) (by kernel_rfl) (by rfl) ?_ | fail "op 35"
  simp only [Act.put, List.setIfInBounds_toArray, List.set_cons_zero, List.set_cons_succ]
  first | (refine grow_take (i := 36) (oi := { dst := some 92, op := Op.load 26 (Operand.tmp 3), type := 26, pos := "law.go:91", after := #[{ on := 29, ground := Ground.guard }], guard := some (29, true) }) (v := ?_) rfl (by kernel_rfl) (by kernel_rfl) (by kernel_rfl) (by rfl) ?_ ?_; rotate_left; focus ((intro W hW; have fct := Ff.out W hW; go_simp) <;> with_reducible rfl)) | refine grow_skip (i := 36) (oi := { dst := some 92, op := Op.load 26 (Operand.tmp 3), type := 26, pos := "law.go:91", after := #[{ on := 29, ground := Ground.guard }], guard := some (29, true) }) rfl (by kernel_rfl) (by kernel_rfl) (by kernel_rfl) (by rfl) ?_ | fail "op 36"
  simp only [Act.put, List.setIfInBounds_toArray, List.set_cons_zero, List.set_cons_succ]
  refine grow_next (i := 37) (oi := { dst := some 93, op := Op.call { callee := Callee.value (Operand.func 14), args := #[Operand.tmp 91, Operand.tmp 92], argTypes := #[26, 26] }, type := 4, pos := "law.go:91", after := #[{ on := 35, ground := Ground.data }, { on := 36, ground := Ground.data }, { on := 29, ground := Ground.chain }, { on := 29, ground := Ground.guard }], guard := some (29, true) }) (by kernel_rfl) rfl (by rfl) (fun K hK => ?_)
  go_simp
  with_reducible refine C5.out.mono ?_
  rintro x wg ⟨rfl, ng⟩
  refine hK _ _ ng ?_
  clear hK K
  try simp only [Act.put, List.setIfInBounds_toArray, List.set_cons_zero, List.set_cons_succ]
  have ncg := ncf.trans ng fun _ _ => id
  first | (refine grow_take (i := 38) (oi := { dst := some 94, op := Op.binOp BinOp.eql 4 (Operand.tmp 90) (Operand.tmp 93) 4, type := 4, pos := "law.go:91", after := #[{ on := 34, ground := Ground.data }, { on := 37, ground := Ground.data }, { on := 29, ground := Ground.guard }], guard := some (29, true) }) (v := ?_) rfl (by kernel_rfl) (by kernel_rfl) (by kernel_rfl) (by rfl) ?_ ?_; rotate_left; focus ((intro W hW; have fct := (noF _ _) W hW; go_simp) <;> with_reducible rfl)) | refine grow_skip (i := 38) (oi := { dst := some 94, op := Op.binOp BinOp.eql 4 (Operand.tmp 90) (Operand.tmp 93) 4, type := 4, pos := "law.go:91", after := #[{ on := 34, ground := Ground.data }, { on := 37, ground := Ground.data }, { on := 29, ground := Ground.guard }], guard := some (29, true) }) rfl (by kernel_rfl) (by kernel_rfl) (by kernel_rfl) (by rfl) ?_ | fail "op 38"
  simp only [Act.put, List.setIfInBounds_toArray, List.set_cons_zero, List.set_cons_succ]
  refine grow_take (i := 39) (oi := { dst := some 95, op := Op.pick (Operand.tmp 85) (Operand.tmp 94) (Operand.const (Value.bool false)), type := 4, pos := "law.go:91", after := #[{ on := 29, ground := Ground.data }, { on := 38, ground := Ground.data }], guard := none }) (v := ?_) rfl (by kernel_rfl) (by kernel_rfl) (by kernel_rfl) (by rfl) ?_ ?_; rotate_left; focus ((intro W hW; go_simp) <;> with_reducible rfl)
  simp only [Act.put, List.setIfInBounds_toArray, List.set_cons_zero, List.set_cons_succ]
  refine grow_take (i := 40) (oi := { dst := some 4, op := Op.assign (Operand.tmp 95), type := 4, pos := "law.go:91", after := #[{ on := 39, ground := Ground.data }, { on := 37, ground := Ground.chain }, { on := 0, ground := Ground.phase }, { on := 1, ground := Ground.phase }, { on := 2, ground := Ground.phase }, { on := 3, ground := Ground.phase }, { on := 4, ground := Ground.phase }, { on := 5, ground := Ground.phase }, { on := 6, ground := Ground.phase }, { on := 7, ground := Ground.phase }, { on := 8, ground := Ground.phase }, { on := 9, ground := Ground.phase }, { on := 10, ground := Ground.phase }, { on := 11, ground := Ground.phase }, { on := 12, ground := Ground.phase }, { on := 13, ground := Ground.phase }, { on := 14, ground := Ground.phase }, { on := 15, ground := Ground.phase }, { on := 16, ground := Ground.phase }, { on := 17, ground := Ground.phase }, { on := 18, ground := Ground.phase }, { on := 19, ground := Ground.phase }, { on := 20, ground := Ground.phase }, { on := 21, ground := Ground.phase }, { on := 22, ground := Ground.phase }, { on := 23, ground := Ground.phase }, { on := 24, ground := Ground.phase }, { on := 25, ground := Ground.phase }, { on := 26, ground := Ground.phase }, { on := 27, ground := Ground.phase }, { on := 28, ground := Ground.phase }, { on := 29, ground := Ground.phase }, { on := 30, ground := Ground.phase }, { on := 31, ground := Ground.phase }, { on := 32, ground := Ground.phase }, { on := 33, ground := Ground.phase }, { on := 34, ground := Ground.phase }, { on := 35, ground := Ground.phase }, { on := 36, ground := Ground.phase }, { on := 37, ground := Ground.phase }, { on := 38, ground := Ground.phase }, { on := 39, ground := Ground.phase }], guard := none }) (v := ?_) rfl (by kernel_rfl) (by kernel_rfl) (by kernel_rfl) (by rfl) ?_ ?_; rotate_left; focus ((intro W hW; go_simp) <;> with_reducible rfl)
  simp only [Act.put, List.setIfInBounds_toArray, List.set_cons_zero, List.set_cons_succ]
  refine grow_done (by kernel_rfl) ?_ _
  go_wp2_with fail
  go_ret
  exact ⟨rfl, H16.out.2.1.trans ncg fun _ _ => id⟩
end Msg
end Go.Proofs.YtkmkpdmjdfbpjaaGreatDoor

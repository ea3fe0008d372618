/-
  MessageParses, walked: true.
-/
import Derived.Test.YtkmkpdmjdfbpjaaGreatDoorJ17
import Derived.Test.YtkmkpdmjdfbpjaaGreatDoorKMsgRefPa
namespace Go.Proofs.YtkmkpdmjdfbpjaaGreatDoor
set_option linter.unusedSimpArgs false
set_option linter.unusedVariables false
open Go.ChangeShapes Go.WideShapes Go.RowKit Go.Deep
namespace Msg
open Val (JoinC)
open Num Evt Vec
attribute [local go_sem ↓] loadRow0 storeRow0
attribute [local go_sem ↓] Evt.loadDot Evt.loadVec Evt.loadRow0 Evt.storeRow0 Evt.loadOnly0 Evt.loadOnly1 Evt.loadOnly2
theorem sameM_refl (m : Ms) : sameM m m = true := sameM_iff.2 ⟨rfl, rfl⟩
theorem payM_len {p : List UInt8} {m : Ms} (h : payM p = some m) : m.es.length ≤ 200 := by
  unfold payM at h
  obtain ⟨k, _, hk⟩ := Option.bind_eq_some_iff.1 h
  split at hk
  · rename_i hr
    injection hk with hk
    subst hk
    exact right_len hr
  · cases hk
theorem parse_len (l : List UInt8) : ((parseM l).getD m0).es.length ≤ 200 := by
  cases h : parseM l with
  | none => exact Nat.zero_le _
  | some m =>
    unfold parseM at h
    split at h
    · exact payM_len h
    · cases h
set_option maxHeartbeats 20000000 in
set_option maxRecDepth 100000 in
theorem parsesW (hJ : JoinC) (w : World) (hm : Val.MaxAt w) (D : Option Addr) (n cm : Nat) (q : List UInt8) (hq : Reads w (fun b => b < w.heap.size) 1 D n (u8s q)) (hnc : n ≤ cm) (hcm : cm ≤ 140737488351232) :
    Calls Tryz.prog 4 #[.slice D n cm] w fun x w' => x = .returned (.bool true) ∧ New w w' := by
  have hz : ∀ W, (zeroValue 26).run Tryz.prog W = .ok (.agg (m0.cs (.slice none 0 0)).toArray) W := fun W => by kernel_rfl
  have CF := Lib.hid (fixed hJ _ hm)
  have HM := Lib.hid (And.intro hm (And.intro hJ hq))
  have hPL := parse_len q
  clear hm hJ hq
  go_enter Tryz.func4, Tryz.ntmps4
  go_wp2_with fail
  with_reducible refine CF.out.mono ?_
  rintro x w2 ⟨rfl, n2⟩
  have N2 := Lib.hid n2
  clear n2 CF
  by_cases h600 : (600 : Int) < n
  · go_wp2_with fail
    go_ret
    exact ⟨rfl, N2.out⟩
  have hr2 := (HM.out.2.2.chg N2.out fun b hb => ⟨hb, id⟩).mono (G := fun b => b < w2.heap.size) fun b hb => Nat.lt_of_lt_of_le hb N2.out.size
  have CP := parse_ HM.out.2.1 w2 _ D n cm q hr2 (fun b hb => hb) (by omega) hnc (HM.out.1.new N2.out)
  obtain ⟨M, hM⟩ : ∃ M, (parseM q).getD m0 = M := ⟨_, rfl⟩
  obtain ⟨E, hE⟩ : ∃ M, parseE q = M := ⟨_, rfl⟩
  rw [hM, hE] at CP
  rw [hM] at hPL
  have CP := Lib.hid CP
  have HME := Lib.hid (And.intro hM hE)
  clear hr2 hM hE
  go_wp2_with fail
  with_reducible refine CP.out.mono ?_
  rintro x w3 ⟨u3, rfl, o3, n3⟩
  obtain ⟨w4, hst4, b4, n4, g4⟩ := new_ms w3 M u3 (by obtain ⟨_, _, h⟩ := o3.form; rw [h]; rfl)
  have n34 := n3.trans n4 fun _ _ => id
  have N4 := Lib.hid (N2.out.trans n34 fun _ _ => id)
  obtain ⟨ga, hga⟩ : ∃ g, w3.heap.size = g := ⟨_, rfl⟩
  rw [hga] at hst4 g4 b4
  have H4 := Lib.hid (And.intro b4 (RowE.of_own (own_chg o3 n4 fun _ _ => id)))
  have hr4 := (HM.out.2.2.chg N4.out fun b hb => ⟨hb, id⟩).mono (G := fun b => b < w4.heap.size) fun b hb => Nat.lt_of_lt_of_le hb N4.out.size
  have CQ := rparse w4 _ D n cm q hr4 (fun b hb => hb) (by omega) hnc
  rw [HME.out.1, HME.out.2] at CQ
  have CQ := Lib.hid CQ
  clear o3 n3 n4 n34 b4 CP hr4
  go_wp2_with fail
  with_reducible refine CQ.out.mono ?_
  rintro x w5 ⟨u5, rfl, o5, n5⟩
  obtain ⟨w6, hst6, b6, n6, g6⟩ := new_ms w5 M u5 (by obtain ⟨_, _, h⟩ := o5.form; rw [h]; rfl)
  have n56 := n5.trans n6 fun _ _ => id
  obtain ⟨gb, hgb⟩ : ∃ g, w5.heap.size = g := ⟨_, rfl⟩
  rw [hgb] at hst6 g6 b6
  have H6 := Lib.hid (And.intro (H4.out.1.chg n56 id) (And.intro b6 (N4.out.trans n56 fun _ _ => id)))
  have l1 := ldM H6.out.1
  have l2 := ldM H6.out.2.1
  have gg1 := H6.out.1.lt
  have gg2 := H6.out.2.1.lt
  have CS := rsame w6 _ _ M M u3 u5 (H4.out.2.new n56) (RowE.of_own (own_chg o5 n6 fun _ _ => id)) (by omega)
  rw [sameM_refl] at CS
  have CS := Lib.hid CS
  clear o5 n5 n6 n56 b6 CQ
  go_wp2_with fail
  with_reducible refine CS.out.mono ?_
  rintro x w7 ⟨rfl, n7⟩
  have N7 := Lib.hid (H6.out.2.2.trans n7 fun _ _ => id)
  clear n7
  go_wp2_with fail
  go_ret
  exact ⟨rfl, N7.out⟩
end Msg
end Go.Proofs.YtkmkpdmjdfbpjaaGreatDoor

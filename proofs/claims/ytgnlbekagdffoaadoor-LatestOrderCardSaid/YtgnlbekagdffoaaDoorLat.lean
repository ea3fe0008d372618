/-
  Cells as values: which may be, and which counts ahead (no condition but on the texts' size and that MaxLen holds a number).
-/
import Derived.Test.YtgnlbekagdffoaaDoorCmp
namespace Go.Proofs.YtgnlbekagdffoaaDoor
set_option linter.unusedSimpArgs false
set_option linter.unusedVariables false
open Go.ChangeShapes Go.WideShapes Go.RowKit Go.Deep
namespace Lat
def Cl.cs (c : Cl) : List Value := [.string c.name, .int .i64 c.t, .int .i64 c.r, .int .i64 c.k, .int .i64 c.n, .string c.txt]
def Cl.val (c : Cl) : Value := .agg #[.string c.name, .int .i64 c.t, .int .i64 c.r, .int .i64 c.k, .int .i64 c.n, .string c.txt]
set_option maxHeartbeats 4000000 in
set_option maxRecDepth 20000 in
theorem lright (w : World) (c : Cl) (hn : c.name.size ≤ 1000) (ht : c.txt.size ≤ 1000) (hb : -9223372036854775808 ≤ c.n ∧ c.n ≤ 9223372036854775807) (hm : Val.MaxAt w) :
    Calls Tryd.prog 21 #[c.val] w fun e w' => e = .returned (.bool c.right) ∧ New w w' := by
  obtain ⟨nm, t, r, k, n, tx⟩ := c
  simp only at hn ht hb
  have HV := Lib.hid (show Cl.right ⟨nm, t, r, k, n, tx⟩ = (Val.nameB nm.data.toList && Val.rightB k n tx.data.toList && (decide (0 ≤ t) && decide (t ≤ 1099511627776)) && (decide (0 ≤ r) && decide (r < 16))) from rfl)
  have CN := Lib.hid fun W => Val.name W nm
  have CR := Lib.hid fun W (hW : New w W) => Val.right W k n tx (by omega) hb (hm.new hW)
  obtain ⟨bn, hbn⟩ : ∃ b, Val.nameB nm.data.toList = b := ⟨_, rfl⟩
  obtain ⟨br, hbr⟩ : ∃ b, Val.rightB k n tx.data.toList = b := ⟨_, rfl⟩
  rw [hbn] at CN HV
  rw [hbr] at CR HV
  clear hbn hbr hn ht hb hm
  unfold Cl.val
  cases bn
  · go_enter Tryd.func21, Tryd.ntmps21
    go_wp2_with fail
    refine (CN.out _).mono ?_
    rintro e w1 ⟨rfl, rfl⟩
    go_wp2_with fail
    go_ret
    exact ⟨by rw [HV.out]; simp, (((Chg.refl (fun _ => False) w).alloc _).alloc _)⟩
  cases br
  · go_enter Tryd.func21, Tryd.ntmps21
    go_wp2_with fail
    refine (CN.out _).mono ?_
    rintro e w1 ⟨rfl, rfl⟩
    go_wp2_with fail
    refine (CR.out _ (((Chg.refl (fun _ => False) w).alloc _).alloc _)).mono ?_
    rintro e w2 ⟨rfl, n2⟩
    have N := Lib.hid ((((Chg.refl (fun _ => False) w).alloc _).alloc _).trans n2 fun _ _ => id)
    have hb := (Blk.new1 w _ 29 #[.int .i64 t, .int .i64 r]).chg n2 id
    have d1 := hb.cell 0
    have d2 := hb.cell 1
    simp only [List.getElem?_toArray, List.getElem?_cons_zero, List.getElem?_cons_succ] at d1 d2
    have hbl := hb.lt
    clear hb
    clear n2
    go_wp2_with fail
    go_ret
    exact ⟨by rw [HV.out]; simp [*] <;> intros <;> omega, N.out⟩
  by_cases h0 : 0 ≤ t
  · by_cases h1 : t ≤ 1099511627776
    · by_cases h2 : 0 ≤ r
      · by_cases h3 : r < 16
        · go_enter Tryd.func21, Tryd.ntmps21
          go_wp2_with fail
          refine (CN.out _).mono ?_
          rintro e w1 ⟨rfl, rfl⟩
          go_wp2_with fail
          refine (CR.out _ (((Chg.refl (fun _ => False) w).alloc _).alloc _)).mono ?_
          rintro e w2 ⟨rfl, n2⟩
          have N := Lib.hid ((((Chg.refl (fun _ => False) w).alloc _).alloc _).trans n2 fun _ _ => id)
          have hb := (Blk.new1 w _ 29 #[.int .i64 t, .int .i64 r]).chg n2 id
          have d1 := hb.cell 0
          have d2 := hb.cell 1
          simp only [List.getElem?_toArray, List.getElem?_cons_zero, List.getElem?_cons_succ] at d1 d2
          have hbl := hb.lt
          clear hb
          clear n2
          go_wp2_with fail
          go_ret
          exact ⟨by rw [HV.out]; simp [*] <;> intros <;> omega, N.out⟩
        · go_enter Tryd.func21, Tryd.ntmps21
          go_wp2_with fail
          refine (CN.out _).mono ?_
          rintro e w1 ⟨rfl, rfl⟩
          go_wp2_with fail
          refine (CR.out _ (((Chg.refl (fun _ => False) w).alloc _).alloc _)).mono ?_
          rintro e w2 ⟨rfl, n2⟩
          have N := Lib.hid ((((Chg.refl (fun _ => False) w).alloc _).alloc _).trans n2 fun _ _ => id)
          have hb := (Blk.new1 w _ 29 #[.int .i64 t, .int .i64 r]).chg n2 id
          have d1 := hb.cell 0
          have d2 := hb.cell 1
          simp only [List.getElem?_toArray, List.getElem?_cons_zero, List.getElem?_cons_succ] at d1 d2
          have hbl := hb.lt
          clear hb
          clear n2
          go_wp2_with fail
          go_ret
          exact ⟨by rw [HV.out]; simp [*] <;> intros <;> omega, N.out⟩
      · go_enter Tryd.func21, Tryd.ntmps21
        go_wp2_with fail
        refine (CN.out _).mono ?_
        rintro e w1 ⟨rfl, rfl⟩
        go_wp2_with fail
        refine (CR.out _ (((Chg.refl (fun _ => False) w).alloc _).alloc _)).mono ?_
        rintro e w2 ⟨rfl, n2⟩
        have N := Lib.hid ((((Chg.refl (fun _ => False) w).alloc _).alloc _).trans n2 fun _ _ => id)
        have hb := (Blk.new1 w _ 29 #[.int .i64 t, .int .i64 r]).chg n2 id
        have d1 := hb.cell 0
        have d2 := hb.cell 1
        simp only [List.getElem?_toArray, List.getElem?_cons_zero, List.getElem?_cons_succ] at d1 d2
        have hbl := hb.lt
        clear hb
        clear n2
        go_wp2_with fail
        go_ret
        exact ⟨by rw [HV.out]; simp [*] <;> intros <;> omega, N.out⟩
    · go_enter Tryd.func21, Tryd.ntmps21
      go_wp2_with fail
      refine (CN.out _).mono ?_
      rintro e w1 ⟨rfl, rfl⟩
      go_wp2_with fail
      refine (CR.out _ (((Chg.refl (fun _ => False) w).alloc _).alloc _)).mono ?_
      rintro e w2 ⟨rfl, n2⟩
      have N := Lib.hid ((((Chg.refl (fun _ => False) w).alloc _).alloc _).trans n2 fun _ _ => id)
      have hb := (Blk.new1 w _ 29 #[.int .i64 t, .int .i64 r]).chg n2 id
      have d1 := hb.cell 0
      have d2 := hb.cell 1
      simp only [List.getElem?_toArray, List.getElem?_cons_zero, List.getElem?_cons_succ] at d1 d2
      have hbl := hb.lt
      clear hb
      clear n2
      go_wp2_with fail
      go_ret
      exact ⟨by rw [HV.out]; simp [*] <;> intros <;> omega, N.out⟩
  · go_enter Tryd.func21, Tryd.ntmps21
    go_wp2_with fail
    refine (CN.out _).mono ?_
    rintro e w1 ⟨rfl, rfl⟩
    go_wp2_with fail
    refine (CR.out _ (((Chg.refl (fun _ => False) w).alloc _).alloc _)).mono ?_
    rintro e w2 ⟨rfl, n2⟩
    have N := Lib.hid ((((Chg.refl (fun _ => False) w).alloc _).alloc _).trans n2 fun _ _ => id)
    have hb := (Blk.new1 w _ 29 #[.int .i64 t, .int .i64 r]).chg n2 id
    have d1 := hb.cell 0
    have d2 := hb.cell 1
    simp only [List.getElem?_toArray, List.getElem?_cons_zero, List.getElem?_cons_succ] at d1 d2
    have hbl := hb.lt
    clear hb
    clear n2
    go_wp2_with fail
    go_ret
    exact ⟨by rw [HV.out]; simp [*] <;> intros <;> omega, N.out⟩
set_option maxHeartbeats 4000000 in
set_option maxRecDepth 20000 in
theorem wright (w : World) (c : Cl) (hn : c.name.size ≤ 1000) (ht : c.txt.size ≤ 1000) :
    Calls Tryd.prog 10 #[c.val] w fun e w' => e = .returned (.bool c.right) ∧ New w w' := by
  obtain ⟨nm, t, r, k, n, tx⟩ := c
  simp only at hn ht
  have HV := Lib.hid (show Cl.right ⟨nm, t, r, k, n, tx⟩ = (Val.nameB nm.data.toList && Val.rightB k n tx.data.toList && (decide (0 ≤ t) && decide (t ≤ 1099511627776)) && (decide (0 ≤ r) && decide (r < 16))) from rfl)
  have CN := Lib.hid fun W => Val.rname W nm (by omega)
  have CR := Lib.hid fun W => Val.rright W k n tx ht
  obtain ⟨bn, hbn⟩ : ∃ b, Val.nameB nm.data.toList = b := ⟨_, rfl⟩
  obtain ⟨br, hbr⟩ : ∃ b, Val.rightB k n tx.data.toList = b := ⟨_, rfl⟩
  rw [hbn] at CN HV
  rw [hbr] at CR HV
  clear hbn hbr hn ht
  unfold Cl.val
  cases bn
  · go_enter Tryd.func10, Tryd.ntmps10
    go_wp2_with fail
    refine (CN.out _).mono ?_
    rintro e w1 ⟨rfl, rfl⟩
    go_wp2_with fail
    go_ret
    exact ⟨by rw [HV.out]; simp, ((Chg.refl (fun _ => False) w).alloc _)⟩
  cases br
  · go_enter Tryd.func10, Tryd.ntmps10
    go_wp2_with fail
    refine (CN.out _).mono ?_
    rintro e w1 ⟨rfl, rfl⟩
    go_wp2_with fail
    refine (CR.out _).mono ?_
    rintro e w2 ⟨rfl, n2⟩
    have N := Lib.hid (((Chg.refl (fun _ => False) w).alloc _).trans n2 fun _ _ => id)
    have hb := (Blk.new w 33 #[.string nm, .int .i64 t, .int .i64 r, .int .i64 k, .int .i64 n, .string tx]).chg n2 id
    have d1 := hb.cell 1
    have d2 := hb.cell 2
    simp only [List.getElem?_toArray, List.getElem?_cons_zero, List.getElem?_cons_succ] at d1 d2
    have hbl := hb.lt
    clear hb
    clear n2
    go_wp2_with fail
    go_ret
    exact ⟨by rw [HV.out]; simp [*] <;> intros <;> omega, N.out⟩
  by_cases h0 : 0 ≤ t
  · by_cases h1 : t ≤ 1099511627776
    · by_cases h2 : 0 ≤ r
      · by_cases h3 : r < 16
        · go_enter Tryd.func10, Tryd.ntmps10
          go_wp2_with fail
          refine (CN.out _).mono ?_
          rintro e w1 ⟨rfl, rfl⟩
          go_wp2_with fail
          refine (CR.out _).mono ?_
          rintro e w2 ⟨rfl, n2⟩
          have N := Lib.hid (((Chg.refl (fun _ => False) w).alloc _).trans n2 fun _ _ => id)
          have hb := (Blk.new w 33 #[.string nm, .int .i64 t, .int .i64 r, .int .i64 k, .int .i64 n, .string tx]).chg n2 id
          have d1 := hb.cell 1
          have d2 := hb.cell 2
          simp only [List.getElem?_toArray, List.getElem?_cons_zero, List.getElem?_cons_succ] at d1 d2
          have hbl := hb.lt
          clear hb
          clear n2
          go_wp2_with fail
          go_ret
          exact ⟨by rw [HV.out]; simp [*] <;> intros <;> omega, N.out⟩
        · go_enter Tryd.func10, Tryd.ntmps10
          go_wp2_with fail
          refine (CN.out _).mono ?_
          rintro e w1 ⟨rfl, rfl⟩
          go_wp2_with fail
          refine (CR.out _).mono ?_
          rintro e w2 ⟨rfl, n2⟩
          have N := Lib.hid (((Chg.refl (fun _ => False) w).alloc _).trans n2 fun _ _ => id)
          have hb := (Blk.new w 33 #[.string nm, .int .i64 t, .int .i64 r, .int .i64 k, .int .i64 n, .string tx]).chg n2 id
          have d1 := hb.cell 1
          have d2 := hb.cell 2
          simp only [List.getElem?_toArray, List.getElem?_cons_zero, List.getElem?_cons_succ] at d1 d2
          have hbl := hb.lt
          clear hb
          clear n2
          go_wp2_with fail
          go_ret
          exact ⟨by rw [HV.out]; simp [*] <;> intros <;> omega, N.out⟩
      · go_enter Tryd.func10, Tryd.ntmps10
        go_wp2_with fail
        refine (CN.out _).mono ?_
        rintro e w1 ⟨rfl, rfl⟩
        go_wp2_with fail
        refine (CR.out _).mono ?_
        rintro e w2 ⟨rfl, n2⟩
        have N := Lib.hid (((Chg.refl (fun _ => False) w).alloc _).trans n2 fun _ _ => id)
        have hb := (Blk.new w 33 #[.string nm, .int .i64 t, .int .i64 r, .int .i64 k, .int .i64 n, .string tx]).chg n2 id
        have d1 := hb.cell 1
        have d2 := hb.cell 2
        simp only [List.getElem?_toArray, List.getElem?_cons_zero, List.getElem?_cons_succ] at d1 d2
        have hbl := hb.lt
        clear hb
        clear n2
        go_wp2_with fail
        go_ret
        exact ⟨by rw [HV.out]; simp [*] <;> intros <;> omega, N.out⟩
    · go_enter Tryd.func10, Tryd.ntmps10
      go_wp2_with fail
      refine (CN.out _).mono ?_
      rintro e w1 ⟨rfl, rfl⟩
      go_wp2_with fail
      refine (CR.out _).mono ?_
      rintro e w2 ⟨rfl, n2⟩
      have N := Lib.hid (((Chg.refl (fun _ => False) w).alloc _).trans n2 fun _ _ => id)
      have hb := (Blk.new w 33 #[.string nm, .int .i64 t, .int .i64 r, .int .i64 k, .int .i64 n, .string tx]).chg n2 id
      have d1 := hb.cell 1
      have d2 := hb.cell 2
      simp only [List.getElem?_toArray, List.getElem?_cons_zero, List.getElem?_cons_succ] at d1 d2
      have hbl := hb.lt
      clear hb
      clear n2
      go_wp2_with fail
      go_ret
      exact ⟨by rw [HV.out]; simp [*] <;> intros <;> omega, N.out⟩
  · go_enter Tryd.func10, Tryd.ntmps10
    go_wp2_with fail
    refine (CN.out _).mono ?_
    rintro e w1 ⟨rfl, rfl⟩
    go_wp2_with fail
    refine (CR.out _).mono ?_
    rintro e w2 ⟨rfl, n2⟩
    have N := Lib.hid (((Chg.refl (fun _ => False) w).alloc _).trans n2 fun _ _ => id)
    have hb := (Blk.new w 33 #[.string nm, .int .i64 t, .int .i64 r, .int .i64 k, .int .i64 n, .string tx]).chg n2 id
    have d1 := hb.cell 1
    have d2 := hb.cell 2
    simp only [List.getElem?_toArray, List.getElem?_cons_zero, List.getElem?_cons_succ] at d1 d2
    have hbl := hb.lt
    clear hb
    clear n2
    go_wp2_with fail
    go_ret
    exact ⟨by rw [HV.out]; simp [*] <;> intros <;> omega, N.out⟩
end Lat
end Go.Proofs.YtgnlbekagdffoaaDoor

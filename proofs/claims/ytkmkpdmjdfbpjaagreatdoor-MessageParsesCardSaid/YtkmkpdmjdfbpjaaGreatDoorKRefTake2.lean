/-
  The document's reference: Take, walked (no condition beyond the size).
-/
import Derived.Test.YtkmkpdmjdfbpjaaGreatDoorJ17
import Derived.Test.YtkmkpdmjdfbpjaaGreatDoorKRefTake
namespace Go.Proofs.YtkmkpdmjdfbpjaaGreatDoor
set_option linter.unusedSimpArgs false
set_option linter.unusedVariables false
open Go.ChangeShapes Go.WideShapes Go.RowKit
namespace Num
set_option maxHeartbeats 8000000 in
set_option maxRecDepth 20000 in
theorem rtake_ (w : World) (F : Nat → Prop) (A : Option Addr) (n c : Nat) (l : List UInt8) (hl : Reads w F 1 A n (u8s l)) (hn : n ≤ 1000000000) (hnc : n ≤ c) :
    Calls Tryz.prog 59 #[.slice A n c] w fun x w' => x = .returned (.tuple #[.int .i64 ((rtake l).1 : Nat), .int .i64 ((rtake l).2 : Nat)]) ∧ New w w' := by
  have hln := hl.u8len
  have HL := Lib.hid (fun W (hW : New w W) => hl.chg' hW (fun _ _ => id) (by omega))
  have HLN := Lib.hid hln
  obtain ⟨R, hR⟩ : ∃ R, rtake l = R := ⟨_, rfl⟩
  rw [hR]
  obtain ⟨r1, r2⟩ := R
  have HR := Lib.hid hR
  clear hln hl hR
  go_enter Tryz.func59, Tryz.ntmps59
  go_wp2_with fail
  go_loopw [4, 5, 6] (fun nv wv iv wr => ∃ i V W : Nat, i ≤ 8 ∧ i ≤ n ∧ nv = .int .i64 V ∧ wv = .int .i64 W ∧ iv = .int .i64 i ∧ Hid (V = val (l.take i)) ∧ Hid (W = 128 ^ i) ∧ Hid (∀ x ∈ l.take i, 128 ≤ x.toNat) ∧ New w wr) (fun _ _ iv _ => 9 - (intOf iv).toNat)
  case atStart => exact ⟨0, 0, 1, by omega, by omega, by go_num, by go_num, by go_num, Lib.hid rfl, Lib.hid rfl, Lib.hid (fun x hx => by simp at hx), Chg.refl _ _⟩
  case round =>
    obtain ⟨i, V, W, hi8, hin, rfl, rfl, rfl, HV, HW, HH, hnw⟩ := hrel
    by_cases hlt : i < n
    · have hli : (i : Int) < n := by omega
      have hl9 : (i : Int) < 9 := by omega
      obtain ⟨ad, ch, rfl, hFb, hch, hcell⟩ := (HL.out wr hnw).byte hlt
      have hwl := block_lt_of_cell hcell
      obtain ⟨z, hz⟩ : ∃ z, ch.toNat = z := ⟨_, rfl⟩
      have hz256 : z < 256 := by rw [← hz]; exact UInt8.toNat_lt ch
      rw [hz] at hcell
      have hVW : V < W := by rw [HV.out, HW.out]; have := val_lt (l.take i); rwa [List.length_take, HLN.out, Nat.min_eq_left (by omega)] at this
      have hWb : W ≤ 72057594037927936 := by rw [HW.out]; exact Nat.le_trans (Nat.pow_le_pow_right (by decide) hi8) (by decide)
      obtain ⟨d, hd⟩ : ∃ d, z % 128 = d := ⟨_, rfl⟩
      have hd128 : d < 128 := by rw [← hd]; exact Nat.mod_lt _ (by decide)
      obtain ⟨P, hP⟩ : ∃ P, d * W = P := ⟨_, rfl⟩
      have hPb : P ≤ 127 * 72057594037927936 := by rw [← hP]; exact Nat.mul_le_mul (by omega) hWb
      have hPb2 : d < 64 → P ≤ 63 * 72057594037927936 := fun h => by rw [← hP]; exact Nat.mul_le_mul (by omega) hWb
      obtain ⟨Z, hZ⟩ : ∃ Z, V + P = Z := ⟨_, rfl⟩
      have hrem : (z : Int).tmod 128 = (d : Int) := by rw [← hd]; exact Int.ofNat_tmod z 128
      have hm : IntKind.i64.wrap ((d : Int) * (W : Int)) = (P : Int) := by rw [← Int.natCast_mul, hP]; exact IntWalk.i64_in _ (by omega)
      have ha : IntKind.i64.wrap ((V : Int) + (P : Int)) = (Z : Int) := by rw [← Int.natCast_add, hZ]; exact IntWalk.i64_in _ (by omega)
      have hw : IntKind.i64.wrap ((i : Int) + 1) = (i : Int) + 1 := IntWalk.i64_in _ (by omega)
      have hwd : IntKind.u8.wrap (d : Int) = (d : Int) := by unfold IntKind.wrap; simp [IntKind.signed, IntKind.bits]; omega
      have hwd2 : IntKind.i64.wrap (d : Int) = (d : Int) := IntWalk.i64_in _ (by omega)
      by_cases h864 : i = 8 ∧ 64 ≤ z
      · obtain ⟨h8, h64⟩ := h864
        have hr : rtake l = (0, 0) := rtake_eight (by rw [← h8]; exact hch) (by rw [← h8]; exact HH.out) (by omega)
        have h8b : ((i : Int) == 8) = true := by simp; omega
        rw [HR.out] at hr
        obtain ⟨rfl, rfl⟩ := Prod.mk.inj hr
        have hz64 : (64 : Int) ≤ z := by omega
        have HNW := Lib.hid hnw
        clear hr hnw hch hz hP hZ hd h8
        go_wp2_with fail
        go_ret2
        exact ⟨rfl, HNW.out⟩
      · by_cases hlow : z < 128
        · have hz128 : (z : Int) < 128 := by omega
          have hzd : z = d := by omega
          subst hzd
          have hends := rtake_ends hi8 hch HH.out (by omega) (fun h => by omega)
          rw [HR.out, hz, ← HV.out, ← HW.out] at hends
          have hsnoc := snoc_at hch
          have hZv : Z = val (l.take i ++ [ch]) := by rw [val_snoc, List.length_take, HLN.out, Nat.min_eq_left (by omega), hz, hd, ← HV.out, ← HW.out, hP, hZ]
          have hZb : Z ≤ 4611686018427387903 := by
            by_cases h8 : i = 8
            · have := hPb2 (by omega); omega
            · have : W ≤ 562949953421312 := by rw [HW.out]; exact Nat.le_trans (Nat.pow_le_pow_right (by decide) (show i ≤ 7 by omega)) (by decide)
              have : P ≤ 127 * 562949953421312 := by rw [← hP]; exact Nat.mul_le_mul (by omega) this
              omega
          have hput : putB (Z : Int) = digits (val (l.take (i + 1))) := by rw [putB_at hZb, hZv, hsnoc]
          have hsl : ∀ W, (Instr.sliceAt 29 (.slice (some ad) n c) none (some (.int .i64 ((i : Int) + 1))) none).run Tryz.prog W = .ok (.slice (some ad) (i + 1) c) W := fun W => slice_u8_to (some ad) n c (i + 1) (by omega) W
          have h864b : (decide ((i : Int) = 8) && decide ((64 : Int) ≤ z)) = false := by
            by_cases h8 : (i : Int) = 8
            · have : ¬ (64 : Int) ≤ z := by omega
              simp [this]
            · simp [h8]
          by_cases h0 : z = 0 ∧ 0 < i
          · rw [if_pos h0] at hends
            have HE := Lib.hid (Prod.mk.inj hends)
            have hdec : decide (digits (val (l.take (i + 1))) = l.take (i + 1)) = false := decide_eq_false (hsnoc ▸ digits_not (hz.trans h0.1) (by intro h; have := congrArg List.length h; rw [List.length_take, HLN.out] at this; simp at this; omega))
            by_cases h8 : (i : Int) = 8
            · have hz64 : ¬ (64 : Int) ≤ z := by omega
              have h8b : ((i : Int) == 8) = true := by simpa using h8
              clear h8
              clear hends hch hz hP hZ hd hZv hVW hPb2 h0
              obtain ⟨ba, hba⟩ : ∃ b : ByteArray, ⟨(putB (Z : Int)).toArray⟩ = b := ⟨_, rfl⟩
              obtain ⟨bb, hbb⟩ : ∃ b : ByteArray, ⟨(l.take (i + 1)).toArray⟩ = b := ⟨_, rfl⟩
              have heq := bytes_eq (putB (Z : Int)) (l.take (i + 1))
              rw [hput, hdec, ← hput, hba, hbb] at heq
              clear hdec
              have HBA := Lib.hid hba
              have FA := Lib.hid (fun W (hW : New wr.drew W) => And.intro heq (show (convert 29 9 (.slice (some ad) (i + 1) c)).run Tryz.prog W = .ok (.string bb) W from by have := slice_to_str ((HL.out W (hnw.drew.trans hW fun _ _ => id))) (i + 1) c (by omega); rw [hbb] at this; exact this))
              have C1 := Lib.hid (rput wr.drew wr.heap.size (.slice none 0 0) [] OwnB.nil (Nat.le_refl _) (by simp) (Z : Int))
              unfold Puts at C1
              have HNW := Lib.hid hnw.drew
              clear hnw hba hbb heq hput hsnoc
              go_wp2_with fail
              refine grow_start (fun _ => False) (by kernel_rfl) ?_
              refine grow_take (i := 0) (oi := { dst := some 41, op := Op.move (Operand.tmp 4), type := 3, pos := "ref.go:40", after := #[], guard := none }) (v := ?_) rfl (by kernel_rfl) (by kernel_rfl) (by kernel_rfl) (by rfl) ?_ ?_; rotate_left; focus ((intro W hW; go_simp) <;> with_reducible rfl)
              simp only [Act.put, List.setIfInBounds_toArray, List.set_cons_zero, List.set_cons_succ]
              refine grow_take (i := 3) (oi := { dst := some 44, op := Op.move (Operand.tmp 0), type := 29, pos := "ref.go:40", after := #[], guard := none }) (v := ?_) rfl (by kernel_rfl) (by kernel_rfl) (by kernel_rfl) (by rfl) ?_ ?_; rotate_left; focus ((intro W hW; go_simp) <;> with_reducible rfl)
              simp only [Act.put, List.setIfInBounds_toArray, List.set_cons_zero, List.set_cons_succ]
              refine grow_take (i := 4) (oi := { dst := some 45, op := Op.move (Operand.tmp 6), type := 3, pos := "ref.go:40", after := #[], guard := none }) (v := ?_) rfl (by kernel_rfl) (by kernel_rfl) (by kernel_rfl) (by rfl) ?_ ?_; rotate_left; focus ((intro W hW; go_simp) <;> with_reducible rfl)
              simp only [Act.put, List.setIfInBounds_toArray, List.set_cons_zero, List.set_cons_succ]
              refine grow_take (i := 5) (oi := { dst := some 46, op := Op.binOp BinOp.add 3 (Operand.tmp 45) (Operand.const (Value.int IntKind.i64 1)) 3, type := 3, pos := "ref.go:40", after := #[{ on := 4, ground := Ground.data }], guard := none }) (v := ?_) rfl (by kernel_rfl) (by kernel_rfl) (by kernel_rfl) (by rfl) ?_ ?_; rotate_left; focus ((intro W hW; have fct := FA.out W hW; go_simp) <;> with_reducible rfl)
              simp only [Act.put, List.setIfInBounds_toArray, List.set_cons_zero, List.set_cons_succ]
              refine grow_take (i := 6) (oi := { dst := some 47, op := Op.slice 29 (Operand.tmp 44) none (some (Operand.tmp 46)) none, type := 29, pos := "ref.go:40", after := #[{ on := 3, ground := Ground.data }, { on := 5, ground := Ground.data }], guard := none }) (v := ?_) rfl (by kernel_rfl) (by kernel_rfl) (by kernel_rfl) (by rfl) ?_ ?_; rotate_left; focus ((intro W hW; have fct := FA.out W hW; go_simp) <;> with_reducible rfl)
              simp only [Act.put, List.setIfInBounds_toArray, List.set_cons_zero, List.set_cons_succ]
              refine grow_take (i := 7) (oi := { dst := some 48, op := Op.convert 29 9 (Operand.tmp 47), type := 9, pos := "ref.go:40", after := #[{ on := 6, ground := Ground.data }], guard := none }) (v := ?_) rfl (by kernel_rfl) (by kernel_rfl) (by kernel_rfl) (by rfl) ?_ ?_; rotate_left; focus ((intro W hW; have fct := FA.out W hW; go_simp) <;> with_reducible rfl)
              simp only [Act.put, List.setIfInBounds_toArray, List.set_cons_zero, List.set_cons_succ]
              refine grow_next (i := 1) (oi := { dst := some 42, op := Op.call { callee := Callee.value (Operand.func 57), args := #[Operand.const (Value.slice none 0 0), Operand.tmp 41], argTypes := #[29, 3] }, type := 29, pos := "ref.go:40", after := #[{ on := 0, ground := Ground.data }], guard := none }) (by kernel_rfl) rfl (by rfl) (fun K hK => ?_)
              go_simp
              with_reducible refine C1.out.mono ?_
              rintro x wa ⟨ua, rfl, oa, ca, aa⟩
              refine hK _ _ (ca.mono fun _ _ h => by cases h) ?_
              clear hK K
              try simp only [Act.put, List.setIfInBounds_toArray, List.set_cons_zero, List.set_cons_succ]
              rw [List.nil_append] at oa
              have na : New wr.drew wa := (ca.mono fun _ _ h => by cases h)
              have Fb := Lib.hid (fun W (hW : New wa W) => And.intro (FA.out W (na.trans hW fun _ _ => id)) (show (convert 29 9 ua).run Tryz.prog W = .ok (.string ba) W from by have := own_str oa hW; rw [HBA.out] at this; exact this))
              refine grow_take (i := 2) (oi := { dst := some 43, op := Op.convert 29 9 (Operand.tmp 42), type := 9, pos := "ref.go:40", after := #[{ on := 1, ground := Ground.data }], guard := none }) (v := ?_) rfl (by kernel_rfl) (by kernel_rfl) (by kernel_rfl) (by rfl) ?_ ?_; rotate_left; focus ((intro W hW; have fct := Fb.out W hW; go_simp) <;> with_reducible rfl)
              simp only [Act.put, List.setIfInBounds_toArray, List.set_cons_zero, List.set_cons_succ]
              refine grow_take (i := 8) (oi := { dst := some 49, op := Op.binOp BinOp.eql 9 (Operand.tmp 43) (Operand.tmp 48) 9, type := 4, pos := "ref.go:40", after := #[{ on := 2, ground := Ground.data }, { on := 7, ground := Ground.data }], guard := none }) (v := ?_) rfl (by kernel_rfl) (by kernel_rfl) (by kernel_rfl) (by rfl) ?_ ?_; rotate_left; focus ((intro W hW; have fct := Fb.out W hW; go_simp) <;> with_reducible rfl)
              simp only [Act.put, List.setIfInBounds_toArray, List.set_cons_zero, List.set_cons_succ]
              refine grow_done (by kernel_rfl) ?_ _
              go_wp2_with fail
              go_ret2
              exact ⟨by rw [HE.out.1, HE.out.2] <;> rfl, HNW.out.trans na fun _ _ => id⟩
            · have h8b : ((i : Int) == 8) = false := by simpa using h8
              clear hends hch hz hP hZ hd hZv hVW hPb2 h0
              obtain ⟨ba, hba⟩ : ∃ b : ByteArray, ⟨(putB (Z : Int)).toArray⟩ = b := ⟨_, rfl⟩
              obtain ⟨bb, hbb⟩ : ∃ b : ByteArray, ⟨(l.take (i + 1)).toArray⟩ = b := ⟨_, rfl⟩
              have heq := bytes_eq (putB (Z : Int)) (l.take (i + 1))
              rw [hput, hdec, ← hput, hba, hbb] at heq
              clear hdec
              have HBA := Lib.hid hba
              have FA := Lib.hid (fun W (hW : New wr.drew W) => And.intro heq (show (convert 29 9 (.slice (some ad) (i + 1) c)).run Tryz.prog W = .ok (.string bb) W from by have := slice_to_str ((HL.out W (hnw.drew.trans hW fun _ _ => id))) (i + 1) c (by omega); rw [hbb] at this; exact this))
              have C1 := Lib.hid (rput wr.drew wr.heap.size (.slice none 0 0) [] OwnB.nil (Nat.le_refl _) (by simp) (Z : Int))
              unfold Puts at C1
              have HNW := Lib.hid hnw.drew
              clear hnw hba hbb heq hput hsnoc
              go_wp2_with fail
              refine grow_start (fun _ => False) (by kernel_rfl) ?_
              refine grow_take (i := 0) (oi := { dst := some 41, op := Op.move (Operand.tmp 4), type := 3, pos := "ref.go:40", after := #[], guard := none }) (v := ?_) rfl (by kernel_rfl) (by kernel_rfl) (by kernel_rfl) (by rfl) ?_ ?_; rotate_left; focus ((intro W hW; go_simp) <;> with_reducible rfl)
              simp only [Act.put, List.setIfInBounds_toArray, List.set_cons_zero, List.set_cons_succ]
              refine grow_take (i := 3) (oi := { dst := some 44, op := Op.move (Operand.tmp 0), type := 29, pos := "ref.go:40", after := #[], guard := none }) (v := ?_) rfl (by kernel_rfl) (by kernel_rfl) (by kernel_rfl) (by rfl) ?_ ?_; rotate_left; focus ((intro W hW; go_simp) <;> with_reducible rfl)
              simp only [Act.put, List.setIfInBounds_toArray, List.set_cons_zero, List.set_cons_succ]
              refine grow_take (i := 4) (oi := { dst := some 45, op := Op.move (Operand.tmp 6), type := 3, pos := "ref.go:40", after := #[], guard := none }) (v := ?_) rfl (by kernel_rfl) (by kernel_rfl) (by kernel_rfl) (by rfl) ?_ ?_; rotate_left; focus ((intro W hW; go_simp) <;> with_reducible rfl)
              simp only [Act.put, List.setIfInBounds_toArray, List.set_cons_zero, List.set_cons_succ]
              refine grow_take (i := 5) (oi := { dst := some 46, op := Op.binOp BinOp.add 3 (Operand.tmp 45) (Operand.const (Value.int IntKind.i64 1)) 3, type := 3, pos := "ref.go:40", after := #[{ on := 4, ground := Ground.data }], guard := none }) (v := ?_) rfl (by kernel_rfl) (by kernel_rfl) (by kernel_rfl) (by rfl) ?_ ?_; rotate_left; focus ((intro W hW; have fct := FA.out W hW; go_simp) <;> with_reducible rfl)
              simp only [Act.put, List.setIfInBounds_toArray, List.set_cons_zero, List.set_cons_succ]
              refine grow_take (i := 6) (oi := { dst := some 47, op := Op.slice 29 (Operand.tmp 44) none (some (Operand.tmp 46)) none, type := 29, pos := "ref.go:40", after := #[{ on := 3, ground := Ground.data }, { on := 5, ground := Ground.data }], guard := none }) (v := ?_) rfl (by kernel_rfl) (by kernel_rfl) (by kernel_rfl) (by rfl) ?_ ?_; rotate_left; focus ((intro W hW; have fct := FA.out W hW; go_simp) <;> with_reducible rfl)
              simp only [Act.put, List.setIfInBounds_toArray, List.set_cons_zero, List.set_cons_succ]
              refine grow_take (i := 7) (oi := { dst := some 48, op := Op.convert 29 9 (Operand.tmp 47), type := 9, pos := "ref.go:40", after := #[{ on := 6, ground := Ground.data }], guard := none }) (v := ?_) rfl (by kernel_rfl) (by kernel_rfl) (by kernel_rfl) (by rfl) ?_ ?_; rotate_left; focus ((intro W hW; have fct := FA.out W hW; go_simp) <;> with_reducible rfl)
              simp only [Act.put, List.setIfInBounds_toArray, List.set_cons_zero, List.set_cons_succ]
              refine grow_next (i := 1) (oi := { dst := some 42, op := Op.call { callee := Callee.value (Operand.func 57), args := #[Operand.const (Value.slice none 0 0), Operand.tmp 41], argTypes := #[29, 3] }, type := 29, pos := "ref.go:40", after := #[{ on := 0, ground := Ground.data }], guard := none }) (by kernel_rfl) rfl (by rfl) (fun K hK => ?_)
              go_simp
              with_reducible refine C1.out.mono ?_
              rintro x wa ⟨ua, rfl, oa, ca, aa⟩
              refine hK _ _ (ca.mono fun _ _ h => by cases h) ?_
              clear hK K
              try simp only [Act.put, List.setIfInBounds_toArray, List.set_cons_zero, List.set_cons_succ]
              rw [List.nil_append] at oa
              have na : New wr.drew wa := (ca.mono fun _ _ h => by cases h)
              have Fb := Lib.hid (fun W (hW : New wa W) => And.intro (FA.out W (na.trans hW fun _ _ => id)) (show (convert 29 9 ua).run Tryz.prog W = .ok (.string ba) W from by have := own_str oa hW; rw [HBA.out] at this; exact this))
              refine grow_take (i := 2) (oi := { dst := some 43, op := Op.convert 29 9 (Operand.tmp 42), type := 9, pos := "ref.go:40", after := #[{ on := 1, ground := Ground.data }], guard := none }) (v := ?_) rfl (by kernel_rfl) (by kernel_rfl) (by kernel_rfl) (by rfl) ?_ ?_; rotate_left; focus ((intro W hW; have fct := Fb.out W hW; go_simp) <;> with_reducible rfl)
              simp only [Act.put, List.setIfInBounds_toArray, List.set_cons_zero, List.set_cons_succ]
              refine grow_take (i := 8) (oi := { dst := some 49, op := Op.binOp BinOp.eql 9 (Operand.tmp 43) (Operand.tmp 48) 9, type := 4, pos := "ref.go:40", after := #[{ on := 2, ground := Ground.data }, { on := 7, ground := Ground.data }], guard := none }) (v := ?_) rfl (by kernel_rfl) (by kernel_rfl) (by kernel_rfl) (by rfl) ?_ ?_; rotate_left; focus ((intro W hW; have fct := Fb.out W hW; go_simp) <;> with_reducible rfl)
              simp only [Act.put, List.setIfInBounds_toArray, List.set_cons_zero, List.set_cons_succ]
              refine grow_done (by kernel_rfl) ?_ _
              go_wp2_with fail
              go_ret2
              exact ⟨by rw [HE.out.1, HE.out.2] <;> rfl, HNW.out.trans na fun _ _ => id⟩
          · rw [if_neg h0, show V + z * W = Z by rw [← hZ, ← hP]] at hends
            have HE := Lib.hid (Prod.mk.inj hends)
            have hdec : decide (digits (val (l.take (i + 1))) = l.take (i + 1)) = true := decide_eq_true (hsnoc ▸ digits_val (by omega) _ HH.out (by
              by_cases hi0 : i = 0
              · exact .inr (by rw [hi0]; rfl)
              · exact .inl (by omega)))
            by_cases h8 : (i : Int) = 8
            · have hz64 : ¬ (64 : Int) ≤ z := by omega
              have h8b : ((i : Int) == 8) = true := by simpa using h8
              clear h8
              clear hends hch hz hP hZ hd hZv hVW hPb2 h0
              obtain ⟨ba, hba⟩ : ∃ b : ByteArray, ⟨(putB (Z : Int)).toArray⟩ = b := ⟨_, rfl⟩
              obtain ⟨bb, hbb⟩ : ∃ b : ByteArray, ⟨(l.take (i + 1)).toArray⟩ = b := ⟨_, rfl⟩
              have heq := bytes_eq (putB (Z : Int)) (l.take (i + 1))
              rw [hput, hdec, ← hput, hba, hbb] at heq
              clear hdec
              have HBA := Lib.hid hba
              have FA := Lib.hid (fun W (hW : New wr.drew W) => And.intro heq (show (convert 29 9 (.slice (some ad) (i + 1) c)).run Tryz.prog W = .ok (.string bb) W from by have := slice_to_str ((HL.out W (hnw.drew.trans hW fun _ _ => id))) (i + 1) c (by omega); rw [hbb] at this; exact this))
              have C1 := Lib.hid (rput wr.drew wr.heap.size (.slice none 0 0) [] OwnB.nil (Nat.le_refl _) (by simp) (Z : Int))
              unfold Puts at C1
              have HNW := Lib.hid hnw.drew
              clear hnw hba hbb heq hput hsnoc
              go_wp2_with fail
              refine grow_start (fun _ => False) (by kernel_rfl) ?_
              refine grow_take (i := 0) (oi := { dst := some 41, op := Op.move (Operand.tmp 4), type := 3, pos := "ref.go:40", after := #[], guard := none }) (v := ?_) rfl (by kernel_rfl) (by kernel_rfl) (by kernel_rfl) (by rfl) ?_ ?_; rotate_left; focus ((intro W hW; go_simp) <;> with_reducible rfl)
              simp only [Act.put, List.setIfInBounds_toArray, List.set_cons_zero, List.set_cons_succ]
              refine grow_take (i := 3) (oi := { dst := some 44, op := Op.move (Operand.tmp 0), type := 29, pos := "ref.go:40", after := #[], guard := none }) (v := ?_) rfl (by kernel_rfl) (by kernel_rfl) (by kernel_rfl) (by rfl) ?_ ?_; rotate_left; focus ((intro W hW; go_simp) <;> with_reducible rfl)
              simp only [Act.put, List.setIfInBounds_toArray, List.set_cons_zero, List.set_cons_succ]
              refine grow_take (i := 4) (oi := { dst := some 45, op := Op.move (Operand.tmp 6), type := 3, pos := "ref.go:40", after := #[], guard := none }) (v := ?_) rfl (by kernel_rfl) (by kernel_rfl) (by kernel_rfl) (by rfl) ?_ ?_; rotate_left; focus ((intro W hW; go_simp) <;> with_reducible rfl)
              simp only [Act.put, List.setIfInBounds_toArray, List.set_cons_zero, List.set_cons_succ]
              refine grow_take (i := 5) (oi := { dst := some 46, op := Op.binOp BinOp.add 3 (Operand.tmp 45) (Operand.const (Value.int IntKind.i64 1)) 3, type := 3, pos := "ref.go:40", after := #[{ on := 4, ground := Ground.data }], guard := none }) (v := ?_) rfl (by kernel_rfl) (by kernel_rfl) (by kernel_rfl) (by rfl) ?_ ?_; rotate_left; focus ((intro W hW; have fct := FA.out W hW; go_simp) <;> with_reducible rfl)
              simp only [Act.put, List.setIfInBounds_toArray, List.set_cons_zero, List.set_cons_succ]
              refine grow_take (i := 6) (oi := { dst := some 47, op := Op.slice 29 (Operand.tmp 44) none (some (Operand.tmp 46)) none, type := 29, pos := "ref.go:40", after := #[{ on := 3, ground := Ground.data }, { on := 5, ground := Ground.data }], guard := none }) (v := ?_) rfl (by kernel_rfl) (by kernel_rfl) (by kernel_rfl) (by rfl) ?_ ?_; rotate_left; focus ((intro W hW; have fct := FA.out W hW; go_simp) <;> with_reducible rfl)
              simp only [Act.put, List.setIfInBounds_toArray, List.set_cons_zero, List.set_cons_succ]
              refine grow_take (i := 7) (oi := { dst := some 48, op := Op.convert 29 9 (Operand.tmp 47), type := 9, pos := "ref.go:40", after := #[{ on := 6, ground := Ground.data }], guard := none }) (v := ?_) rfl (by kernel_rfl) (by kernel_rfl) (by kernel_rfl) (by rfl) ?_ ?_; rotate_left; focus ((intro W hW; have fct := FA.out W hW; go_simp) <;> with_reducible rfl)
              simp only [Act.put, List.setIfInBounds_toArray, List.set_cons_zero, List.set_cons_succ]
              refine grow_next (i := 1) (oi := { dst := some 42, op := Op.call { callee := Callee.value (Operand.func 57), args := #[Operand.const (Value.slice none 0 0), Operand.tmp 41], argTypes := #[29, 3] }, type := 29, pos := "ref.go:40", after := #[{ on := 0, ground := Ground.data }], guard := none }) (by kernel_rfl) rfl (by rfl) (fun K hK => ?_)
              go_simp
              with_reducible refine C1.out.mono ?_
              rintro x wa ⟨ua, rfl, oa, ca, aa⟩
              refine hK _ _ (ca.mono fun _ _ h => by cases h) ?_
              clear hK K
              try simp only [Act.put, List.setIfInBounds_toArray, List.set_cons_zero, List.set_cons_succ]
              rw [List.nil_append] at oa
              have na : New wr.drew wa := (ca.mono fun _ _ h => by cases h)
              have Fb := Lib.hid (fun W (hW : New wa W) => And.intro (FA.out W (na.trans hW fun _ _ => id)) (show (convert 29 9 ua).run Tryz.prog W = .ok (.string ba) W from by have := own_str oa hW; rw [HBA.out] at this; exact this))
              refine grow_take (i := 2) (oi := { dst := some 43, op := Op.convert 29 9 (Operand.tmp 42), type := 9, pos := "ref.go:40", after := #[{ on := 1, ground := Ground.data }], guard := none }) (v := ?_) rfl (by kernel_rfl) (by kernel_rfl) (by kernel_rfl) (by rfl) ?_ ?_; rotate_left; focus ((intro W hW; have fct := Fb.out W hW; go_simp) <;> with_reducible rfl)
              simp only [Act.put, List.setIfInBounds_toArray, List.set_cons_zero, List.set_cons_succ]
              refine grow_take (i := 8) (oi := { dst := some 49, op := Op.binOp BinOp.eql 9 (Operand.tmp 43) (Operand.tmp 48) 9, type := 4, pos := "ref.go:40", after := #[{ on := 2, ground := Ground.data }, { on := 7, ground := Ground.data }], guard := none }) (v := ?_) rfl (by kernel_rfl) (by kernel_rfl) (by kernel_rfl) (by rfl) ?_ ?_; rotate_left; focus ((intro W hW; have fct := Fb.out W hW; go_simp) <;> with_reducible rfl)
              simp only [Act.put, List.setIfInBounds_toArray, List.set_cons_zero, List.set_cons_succ]
              refine grow_done (by kernel_rfl) ?_ _
              go_wp2_with fail
              go_ret2
              exact ⟨by rw [HE.out.1, HE.out.2] <;> rfl, HNW.out.trans na fun _ _ => id⟩
            · have h8b : ((i : Int) == 8) = false := by simpa using h8
              clear hends hch hz hP hZ hd hZv hVW hPb2 h0
              obtain ⟨ba, hba⟩ : ∃ b : ByteArray, ⟨(putB (Z : Int)).toArray⟩ = b := ⟨_, rfl⟩
              obtain ⟨bb, hbb⟩ : ∃ b : ByteArray, ⟨(l.take (i + 1)).toArray⟩ = b := ⟨_, rfl⟩
              have heq := bytes_eq (putB (Z : Int)) (l.take (i + 1))
              rw [hput, hdec, ← hput, hba, hbb] at heq
              clear hdec
              have HBA := Lib.hid hba
              have FA := Lib.hid (fun W (hW : New wr.drew W) => And.intro heq (show (convert 29 9 (.slice (some ad) (i + 1) c)).run Tryz.prog W = .ok (.string bb) W from by have := slice_to_str ((HL.out W (hnw.drew.trans hW fun _ _ => id))) (i + 1) c (by omega); rw [hbb] at this; exact this))
              have C1 := Lib.hid (rput wr.drew wr.heap.size (.slice none 0 0) [] OwnB.nil (Nat.le_refl _) (by simp) (Z : Int))
              unfold Puts at C1
              have HNW := Lib.hid hnw.drew
              clear hnw hba hbb heq hput hsnoc
              go_wp2_with fail
              refine grow_start (fun _ => False) (by kernel_rfl) ?_
              refine grow_take (i := 0) (oi := { dst := some 41, op := Op.move (Operand.tmp 4), type := 3, pos := "ref.go:40", after := #[], guard := none }) (v := ?_) rfl (by kernel_rfl) (by kernel_rfl) (by kernel_rfl) (by rfl) ?_ ?_; rotate_left; focus ((intro W hW; go_simp) <;> with_reducible rfl)
              simp only [Act.put, List.setIfInBounds_toArray, List.set_cons_zero, List.set_cons_succ]
              refine grow_take (i := 3) (oi := { dst := some 44, op := Op.move (Operand.tmp 0), type := 29, pos := "ref.go:40", after := #[], guard := none }) (v := ?_) rfl (by kernel_rfl) (by kernel_rfl) (by kernel_rfl) (by rfl) ?_ ?_; rotate_left; focus ((intro W hW; go_simp) <;> with_reducible rfl)
              simp only [Act.put, List.setIfInBounds_toArray, List.set_cons_zero, List.set_cons_succ]
              refine grow_take (i := 4) (oi := { dst := some 45, op := Op.move (Operand.tmp 6), type := 3, pos := "ref.go:40", after := #[], guard := none }) (v := ?_) rfl (by kernel_rfl) (by kernel_rfl) (by kernel_rfl) (by rfl) ?_ ?_; rotate_left; focus ((intro W hW; go_simp) <;> with_reducible rfl)
              simp only [Act.put, List.setIfInBounds_toArray, List.set_cons_zero, List.set_cons_succ]
              refine grow_take (i := 5) (oi := { dst := some 46, op := Op.binOp BinOp.add 3 (Operand.tmp 45) (Operand.const (Value.int IntKind.i64 1)) 3, type := 3, pos := "ref.go:40", after := #[{ on := 4, ground := Ground.data }], guard := none }) (v := ?_) rfl (by kernel_rfl) (by kernel_rfl) (by kernel_rfl) (by rfl) ?_ ?_; rotate_left; focus ((intro W hW; have fct := FA.out W hW; go_simp) <;> with_reducible rfl)
              simp only [Act.put, List.setIfInBounds_toArray, List.set_cons_zero, List.set_cons_succ]
              refine grow_take (i := 6) (oi := { dst := some 47, op := Op.slice 29 (Operand.tmp 44) none (some (Operand.tmp 46)) none, type := 29, pos := "ref.go:40", after := #[{ on := 3, ground := Ground.data }, { on := 5, ground := Ground.data }], guard := none }) (v := ?_) rfl (by kernel_rfl) (by kernel_rfl) (by kernel_rfl) (by rfl) ?_ ?_; rotate_left; focus ((intro W hW; have fct := FA.out W hW; go_simp) <;> with_reducible rfl)
              simp only [Act.put, List.setIfInBounds_toArray, List.set_cons_zero, List.set_cons_succ]
              refine grow_take (i := 7) (oi := { dst := some 48, op := Op.convert 29 9 (Operand.tmp 47), type := 9, pos := "ref.go:40", after := #[{ on := 6, ground := Ground.data }], guard := none }) (v := ?_) rfl (by kernel_rfl) (by kernel_rfl) (by kernel_rfl) (by rfl) ?_ ?_; rotate_left; focus ((intro W hW; have fct := FA.out W hW; go_simp) <;> with_reducible rfl)
              simp only [Act.put, List.setIfInBounds_toArray, List.set_cons_zero, List.set_cons_succ]
              refine grow_next (i := 1) (oi := { dst := some 42, op := Op.call { callee := Callee.value (Operand.func 57), args := #[Operand.const (Value.slice none 0 0), Operand.tmp 41], argTypes := #[29, 3] }, type := 29, pos := "ref.go:40", after := #[{ on := 0, ground := Ground.data }], guard := none }) (by kernel_rfl) rfl (by rfl) (fun K hK => ?_)
              go_simp
              with_reducible refine C1.out.mono ?_
              rintro x wa ⟨ua, rfl, oa, ca, aa⟩
              refine hK _ _ (ca.mono fun _ _ h => by cases h) ?_
              clear hK K
              try simp only [Act.put, List.setIfInBounds_toArray, List.set_cons_zero, List.set_cons_succ]
              rw [List.nil_append] at oa
              have na : New wr.drew wa := (ca.mono fun _ _ h => by cases h)
              have Fb := Lib.hid (fun W (hW : New wa W) => And.intro (FA.out W (na.trans hW fun _ _ => id)) (show (convert 29 9 ua).run Tryz.prog W = .ok (.string ba) W from by have := own_str oa hW; rw [HBA.out] at this; exact this))
              refine grow_take (i := 2) (oi := { dst := some 43, op := Op.convert 29 9 (Operand.tmp 42), type := 9, pos := "ref.go:40", after := #[{ on := 1, ground := Ground.data }], guard := none }) (v := ?_) rfl (by kernel_rfl) (by kernel_rfl) (by kernel_rfl) (by rfl) ?_ ?_; rotate_left; focus ((intro W hW; have fct := Fb.out W hW; go_simp) <;> with_reducible rfl)
              simp only [Act.put, List.setIfInBounds_toArray, List.set_cons_zero, List.set_cons_succ]
              refine grow_take (i := 8) (oi := { dst := some 49, op := Op.binOp BinOp.eql 9 (Operand.tmp 43) (Operand.tmp 48) 9, type := 4, pos := "ref.go:40", after := #[{ on := 2, ground := Ground.data }, { on := 7, ground := Ground.data }], guard := none }) (v := ?_) rfl (by kernel_rfl) (by kernel_rfl) (by kernel_rfl) (by rfl) ?_ ?_; rotate_left; focus ((intro W hW; have fct := Fb.out W hW; go_simp) <;> with_reducible rfl)
              simp only [Act.put, List.setIfInBounds_toArray, List.set_cons_zero, List.set_cons_succ]
              refine grow_done (by kernel_rfl) ?_ _
              go_wp2_with fail
              go_ret2
              exact ⟨by rw [HE.out.1, HE.out.2] <;> rfl, HNW.out.trans na fun _ _ => id⟩
        · have h8 : ¬ i = 8 := by omega
          have h8b : ((i : Int) == 8) = false := by simp; omega
          have hz128 : ¬ (z : Int) < 128 := by omega
          have hW7 : W ≤ 562949953421312 := by rw [HW.out]; exact Nat.le_trans (Nat.pow_le_pow_right (by decide) (show i ≤ 7 by omega)) (by decide)
          obtain ⟨W2, hW2⟩ : ∃ W2, W * 128 = W2 := ⟨_, rfl⟩
          have hw2 : IntKind.i64.wrap ((W : Int) * 128) = (W2 : Int) := by rw [show (W : Int) * 128 = ((W * 128 : Nat) : Int) by rw [Int.natCast_mul]; rfl, hW2]; exact IntWalk.i64_in _ (by omega)
          have hsnoc := snoc_at hch
          have H2 := Lib.hid (show Z = val (l.take (i + 1)) by rw [hsnoc, val_snoc, List.length_take, HLN.out, Nat.min_eq_left (by omega), hz, hd, ← HV.out, ← HW.out, hP, hZ])
          have H3 := Lib.hid (show W2 = 128 ^ (i + 1) by rw [Nat.pow_succ, ← HW.out, hW2])
          have H4 := Lib.hid (show ∀ x ∈ l.take (i + 1), 128 ≤ x.toNat from fun x hx => by
            rw [hsnoc] at hx
            rcases List.mem_append.1 hx with h | h
            · exact HH.out x h
            · rw [List.mem_singleton.1 h]; omega)
          have HNW := Lib.hid hnw
          clear hnw hch hz hP hZ hd hsnoc hW2
          go_wp2_with fail
          go_roundw
          case rel => exact ⟨i + 1, Z, W2, by omega, by omega, rfl, rfl, by go_num, H2, H3, H4, HNW.out⟩
          case measure => simp [intOf]; omega
    · have hr : rtake l = (0, 0) := rtake_none (i := i) (by omega) (by have := HLN.out; omega) HH.out
      rw [HR.out] at hr
      obtain ⟨rfl, rfl⟩ := Prod.mk.inj hr
      have hgi : ¬ ((i : Int) < n) := by omega
      have HNW := Lib.hid hnw
      clear hr hnw
      go_wp2_with fail
      go_ret2
      exact ⟨rfl, HNW.out⟩
end Num
end Go.Proofs.YtkmkpdmjdfbpjaaGreatDoor

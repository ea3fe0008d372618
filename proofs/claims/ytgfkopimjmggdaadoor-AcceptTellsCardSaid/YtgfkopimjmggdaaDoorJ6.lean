/-
  slices.insertionSortCmpFunc and rotateCmpFunc at events (no condition beyond the sizes and what the comparison gives).
-/
import Derived.Test.YtgfkopimjmggdaaDoorJ5
/- slices.insertionSortCmpFunc and rotateCmpFunc at events (no condition beyond the sizes and what the comparison gives). -/
namespace Go.Proofs.YtgfkopimjmggdaaDoor
set_option linter.unusedSimpArgs false
set_option linter.unusedVariables false
open Go.ChangeShapes Go.WideShapes Go.RowKit Go.Deep
namespace Acc
open Evt Vec Num Stable
attribute [local go_sem ↓] Evt.loadDot Evt.loadVec Evt.loadRow0 Evt.storeRow0 Evt.loadOnly0 Evt.loadOnly1 Evt.loadOnly2
/-- the comparison's function value -/
abbrev cmpV : Value := .func (.func 28) #[] #[]
/-- what may be compared -/
abbrev Ok (e : Ev) : Prop := I64 (past e)
def Cmps : Prop := ∀ a b : Ev, Ok a → Ok b → ∀ W, Calls Tryd.prog 28 #[a.val, b.val] W fun x W' => x = .returned (.int .i64 (cmpE a b)) ∧ New W W'
theorem mix_ok {a b : Nat} {es es' : List Ev} (h : Mix a b es es') (hk : ∀ e ∈ es, Ok e) {i : Nat} {x : Ev} (hx : es'[i]? = some x) : Ok x := hk x ((h.perm.mem_iff).1 (List.mem_of_getElem? hx))
set_option maxHeartbeats 8000000 in
set_option maxRecDepth 20000 in
theorem ins_ (hC : Cmps) (w : World) (g n c a b : Nat) (es : List Ev) (sp : List Value) (hr : RowAt w g es sp) (hk : ∀ e ∈ es, Ok e) (hn : es.length = n) (hb : b ≤ n) (hbig : n ≤ 1000000) (ha : a ≤ n) :
    Calls Tryd.prog 45 #[.slice (some ⟨g, 0, none⟩) n c, .int .i64 (a : Int), .int .i64 (b : Int), cmpV] w fun x w' => x = .returned (.tuple #[]) ∧ ∃ es', RowAt w' g es' sp ∧ Mix a b es es' ∧ Srt le a b es' ∧ Chg (fun q => q = g) w w' := by
  have HR := Lib.hid (And.intro hr (And.intro hn (And.intro hk hC)))
  have hw1 : IntKind.i64.wrap ((a : Int) + 1) = (a : Int) + 1 := IntWalk.i64_in _ (by omega)
  clear hr hn hk
  go_enter Tryd.func45, Tryd.ntmps45
  go_wp2_with fail
  go_loopw [8, 9] (fun iv _ wr => ∃ (i : Nat) (es' : List Ev), a + 1 ≤ i ∧ iv = .int .i64 i ∧ i ≤ n + 1 ∧ RowAt wr g es' sp ∧ Mix a b es es' ∧ Srt le a i es' ∧ Chg (fun q => q = g) w wr) (fun iv _ _ => b - (intOf iv).toNat)
  case atStart => exact ⟨a + 1, es, by omega, by go_num, by omega, HR.out.1, Mix.refl _ _ _, Srt.one _ _ _ _ (by omega), Chg.refl _ _⟩
  case round =>
    obtain ⟨i, es', hai, rfl, hin, hrow, hmx, hsrt, hch⟩ := hrel
    by_cases hlt : i < b
    · have hli : (i : Int) < b := by omega
      have hwi : IntKind.i64.wrap ((i : Int) + 1) = (i : Int) + 1 := IntWalk.i64_in _ (by omega)
      have H0 := Lib.hid (And.intro hrow (And.intro hmx (And.intro hsrt hch)))
      clear hrow hmx hsrt hch hw1
      go_wp2_with fail
      generalize wr = wo at *
      go_loopw [9] (fun jv wr => ∃ (j : Nat) (es2 : List Ev), a ≤ j ∧ j ≤ i ∧ jv = .int .i64 j ∧ RowAt wr g es2 sp ∧ Mix a b es es2 ∧ Ins le a i j es2 ∧ Chg (fun q => q = g) w wr) (fun jv _ => (intOf jv).toNat)
      case atStart => exact ⟨i, es', by omega, by omega, rfl, H0.out.1, H0.out.2.1, Ins.start H0.out.2.2.1, H0.out.2.2.2⟩
      case round =>
        obtain ⟨j, es2, haj, hji, rfl, hrow, hmx, hins, hch⟩ := hrel
        have hlen : es2.length = n := by rw [hmx.len, HR.out.2.1]
        by_cases hja : a < j
        · have hjai : (a : Int) < j := by omega
          have hjn : (j : Int) < n := by omega
          obtain ⟨q, hq⟩ : ∃ q, j - 1 = q := ⟨_, rfl⟩
          have hwj : IntKind.i64.wrap ((j : Int) - 1) = (q : Int) := by rw [show (j : Int) - 1 = (q : Int) by omega]; exact IntWalk.i64_in _ (by omega)
          have hqn : (q : Int) < n := by omega
          obtain ⟨x, hx⟩ : ∃ x, es2[j]? = some x := ⟨_, List.getElem?_eq_getElem (by omega)⟩
          obtain ⟨y, hy⟩ : ∃ x, es2[q]? = some x := ⟨_, List.getElem?_eq_getElem (by omega)⟩
          have C := Lib.hid (HR.out.2.2.2 x y (mix_ok hmx HR.out.2.2.1 hx) (mix_ok hmx HR.out.2.2.1 hy) wr.drew)
          obtain ⟨d, hd⟩ : ∃ d, cmpE x y = d := ⟨_, rfl⟩
          rw [hd] at C
          have F := Lib.hid (fun W (hW : New wr.drew W) => And.intro ((hrow.drew.new hW).ld hx) (And.intro ((hrow.drew.new hW).ld hy) (hrow.drew.new hW).lt))
          by_cases hd0 : d < 0
          · have H1 := Lib.hid (And.intro hrow (And.intro hmx (And.intro hins (And.intro hch (And.intro hx (And.intro hy (And.intro hd hlen)))))))
            clear hrow hmx hins hch hx hy hd hlen
            go_wp2_with fail
            refine grow_start (fun _ => False) (by kernel_rfl) ?_
            refine grow_take (i := 0) (oi := { dst := some 18, op := Op.move (Operand.tmp 9), type := 3, pos := "zsortanyfunc.go:12", after := #[], guard := none }) (v := ?_) rfl (by kernel_rfl) (by kernel_rfl) (by kernel_rfl) (by rfl) ?_ ?_; rotate_left; focus ((intro W hW; go_simp) <;> with_reducible rfl)
            simp only [Act.put, List.setIfInBounds_toArray, List.set_cons_zero, List.set_cons_succ]
            refine grow_take (i := 1) (oi := { dst := some 19, op := Op.move (Operand.tmp 1), type := 3, pos := "zsortanyfunc.go:12", after := #[], guard := none }) (v := ?_) rfl (by kernel_rfl) (by kernel_rfl) (by kernel_rfl) (by rfl) ?_ ?_; rotate_left; focus ((intro W hW; go_simp) <;> with_reducible rfl)
            simp only [Act.put, List.setIfInBounds_toArray, List.set_cons_zero, List.set_cons_succ]
            refine grow_take (i := 2) (oi := { dst := some 20, op := Op.binOp BinOp.gtr 3 (Operand.tmp 18) (Operand.tmp 19) 3, type := 4, pos := "zsortanyfunc.go:12", after := #[{ on := 0, ground := Ground.data }, { on := 1, ground := Ground.data }], guard := none }) (v := ?_) rfl (by kernel_rfl) (by kernel_rfl) (by kernel_rfl) (by rfl) ?_ ?_; rotate_left; focus ((intro W hW; have fct := F.out W hW; go_simp) <;> with_reducible rfl)
            simp only [Act.put, List.setIfInBounds_toArray, List.set_cons_zero, List.set_cons_succ]
            refine grow_take (i := 3) (oi := { dst := some 21, op := Op.move (Operand.tmp 20), type := 4, pos := "zsortanyfunc.go:12", after := #[{ on := 2, ground := Ground.data }], guard := none }) (v := ?_) rfl (by kernel_rfl) (by kernel_rfl) (by kernel_rfl) (by rfl) ?_ ?_; rotate_left; focus ((intro W hW; go_simp) <;> with_reducible rfl)
            simp only [Act.put, List.setIfInBounds_toArray, List.set_cons_zero, List.set_cons_succ]
            first | (refine grow_take (i := 4) (oi := { dst := some 22, op := Op.move (Operand.tmp 3), type := 53, pos := "zsortanyfunc.go:12", after := #[{ on := 3, ground := Ground.guard }], guard := some (3, true) }) (v := ?_) rfl (by kernel_rfl) (by kernel_rfl) (by kernel_rfl) (by rfl) ?_ ?_; rotate_left; focus ((intro W hW; go_simp) <;> with_reducible rfl)) | refine grow_skip (i := 4) (oi := { dst := some 22, op := Op.move (Operand.tmp 3), type := 53, pos := "zsortanyfunc.go:12", after := #[{ on := 3, ground := Ground.guard }], guard := some (3, true) }) rfl (by kernel_rfl) (by kernel_rfl) (by kernel_rfl) (by rfl) ?_ | fail "op 4"
            simp only [Act.put, List.setIfInBounds_toArray, List.set_cons_zero, List.set_cons_succ]
            first | (refine grow_take (i := 5) (oi := { dst := some 23, op := Op.move (Operand.tmp 0), type := 24, pos := "zsortanyfunc.go:12", after := #[{ on := 3, ground := Ground.guard }], guard := some (3, true) }) (v := ?_) rfl (by kernel_rfl) (by kernel_rfl) (by kernel_rfl) (by rfl) ?_ ?_; rotate_left; focus ((intro W hW; go_simp) <;> with_reducible rfl)) | refine grow_skip (i := 5) (oi := { dst := some 23, op := Op.move (Operand.tmp 0), type := 24, pos := "zsortanyfunc.go:12", after := #[{ on := 3, ground := Ground.guard }], guard := some (3, true) }) rfl (by kernel_rfl) (by kernel_rfl) (by kernel_rfl) (by rfl) ?_ | fail "op 5"
            simp only [Act.put, List.setIfInBounds_toArray, List.set_cons_zero, List.set_cons_succ]
            first | (refine grow_take (i := 6) (oi := { dst := some 24, op := Op.move (Operand.tmp 9), type := 3, pos := "zsortanyfunc.go:12", after := #[{ on := 3, ground := Ground.guard }], guard := some (3, true) }) (v := ?_) rfl (by kernel_rfl) (by kernel_rfl) (by kernel_rfl) (by rfl) ?_ ?_; rotate_left; focus ((intro W hW; go_simp) <;> with_reducible rfl)) | refine grow_skip (i := 6) (oi := { dst := some 24, op := Op.move (Operand.tmp 9), type := 3, pos := "zsortanyfunc.go:12", after := #[{ on := 3, ground := Ground.guard }], guard := some (3, true) }) rfl (by kernel_rfl) (by kernel_rfl) (by kernel_rfl) (by rfl) ?_ | fail "op 6"
            simp only [Act.put, List.setIfInBounds_toArray, List.set_cons_zero, List.set_cons_succ]
            first | (refine grow_take (i := 7) (oi := { dst := some 25, op := Op.indexAddr 24 (Operand.tmp 23) (Operand.tmp 24), type := 0, pos := "zsortanyfunc.go:12", after := #[{ on := 5, ground := Ground.data }, { on := 6, ground := Ground.data }, { on := 3, ground := Ground.guard }], guard := some (3, true) }) (v := ?_) rfl (by kernel_rfl) (by kernel_rfl) (by kernel_rfl) (by rfl) ?_ ?_; rotate_left; focus ((intro W hW; have fct := F.out W hW; go_simp) <;> with_reducible rfl)) | refine grow_skip (i := 7) (oi := { dst := some 25, op := Op.indexAddr 24 (Operand.tmp 23) (Operand.tmp 24), type := 0, pos := "zsortanyfunc.go:12", after := #[{ on := 5, ground := Ground.data }, { on := 6, ground := Ground.data }, { on := 3, ground := Ground.guard }], guard := some (3, true) }) rfl (by kernel_rfl) (by kernel_rfl) (by kernel_rfl) (by rfl) ?_ | fail "op 7"
            simp only [Act.put, List.setIfInBounds_toArray, List.set_cons_zero, List.set_cons_succ]
            first | (refine grow_take (i := 8) (oi := { dst := some 26, op := Op.load 35 (Operand.tmp 25), type := 35, pos := "zsortanyfunc.go:12", after := #[{ on := 7, ground := Ground.data }, { on := 3, ground := Ground.guard }], guard := some (3, true) }) (v := ?_) rfl (by kernel_rfl) (by kernel_rfl) (by kernel_rfl) (by rfl) ?_ ?_; rotate_left; focus ((intro W hW; have fct := F.out W hW; go_simp) <;> with_reducible rfl)) | refine grow_skip (i := 8) (oi := { dst := some 26, op := Op.load 35 (Operand.tmp 25), type := 35, pos := "zsortanyfunc.go:12", after := #[{ on := 7, ground := Ground.data }, { on := 3, ground := Ground.guard }], guard := some (3, true) }) rfl (by kernel_rfl) (by kernel_rfl) (by kernel_rfl) (by rfl) ?_ | fail "op 8"
            simp only [Act.put, List.setIfInBounds_toArray, List.set_cons_zero, List.set_cons_succ]
            first | (refine grow_take (i := 9) (oi := { dst := some 27, op := Op.move (Operand.tmp 0), type := 24, pos := "zsortanyfunc.go:12", after := #[{ on := 3, ground := Ground.guard }], guard := some (3, true) }) (v := ?_) rfl (by kernel_rfl) (by kernel_rfl) (by kernel_rfl) (by rfl) ?_ ?_; rotate_left; focus ((intro W hW; go_simp) <;> with_reducible rfl)) | refine grow_skip (i := 9) (oi := { dst := some 27, op := Op.move (Operand.tmp 0), type := 24, pos := "zsortanyfunc.go:12", after := #[{ on := 3, ground := Ground.guard }], guard := some (3, true) }) rfl (by kernel_rfl) (by kernel_rfl) (by kernel_rfl) (by rfl) ?_ | fail "op 9"
            simp only [Act.put, List.setIfInBounds_toArray, List.set_cons_zero, List.set_cons_succ]
            first | (refine grow_take (i := 10) (oi := { dst := some 28, op := Op.move (Operand.tmp 9), type := 3, pos := "zsortanyfunc.go:12", after := #[{ on := 3, ground := Ground.guard }], guard := some (3, true) }) (v := ?_) rfl (by kernel_rfl) (by kernel_rfl) (by kernel_rfl) (by rfl) ?_ ?_; rotate_left; focus ((intro W hW; go_simp) <;> with_reducible rfl)) | refine grow_skip (i := 10) (oi := { dst := some 28, op := Op.move (Operand.tmp 9), type := 3, pos := "zsortanyfunc.go:12", after := #[{ on := 3, ground := Ground.guard }], guard := some (3, true) }) rfl (by kernel_rfl) (by kernel_rfl) (by kernel_rfl) (by rfl) ?_ | fail "op 10"
            simp only [Act.put, List.setIfInBounds_toArray, List.set_cons_zero, List.set_cons_succ]
            first | (refine grow_take (i := 11) (oi := { dst := some 29, op := Op.binOp BinOp.sub 3 (Operand.tmp 28) (Operand.const (Value.int IntKind.i64 1)) 3, type := 3, pos := "zsortanyfunc.go:12", after := #[{ on := 10, ground := Ground.data }, { on := 3, ground := Ground.guard }], guard := some (3, true) }) (v := ?_) rfl (by kernel_rfl) (by kernel_rfl) (by kernel_rfl) (by rfl) ?_ ?_; rotate_left; focus ((intro W hW; have fct := F.out W hW; go_simp) <;> with_reducible rfl)) | refine grow_skip (i := 11) (oi := { dst := some 29, op := Op.binOp BinOp.sub 3 (Operand.tmp 28) (Operand.const (Value.int IntKind.i64 1)) 3, type := 3, pos := "zsortanyfunc.go:12", after := #[{ on := 10, ground := Ground.data }, { on := 3, ground := Ground.guard }], guard := some (3, true) }) rfl (by kernel_rfl) (by kernel_rfl) (by kernel_rfl) (by rfl) ?_ | fail "op 11"
            simp only [Act.put, List.setIfInBounds_toArray, List.set_cons_zero, List.set_cons_succ]
            first | (refine grow_take (i := 12) (oi := { dst := some 30, op := Op.indexAddr 24 (Operand.tmp 27) (Operand.tmp 29), type := 0, pos := "zsortanyfunc.go:12", after := #[{ on := 9, ground := Ground.data }, { on := 11, ground := Ground.data }, { on := 3, ground := Ground.guard }], guard := some (3, true) }) (v := ?_) rfl (by kernel_rfl) (by kernel_rfl) (by kernel_rfl) (by rfl) ?_ ?_; rotate_left; focus ((intro W hW; have fct := F.out W hW; go_simp) <;> with_reducible rfl)) | refine grow_skip (i := 12) (oi := { dst := some 30, op := Op.indexAddr 24 (Operand.tmp 27) (Operand.tmp 29), type := 0, pos := "zsortanyfunc.go:12", after := #[{ on := 9, ground := Ground.data }, { on := 11, ground := Ground.data }, { on := 3, ground := Ground.guard }], guard := some (3, true) }) rfl (by kernel_rfl) (by kernel_rfl) (by kernel_rfl) (by rfl) ?_ | fail "op 12"
            simp only [Act.put, List.setIfInBounds_toArray, List.set_cons_zero, List.set_cons_succ]
            first | (refine grow_take (i := 13) (oi := { dst := some 31, op := Op.load 35 (Operand.tmp 30), type := 35, pos := "zsortanyfunc.go:12", after := #[{ on := 12, ground := Ground.data }, { on := 3, ground := Ground.guard }], guard := some (3, true) }) (v := ?_) rfl (by kernel_rfl) (by kernel_rfl) (by kernel_rfl) (by rfl) ?_ ?_; rotate_left; focus ((intro W hW; have fct := F.out W hW; go_simp) <;> with_reducible rfl)) | refine grow_skip (i := 13) (oi := { dst := some 31, op := Op.load 35 (Operand.tmp 30), type := 35, pos := "zsortanyfunc.go:12", after := #[{ on := 12, ground := Ground.data }, { on := 3, ground := Ground.guard }], guard := some (3, true) }) rfl (by kernel_rfl) (by kernel_rfl) (by kernel_rfl) (by rfl) ?_ | fail "op 13"
            simp only [Act.put, List.setIfInBounds_toArray, List.set_cons_zero, List.set_cons_succ]
            refine grow_next (i := 14) (oi := { dst := some 32, op := Op.call { callee := Callee.value (Operand.tmp 22), args := #[Operand.tmp 26, Operand.tmp 31], argTypes := #[35, 35] }, type := 3, pos := "zsortanyfunc.go:12", after := #[{ on := 4, ground := Ground.data }, { on := 8, ground := Ground.data }, { on := 13, ground := Ground.data }, { on := 3, ground := Ground.chain }, { on := 3, ground := Ground.guard }], guard := some (3, true) }) (by kernel_rfl) rfl (by rfl) (fun K hK => ?_)
            go_simp
            with_reducible refine C.out.mono ?_
            rintro z wa ⟨rfl, na⟩
            refine hK _ _ na ?_
            clear hK K
            try simp only [Act.put, List.setIfInBounds_toArray, List.set_cons_zero, List.set_cons_succ]
            have HN := Lib.hid na
            clear na
            first | (refine grow_take (i := 15) (oi := { dst := some 33, op := Op.binOp BinOp.lss 3 (Operand.tmp 32) (Operand.const (Value.int IntKind.i64 0)) 3, type := 4, pos := "zsortanyfunc.go:12", after := #[{ on := 14, ground := Ground.data }, { on := 3, ground := Ground.guard }], guard := some (3, true) }) (v := ?_) rfl (by kernel_rfl) (by kernel_rfl) (by kernel_rfl) (by rfl) ?_ ?_; rotate_left; focus ((intro W hW; have fct := (fun (W : World) (_ : New wa W) => True.intro) W hW; go_simp) <;> with_reducible rfl)) | refine grow_skip (i := 15) (oi := { dst := some 33, op := Op.binOp BinOp.lss 3 (Operand.tmp 32) (Operand.const (Value.int IntKind.i64 0)) 3, type := 4, pos := "zsortanyfunc.go:12", after := #[{ on := 14, ground := Ground.data }, { on := 3, ground := Ground.guard }], guard := some (3, true) }) rfl (by kernel_rfl) (by kernel_rfl) (by kernel_rfl) (by rfl) ?_ | fail "op 15"
            simp only [Act.put, List.setIfInBounds_toArray, List.set_cons_zero, List.set_cons_succ]
            refine grow_take (i := 16) (oi := { dst := some 34, op := Op.pick (Operand.tmp 21) (Operand.tmp 33) (Operand.const (Value.bool false)), type := 4, pos := "zsortanyfunc.go:12", after := #[{ on := 3, ground := Ground.data }, { on := 15, ground := Ground.data }], guard := none }) (v := ?_) rfl (by kernel_rfl) (by kernel_rfl) (by kernel_rfl) (by rfl) ?_ ?_; rotate_left; focus ((intro W hW; go_simp) <;> with_reducible rfl)
            simp only [Act.put, List.setIfInBounds_toArray, List.set_cons_zero, List.set_cons_succ]
            refine grow_done (by kernel_rfl) ?_ _
            have hrow := H1.out.1.drew.new HN.out
            have lx := hrow.drew.ld H1.out.2.2.2.2.1
            have ly := hrow.drew.ld H1.out.2.2.2.2.2.1
            have gl := hrow.drew.lt
            obtain ⟨W, V, s1, s2, hrV, hcV, gW, hsz⟩ := hrow.drew.swap H1.out.2.2.2.2.1 H1.out.2.2.2.2.2.1
            have HE := Lib.hid (show RowAt V g (Stable.swap es2 j q) sp ∧ Mix a b es (Stable.swap es2 j q) ∧ Ins le a i q (Stable.swap es2 j q) ∧ Chg (fun q => q = g) w V from
              ⟨hrV, H1.out.2.1.trans (swap_mix (by have := H1.out.2.2.2.2.2.2.2; omega) (by have := H1.out.2.2.2.2.2.2.2; omega) (by omega) (by omega) (by omega) (by omega)), by
                subst hq
                exact H1.out.2.2.1.step hja (by have := H1.out.2.2.2.2.2.2.2; omega) fun u v hu hv => by
                  rw [H1.out.2.2.2.2.2.1] at hu
                  rw [H1.out.2.2.2.2.1] at hv
                  injection hu with hu
                  injection hv with hv
                  subst hu hv
                  exact lt_le (by rw [H1.out.2.2.2.2.2.2.1]; exact hd0), (H1.out.2.2.2.1.drew.trans (HN.out.to _) fun _ _ => id).drew.trans hcV fun _ _ => id⟩)
            clear hrow hrV hcV
            go_wp2_with fail
            go_region
            go_wp2_with fail
            go_roundw
            case rel => exact ⟨q, _, by omega, by omega, by go_num, HE.out⟩
            case measure => simp [intOf]; omega
          · have HE := Lib.hid (show Srt le a (i + 1) es2 from hins.ends le_trans' (by omega) haj fun _ u v hu hv => by
              rw [hq, hy] at hu
              rw [hx] at hv
              injection hu with hu
              injection hv with hv
              subst hu hv
              exact not_lt_le (by rw [hd]; exact hd0))
            have H1 := Lib.hid (And.intro hrow (And.intro hmx hch))
            clear hrow hmx hins hch hx hy hd hlen
            go_wp2_with fail
            refine grow_start (fun _ => False) (by kernel_rfl) ?_
            refine grow_take (i := 0) (oi := { dst := some 18, op := Op.move (Operand.tmp 9), type := 3, pos := "zsortanyfunc.go:12", after := #[], guard := none }) (v := ?_) rfl (by kernel_rfl) (by kernel_rfl) (by kernel_rfl) (by rfl) ?_ ?_; rotate_left; focus ((intro W hW; go_simp) <;> with_reducible rfl)
            simp only [Act.put, List.setIfInBounds_toArray, List.set_cons_zero, List.set_cons_succ]
            refine grow_take (i := 1) (oi := { dst := some 19, op := Op.move (Operand.tmp 1), type := 3, pos := "zsortanyfunc.go:12", after := #[], guard := none }) (v := ?_) rfl (by kernel_rfl) (by kernel_rfl) (by kernel_rfl) (by rfl) ?_ ?_; rotate_left; focus ((intro W hW; go_simp) <;> with_reducible rfl)
            simp only [Act.put, List.setIfInBounds_toArray, List.set_cons_zero, List.set_cons_succ]
            refine grow_take (i := 2) (oi := { dst := some 20, op := Op.binOp BinOp.gtr 3 (Operand.tmp 18) (Operand.tmp 19) 3, type := 4, pos := "zsortanyfunc.go:12", after := #[{ on := 0, ground := Ground.data }, { on := 1, ground := Ground.data }], guard := none }) (v := ?_) rfl (by kernel_rfl) (by kernel_rfl) (by kernel_rfl) (by rfl) ?_ ?_; rotate_left; focus ((intro W hW; have fct := F.out W hW; go_simp) <;> with_reducible rfl)
            simp only [Act.put, List.setIfInBounds_toArray, List.set_cons_zero, List.set_cons_succ]
            refine grow_take (i := 3) (oi := { dst := some 21, op := Op.move (Operand.tmp 20), type := 4, pos := "zsortanyfunc.go:12", after := #[{ on := 2, ground := Ground.data }], guard := none }) (v := ?_) rfl (by kernel_rfl) (by kernel_rfl) (by kernel_rfl) (by rfl) ?_ ?_; rotate_left; focus ((intro W hW; go_simp) <;> with_reducible rfl)
            simp only [Act.put, List.setIfInBounds_toArray, List.set_cons_zero, List.set_cons_succ]
            first | (refine grow_take (i := 4) (oi := { dst := some 22, op := Op.move (Operand.tmp 3), type := 53, pos := "zsortanyfunc.go:12", after := #[{ on := 3, ground := Ground.guard }], guard := some (3, true) }) (v := ?_) rfl (by kernel_rfl) (by kernel_rfl) (by kernel_rfl) (by rfl) ?_ ?_; rotate_left; focus ((intro W hW; go_simp) <;> with_reducible rfl)) | refine grow_skip (i := 4) (oi := { dst := some 22, op := Op.move (Operand.tmp 3), type := 53, pos := "zsortanyfunc.go:12", after := #[{ on := 3, ground := Ground.guard }], guard := some (3, true) }) rfl (by kernel_rfl) (by kernel_rfl) (by kernel_rfl) (by rfl) ?_ | fail "op 4"
            simp only [Act.put, List.setIfInBounds_toArray, List.set_cons_zero, List.set_cons_succ]
            first | (refine grow_take (i := 5) (oi := { dst := some 23, op := Op.move (Operand.tmp 0), type := 24, pos := "zsortanyfunc.go:12", after := #[{ on := 3, ground := Ground.guard }], guard := some (3, true) }) (v := ?_) rfl (by kernel_rfl) (by kernel_rfl) (by kernel_rfl) (by rfl) ?_ ?_; rotate_left; focus ((intro W hW; go_simp) <;> with_reducible rfl)) | refine grow_skip (i := 5) (oi := { dst := some 23, op := Op.move (Operand.tmp 0), type := 24, pos := "zsortanyfunc.go:12", after := #[{ on := 3, ground := Ground.guard }], guard := some (3, true) }) rfl (by kernel_rfl) (by kernel_rfl) (by kernel_rfl) (by rfl) ?_ | fail "op 5"
            simp only [Act.put, List.setIfInBounds_toArray, List.set_cons_zero, List.set_cons_succ]
            first | (refine grow_take (i := 6) (oi := { dst := some 24, op := Op.move (Operand.tmp 9), type := 3, pos := "zsortanyfunc.go:12", after := #[{ on := 3, ground := Ground.guard }], guard := some (3, true) }) (v := ?_) rfl (by kernel_rfl) (by kernel_rfl) (by kernel_rfl) (by rfl) ?_ ?_; rotate_left; focus ((intro W hW; go_simp) <;> with_reducible rfl)) | refine grow_skip (i := 6) (oi := { dst := some 24, op := Op.move (Operand.tmp 9), type := 3, pos := "zsortanyfunc.go:12", after := #[{ on := 3, ground := Ground.guard }], guard := some (3, true) }) rfl (by kernel_rfl) (by kernel_rfl) (by kernel_rfl) (by rfl) ?_ | fail "op 6"
            simp only [Act.put, List.setIfInBounds_toArray, List.set_cons_zero, List.set_cons_succ]
            first | (refine grow_take (i := 7) (oi := { dst := some 25, op := Op.indexAddr 24 (Operand.tmp 23) (Operand.tmp 24), type := 0, pos := "zsortanyfunc.go:12", after := #[{ on := 5, ground := Ground.data }, { on := 6, ground := Ground.data }, { on := 3, ground := Ground.guard }], guard := some (3, true) }) (v := ?_) rfl (by kernel_rfl) (by kernel_rfl) (by kernel_rfl) (by rfl) ?_ ?_; rotate_left; focus ((intro W hW; have fct := F.out W hW; go_simp) <;> with_reducible rfl)) | refine grow_skip (i := 7) (oi := { dst := some 25, op := Op.indexAddr 24 (Operand.tmp 23) (Operand.tmp 24), type := 0, pos := "zsortanyfunc.go:12", after := #[{ on := 5, ground := Ground.data }, { on := 6, ground := Ground.data }, { on := 3, ground := Ground.guard }], guard := some (3, true) }) rfl (by kernel_rfl) (by kernel_rfl) (by kernel_rfl) (by rfl) ?_ | fail "op 7"
            simp only [Act.put, List.setIfInBounds_toArray, List.set_cons_zero, List.set_cons_succ]
            first | (refine grow_take (i := 8) (oi := { dst := some 26, op := Op.load 35 (Operand.tmp 25), type := 35, pos := "zsortanyfunc.go:12", after := #[{ on := 7, ground := Ground.data }, { on := 3, ground := Ground.guard }], guard := some (3, true) }) (v := ?_) rfl (by kernel_rfl) (by kernel_rfl) (by kernel_rfl) (by rfl) ?_ ?_; rotate_left; focus ((intro W hW; have fct := F.out W hW; go_simp) <;> with_reducible rfl)) | refine grow_skip (i := 8) (oi := { dst := some 26, op := Op.load 35 (Operand.tmp 25), type := 35, pos := "zsortanyfunc.go:12", after := #[{ on := 7, ground := Ground.data }, { on := 3, ground := Ground.guard }], guard := some (3, true) }) rfl (by kernel_rfl) (by kernel_rfl) (by kernel_rfl) (by rfl) ?_ | fail "op 8"
            simp only [Act.put, List.setIfInBounds_toArray, List.set_cons_zero, List.set_cons_succ]
            first | (refine grow_take (i := 9) (oi := { dst := some 27, op := Op.move (Operand.tmp 0), type := 24, pos := "zsortanyfunc.go:12", after := #[{ on := 3, ground := Ground.guard }], guard := some (3, true) }) (v := ?_) rfl (by kernel_rfl) (by kernel_rfl) (by kernel_rfl) (by rfl) ?_ ?_; rotate_left; focus ((intro W hW; go_simp) <;> with_reducible rfl)) | refine grow_skip (i := 9) (oi := { dst := some 27, op := Op.move (Operand.tmp 0), type := 24, pos := "zsortanyfunc.go:12", after := #[{ on := 3, ground := Ground.guard }], guard := some (3, true) }) rfl (by kernel_rfl) (by kernel_rfl) (by kernel_rfl) (by rfl) ?_ | fail "op 9"
            simp only [Act.put, List.setIfInBounds_toArray, List.set_cons_zero, List.set_cons_succ]
            first | (refine grow_take (i := 10) (oi := { dst := some 28, op := Op.move (Operand.tmp 9), type := 3, pos := "zsortanyfunc.go:12", after := #[{ on := 3, ground := Ground.guard }], guard := some (3, true) }) (v := ?_) rfl (by kernel_rfl) (by kernel_rfl) (by kernel_rfl) (by rfl) ?_ ?_; rotate_left; focus ((intro W hW; go_simp) <;> with_reducible rfl)) | refine grow_skip (i := 10) (oi := { dst := some 28, op := Op.move (Operand.tmp 9), type := 3, pos := "zsortanyfunc.go:12", after := #[{ on := 3, ground := Ground.guard }], guard := some (3, true) }) rfl (by kernel_rfl) (by kernel_rfl) (by kernel_rfl) (by rfl) ?_ | fail "op 10"
            simp only [Act.put, List.setIfInBounds_toArray, List.set_cons_zero, List.set_cons_succ]
            first | (refine grow_take (i := 11) (oi := { dst := some 29, op := Op.binOp BinOp.sub 3 (Operand.tmp 28) (Operand.const (Value.int IntKind.i64 1)) 3, type := 3, pos := "zsortanyfunc.go:12", after := #[{ on := 10, ground := Ground.data }, { on := 3, ground := Ground.guard }], guard := some (3, true) }) (v := ?_) rfl (by kernel_rfl) (by kernel_rfl) (by kernel_rfl) (by rfl) ?_ ?_; rotate_left; focus ((intro W hW; have fct := F.out W hW; go_simp) <;> with_reducible rfl)) | refine grow_skip (i := 11) (oi := { dst := some 29, op := Op.binOp BinOp.sub 3 (Operand.tmp 28) (Operand.const (Value.int IntKind.i64 1)) 3, type := 3, pos := "zsortanyfunc.go:12", after := #[{ on := 10, ground := Ground.data }, { on := 3, ground := Ground.guard }], guard := some (3, true) }) rfl (by kernel_rfl) (by kernel_rfl) (by kernel_rfl) (by rfl) ?_ | fail "op 11"
            simp only [Act.put, List.setIfInBounds_toArray, List.set_cons_zero, List.set_cons_succ]
            first | (refine grow_take (i := 12) (oi := { dst := some 30, op := Op.indexAddr 24 (Operand.tmp 27) (Operand.tmp 29), type := 0, pos := "zsortanyfunc.go:12", after := #[{ on := 9, ground := Ground.data }, { on := 11, ground := Ground.data }, { on := 3, ground := Ground.guard }], guard := some (3, true) }) (v := ?_) rfl (by kernel_rfl) (by kernel_rfl) (by kernel_rfl) (by rfl) ?_ ?_; rotate_left; focus ((intro W hW; have fct := F.out W hW; go_simp) <;> with_reducible rfl)) | refine grow_skip (i := 12) (oi := { dst := some 30, op := Op.indexAddr 24 (Operand.tmp 27) (Operand.tmp 29), type := 0, pos := "zsortanyfunc.go:12", after := #[{ on := 9, ground := Ground.data }, { on := 11, ground := Ground.data }, { on := 3, ground := Ground.guard }], guard := some (3, true) }) rfl (by kernel_rfl) (by kernel_rfl) (by kernel_rfl) (by rfl) ?_ | fail "op 12"
            simp only [Act.put, List.setIfInBounds_toArray, List.set_cons_zero, List.set_cons_succ]
            first | (refine grow_take (i := 13) (oi := { dst := some 31, op := Op.load 35 (Operand.tmp 30), type := 35, pos := "zsortanyfunc.go:12", after := #[{ on := 12, ground := Ground.data }, { on := 3, ground := Ground.guard }], guard := some (3, true) }) (v := ?_) rfl (by kernel_rfl) (by kernel_rfl) (by kernel_rfl) (by rfl) ?_ ?_; rotate_left; focus ((intro W hW; have fct := F.out W hW; go_simp) <;> with_reducible rfl)) | refine grow_skip (i := 13) (oi := { dst := some 31, op := Op.load 35 (Operand.tmp 30), type := 35, pos := "zsortanyfunc.go:12", after := #[{ on := 12, ground := Ground.data }, { on := 3, ground := Ground.guard }], guard := some (3, true) }) rfl (by kernel_rfl) (by kernel_rfl) (by kernel_rfl) (by rfl) ?_ | fail "op 13"
            simp only [Act.put, List.setIfInBounds_toArray, List.set_cons_zero, List.set_cons_succ]
            refine grow_next (i := 14) (oi := { dst := some 32, op := Op.call { callee := Callee.value (Operand.tmp 22), args := #[Operand.tmp 26, Operand.tmp 31], argTypes := #[35, 35] }, type := 3, pos := "zsortanyfunc.go:12", after := #[{ on := 4, ground := Ground.data }, { on := 8, ground := Ground.data }, { on := 13, ground := Ground.data }, { on := 3, ground := Ground.chain }, { on := 3, ground := Ground.guard }], guard := some (3, true) }) (by kernel_rfl) rfl (by rfl) (fun K hK => ?_)
            go_simp
            with_reducible refine C.out.mono ?_
            rintro z wa ⟨rfl, na⟩
            refine hK _ _ na ?_
            clear hK K
            try simp only [Act.put, List.setIfInBounds_toArray, List.set_cons_zero, List.set_cons_succ]
            have HN := Lib.hid na
            clear na
            first | (refine grow_take (i := 15) (oi := { dst := some 33, op := Op.binOp BinOp.lss 3 (Operand.tmp 32) (Operand.const (Value.int IntKind.i64 0)) 3, type := 4, pos := "zsortanyfunc.go:12", after := #[{ on := 14, ground := Ground.data }, { on := 3, ground := Ground.guard }], guard := some (3, true) }) (v := ?_) rfl (by kernel_rfl) (by kernel_rfl) (by kernel_rfl) (by rfl) ?_ ?_; rotate_left; focus ((intro W hW; have fct := (fun (W : World) (_ : New wa W) => True.intro) W hW; go_simp) <;> with_reducible rfl)) | refine grow_skip (i := 15) (oi := { dst := some 33, op := Op.binOp BinOp.lss 3 (Operand.tmp 32) (Operand.const (Value.int IntKind.i64 0)) 3, type := 4, pos := "zsortanyfunc.go:12", after := #[{ on := 14, ground := Ground.data }, { on := 3, ground := Ground.guard }], guard := some (3, true) }) rfl (by kernel_rfl) (by kernel_rfl) (by kernel_rfl) (by rfl) ?_ | fail "op 15"
            simp only [Act.put, List.setIfInBounds_toArray, List.set_cons_zero, List.set_cons_succ]
            refine grow_take (i := 16) (oi := { dst := some 34, op := Op.pick (Operand.tmp 21) (Operand.tmp 33) (Operand.const (Value.bool false)), type := 4, pos := "zsortanyfunc.go:12", after := #[{ on := 3, ground := Ground.data }, { on := 15, ground := Ground.data }], guard := none }) (v := ?_) rfl (by kernel_rfl) (by kernel_rfl) (by kernel_rfl) (by rfl) ?_ ?_; rotate_left; focus ((intro W hW; go_simp) <;> with_reducible rfl)
            simp only [Act.put, List.setIfInBounds_toArray, List.set_cons_zero, List.set_cons_succ]
            refine grow_done (by kernel_rfl) ?_ _
            go_wp2_with fail
            go_roundw
            case rel => exact ⟨i + 1, es2, by omega, by go_num, by omega, H1.out.1.drew.new HN.out, H1.out.2.1, HE.out, H1.out.2.2.drew.trans (HN.out.to _) fun _ _ => id⟩
            case measure => simp [intOf]; omega
        · have hjai : ¬ (a : Int) < j := by omega
          have HE := Lib.hid (show Srt le a (i + 1) es2 from hins.ends le_trans' (by omega) haj fun h => by omega)
          have H1 := Lib.hid (And.intro hrow (And.intro hmx hch))
          clear hrow hmx hins hch hlen
          go_wp2_with fail
          go_quiet (fail)
          go_wp2_with fail
          go_roundw
          case rel => exact ⟨i + 1, es2, by omega, by go_num, by omega, Blk.drewN H1.out.1 _, H1.out.2.1, HE.out, H1.out.2.2.drewN _⟩
          case measure => simp [intOf]; omega
    · have hgi : ¬ (i : Int) < b := by omega
      have HE := Lib.hid (show ∃ es', RowAt wr g es' sp ∧ Mix a b es es' ∧ Srt le a b es' ∧ Chg (fun q => q = g) w wr from ⟨es', hrow, hmx, hsrt.mono (Nat.le_refl _) (by omega), hch⟩)
      clear hrow hmx hsrt hch
      go_wp2_with fail
      go_end0
      exact ⟨rfl, HE.out⟩
set_option maxHeartbeats 4000000 in
set_option maxRecDepth 20000 in
theorem rot_ (w : World) (g n c a m b : Nat) (es : List Ev) (sp : List Value) (K : Value) (hr : RowAt w g es sp) (hn : es.length = n) (ham : a < m) (hmb : m < b) (hb : b ≤ n) (hbig : n ≤ 1000000) :
    Calls Tryd.prog 54 #[.slice (some ⟨g, 0, none⟩) n c, .int .i64 (a : Int), .int .i64 (m : Int), .int .i64 (b : Int), K] w fun x w' => x = .returned (.tuple #[]) ∧ ∃ es', RowAt w' g es' sp ∧ RotR a m b es es' ∧ Mix a b es es' ∧ Chg (fun q => q = g) w w' := by
  have HR := Lib.hid (And.intro hr hn)
  obtain ⟨i0, hi0⟩ : ∃ i, m - a = i := ⟨_, rfl⟩
  obtain ⟨j0, hj0⟩ : ∃ i, b - m = i := ⟨_, rfl⟩
  have hw1 : IntKind.i64.wrap ((m : Int) - (a : Int)) = (i0 : Int) := by rw [show (m : Int) - (a : Int) = (i0 : Int) by omega]; exact IntWalk.i64_in _ (by omega)
  have hw2 : IntKind.i64.wrap ((b : Int) - (m : Int)) = (j0 : Int) := by rw [show (b : Int) - (m : Int) = (j0 : Int) by omega]; exact IntWalk.i64_in _ (by omega)
  clear hr hn
  go_enter Tryd.func54, Tryd.ntmps54
  go_wp2_with fail
  go_loopw [10, 11] (fun iv jv wr => ∃ (i j : Nat) (es' : List Ev), 0 < i ∧ 0 < j ∧ i ≤ i0 ∧ j ≤ j0 ∧ iv = .int .i64 i ∧ jv = .int .i64 j ∧ RowAt wr g es' sp ∧ Hid (∀ zs, RotR (m - i) m (m + j) es' zs → RotR a m b es zs) ∧ Mix a b es es' ∧ Chg (fun q => q = g) w wr) (fun iv jv _ => (intOf iv).toNat + (intOf jv).toNat)
  case atStart => exact ⟨i0, j0, es, by omega, by omega, by omega, by omega, by go_num, by go_num, HR.out.1, Lib.hid (fun zs h => by rw [show m - i0 = a by omega, show m + j0 = b by omega] at h; exact h), Mix.refl _ _ _, Chg.refl _ _⟩
  case round =>
    obtain ⟨i, j, es', hi0', hj0', hii, hjj, rfl, rfl, hrow, HT, hmx, hch⟩ := hrel
    have hlen : es'.length = n := by rw [hmx.len, HR.out.2]
    obtain ⟨p, hp⟩ : ∃ p, m - i = p := ⟨_, rfl⟩
    have hwp : IntKind.i64.wrap ((m : Int) - (i : Int)) = (p : Int) := by rw [show (m : Int) - (i : Int) = (p : Int) by omega]; exact IntWalk.i64_in _ (by omega)
    clear hw1 hw2
    rcases Nat.lt_trichotomy i j with hij | hij | hij
    · obtain ⟨q, hq⟩ : ∃ p, m + j - i = p := ⟨_, rfl⟩
      have hwq1 : IntKind.i64.wrap ((m : Int) + (j : Int)) = (m : Int) + (j : Int) := IntWalk.i64_in _ (by omega)
      have hwq : IntKind.i64.wrap ((m : Int) + (j : Int) - (i : Int)) = (q : Int) := by rw [show (m : Int) + (j : Int) - (i : Int) = (q : Int) by omega]; exact IntWalk.i64_in _ (by omega)
      obtain ⟨j2, hj2⟩ : ∃ p, j - i = p := ⟨_, rfl⟩
      have hwj : IntKind.i64.wrap ((j : Int) - (i : Int)) = (j2 : Int) := by rw [show (j : Int) - (i : Int) = (j2 : Int) by omega]; exact IntWalk.i64_in _ (by omega)
      have hne : ((i : Int) != (j : Int)) = true := by simp; omega
      have hgt : ¬ (j : Int) < (i : Int) := by omega
      have C := Lib.hid (swapR_ wr g n c p q i es' sp K hrow hlen (by omega) (by omega) hbig)
      have H1 := Lib.hid (And.intro hmx hch)
      clear hrow hmx hch hlen
      go_wp2_with fail
      with_reducible refine C.out.mono ?_
      rintro x w2 ⟨rfl, es2, r2, sw2, m2, c2⟩
      have HE := Lib.hid (show RowAt w2 g es2 sp ∧ (∀ zs, RotR (m - i) m (m + j2) es2 zs → RotR a m b es zs) ∧ Mix a b es es2 ∧ Chg (fun q => q = g) w w2 from
        ⟨r2, fun zs h => HT.out zs (by subst hp hq hj2; exact RotR.lt (by omega) hij sw2 h), H1.out.1.trans (m2.mono (by omega) (by omega)), H1.out.2.trans c2 fun _ _ => id⟩)
      clear r2 sw2 m2 c2
      go_wp2_with fail
      go_roundw
      case rel => exact ⟨i, j2, es2, by omega, by omega, by omega, by omega, rfl, by go_num, HE.out.1, Lib.hid HE.out.2.1, HE.out.2.2⟩
      case measure => simp [intOf]; omega
    · subst hij
      have hne : ((i : Int) != (i : Int)) = false := by simp
      have C := Lib.hid (swapR_ wr g n c p m i es' sp K hrow hlen (by omega) (by omega) hbig)
      have H1 := Lib.hid (And.intro hmx hch)
      clear hrow hmx hch hlen
      go_wp2_with fail
      with_reducible refine C.out.mono ?_
      rintro x w2 ⟨rfl, es2, r2, sw2, m2, c2⟩
      have HE := Lib.hid (show ∃ es', RowAt w2 g es' sp ∧ RotR a m b es es' ∧ Mix a b es es' ∧ Chg (fun q => q = g) w w2 from
        ⟨es2, r2, HT.out _ (RotR.eq (by omega) (by subst hp; exact sw2)), H1.out.1.trans (m2.mono (by omega) (by omega)), H1.out.2.trans c2 fun _ _ => id⟩)
      clear r2 sw2 m2 c2
      go_wp2_with fail
      go_end0
      exact ⟨rfl, HE.out⟩
    · obtain ⟨i2, hi2⟩ : ∃ p, i - j = p := ⟨_, rfl⟩
      have hwi : IntKind.i64.wrap ((i : Int) - (j : Int)) = (i2 : Int) := by rw [show (i : Int) - (j : Int) = (i2 : Int) by omega]; exact IntWalk.i64_in _ (by omega)
      have hne : ((i : Int) != (j : Int)) = true := by simp; omega
      have hgt : (j : Int) < (i : Int) := by omega
      have C := Lib.hid (swapR_ wr g n c p m j es' sp K hrow hlen (by omega) (by omega) hbig)
      have H1 := Lib.hid (And.intro hmx hch)
      clear hrow hmx hch hlen
      go_wp2_with fail
      with_reducible refine C.out.mono ?_
      rintro x w2 ⟨rfl, es2, r2, sw2, m2, c2⟩
      have HE := Lib.hid (show RowAt w2 g es2 sp ∧ (∀ zs, RotR (m - i2) m (m + j) es2 zs → RotR a m b es zs) ∧ Mix a b es es2 ∧ Chg (fun q => q = g) w w2 from
        ⟨r2, fun zs h => HT.out zs (by subst hp hi2; exact RotR.gt (by omega) hij sw2 h), H1.out.1.trans (m2.mono (by omega) (by omega)), H1.out.2.trans c2 fun _ _ => id⟩)
      clear r2 sw2 m2 c2
      go_wp2_with fail
      go_roundw
      case rel => exact ⟨i2, j, es2, by omega, by omega, by omega, by omega, by go_num, rfl, HE.out.1, Lib.hid HE.out.2.1, HE.out.2.2⟩
      case measure => simp [intOf]; omega
end Acc
end Go.Proofs.YtgfkopimjmggdaaDoor

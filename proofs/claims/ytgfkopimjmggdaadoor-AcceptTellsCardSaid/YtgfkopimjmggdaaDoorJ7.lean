/-
  slices.symMergeCmpFunc at events, one run alone (no condition beyond the sizes and what the comparison gives).
-/
import Derived.Test.YtgfkopimjmggdaaDoorJ6
/- slices.symMergeCmpFunc at events, one run alone (no condition beyond the sizes and what the comparison gives). -/
namespace Go.Proofs.YtgfkopimjmggdaaDoor
set_option linter.unusedSimpArgs false
set_option linter.unusedVariables false
open Go.ChangeShapes Go.WideShapes Go.RowKit Go.Deep
namespace Acc
open Evt Vec Num Stable
attribute [local go_sem ↓] Evt.loadDot Evt.loadVec Evt.loadRow0 Evt.storeRow0 Evt.loadOnly0 Evt.loadOnly1 Evt.loadOnly2
set_option maxHeartbeats 8000000 in
set_option maxRecDepth 20000 in
theorem symA (hC : Cmps) (w : World) (g n c a m b : Nat) (es : List Ev) (sp : List Value) (hr : RowAt w g es sp) (hk : ∀ e ∈ es, Ok e) (hn : es.length = n) (ham : m = a + 1) (hmb : m < b) (hb : b ≤ n) (hbig : n ≤ 1000000) (h2 : Srt le m b es) :
    Calls Tryd.prog 46 #[.slice (some ⟨g, 0, none⟩) n c, .int .i64 (a : Int), .int .i64 (m : Int), .int .i64 (b : Int), cmpV] w fun x w' => x = .returned (.tuple #[]) ∧ ∃ es', RowAt w' g es' sp ∧ Mix a b es es' ∧ Srt le a b es' ∧ Chg (fun q => q = g) w w' := by
  have HR := Lib.hid (And.intro hr (And.intro hn (And.intro hk hC)))
  have HS := Lib.hid h2
  have hwm : IntKind.i64.wrap ((m : Int) - (a : Int)) = 1 := by rw [show (m : Int) - (a : Int) = 1 by omega]; rfl
  obtain ⟨x, hx⟩ : ∃ x, es[a]? = some x := ⟨_, List.getElem?_eq_getElem (by omega)⟩
  have HX := Lib.hid (And.intro hx (hk x (List.mem_of_getElem? hx)))
  have HAM := Lib.hid ham
  have han : (a : Int) < n := by omega
  have ham2 : a < m := by omega
  clear hr hn hk h2 hx ham
  go_enter Tryd.func46, Tryd.ntmps46
  go_wp2_with fail
  go_loopw [10, 11, 12] (fun iv jv _ wr => ∃ (i j : Nat), m ≤ i ∧ i ≤ j ∧ j ≤ b ∧ iv = .int .i64 i ∧ jv = .int .i64 j ∧ Hid (∀ q u, m ≤ q → q < i → es[q]? = some u → le u x) ∧ Hid (∀ q u, j ≤ q → q < b → es[q]? = some u → le x u) ∧ New w wr) (fun iv jv _ _ => (intOf jv).toNat - (intOf iv).toNat)
  case atStart => exact ⟨m, b, by omega, by omega, by omega, rfl, rfl, Lib.hid (fun q u h1 h2 => by omega), Lib.hid (fun q u h1 h2 => by omega), Chg.refl _ _⟩
  case round =>
    obtain ⟨i, j, hmi, hij, hjb, rfl, rfl, HL, HH, hnw⟩ := hrel
    clear hwm
    by_cases hlt : i < j
    · have hli : (i : Int) < j := by omega
      obtain ⟨s, hs⟩ : ∃ s, i + j = s := ⟨_, rfl⟩
      have hws : IntKind.i64.wrap ((i : Int) + (j : Int)) = (s : Int) := by rw [← Int.natCast_add, hs]; exact IntWalk.i64_in _ (by omega)
      obtain ⟨h, hh⟩ : ∃ h, s / 2 = h := ⟨_, rfl⟩
      have hdiv : (s : Int) / 2 = (h : Int) := by omega
      have hih : i ≤ h ∧ h < j := by omega
      have hhn : (h : Int) < n := by omega
      have hwh : IntKind.i64.wrap ((h : Int) + 1) = (h : Int) + 1 := IntWalk.i64_in _ (by omega)
      obtain ⟨y, hy⟩ : ∃ x, es[h]? = some x := ⟨_, List.getElem?_eq_getElem (by have := HR.out.2.1; omega)⟩
      have C := Lib.hid (HR.out.2.2.2 y x (HR.out.2.2.1 y (List.mem_of_getElem? hy)) HX.out.2 wr.drew)
      obtain ⟨d, hd⟩ : ∃ d, cmpE y x = d := ⟨_, rfl⟩
      rw [hd] at C
      have F := Lib.hid (fun W (hW : New wr.drew W) => And.intro ((HR.out.1.new (hnw.drew.trans hW fun _ _ => id)).ld hy) (And.intro ((HR.out.1.new (hnw.drew.trans hW fun _ _ => id)).ld HX.out.1) (HR.out.1.new (hnw.drew.trans hW fun _ _ => id)).lt))
      have HN0 := Lib.hid hnw
      by_cases hd0 : d < 0
      · have HE := Lib.hid (show ∀ q u, m ≤ q → q < h + 1 → es[q]? = some u → le u x from fun q u h1 h2 hu => by
          have hyx := lt_le (a := y) (b := x) (by rw [hd]; exact hd0)
          by_cases hqh : q = h
          · subst hqh
            rw [hy] at hu
            injection hu with hu
            subst hu
            exact hyx
          · exact le_trans' _ _ _ (HS.out q h u y h1 (by omega) (by omega) hu hy) hyx)
        clear hnw hy hd
        go_wp2_with fail
        refine grow_start (fun _ => False) (by kernel_rfl) ?_
        refine grow_take (i := 0) (oi := { dst := some 40, op := Op.move (Operand.tmp 4), type := 53, pos := "zsortanyfunc.go:390", after := #[], guard := none }) (v := ?_) rfl (by kernel_rfl) (by kernel_rfl) (by kernel_rfl) (by rfl) ?_ ?_; rotate_left; focus ((intro W hW; go_simp) <;> with_reducible rfl)
        simp only [Act.put, List.setIfInBounds_toArray, List.set_cons_zero, List.set_cons_succ]
        refine grow_take (i := 1) (oi := { dst := some 41, op := Op.move (Operand.tmp 0), type := 24, pos := "zsortanyfunc.go:390", after := #[], guard := none }) (v := ?_) rfl (by kernel_rfl) (by kernel_rfl) (by kernel_rfl) (by rfl) ?_ ?_; rotate_left; focus ((intro W hW; go_simp) <;> with_reducible rfl)
        simp only [Act.put, List.setIfInBounds_toArray, List.set_cons_zero, List.set_cons_succ]
        refine grow_take (i := 2) (oi := { dst := some 42, op := Op.move (Operand.tmp 12), type := 3, pos := "zsortanyfunc.go:390", after := #[], guard := none }) (v := ?_) rfl (by kernel_rfl) (by kernel_rfl) (by kernel_rfl) (by rfl) ?_ ?_; rotate_left; focus ((intro W hW; go_simp) <;> with_reducible rfl)
        simp only [Act.put, List.setIfInBounds_toArray, List.set_cons_zero, List.set_cons_succ]
        refine grow_take (i := 3) (oi := { dst := some 43, op := Op.indexAddr 24 (Operand.tmp 41) (Operand.tmp 42), type := 0, pos := "zsortanyfunc.go:390", after := #[{ on := 1, ground := Ground.data }, { on := 2, ground := Ground.data }], guard := none }) (v := ?_) rfl (by kernel_rfl) (by kernel_rfl) (by kernel_rfl) (by rfl) ?_ ?_; rotate_left; focus ((intro W hW; have fct := F.out W hW; go_simp) <;> with_reducible rfl)
        simp only [Act.put, List.setIfInBounds_toArray, List.set_cons_zero, List.set_cons_succ]
        refine grow_take (i := 4) (oi := { dst := some 44, op := Op.load 35 (Operand.tmp 43), type := 35, pos := "zsortanyfunc.go:390", after := #[{ on := 3, ground := Ground.data }], guard := none }) (v := ?_) rfl (by kernel_rfl) (by kernel_rfl) (by kernel_rfl) (by rfl) ?_ ?_; rotate_left; focus ((intro W hW; have fct := F.out W hW; go_simp) <;> with_reducible rfl)
        simp only [Act.put, List.setIfInBounds_toArray, List.set_cons_zero, List.set_cons_succ]
        refine grow_take (i := 5) (oi := { dst := some 45, op := Op.move (Operand.tmp 0), type := 24, pos := "zsortanyfunc.go:390", after := #[], guard := none }) (v := ?_) rfl (by kernel_rfl) (by kernel_rfl) (by kernel_rfl) (by rfl) ?_ ?_; rotate_left; focus ((intro W hW; go_simp) <;> with_reducible rfl)
        simp only [Act.put, List.setIfInBounds_toArray, List.set_cons_zero, List.set_cons_succ]
        refine grow_take (i := 6) (oi := { dst := some 46, op := Op.move (Operand.tmp 1), type := 3, pos := "zsortanyfunc.go:390", after := #[], guard := none }) (v := ?_) rfl (by kernel_rfl) (by kernel_rfl) (by kernel_rfl) (by rfl) ?_ ?_; rotate_left; focus ((intro W hW; go_simp) <;> with_reducible rfl)
        simp only [Act.put, List.setIfInBounds_toArray, List.set_cons_zero, List.set_cons_succ]
        refine grow_take (i := 7) (oi := { dst := some 47, op := Op.indexAddr 24 (Operand.tmp 45) (Operand.tmp 46), type := 0, pos := "zsortanyfunc.go:390", after := #[{ on := 5, ground := Ground.data }, { on := 6, ground := Ground.data }], guard := none }) (v := ?_) rfl (by kernel_rfl) (by kernel_rfl) (by kernel_rfl) (by rfl) ?_ ?_; rotate_left; focus ((intro W hW; have fct := F.out W hW; go_simp) <;> with_reducible rfl)
        simp only [Act.put, List.setIfInBounds_toArray, List.set_cons_zero, List.set_cons_succ]
        refine grow_take (i := 8) (oi := { dst := some 48, op := Op.load 35 (Operand.tmp 47), type := 35, pos := "zsortanyfunc.go:390", after := #[{ on := 7, ground := Ground.data }], guard := none }) (v := ?_) rfl (by kernel_rfl) (by kernel_rfl) (by kernel_rfl) (by rfl) ?_ ?_; rotate_left; focus ((intro W hW; have fct := F.out W hW; go_simp) <;> with_reducible rfl)
        simp only [Act.put, List.setIfInBounds_toArray, List.set_cons_zero, List.set_cons_succ]
        refine grow_next (i := 9) (oi := { dst := some 49, op := Op.call { callee := Callee.value (Operand.tmp 40), args := #[Operand.tmp 44, Operand.tmp 48], argTypes := #[35, 35] }, type := 3, pos := "zsortanyfunc.go:390", after := #[{ on := 0, ground := Ground.data }, { on := 4, ground := Ground.data }, { on := 8, ground := Ground.data }], guard := none }) (by kernel_rfl) rfl (by rfl) (fun K hK => ?_)
        go_simp
        with_reducible refine C.out.mono ?_
        rintro z wa ⟨rfl, na⟩
        refine hK _ _ na ?_
        clear hK K
        try simp only [Act.put, List.setIfInBounds_toArray, List.set_cons_zero, List.set_cons_succ]
        have HN := Lib.hid (HN0.out.drew.trans na fun _ _ => id)
        clear na
        refine grow_take (i := 10) (oi := { dst := some 50, op := Op.binOp BinOp.lss 3 (Operand.tmp 49) (Operand.const (Value.int IntKind.i64 0)) 3, type := 4, pos := "zsortanyfunc.go:390", after := #[{ on := 9, ground := Ground.data }], guard := none }) (v := ?_) rfl (by kernel_rfl) (by kernel_rfl) (by kernel_rfl) (by rfl) ?_ ?_; rotate_left; focus ((intro W hW; have fct := (fun (W : World) (_ : New wa W) => True.intro) W hW; go_simp) <;> with_reducible rfl)
        simp only [Act.put, List.setIfInBounds_toArray, List.set_cons_zero, List.set_cons_succ]
        refine grow_done (by kernel_rfl) ?_ _
        go_wp2_with fail
        go_roundw
        case rel => exact ⟨h + 1, j, by omega, by omega, by omega, by go_num, rfl, HE, HH, by first | exact HN.out | exact HN.out.drew⟩
        case measure => simp [intOf]; omega
      · have HE := Lib.hid (show ∀ q u, h ≤ q → q < b → es[q]? = some u → le x u from fun q u h1 h2 hu => by
          have hyx := not_lt_le (a := y) (b := x) (by rw [hd]; exact hd0)
          by_cases hqh : q = h
          · subst hqh
            rw [hy] at hu
            injection hu with hu
            subst hu
            exact hyx
          · exact le_trans' _ _ _ hyx (HS.out h q y u (by omega) (by omega) h2 hy hu))
        clear hnw hy hd
        go_wp2_with fail
        refine grow_start (fun _ => False) (by kernel_rfl) ?_
        refine grow_take (i := 0) (oi := { dst := some 40, op := Op.move (Operand.tmp 4), type := 53, pos := "zsortanyfunc.go:390", after := #[], guard := none }) (v := ?_) rfl (by kernel_rfl) (by kernel_rfl) (by kernel_rfl) (by rfl) ?_ ?_; rotate_left; focus ((intro W hW; go_simp) <;> with_reducible rfl)
        simp only [Act.put, List.setIfInBounds_toArray, List.set_cons_zero, List.set_cons_succ]
        refine grow_take (i := 1) (oi := { dst := some 41, op := Op.move (Operand.tmp 0), type := 24, pos := "zsortanyfunc.go:390", after := #[], guard := none }) (v := ?_) rfl (by kernel_rfl) (by kernel_rfl) (by kernel_rfl) (by rfl) ?_ ?_; rotate_left; focus ((intro W hW; go_simp) <;> with_reducible rfl)
        simp only [Act.put, List.setIfInBounds_toArray, List.set_cons_zero, List.set_cons_succ]
        refine grow_take (i := 2) (oi := { dst := some 42, op := Op.move (Operand.tmp 12), type := 3, pos := "zsortanyfunc.go:390", after := #[], guard := none }) (v := ?_) rfl (by kernel_rfl) (by kernel_rfl) (by kernel_rfl) (by rfl) ?_ ?_; rotate_left; focus ((intro W hW; go_simp) <;> with_reducible rfl)
        simp only [Act.put, List.setIfInBounds_toArray, List.set_cons_zero, List.set_cons_succ]
        refine grow_take (i := 3) (oi := { dst := some 43, op := Op.indexAddr 24 (Operand.tmp 41) (Operand.tmp 42), type := 0, pos := "zsortanyfunc.go:390", after := #[{ on := 1, ground := Ground.data }, { on := 2, ground := Ground.data }], guard := none }) (v := ?_) rfl (by kernel_rfl) (by kernel_rfl) (by kernel_rfl) (by rfl) ?_ ?_; rotate_left; focus ((intro W hW; have fct := F.out W hW; go_simp) <;> with_reducible rfl)
        simp only [Act.put, List.setIfInBounds_toArray, List.set_cons_zero, List.set_cons_succ]
        refine grow_take (i := 4) (oi := { dst := some 44, op := Op.load 35 (Operand.tmp 43), type := 35, pos := "zsortanyfunc.go:390", after := #[{ on := 3, ground := Ground.data }], guard := none }) (v := ?_) rfl (by kernel_rfl) (by kernel_rfl) (by kernel_rfl) (by rfl) ?_ ?_; rotate_left; focus ((intro W hW; have fct := F.out W hW; go_simp) <;> with_reducible rfl)
        simp only [Act.put, List.setIfInBounds_toArray, List.set_cons_zero, List.set_cons_succ]
        refine grow_take (i := 5) (oi := { dst := some 45, op := Op.move (Operand.tmp 0), type := 24, pos := "zsortanyfunc.go:390", after := #[], guard := none }) (v := ?_) rfl (by kernel_rfl) (by kernel_rfl) (by kernel_rfl) (by rfl) ?_ ?_; rotate_left; focus ((intro W hW; go_simp) <;> with_reducible rfl)
        simp only [Act.put, List.setIfInBounds_toArray, List.set_cons_zero, List.set_cons_succ]
        refine grow_take (i := 6) (oi := { dst := some 46, op := Op.move (Operand.tmp 1), type := 3, pos := "zsortanyfunc.go:390", after := #[], guard := none }) (v := ?_) rfl (by kernel_rfl) (by kernel_rfl) (by kernel_rfl) (by rfl) ?_ ?_; rotate_left; focus ((intro W hW; go_simp) <;> with_reducible rfl)
        simp only [Act.put, List.setIfInBounds_toArray, List.set_cons_zero, List.set_cons_succ]
        refine grow_take (i := 7) (oi := { dst := some 47, op := Op.indexAddr 24 (Operand.tmp 45) (Operand.tmp 46), type := 0, pos := "zsortanyfunc.go:390", after := #[{ on := 5, ground := Ground.data }, { on := 6, ground := Ground.data }], guard := none }) (v := ?_) rfl (by kernel_rfl) (by kernel_rfl) (by kernel_rfl) (by rfl) ?_ ?_; rotate_left; focus ((intro W hW; have fct := F.out W hW; go_simp) <;> with_reducible rfl)
        simp only [Act.put, List.setIfInBounds_toArray, List.set_cons_zero, List.set_cons_succ]
        refine grow_take (i := 8) (oi := { dst := some 48, op := Op.load 35 (Operand.tmp 47), type := 35, pos := "zsortanyfunc.go:390", after := #[{ on := 7, ground := Ground.data }], guard := none }) (v := ?_) rfl (by kernel_rfl) (by kernel_rfl) (by kernel_rfl) (by rfl) ?_ ?_; rotate_left; focus ((intro W hW; have fct := F.out W hW; go_simp) <;> with_reducible rfl)
        simp only [Act.put, List.setIfInBounds_toArray, List.set_cons_zero, List.set_cons_succ]
        refine grow_next (i := 9) (oi := { dst := some 49, op := Op.call { callee := Callee.value (Operand.tmp 40), args := #[Operand.tmp 44, Operand.tmp 48], argTypes := #[35, 35] }, type := 3, pos := "zsortanyfunc.go:390", after := #[{ on := 0, ground := Ground.data }, { on := 4, ground := Ground.data }, { on := 8, ground := Ground.data }], guard := none }) (by kernel_rfl) rfl (by rfl) (fun K hK => ?_)
        go_simp
        with_reducible refine C.out.mono ?_
        rintro z wa ⟨rfl, na⟩
        refine hK _ _ na ?_
        clear hK K
        try simp only [Act.put, List.setIfInBounds_toArray, List.set_cons_zero, List.set_cons_succ]
        have HN := Lib.hid (HN0.out.drew.trans na fun _ _ => id)
        clear na
        refine grow_take (i := 10) (oi := { dst := some 50, op := Op.binOp BinOp.lss 3 (Operand.tmp 49) (Operand.const (Value.int IntKind.i64 0)) 3, type := 4, pos := "zsortanyfunc.go:390", after := #[{ on := 9, ground := Ground.data }], guard := none }) (v := ?_) rfl (by kernel_rfl) (by kernel_rfl) (by kernel_rfl) (by rfl) ?_ ?_; rotate_left; focus ((intro W hW; have fct := (fun (W : World) (_ : New wa W) => True.intro) W hW; go_simp) <;> with_reducible rfl)
        simp only [Act.put, List.setIfInBounds_toArray, List.set_cons_zero, List.set_cons_succ]
        refine grow_done (by kernel_rfl) ?_ _
        go_wp2_with fail
        go_roundw
        case rel => exact ⟨i, h, by omega, by omega, by omega, rfl, by go_num, HL, HE, by first | exact HN.out | exact HN.out.drew⟩
        case measure => simp [intOf]; omega
    · have hij2 : j = i := by omega
      subst hij2
      have hgi : ¬ (j : Int) < (j : Int) := by omega
      obtain ⟨t, ht⟩ : ∃ t, j - 1 = t := ⟨_, rfl⟩
      have hwt : IntKind.i64.wrap ((j : Int) - 1) = (t : Int) := by rw [show (j : Int) - 1 = (t : Int) by omega]; exact IntWalk.i64_in _ (by omega)
      have HN0 := Lib.hid hnw
      clear hnw hlt hij
      go_wp2_with fail
      generalize wr = wo at *
      go_loopw [13] (fun kv wr => ∃ (k : Nat) (es' : List Ev), a ≤ k ∧ k ≤ t ∧ kv = .int .i64 k ∧ RowAt wr g es' sp ∧ Fwd a k es es' ∧ Mix a b es es' ∧ Chg (fun q => q = g) w wr) (fun kv _ => t - (intOf kv).toNat)
      case atStart => exact ⟨a, es, by omega, by have := HAM.out; omega, rfl, HR.out.1.new HN0.out, Fwd.zero _ _, Mix.refl _ _ _, HN0.out.to _⟩
      case round =>
        obtain ⟨k, es', hak, hkt, rfl, hrow, hf, hmx, hch⟩ := hrel
        have hlen : es'.length = n := by rw [hmx.len, HR.out.2.1]
        by_cases hlt : k < t
        · have hlk : (k : Int) < t := by omega
          have hwk : IntKind.i64.wrap ((k : Int) + 1) = (k : Int) + 1 := IntWalk.i64_in _ (by omega)
          obtain ⟨q, hq⟩ : ∃ q, k + 1 = q := ⟨_, rfl⟩
          have hkq : (k : Int) + 1 = (q : Int) := by omega
          have hkn : (k : Int) < n := by omega
          have hqn : (q : Int) < n := by omega
          obtain ⟨u, hu⟩ : ∃ x, es'[k]? = some x := ⟨_, List.getElem?_eq_getElem (by omega)⟩
          obtain ⟨v, hv⟩ : ∃ x, es'[q]? = some x := ⟨_, List.getElem?_eq_getElem (by omega)⟩
          have lp := hrow.drew.ld hu
          have lq := hrow.drew.ld hv
          have gl := hrow.drew.lt
          obtain ⟨W, V, s1, s2, hrV, hcV, gW, hsz⟩ := hrow.drew.swap hu hv
          have HE := Lib.hid (show RowAt V g (Stable.swap es' k q) sp ∧ Fwd a q es (Stable.swap es' k q) ∧ Mix a b es (Stable.swap es' k q) ∧ Chg (fun q => q = g) w V from
            ⟨hrV, by rw [← hq]; exact hf.succ hak (by omega), hmx.trans (swap_mix (by omega) (by omega) (by omega) (by omega) (by omega) (by omega)), hch.drew.trans hcV fun _ _ => id⟩)
          clear hrow hf hmx hch hlen hu hv hrV hcV
          go_wp2_with fail
          go_region
          go_wp2_with fail
          go_roundw
          case rel => exact ⟨q, _, by omega, by omega, by go_num, HE.out⟩
          case measure => simp [intOf]; omega
        · have hgk : ¬ (k : Int) < t := by omega
          have HE := Lib.hid (show ∃ es', RowAt wr g es' sp ∧ Mix a b es es' ∧ Srt le a b es' ∧ Chg (fun q => q = g) w wr from ⟨es', hrow, hmx, fwd_srt (i := j) (by have := HS.out; rw [HAM.out] at this; exact this) (by omega) (by omega) (by rw [ht, show t = k by omega]; exact hf)
            (fun q u v h1 h2 hu hv => by rw [HX.out.1] at hv; injection hv with hv; subst hv; exact HL.out q u (by have := HAM.out; omega) h2 hu)
            (fun q u v h1 h2 hu hv => by rw [HX.out.1] at hv; injection hv with hv; subst hv; exact HH.out q u h1 h2 hu), hch⟩)
          clear hrow hf hmx hch hlen
          go_wp2_with fail
          refine bodyPost_ret (results_none rfl _ _ _) rfl ?_
          exact ⟨rfl, HE.out⟩
set_option maxHeartbeats 8000000 in
set_option maxRecDepth 20000 in
theorem symB (hC : Cmps) (w : World) (g n c a m b : Nat) (es : List Ev) (sp : List Value) (hr : RowAt w g es sp) (hk : ∀ e ∈ es, Ok e) (hn : es.length = n) (ham : a + 1 < m) (hmb : b = m + 1) (hb : b ≤ n) (hbig : n ≤ 1000000) (h1 : Srt le a m es) :
    Calls Tryd.prog 46 #[.slice (some ⟨g, 0, none⟩) n c, .int .i64 (a : Int), .int .i64 (m : Int), .int .i64 (b : Int), cmpV] w fun x w' => x = .returned (.tuple #[]) ∧ ∃ es', RowAt w' g es' sp ∧ Mix a b es es' ∧ Srt le a b es' ∧ Chg (fun q => q = g) w w' := by
  have HR := Lib.hid (And.intro hr (And.intro hn (And.intro hk hC)))
  have HS := Lib.hid h1
  have hwb : IntKind.i64.wrap ((b : Int) - (m : Int)) = 1 := by rw [show (b : Int) - (m : Int) = 1 by omega]; rfl
  obtain ⟨ma, hma⟩ : ∃ q, m - a = q := ⟨_, rfl⟩
  have hwm : IntKind.i64.wrap ((m : Int) - (a : Int)) = (ma : Int) := by rw [show (m : Int) - (a : Int) = (ma : Int) by omega]; exact IntWalk.i64_in _ (by omega)
  have hma1 : ((ma : Int) == 1) = false := by simp; omega
  obtain ⟨x, hx⟩ : ∃ x, es[m]? = some x := ⟨_, List.getElem?_eq_getElem (by omega)⟩
  have HX := Lib.hid (And.intro hx (hk x (List.mem_of_getElem? hx)))
  have HAM := Lib.hid hmb
  have hmn : (m : Int) < n := by omega
  have hmb2 : m < b := by omega
  clear hr hn hk h1 hx hmb
  go_enter Tryd.func46, Tryd.ntmps46
  go_wp2_with fail
  go_loopw [14, 15, 16] (fun iv jv _ wr => ∃ (i j : Nat), a ≤ i ∧ i ≤ j ∧ j ≤ m ∧ iv = .int .i64 i ∧ jv = .int .i64 j ∧ Hid (∀ q u, a ≤ q → q < i → es[q]? = some u → le u x) ∧ Hid (∀ q u, j ≤ q → q < m → es[q]? = some u → le x u) ∧ New w wr) (fun iv jv _ _ => (intOf jv).toNat - (intOf iv).toNat)
  case atStart => exact ⟨a, m, by omega, by omega, by omega, rfl, rfl, Lib.hid (fun q u h1 h2 => by omega), Lib.hid (fun q u h1 h2 => by omega), Chg.refl _ _⟩
  case round =>
    obtain ⟨i, j, hmi, hij, hjb, rfl, rfl, HL, HH, hnw⟩ := hrel
    clear hwm hwb hma1
    by_cases hlt : i < j
    · have hli : (i : Int) < j := by omega
      obtain ⟨s, hs⟩ : ∃ s, i + j = s := ⟨_, rfl⟩
      have hws : IntKind.i64.wrap ((i : Int) + (j : Int)) = (s : Int) := by rw [← Int.natCast_add, hs]; exact IntWalk.i64_in _ (by omega)
      obtain ⟨h, hh⟩ : ∃ h, s / 2 = h := ⟨_, rfl⟩
      have hdiv : (s : Int) / 2 = (h : Int) := by omega
      have hih : i ≤ h ∧ h < j := by omega
      have hhn : (h : Int) < n := by omega
      have hwh : IntKind.i64.wrap ((h : Int) + 1) = (h : Int) + 1 := IntWalk.i64_in _ (by omega)
      obtain ⟨y, hy⟩ : ∃ x, es[h]? = some x := ⟨_, List.getElem?_eq_getElem (by have := HR.out.2.1; omega)⟩
      have C := Lib.hid (HR.out.2.2.2 x y HX.out.2 (HR.out.2.2.1 y (List.mem_of_getElem? hy)) wr.drew)
      obtain ⟨d, hd⟩ : ∃ d, cmpE x y = d := ⟨_, rfl⟩
      rw [hd] at C
      have F := Lib.hid (fun W (hW : New wr.drew W) => And.intro ((HR.out.1.new (hnw.drew.trans hW fun _ _ => id)).ld hy) (And.intro ((HR.out.1.new (hnw.drew.trans hW fun _ _ => id)).ld HX.out.1) (HR.out.1.new (hnw.drew.trans hW fun _ _ => id)).lt))
      have HN0 := Lib.hid hnw
      by_cases hd0 : d < 0
      · have hnb : (!decide (d < 0)) = false := by simpa using hd0
        have HE := Lib.hid (show ∀ q u, h ≤ q → q < m → es[q]? = some u → le x u from fun q u h1 h2 hu => by
          have hyx := lt_le (a := x) (b := y) (by rw [hd]; exact hd0)
          by_cases hqh : q = h
          · subst hqh
            rw [hy] at hu
            injection hu with hu
            subst hu
            exact hyx
          · exact le_trans' _ _ _ hyx (HS.out h q y u (by omega) (by omega) h2 hy hu))
        have hd1 := Lib.hid hd0
        clear hnw hy hd hd0
        go_wp2_with fail
        refine grow_start (fun _ => False) (by kernel_rfl) ?_
        refine grow_take (i := 0) (oi := { dst := some 92, op := Op.move (Operand.tmp 4), type := 53, pos := "zsortanyfunc.go:414", after := #[], guard := none }) (v := ?_) rfl (by kernel_rfl) (by kernel_rfl) (by kernel_rfl) (by rfl) ?_ ?_; rotate_left; focus ((intro W hW; go_simp) <;> with_reducible rfl)
        simp only [Act.put, List.setIfInBounds_toArray, List.set_cons_zero, List.set_cons_succ]
        refine grow_take (i := 1) (oi := { dst := some 93, op := Op.move (Operand.tmp 0), type := 24, pos := "zsortanyfunc.go:414", after := #[], guard := none }) (v := ?_) rfl (by kernel_rfl) (by kernel_rfl) (by kernel_rfl) (by rfl) ?_ ?_; rotate_left; focus ((intro W hW; go_simp) <;> with_reducible rfl)
        simp only [Act.put, List.setIfInBounds_toArray, List.set_cons_zero, List.set_cons_succ]
        refine grow_take (i := 2) (oi := { dst := some 94, op := Op.move (Operand.tmp 2), type := 3, pos := "zsortanyfunc.go:414", after := #[], guard := none }) (v := ?_) rfl (by kernel_rfl) (by kernel_rfl) (by kernel_rfl) (by rfl) ?_ ?_; rotate_left; focus ((intro W hW; go_simp) <;> with_reducible rfl)
        simp only [Act.put, List.setIfInBounds_toArray, List.set_cons_zero, List.set_cons_succ]
        refine grow_take (i := 3) (oi := { dst := some 95, op := Op.indexAddr 24 (Operand.tmp 93) (Operand.tmp 94), type := 0, pos := "zsortanyfunc.go:414", after := #[{ on := 1, ground := Ground.data }, { on := 2, ground := Ground.data }], guard := none }) (v := ?_) rfl (by kernel_rfl) (by kernel_rfl) (by kernel_rfl) (by rfl) ?_ ?_; rotate_left; focus ((intro W hW; have fct := F.out W hW; go_simp) <;> with_reducible rfl)
        simp only [Act.put, List.setIfInBounds_toArray, List.set_cons_zero, List.set_cons_succ]
        refine grow_take (i := 4) (oi := { dst := some 96, op := Op.load 35 (Operand.tmp 95), type := 35, pos := "zsortanyfunc.go:414", after := #[{ on := 3, ground := Ground.data }], guard := none }) (v := ?_) rfl (by kernel_rfl) (by kernel_rfl) (by kernel_rfl) (by rfl) ?_ ?_; rotate_left; focus ((intro W hW; have fct := F.out W hW; go_simp) <;> with_reducible rfl)
        simp only [Act.put, List.setIfInBounds_toArray, List.set_cons_zero, List.set_cons_succ]
        refine grow_take (i := 5) (oi := { dst := some 97, op := Op.move (Operand.tmp 0), type := 24, pos := "zsortanyfunc.go:414", after := #[], guard := none }) (v := ?_) rfl (by kernel_rfl) (by kernel_rfl) (by kernel_rfl) (by rfl) ?_ ?_; rotate_left; focus ((intro W hW; go_simp) <;> with_reducible rfl)
        simp only [Act.put, List.setIfInBounds_toArray, List.set_cons_zero, List.set_cons_succ]
        refine grow_take (i := 6) (oi := { dst := some 98, op := Op.move (Operand.tmp 16), type := 3, pos := "zsortanyfunc.go:414", after := #[], guard := none }) (v := ?_) rfl (by kernel_rfl) (by kernel_rfl) (by kernel_rfl) (by rfl) ?_ ?_; rotate_left; focus ((intro W hW; go_simp) <;> with_reducible rfl)
        simp only [Act.put, List.setIfInBounds_toArray, List.set_cons_zero, List.set_cons_succ]
        refine grow_take (i := 7) (oi := { dst := some 99, op := Op.indexAddr 24 (Operand.tmp 97) (Operand.tmp 98), type := 0, pos := "zsortanyfunc.go:414", after := #[{ on := 5, ground := Ground.data }, { on := 6, ground := Ground.data }], guard := none }) (v := ?_) rfl (by kernel_rfl) (by kernel_rfl) (by kernel_rfl) (by rfl) ?_ ?_; rotate_left; focus ((intro W hW; have fct := F.out W hW; go_simp) <;> with_reducible rfl)
        simp only [Act.put, List.setIfInBounds_toArray, List.set_cons_zero, List.set_cons_succ]
        refine grow_take (i := 8) (oi := { dst := some 100, op := Op.load 35 (Operand.tmp 99), type := 35, pos := "zsortanyfunc.go:414", after := #[{ on := 7, ground := Ground.data }], guard := none }) (v := ?_) rfl (by kernel_rfl) (by kernel_rfl) (by kernel_rfl) (by rfl) ?_ ?_; rotate_left; focus ((intro W hW; have fct := F.out W hW; go_simp) <;> with_reducible rfl)
        simp only [Act.put, List.setIfInBounds_toArray, List.set_cons_zero, List.set_cons_succ]
        refine grow_next (i := 9) (oi := { dst := some 101, op := Op.call { callee := Callee.value (Operand.tmp 92), args := #[Operand.tmp 96, Operand.tmp 100], argTypes := #[35, 35] }, type := 3, pos := "zsortanyfunc.go:414", after := #[{ on := 0, ground := Ground.data }, { on := 4, ground := Ground.data }, { on := 8, ground := Ground.data }], guard := none }) (by kernel_rfl) rfl (by rfl) (fun K hK => ?_)
        go_simp
        with_reducible refine C.out.mono ?_
        rintro z wa ⟨rfl, na⟩
        refine hK _ _ na ?_
        clear hK K
        try simp only [Act.put, List.setIfInBounds_toArray, List.set_cons_zero, List.set_cons_succ]
        have HN := Lib.hid (HN0.out.drew.trans na fun _ _ => id)
        clear na
        refine grow_take (i := 10) (oi := { dst := some 102, op := Op.binOp BinOp.lss 3 (Operand.tmp 101) (Operand.const (Value.int IntKind.i64 0)) 3, type := 4, pos := "zsortanyfunc.go:414", after := #[{ on := 9, ground := Ground.data }], guard := none }) (v := ?_) rfl (by kernel_rfl) (by kernel_rfl) (by kernel_rfl) (by rfl) ?_ ?_; rotate_left; focus ((intro W hW; have fct := (fun (W : World) (_ : New wa W) => True.intro) W hW; go_simp) <;> with_reducible rfl)
        simp only [Act.put, List.setIfInBounds_toArray, List.set_cons_zero, List.set_cons_succ]
        refine grow_take (i := 11) (oi := { dst := some 103, op := Op.unOp UnOp.not 4 (Operand.tmp 102), type := 4, pos := "zsortanyfunc.go:414", after := #[{ on := 10, ground := Ground.data }], guard := none }) (v := ?_) rfl (by kernel_rfl) (by kernel_rfl) (by kernel_rfl) (by rfl) ?_ ?_; rotate_left; focus ((intro W hW; have fct := (fun (W : World) (_ : New wa W) => True.intro) W hW; go_simp) <;> with_reducible rfl)
        simp only [Act.put, List.setIfInBounds_toArray, List.set_cons_zero, List.set_cons_succ]
        refine grow_done (by kernel_rfl) ?_ _
        go_wp2_with fail
        go_roundw
        case rel => exact ⟨i, h, by omega, by omega, by omega, rfl, by go_num, HL, HE, by first | exact HN.out | exact HN.out.drew⟩
        case measure => simp [intOf]; omega
      · have hnb : (!decide (d < 0)) = true := by simpa using hd0
        have HE := Lib.hid (show ∀ q u, a ≤ q → q < h + 1 → es[q]? = some u → le u x from fun q u h1 h2 hu => by
          have hyx := not_lt_le (a := x) (b := y) (by rw [hd]; exact hd0)
          by_cases hqh : q = h
          · subst hqh
            rw [hy] at hu
            injection hu with hu
            subst hu
            exact hyx
          · exact le_trans' _ _ _ (HS.out q h u y h1 (by omega) (by omega) hu hy) hyx)
        have hd1 := Lib.hid hd0
        clear hnw hy hd hd0
        go_wp2_with fail
        refine grow_start (fun _ => False) (by kernel_rfl) ?_
        refine grow_take (i := 0) (oi := { dst := some 92, op := Op.move (Operand.tmp 4), type := 53, pos := "zsortanyfunc.go:414", after := #[], guard := none }) (v := ?_) rfl (by kernel_rfl) (by kernel_rfl) (by kernel_rfl) (by rfl) ?_ ?_; rotate_left; focus ((intro W hW; go_simp) <;> with_reducible rfl)
        simp only [Act.put, List.setIfInBounds_toArray, List.set_cons_zero, List.set_cons_succ]
        refine grow_take (i := 1) (oi := { dst := some 93, op := Op.move (Operand.tmp 0), type := 24, pos := "zsortanyfunc.go:414", after := #[], guard := none }) (v := ?_) rfl (by kernel_rfl) (by kernel_rfl) (by kernel_rfl) (by rfl) ?_ ?_; rotate_left; focus ((intro W hW; go_simp) <;> with_reducible rfl)
        simp only [Act.put, List.setIfInBounds_toArray, List.set_cons_zero, List.set_cons_succ]
        refine grow_take (i := 2) (oi := { dst := some 94, op := Op.move (Operand.tmp 2), type := 3, pos := "zsortanyfunc.go:414", after := #[], guard := none }) (v := ?_) rfl (by kernel_rfl) (by kernel_rfl) (by kernel_rfl) (by rfl) ?_ ?_; rotate_left; focus ((intro W hW; go_simp) <;> with_reducible rfl)
        simp only [Act.put, List.setIfInBounds_toArray, List.set_cons_zero, List.set_cons_succ]
        refine grow_take (i := 3) (oi := { dst := some 95, op := Op.indexAddr 24 (Operand.tmp 93) (Operand.tmp 94), type := 0, pos := "zsortanyfunc.go:414", after := #[{ on := 1, ground := Ground.data }, { on := 2, ground := Ground.data }], guard := none }) (v := ?_) rfl (by kernel_rfl) (by kernel_rfl) (by kernel_rfl) (by rfl) ?_ ?_; rotate_left; focus ((intro W hW; have fct := F.out W hW; go_simp) <;> with_reducible rfl)
        simp only [Act.put, List.setIfInBounds_toArray, List.set_cons_zero, List.set_cons_succ]
        refine grow_take (i := 4) (oi := { dst := some 96, op := Op.load 35 (Operand.tmp 95), type := 35, pos := "zsortanyfunc.go:414", after := #[{ on := 3, ground := Ground.data }], guard := none }) (v := ?_) rfl (by kernel_rfl) (by kernel_rfl) (by kernel_rfl) (by rfl) ?_ ?_; rotate_left; focus ((intro W hW; have fct := F.out W hW; go_simp) <;> with_reducible rfl)
        simp only [Act.put, List.setIfInBounds_toArray, List.set_cons_zero, List.set_cons_succ]
        refine grow_take (i := 5) (oi := { dst := some 97, op := Op.move (Operand.tmp 0), type := 24, pos := "zsortanyfunc.go:414", after := #[], guard := none }) (v := ?_) rfl (by kernel_rfl) (by kernel_rfl) (by kernel_rfl) (by rfl) ?_ ?_; rotate_left; focus ((intro W hW; go_simp) <;> with_reducible rfl)
        simp only [Act.put, List.setIfInBounds_toArray, List.set_cons_zero, List.set_cons_succ]
        refine grow_take (i := 6) (oi := { dst := some 98, op := Op.move (Operand.tmp 16), type := 3, pos := "zsortanyfunc.go:414", after := #[], guard := none }) (v := ?_) rfl (by kernel_rfl) (by kernel_rfl) (by kernel_rfl) (by rfl) ?_ ?_; rotate_left; focus ((intro W hW; go_simp) <;> with_reducible rfl)
        simp only [Act.put, List.setIfInBounds_toArray, List.set_cons_zero, List.set_cons_succ]
        refine grow_take (i := 7) (oi := { dst := some 99, op := Op.indexAddr 24 (Operand.tmp 97) (Operand.tmp 98), type := 0, pos := "zsortanyfunc.go:414", after := #[{ on := 5, ground := Ground.data }, { on := 6, ground := Ground.data }], guard := none }) (v := ?_) rfl (by kernel_rfl) (by kernel_rfl) (by kernel_rfl) (by rfl) ?_ ?_; rotate_left; focus ((intro W hW; have fct := F.out W hW; go_simp) <;> with_reducible rfl)
        simp only [Act.put, List.setIfInBounds_toArray, List.set_cons_zero, List.set_cons_succ]
        refine grow_take (i := 8) (oi := { dst := some 100, op := Op.load 35 (Operand.tmp 99), type := 35, pos := "zsortanyfunc.go:414", after := #[{ on := 7, ground := Ground.data }], guard := none }) (v := ?_) rfl (by kernel_rfl) (by kernel_rfl) (by kernel_rfl) (by rfl) ?_ ?_; rotate_left; focus ((intro W hW; have fct := F.out W hW; go_simp) <;> with_reducible rfl)
        simp only [Act.put, List.setIfInBounds_toArray, List.set_cons_zero, List.set_cons_succ]
        refine grow_next (i := 9) (oi := { dst := some 101, op := Op.call { callee := Callee.value (Operand.tmp 92), args := #[Operand.tmp 96, Operand.tmp 100], argTypes := #[35, 35] }, type := 3, pos := "zsortanyfunc.go:414", after := #[{ on := 0, ground := Ground.data }, { on := 4, ground := Ground.data }, { on := 8, ground := Ground.data }], guard := none }) (by kernel_rfl) rfl (by rfl) (fun K hK => ?_)
        go_simp
        with_reducible refine C.out.mono ?_
        rintro z wa ⟨rfl, na⟩
        refine hK _ _ na ?_
        clear hK K
        try simp only [Act.put, List.setIfInBounds_toArray, List.set_cons_zero, List.set_cons_succ]
        have HN := Lib.hid (HN0.out.drew.trans na fun _ _ => id)
        clear na
        refine grow_take (i := 10) (oi := { dst := some 102, op := Op.binOp BinOp.lss 3 (Operand.tmp 101) (Operand.const (Value.int IntKind.i64 0)) 3, type := 4, pos := "zsortanyfunc.go:414", after := #[{ on := 9, ground := Ground.data }], guard := none }) (v := ?_) rfl (by kernel_rfl) (by kernel_rfl) (by kernel_rfl) (by rfl) ?_ ?_; rotate_left; focus ((intro W hW; have fct := (fun (W : World) (_ : New wa W) => True.intro) W hW; go_simp) <;> with_reducible rfl)
        simp only [Act.put, List.setIfInBounds_toArray, List.set_cons_zero, List.set_cons_succ]
        refine grow_take (i := 11) (oi := { dst := some 103, op := Op.unOp UnOp.not 4 (Operand.tmp 102), type := 4, pos := "zsortanyfunc.go:414", after := #[{ on := 10, ground := Ground.data }], guard := none }) (v := ?_) rfl (by kernel_rfl) (by kernel_rfl) (by kernel_rfl) (by rfl) ?_ ?_; rotate_left; focus ((intro W hW; have fct := (fun (W : World) (_ : New wa W) => True.intro) W hW; go_simp) <;> with_reducible rfl)
        simp only [Act.put, List.setIfInBounds_toArray, List.set_cons_zero, List.set_cons_succ]
        refine grow_done (by kernel_rfl) ?_ _
        go_wp2_with fail
        go_roundw
        case rel => exact ⟨h + 1, j, by omega, by omega, by omega, by go_num, rfl, HE, HH, by first | exact HN.out | exact HN.out.drew⟩
        case measure => simp [intOf]; omega
    · have hij2 : j = i := by omega
      subst hij2
      have hgi : ¬ (j : Int) < (j : Int) := by omega
      have HN0 := Lib.hid hnw
      clear hnw hlt hij
      go_wp2_with fail
      generalize wr = wo at *
      go_loopw [17] (fun kv wr => ∃ (k : Nat) (es' : List Ev), j ≤ k ∧ k ≤ m ∧ kv = .int .i64 k ∧ RowAt wr g es' sp ∧ Bwd m k es es' ∧ Mix a b es es' ∧ Chg (fun q => q = g) w wr) (fun kv _ => (intOf kv).toNat)
      case atStart => exact ⟨m, es, by omega, by omega, rfl, HR.out.1.new HN0.out, Bwd.zero _ _, Mix.refl _ _ _, HN0.out.to _⟩
      case round =>
        obtain ⟨k, es', hak, hkt, rfl, hrow, hf, hmx, hch⟩ := hrel
        have hlen : es'.length = n := by rw [hmx.len, HR.out.2.1]
        by_cases hlt : j < k
        · have hlk : (j : Int) < k := by omega
          obtain ⟨q, hq⟩ : ∃ q, k - 1 = q := ⟨_, rfl⟩
          have hwk : IntKind.i64.wrap ((k : Int) - 1) = (q : Int) := by rw [show (k : Int) - 1 = (q : Int) by omega]; exact IntWalk.i64_in _ (by omega)
          have hkn : (k : Int) < n := by omega
          have hqn : (q : Int) < n := by omega
          obtain ⟨u, hu⟩ : ∃ x, es'[k]? = some x := ⟨_, List.getElem?_eq_getElem (by omega)⟩
          obtain ⟨v, hv⟩ : ∃ x, es'[q]? = some x := ⟨_, List.getElem?_eq_getElem (by omega)⟩
          have lp := hrow.drew.ld hu
          have lq := hrow.drew.ld hv
          have gl := hrow.drew.lt
          obtain ⟨W, V, s1, s2, hrV, hcV, gW, hsz⟩ := hrow.drew.swap hu hv
          have HE := Lib.hid (show RowAt V g (Stable.swap es' k q) sp ∧ Bwd m q es (Stable.swap es' k q) ∧ Mix a b es (Stable.swap es' k q) ∧ Chg (fun q => q = g) w V from
            ⟨hrV, by rw [← hq]; exact hf.succ (by omega) hkt (by omega), hmx.trans (swap_mix (by omega) (by omega) (by omega) (by omega) (by omega) (by omega)), hch.drew.trans hcV fun _ _ => id⟩)
          clear hrow hf hmx hch hlen hu hv hrV hcV
          go_wp2_with fail
          go_region
          go_wp2_with fail
          go_roundw
          case rel => exact ⟨q, _, by omega, by omega, by go_num, HE.out⟩
          case measure => simp [intOf]; omega
        · have hgk : ¬ (j : Int) < k := by omega
          have HE := Lib.hid (show ∃ es', RowAt wr g es' sp ∧ Mix a b es es' ∧ Srt le a b es' ∧ Chg (fun q => q = g) w wr from ⟨es', hrow, hmx, by
            rw [HAM.out]
            exact bwd_srt (i := j) HS.out (by omega) (by omega) (by rw [show j = k by omega]; exact hf)
              (fun q u v h1 h2 hu hv => by rw [HX.out.1] at hv; injection hv with hv; subst hv; exact HL.out q u h1 h2 hu)
              (fun q u v h1 h2 hu hv => by rw [HX.out.1] at hv; injection hv with hv; subst hv; exact HH.out q u h1 h2 hu), hch⟩)
          clear hrow hf hmx hch hlen
          go_wp2_with fail
          refine bodyPost_ret (results_none rfl _ _ _) rfl ?_
          exact ⟨rfl, HE.out⟩
end Acc
end Go.Proofs.YtgfkopimjmggdaaDoor

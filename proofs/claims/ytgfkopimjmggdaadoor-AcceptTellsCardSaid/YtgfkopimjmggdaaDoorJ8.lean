/-
  slices.symMergeCmpFunc at events (no condition beyond the sizes and what the comparison gives).
-/
import Derived.Test.YtgfkopimjmggdaaDoorJ7
/- slices.symMergeCmpFunc at events (no condition beyond the sizes and what the comparison gives). -/
namespace Go.Proofs.YtgfkopimjmggdaaDoor
set_option linter.unusedSimpArgs false
set_option linter.unusedVariables false
open Go.ChangeShapes Go.WideShapes Go.RowKit Go.Deep
namespace Acc
open Evt Vec Num Stable
attribute [local go_sem ↓] Evt.loadDot Evt.loadVec Evt.loadRow0 Evt.storeRow0 Evt.loadOnly0 Evt.loadOnly1 Evt.loadOnly2
theorem RotR.same {start m en : Nat} {xs : List Ev} (h : start = m ∨ m = en) (h1 : start ≤ m) (h2 : m ≤ en) : RotR start m en xs xs := fun i => by
  rcases h with h | h
  · subst h
    repeat' split
    all_goals first
      | omega
      | (congr 1; omega)
      | rfl
  · subst h
    repeat' split
    all_goals first
      | omega
      | (congr 1; omega)
      | rfl
/-- what a merge gives, for what it is called with -/
def Merges (N : Nat) : Prop := ∀ (w : World) (g n c a m b : Nat) (es : List Ev) (sp : List Value), b - a ≤ N → RowAt w g es sp → (∀ e ∈ es, Ok e) → es.length = n → a < m → m < b → b ≤ n → n ≤ 1000000 → Srt le a m es → Srt le m b es →
    Calls Tryd.prog 46 #[.slice (some ⟨g, 0, none⟩) n c, .int .i64 (a : Int), .int .i64 (m : Int), .int .i64 (b : Int), cmpV] w fun x w' => x = .returned (.tuple #[]) ∧ ∃ es', RowAt w' g es' sp ∧ Mix a b es es' ∧ Srt le a b es' ∧ Chg (fun q => q = g) w w'
/-- the row as it is, its two parts cut at mid, each in order so far -/
structure Mid (w : World) (g a mid b start en : Nat) (es : List Ev) (sp : List Value) (ys : List Ev) (wr : World) : Prop where
  row : RowAt wr g ys sp
  mix : Mix a b es ys
  cut : Cut le a mid b ys
  s1 : Srt le a start ys
  s2 : Srt le start mid ys
  s3 : Srt le mid en ys
  s4 : Srt le en b ys
  chg : Chg (fun q => q = g) w wr
set_option maxHeartbeats 20000000 in
set_option maxRecDepth 20000 in
theorem symC (hC : Cmps) (N : Nat) (IH : Merges N) (w : World) (g n c a m b : Nat) (es : List Ev) (sp : List Value) (hN : b - a ≤ N + 1) (hr : RowAt w g es sp) (hk : ∀ e ∈ es, Ok e) (hn : es.length = n) (ham : a + 1 < m) (hmb : m + 1 < b) (hb : b ≤ n) (hbig : n ≤ 1000000) (h1 : Srt le a m es) (h2 : Srt le m b es) :
    Calls Tryd.prog 46 #[.slice (some ⟨g, 0, none⟩) n c, .int .i64 (a : Int), .int .i64 (m : Int), .int .i64 (b : Int), cmpV] w fun x w' => x = .returned (.tuple #[]) ∧ ∃ es', RowAt w' g es' sp ∧ Mix a b es es' ∧ Srt le a b es' ∧ Chg (fun q => q = g) w w' := by
  have HR := Lib.hid (And.intro hr (And.intro hn (And.intro hk hC)))
  have HS := Lib.hid (And.intro h1 h2)
  obtain ⟨mb, hmb'⟩ : ∃ q, b - m = q := ⟨_, rfl⟩
  have hwb : IntKind.i64.wrap ((b : Int) - (m : Int)) = (mb : Int) := by rw [show (b : Int) - (m : Int) = (mb : Int) by omega]; exact IntWalk.i64_in _ (by omega)
  have hmb1 : ((mb : Int) == 1) = false := by simp; omega
  obtain ⟨ma, hma⟩ : ∃ q, m - a = q := ⟨_, rfl⟩
  have hwm : IntKind.i64.wrap ((m : Int) - (a : Int)) = (ma : Int) := by rw [show (m : Int) - (a : Int) = (ma : Int) by omega]; exact IntWalk.i64_in _ (by omega)
  have hma1 : ((ma : Int) == 1) = false := by simp; omega
  obtain ⟨ab, hab⟩ : ∃ q, a + b = q := ⟨_, rfl⟩
  have hwab : IntKind.i64.wrap ((a : Int) + (b : Int)) = (ab : Int) := by rw [← Int.natCast_add, hab]; exact IntWalk.i64_in _ (by omega)
  obtain ⟨mid, hmid⟩ : ∃ q, ab / 2 = q := ⟨_, rfl⟩
  have hdm : (ab : Int) / 2 = (mid : Int) := by omega
  obtain ⟨n2, hn2⟩ : ∃ q, mid + m = q := ⟨_, rfl⟩
  have hwn2 : IntKind.i64.wrap ((mid : Int) + (m : Int)) = (n2 : Int) := by rw [← Int.natCast_add, hn2]; exact IntWalk.i64_in _ (by omega)
  obtain ⟨p, hp⟩ : ∃ q, n2 - 1 = q := ⟨_, rfl⟩
  have hwp : IntKind.i64.wrap ((n2 : Int) - 1) = (p : Int) := by rw [show (n2 : Int) - 1 = (p : Int) by omega]; exact IntWalk.i64_in _ (by omega)
  clear hr hn hk h1 h2
  by_cases hmm : mid < m
  · have hmmi : (mid : Int) < m := by omega
    obtain ⟨s0, hs0⟩ : ∃ q, n2 - b = q := ⟨_, rfl⟩
    have hws0 : IntKind.i64.wrap ((n2 : Int) - (b : Int)) = (s0 : Int) := by rw [show (n2 : Int) - (b : Int) = (s0 : Int) by omega]; exact IntWalk.i64_in _ (by omega)
    go_enter Tryd.func46, Tryd.ntmps46
    go_wp2_with fail
    go_loopw [20, 21, 23] (fun iv jv _ wr => ∃ (i j : Nat), s0 ≤ i ∧ i ≤ j ∧ j ≤ mid ∧ iv = .int .i64 i ∧ jv = .int .i64 j ∧ Hid (s0 < i → ∀ u v, es[i - 1]? = some u → es[n2 - i]? = some v → le u v) ∧ Hid (j < mid → ∀ u v, es[n2 - 1 - j]? = some u → es[j]? = some v → le u v) ∧ New w wr) (fun iv jv _ _ => (intOf jv).toNat - (intOf iv).toNat)
    case atStart => exact ⟨s0, mid, by omega, by omega, by omega, by go_num, by go_num, Lib.hid (fun h => by omega), Lib.hid (fun h => by omega), Chg.refl _ _⟩
    case round =>
      obtain ⟨i, j, hmi, hij, hjb, rfl, rfl, HL, HH, hnw⟩ := hrel
      by_cases hlt : i < j
      · have hli : (i : Int) < j := by omega
        obtain ⟨s, hs⟩ : ∃ s, i + j = s := ⟨_, rfl⟩
        have hws : IntKind.i64.wrap ((i : Int) + (j : Int)) = (s : Int) := by rw [← Int.natCast_add, hs]; exact IntWalk.i64_in _ (by omega)
        obtain ⟨h, hh⟩ : ∃ h, s / 2 = h := ⟨_, rfl⟩
        have hdiv : (s : Int) / 2 = (h : Int) := by omega
        have hih : i ≤ h ∧ h < j := by omega
        have hhn : (h : Int) < n := by omega
        have hwh : IntKind.i64.wrap ((h : Int) + 1) = (h : Int) + 1 := IntWalk.i64_in _ (by omega)
        obtain ⟨q, hq⟩ : ∃ q, n2 - 1 - h = q := ⟨_, rfl⟩
        have hwq : IntKind.i64.wrap ((p : Int) - (h : Int)) = (q : Int) := by rw [show (p : Int) - (h : Int) = (q : Int) by omega]; exact IntWalk.i64_in _ (by omega)
        have hqn : (q : Int) < n := by omega
        obtain ⟨x, hx⟩ : ∃ x, es[q]? = some x := ⟨_, List.getElem?_eq_getElem (by have := HR.out.2.1; omega)⟩
        obtain ⟨y, hy⟩ : ∃ x, es[h]? = some x := ⟨_, List.getElem?_eq_getElem (by have := HR.out.2.1; omega)⟩
        have C := Lib.hid (HR.out.2.2.2 x y (HR.out.2.2.1 x (List.mem_of_getElem? hx)) (HR.out.2.2.1 y (List.mem_of_getElem? hy)) wr.drew)
        obtain ⟨d, hd⟩ : ∃ d, cmpE x y = d := ⟨_, rfl⟩
        rw [hd] at C
        have F := Lib.hid (fun W (hW : New wr.drew W) => And.intro ((HR.out.1.new (hnw.drew.trans hW fun _ _ => id)).ld hx) (And.intro ((HR.out.1.new (hnw.drew.trans hW fun _ _ => id)).ld hy) (HR.out.1.new (hnw.drew.trans hW fun _ _ => id)).lt))
        have HN0 := Lib.hid hnw
        by_cases hd0 : d < 0
        · have hnb : (!decide (d < 0)) = false := by simpa using hd0
          have HE := Lib.hid (show h < mid → ∀ u v, es[n2 - 1 - h]? = some u → es[h]? = some v → le u v from fun _ u v hu hv => by
            rw [hq, hx] at hu
            rw [hy] at hv
            injection hu with hu
            injection hv with hv
            subst hu hv
            exact lt_le (by rw [hd]; exact hd0))
          clear hnw hx hy hd hd0
          go_wp2_with fail
          refine grow_start (fun _ => False) (by kernel_rfl) ?_
          refine grow_take (i := 0) (oi := { dst := some 158, op := Op.move (Operand.tmp 4), type := 53, pos := "zsortanyfunc.go:441", after := #[], guard := none }) (v := ?_) rfl (by kernel_rfl) (by kernel_rfl) (by kernel_rfl) (by rfl) ?_ ?_; rotate_left; focus ((intro W hW; go_simp) <;> with_reducible rfl)
          simp only [Act.put, List.setIfInBounds_toArray, List.set_cons_zero, List.set_cons_succ]
          refine grow_take (i := 1) (oi := { dst := some 159, op := Op.move (Operand.tmp 0), type := 24, pos := "zsortanyfunc.go:441", after := #[], guard := none }) (v := ?_) rfl (by kernel_rfl) (by kernel_rfl) (by kernel_rfl) (by rfl) ?_ ?_; rotate_left; focus ((intro W hW; go_simp) <;> with_reducible rfl)
          simp only [Act.put, List.setIfInBounds_toArray, List.set_cons_zero, List.set_cons_succ]
          refine grow_take (i := 2) (oi := { dst := some 160, op := Op.move (Operand.tmp 22), type := 3, pos := "zsortanyfunc.go:441", after := #[], guard := none }) (v := ?_) rfl (by kernel_rfl) (by kernel_rfl) (by kernel_rfl) (by rfl) ?_ ?_; rotate_left; focus ((intro W hW; go_simp) <;> with_reducible rfl)
          simp only [Act.put, List.setIfInBounds_toArray, List.set_cons_zero, List.set_cons_succ]
          refine grow_take (i := 3) (oi := { dst := some 161, op := Op.move (Operand.tmp 23), type := 3, pos := "zsortanyfunc.go:441", after := #[], guard := none }) (v := ?_) rfl (by kernel_rfl) (by kernel_rfl) (by kernel_rfl) (by rfl) ?_ ?_; rotate_left; focus ((intro W hW; go_simp) <;> with_reducible rfl)
          simp only [Act.put, List.setIfInBounds_toArray, List.set_cons_zero, List.set_cons_succ]
          refine grow_take (i := 4) (oi := { dst := some 162, op := Op.binOp BinOp.sub 3 (Operand.tmp 160) (Operand.tmp 161) 3, type := 3, pos := "zsortanyfunc.go:441", after := #[{ on := 2, ground := Ground.data }, { on := 3, ground := Ground.data }], guard := none }) (v := ?_) rfl (by kernel_rfl) (by kernel_rfl) (by kernel_rfl) (by rfl) ?_ ?_; rotate_left; focus ((intro W hW; have fct := F.out W hW; go_simp) <;> with_reducible rfl)
          simp only [Act.put, List.setIfInBounds_toArray, List.set_cons_zero, List.set_cons_succ]
          refine grow_take (i := 5) (oi := { dst := some 163, op := Op.indexAddr 24 (Operand.tmp 159) (Operand.tmp 162), type := 0, pos := "zsortanyfunc.go:441", after := #[{ on := 1, ground := Ground.data }, { on := 4, ground := Ground.data }], guard := none }) (v := ?_) rfl (by kernel_rfl) (by kernel_rfl) (by kernel_rfl) (by rfl) ?_ ?_; rotate_left; focus ((intro W hW; have fct := F.out W hW; go_simp) <;> with_reducible rfl)
          simp only [Act.put, List.setIfInBounds_toArray, List.set_cons_zero, List.set_cons_succ]
          refine grow_take (i := 6) (oi := { dst := some 164, op := Op.load 35 (Operand.tmp 163), type := 35, pos := "zsortanyfunc.go:441", after := #[{ on := 5, ground := Ground.data }], guard := none }) (v := ?_) rfl (by kernel_rfl) (by kernel_rfl) (by kernel_rfl) (by rfl) ?_ ?_; rotate_left; focus ((intro W hW; have fct := F.out W hW; go_simp) <;> with_reducible rfl)
          simp only [Act.put, List.setIfInBounds_toArray, List.set_cons_zero, List.set_cons_succ]
          refine grow_take (i := 7) (oi := { dst := some 165, op := Op.move (Operand.tmp 0), type := 24, pos := "zsortanyfunc.go:441", after := #[], guard := none }) (v := ?_) rfl (by kernel_rfl) (by kernel_rfl) (by kernel_rfl) (by rfl) ?_ ?_; rotate_left; focus ((intro W hW; go_simp) <;> with_reducible rfl)
          simp only [Act.put, List.setIfInBounds_toArray, List.set_cons_zero, List.set_cons_succ]
          refine grow_take (i := 8) (oi := { dst := some 166, op := Op.move (Operand.tmp 23), type := 3, pos := "zsortanyfunc.go:441", after := #[], guard := none }) (v := ?_) rfl (by kernel_rfl) (by kernel_rfl) (by kernel_rfl) (by rfl) ?_ ?_; rotate_left; focus ((intro W hW; go_simp) <;> with_reducible rfl)
          simp only [Act.put, List.setIfInBounds_toArray, List.set_cons_zero, List.set_cons_succ]
          refine grow_take (i := 9) (oi := { dst := some 167, op := Op.indexAddr 24 (Operand.tmp 165) (Operand.tmp 166), type := 0, pos := "zsortanyfunc.go:441", after := #[{ on := 7, ground := Ground.data }, { on := 8, ground := Ground.data }], guard := none }) (v := ?_) rfl (by kernel_rfl) (by kernel_rfl) (by kernel_rfl) (by rfl) ?_ ?_; rotate_left; focus ((intro W hW; have fct := F.out W hW; go_simp) <;> with_reducible rfl)
          simp only [Act.put, List.setIfInBounds_toArray, List.set_cons_zero, List.set_cons_succ]
          refine grow_take (i := 10) (oi := { dst := some 168, op := Op.load 35 (Operand.tmp 167), type := 35, pos := "zsortanyfunc.go:441", after := #[{ on := 9, ground := Ground.data }], guard := none }) (v := ?_) rfl (by kernel_rfl) (by kernel_rfl) (by kernel_rfl) (by rfl) ?_ ?_; rotate_left; focus ((intro W hW; have fct := F.out W hW; go_simp) <;> with_reducible rfl)
          simp only [Act.put, List.setIfInBounds_toArray, List.set_cons_zero, List.set_cons_succ]
          refine grow_next (i := 11) (oi := { dst := some 169, op := Op.call { callee := Callee.value (Operand.tmp 158), args := #[Operand.tmp 164, Operand.tmp 168], argTypes := #[35, 35] }, type := 3, pos := "zsortanyfunc.go:441", after := #[{ on := 0, ground := Ground.data }, { on := 6, ground := Ground.data }, { on := 10, ground := Ground.data }], guard := none }) (by kernel_rfl) rfl (by rfl) (fun K hK => ?_)
          go_simp
          with_reducible refine C.out.mono ?_
          rintro z wa ⟨rfl, na⟩
          refine hK _ _ na ?_
          clear hK K
          try simp only [Act.put, List.setIfInBounds_toArray, List.set_cons_zero, List.set_cons_succ]
          have HN := Lib.hid (HN0.out.drew.trans na fun _ _ => id)
          clear na
          refine grow_take (i := 12) (oi := { dst := some 170, op := Op.binOp BinOp.lss 3 (Operand.tmp 169) (Operand.const (Value.int IntKind.i64 0)) 3, type := 4, pos := "zsortanyfunc.go:441", after := #[{ on := 11, ground := Ground.data }], guard := none }) (v := ?_) rfl (by kernel_rfl) (by kernel_rfl) (by kernel_rfl) (by rfl) ?_ ?_; rotate_left; focus ((intro W hW; have fct := (fun (W : World) (_ : New wa W) => True.intro) W hW; go_simp) <;> with_reducible rfl)
          simp only [Act.put, List.setIfInBounds_toArray, List.set_cons_zero, List.set_cons_succ]
          refine grow_take (i := 13) (oi := { dst := some 171, op := Op.unOp UnOp.not 4 (Operand.tmp 170), type := 4, pos := "zsortanyfunc.go:441", after := #[{ on := 12, ground := Ground.data }], guard := none }) (v := ?_) rfl (by kernel_rfl) (by kernel_rfl) (by kernel_rfl) (by rfl) ?_ ?_; rotate_left; focus ((intro W hW; have fct := (fun (W : World) (_ : New wa W) => True.intro) W hW; go_simp) <;> with_reducible rfl)
          simp only [Act.put, List.setIfInBounds_toArray, List.set_cons_zero, List.set_cons_succ]
          refine grow_done (by kernel_rfl) ?_ _
          go_wp2_with fail
          go_roundw
          case rel => exact ⟨i, h, by omega, by omega, by omega, rfl, by go_num, HL, HE, by first | exact HN.out | exact HN.out.drew⟩
          case measure => simp [intOf]; omega
        · have hnb : (!decide (d < 0)) = true := by simpa using hd0
          have HE := Lib.hid (show s0 < h + 1 → ∀ u v, es[h + 1 - 1]? = some u → es[n2 - (h + 1)]? = some v → le u v from fun _ u v hu hv => by
            rw [show h + 1 - 1 = h by omega, hy] at hu
            rw [show n2 - (h + 1) = q by omega, hx] at hv
            injection hu with hu
            injection hv with hv
            subst hu hv
            exact not_lt_le (by rw [hd]; exact hd0))
          clear hnw hx hy hd hd0
          go_wp2_with fail
          refine grow_start (fun _ => False) (by kernel_rfl) ?_
          refine grow_take (i := 0) (oi := { dst := some 158, op := Op.move (Operand.tmp 4), type := 53, pos := "zsortanyfunc.go:441", after := #[], guard := none }) (v := ?_) rfl (by kernel_rfl) (by kernel_rfl) (by kernel_rfl) (by rfl) ?_ ?_; rotate_left; focus ((intro W hW; go_simp) <;> with_reducible rfl)
          simp only [Act.put, List.setIfInBounds_toArray, List.set_cons_zero, List.set_cons_succ]
          refine grow_take (i := 1) (oi := { dst := some 159, op := Op.move (Operand.tmp 0), type := 24, pos := "zsortanyfunc.go:441", after := #[], guard := none }) (v := ?_) rfl (by kernel_rfl) (by kernel_rfl) (by kernel_rfl) (by rfl) ?_ ?_; rotate_left; focus ((intro W hW; go_simp) <;> with_reducible rfl)
          simp only [Act.put, List.setIfInBounds_toArray, List.set_cons_zero, List.set_cons_succ]
          refine grow_take (i := 2) (oi := { dst := some 160, op := Op.move (Operand.tmp 22), type := 3, pos := "zsortanyfunc.go:441", after := #[], guard := none }) (v := ?_) rfl (by kernel_rfl) (by kernel_rfl) (by kernel_rfl) (by rfl) ?_ ?_; rotate_left; focus ((intro W hW; go_simp) <;> with_reducible rfl)
          simp only [Act.put, List.setIfInBounds_toArray, List.set_cons_zero, List.set_cons_succ]
          refine grow_take (i := 3) (oi := { dst := some 161, op := Op.move (Operand.tmp 23), type := 3, pos := "zsortanyfunc.go:441", after := #[], guard := none }) (v := ?_) rfl (by kernel_rfl) (by kernel_rfl) (by kernel_rfl) (by rfl) ?_ ?_; rotate_left; focus ((intro W hW; go_simp) <;> with_reducible rfl)
          simp only [Act.put, List.setIfInBounds_toArray, List.set_cons_zero, List.set_cons_succ]
          refine grow_take (i := 4) (oi := { dst := some 162, op := Op.binOp BinOp.sub 3 (Operand.tmp 160) (Operand.tmp 161) 3, type := 3, pos := "zsortanyfunc.go:441", after := #[{ on := 2, ground := Ground.data }, { on := 3, ground := Ground.data }], guard := none }) (v := ?_) rfl (by kernel_rfl) (by kernel_rfl) (by kernel_rfl) (by rfl) ?_ ?_; rotate_left; focus ((intro W hW; have fct := F.out W hW; go_simp) <;> with_reducible rfl)
          simp only [Act.put, List.setIfInBounds_toArray, List.set_cons_zero, List.set_cons_succ]
          refine grow_take (i := 5) (oi := { dst := some 163, op := Op.indexAddr 24 (Operand.tmp 159) (Operand.tmp 162), type := 0, pos := "zsortanyfunc.go:441", after := #[{ on := 1, ground := Ground.data }, { on := 4, ground := Ground.data }], guard := none }) (v := ?_) rfl (by kernel_rfl) (by kernel_rfl) (by kernel_rfl) (by rfl) ?_ ?_; rotate_left; focus ((intro W hW; have fct := F.out W hW; go_simp) <;> with_reducible rfl)
          simp only [Act.put, List.setIfInBounds_toArray, List.set_cons_zero, List.set_cons_succ]
          refine grow_take (i := 6) (oi := { dst := some 164, op := Op.load 35 (Operand.tmp 163), type := 35, pos := "zsortanyfunc.go:441", after := #[{ on := 5, ground := Ground.data }], guard := none }) (v := ?_) rfl (by kernel_rfl) (by kernel_rfl) (by kernel_rfl) (by rfl) ?_ ?_; rotate_left; focus ((intro W hW; have fct := F.out W hW; go_simp) <;> with_reducible rfl)
          simp only [Act.put, List.setIfInBounds_toArray, List.set_cons_zero, List.set_cons_succ]
          refine grow_take (i := 7) (oi := { dst := some 165, op := Op.move (Operand.tmp 0), type := 24, pos := "zsortanyfunc.go:441", after := #[], guard := none }) (v := ?_) rfl (by kernel_rfl) (by kernel_rfl) (by kernel_rfl) (by rfl) ?_ ?_; rotate_left; focus ((intro W hW; go_simp) <;> with_reducible rfl)
          simp only [Act.put, List.setIfInBounds_toArray, List.set_cons_zero, List.set_cons_succ]
          refine grow_take (i := 8) (oi := { dst := some 166, op := Op.move (Operand.tmp 23), type := 3, pos := "zsortanyfunc.go:441", after := #[], guard := none }) (v := ?_) rfl (by kernel_rfl) (by kernel_rfl) (by kernel_rfl) (by rfl) ?_ ?_; rotate_left; focus ((intro W hW; go_simp) <;> with_reducible rfl)
          simp only [Act.put, List.setIfInBounds_toArray, List.set_cons_zero, List.set_cons_succ]
          refine grow_take (i := 9) (oi := { dst := some 167, op := Op.indexAddr 24 (Operand.tmp 165) (Operand.tmp 166), type := 0, pos := "zsortanyfunc.go:441", after := #[{ on := 7, ground := Ground.data }, { on := 8, ground := Ground.data }], guard := none }) (v := ?_) rfl (by kernel_rfl) (by kernel_rfl) (by kernel_rfl) (by rfl) ?_ ?_; rotate_left; focus ((intro W hW; have fct := F.out W hW; go_simp) <;> with_reducible rfl)
          simp only [Act.put, List.setIfInBounds_toArray, List.set_cons_zero, List.set_cons_succ]
          refine grow_take (i := 10) (oi := { dst := some 168, op := Op.load 35 (Operand.tmp 167), type := 35, pos := "zsortanyfunc.go:441", after := #[{ on := 9, ground := Ground.data }], guard := none }) (v := ?_) rfl (by kernel_rfl) (by kernel_rfl) (by kernel_rfl) (by rfl) ?_ ?_; rotate_left; focus ((intro W hW; have fct := F.out W hW; go_simp) <;> with_reducible rfl)
          simp only [Act.put, List.setIfInBounds_toArray, List.set_cons_zero, List.set_cons_succ]
          refine grow_next (i := 11) (oi := { dst := some 169, op := Op.call { callee := Callee.value (Operand.tmp 158), args := #[Operand.tmp 164, Operand.tmp 168], argTypes := #[35, 35] }, type := 3, pos := "zsortanyfunc.go:441", after := #[{ on := 0, ground := Ground.data }, { on := 6, ground := Ground.data }, { on := 10, ground := Ground.data }], guard := none }) (by kernel_rfl) rfl (by rfl) (fun K hK => ?_)
          go_simp
          with_reducible refine C.out.mono ?_
          rintro z wa ⟨rfl, na⟩
          refine hK _ _ na ?_
          clear hK K
          try simp only [Act.put, List.setIfInBounds_toArray, List.set_cons_zero, List.set_cons_succ]
          have HN := Lib.hid (HN0.out.drew.trans na fun _ _ => id)
          clear na
          refine grow_take (i := 12) (oi := { dst := some 170, op := Op.binOp BinOp.lss 3 (Operand.tmp 169) (Operand.const (Value.int IntKind.i64 0)) 3, type := 4, pos := "zsortanyfunc.go:441", after := #[{ on := 11, ground := Ground.data }], guard := none }) (v := ?_) rfl (by kernel_rfl) (by kernel_rfl) (by kernel_rfl) (by rfl) ?_ ?_; rotate_left; focus ((intro W hW; have fct := (fun (W : World) (_ : New wa W) => True.intro) W hW; go_simp) <;> with_reducible rfl)
          simp only [Act.put, List.setIfInBounds_toArray, List.set_cons_zero, List.set_cons_succ]
          refine grow_take (i := 13) (oi := { dst := some 171, op := Op.unOp UnOp.not 4 (Operand.tmp 170), type := 4, pos := "zsortanyfunc.go:441", after := #[{ on := 12, ground := Ground.data }], guard := none }) (v := ?_) rfl (by kernel_rfl) (by kernel_rfl) (by kernel_rfl) (by rfl) ?_ ?_; rotate_left; focus ((intro W hW; have fct := (fun (W : World) (_ : New wa W) => True.intro) W hW; go_simp) <;> with_reducible rfl)
          simp only [Act.put, List.setIfInBounds_toArray, List.set_cons_zero, List.set_cons_succ]
          refine grow_done (by kernel_rfl) ?_ _
          go_wp2_with fail
          go_roundw
          case rel => exact ⟨h + 1, j, by omega, by omega, by omega, by go_num, rfl, HE, HH, by first | exact HN.out | exact HN.out.drew⟩
          case measure => simp [intOf]; omega
      · have hij2 : j = i := by omega
        subst hij2
        have hgi : ¬ (j : Int) < (j : Int) := by omega
        obtain ⟨start, hst⟩ : ∃ s, j = s := ⟨_, rfl⟩
        subst hst
        obtain ⟨en, hen⟩ : ∃ e, n2 - j = e := ⟨_, rfl⟩
        have hwe : IntKind.i64.wrap ((n2 : Int) - (j : Int)) = (en : Int) := by rw [show (n2 : Int) - (j : Int) = (en : Int) by omega]; exact IntWalk.i64_in _ (by omega)
        have hsm : j ≤ m ∧ m ≤ en ∧ a ≤ j ∧ en ≤ b ∧ j + en = mid + m := by omega
        have hcut := fun ys hrr => merge_cut (ys := ys) le_trans' (by have := HR.out.2.1; omega) HS.out.1 HS.out.2 hsm.2.2.1 hsm.1 hsm.2.1 hsm.2.2.2.1 hsm.2.2.2.2 hrr
          (fun h1 h2 u v hu hv => HL.out (by omega) u v hu (by rw [hen]; exact hv)) (fun h1 h2 u v hu hv => HH.out (by omega) u v (by rw [show n2 - 1 - j = en - 1 by omega]; exact hu) hv)
        have HC := Lib.hid hcut
        have HN0 := Lib.hid hnw
        clear hnw hcut hlt hij
        obtain ⟨start, hst⟩ : ∃ s, s = j := ⟨_, rfl⟩
        subst hst
        by_cases hrt : start < m ∧ m < en
        · have ht1 : (start : Int) < m := by omega
          have ht2 : (m : Int) < en := by omega
          have C := Lib.hid (rot_ wr g n c start m en es sp cmpV (HR.out.1.new HN0.out) HR.out.2.1 hrt.1 hrt.2 (by omega) hbig)
          go_wp2_with fail
          with_reducible refine C.out.mono ?_
          rintro x w7 ⟨rfl, es7, r7, rot7, m7, c7⟩
          have hc7 := HC.out es7 rot7
          have H2 := Lib.hid (show Mid w g a mid b start en es sp es7 w7 from ⟨r7, m7.mono (by omega) (by omega), hc7.1, hc7.2.1, hc7.2.2.1, hc7.2.2.2.1, hc7.2.2.2.2, (HN0.out.to _).trans c7 fun _ _ => id⟩)
          clear r7 rot7 m7 c7 hc7 C
          by_cases hl : a < start ∧ start < mid
          · have hl1 : (a : Int) < start := by omega
            have hl2 : (start : Int) < mid := by omega
            have C := Lib.hid (IH w7 g n c a start mid es7 sp (by omega) H2.out.row (fun e he => HR.out.2.2.1 e (H2.out.mix.perm.mem_iff.1 he)) (by rw [H2.out.mix.len, HR.out.2.1]) hl.1 hl.2 (by omega) hbig H2.out.s1 H2.out.s2)
            go_wp2_with fail
            all_goals
              with_reducible refine C.out.mono ?_
              rintro x w8 ⟨rfl, es8, r8, m8, s8, c8⟩
              have H3 := Lib.hid (show RowAt w8 g es8 sp ∧ Mix a b es es8 ∧ Cut le a mid b es8 ∧ Srt le a mid es8 ∧ Srt le mid en es8 ∧ Srt le en b es8 ∧ Chg (fun q => q = g) w w8 from
                ⟨r8, H2.out.mix.trans (m8.mono (Nat.le_refl _) (by omega)), H2.out.cut.left m8, s8, H2.out.s3.keep m8 (by omega), H2.out.s4.keep m8 (by omega), H2.out.chg.trans c8 fun _ _ => id⟩)
              clear r8 m8 s8 c8 C
              by_cases hr : mid < en ∧ en < b
              · have hr1 : (mid : Int) < en := by omega
                have hr2 : (en : Int) < b := by omega
                have C := Lib.hid (IH w8 g n c mid en b es8 sp (by omega) H3.out.1 (fun e he => HR.out.2.2.1 e (H3.out.2.1.perm.mem_iff.1 he)) (by rw [H3.out.2.1.len, HR.out.2.1]) hr.1 hr.2 hb hbig H3.out.2.2.2.2.1 H3.out.2.2.2.2.2.1)
                go_wp2_with fail
                all_goals
                  with_reducible refine C.out.mono ?_
                  rintro x w9 ⟨rfl, es9, r9, m9, s9, c9⟩
                  have HE := Lib.hid (show ∃ es', RowAt w9 g es' sp ∧ Mix a b es es' ∧ Srt le a b es' ∧ Chg (fun q => q = g) w w9 from
                    ⟨es9, r9, H3.out.2.1.trans (m9.mono (by omega) (by omega)), (H3.out.2.2.1.right m9).join (H3.out.2.2.2.1.keep m9 (by omega)) s9, H3.out.2.2.2.2.2.2.trans c9 fun _ _ => id⟩)
                  clear r9 m9 s9 c9 C
                  go_wp2_with fail
                  all_goals go_end0
                  all_goals exact ⟨rfl, HE.out⟩
              · have hrr : (decide ((mid : Int) < en) && decide ((en : Int) < b)) = false := by
                  by_cases h1 : (mid : Int) < en
                  · have : ¬ (en : Int) < b := by omega
                    simp [this]
                  · simp [h1]
                have hsr : Srt le mid b es8 := by
                  rcases Nat.lt_or_ge mid en with h | h
                  · exact H3.out.2.2.2.2.1.mono (Nat.le_refl _) (by omega)
                  · exact H3.out.2.2.2.2.2.1.mono (by omega) (Nat.le_refl _)
                have HE := Lib.hid (show ∃ es', RowAt w8 g es' sp ∧ Mix a b es es' ∧ Srt le a b es' ∧ Chg (fun q => q = g) w w8 from ⟨es8, H3.out.1, H3.out.2.1, H3.out.2.2.1.join H3.out.2.2.2.1 hsr, H3.out.2.2.2.2.2.2⟩)
                clear hsr
                by_cases hr1 : (mid : Int) < en
                · have hr2 : ¬ (en : Int) < b := by omega
                  go_wp2_with fail
                  all_goals go_end0
                  all_goals exact ⟨rfl, HE.out⟩
                · go_wp2_with fail
                  all_goals go_end0
                  all_goals exact ⟨rfl, HE.out⟩
          · have hsl : Srt le a mid es7 := by
              rcases Nat.lt_or_ge a start with h | h
              · exact H2.out.s1.mono (Nat.le_refl _) (by omega)
              · exact H2.out.s2.mono (by omega) (Nat.le_refl _)
            have H3 := Lib.hid (show RowAt w7 g es7 sp ∧ Mix a b es es7 ∧ Cut le a mid b es7 ∧ Srt le a mid es7 ∧ Srt le mid en es7 ∧ Srt le en b es7 ∧ Chg (fun q => q = g) w w7 from
              ⟨H2.out.row, H2.out.mix, H2.out.cut, hsl, H2.out.s3, H2.out.s4, H2.out.chg⟩)
            clear hsl
            by_cases hl1 : (a : Int) < start
            · have hl2 : ¬ (start : Int) < mid := by omega
              by_cases hr : mid < en ∧ en < b
              · have hr1 : (mid : Int) < en := by omega
                have hr2 : (en : Int) < b := by omega
                have C := Lib.hid (IH w7 g n c mid en b es7 sp (by omega) H3.out.1 (fun e he => HR.out.2.2.1 e (H3.out.2.1.perm.mem_iff.1 he)) (by rw [H3.out.2.1.len, HR.out.2.1]) hr.1 hr.2 hb hbig H3.out.2.2.2.2.1 H3.out.2.2.2.2.2.1)
                go_wp2_with fail
                all_goals
                  with_reducible refine C.out.mono ?_
                  rintro x w9 ⟨rfl, es9, r9, m9, s9, c9⟩
                  have HE := Lib.hid (show ∃ es', RowAt w9 g es' sp ∧ Mix a b es es' ∧ Srt le a b es' ∧ Chg (fun q => q = g) w w9 from
                    ⟨es9, r9, H3.out.2.1.trans (m9.mono (by omega) (by omega)), (H3.out.2.2.1.right m9).join (H3.out.2.2.2.1.keep m9 (by omega)) s9, H3.out.2.2.2.2.2.2.trans c9 fun _ _ => id⟩)
                  clear r9 m9 s9 c9 C
                  go_wp2_with fail
                  all_goals go_end0
                  all_goals exact ⟨rfl, HE.out⟩
              · have hrr : (decide ((mid : Int) < en) && decide ((en : Int) < b)) = false := by
                  by_cases h1 : (mid : Int) < en
                  · have : ¬ (en : Int) < b := by omega
                    simp [this]
                  · simp [h1]
                have hsr : Srt le mid b es7 := by
                  rcases Nat.lt_or_ge mid en with h | h
                  · exact H3.out.2.2.2.2.1.mono (Nat.le_refl _) (by omega)
                  · exact H3.out.2.2.2.2.2.1.mono (by omega) (Nat.le_refl _)
                have HE := Lib.hid (show ∃ es', RowAt w7 g es' sp ∧ Mix a b es es' ∧ Srt le a b es' ∧ Chg (fun q => q = g) w w7 from ⟨es7, H3.out.1, H3.out.2.1, H3.out.2.2.1.join H3.out.2.2.2.1 hsr, H3.out.2.2.2.2.2.2⟩)
                clear hsr
                by_cases hr1 : (mid : Int) < en
                · have hr2 : ¬ (en : Int) < b := by omega
                  go_wp2_with fail
                  all_goals go_end0
                  all_goals exact ⟨rfl, HE.out⟩
                · go_wp2_with fail
                  all_goals go_end0
                  all_goals exact ⟨rfl, HE.out⟩
            · by_cases hr : mid < en ∧ en < b
              · have hr1 : (mid : Int) < en := by omega
                have hr2 : (en : Int) < b := by omega
                have C := Lib.hid (IH w7 g n c mid en b es7 sp (by omega) H3.out.1 (fun e he => HR.out.2.2.1 e (H3.out.2.1.perm.mem_iff.1 he)) (by rw [H3.out.2.1.len, HR.out.2.1]) hr.1 hr.2 hb hbig H3.out.2.2.2.2.1 H3.out.2.2.2.2.2.1)
                go_wp2_with fail
                all_goals
                  with_reducible refine C.out.mono ?_
                  rintro x w9 ⟨rfl, es9, r9, m9, s9, c9⟩
                  have HE := Lib.hid (show ∃ es', RowAt w9 g es' sp ∧ Mix a b es es' ∧ Srt le a b es' ∧ Chg (fun q => q = g) w w9 from
                    ⟨es9, r9, H3.out.2.1.trans (m9.mono (by omega) (by omega)), (H3.out.2.2.1.right m9).join (H3.out.2.2.2.1.keep m9 (by omega)) s9, H3.out.2.2.2.2.2.2.trans c9 fun _ _ => id⟩)
                  clear r9 m9 s9 c9 C
                  go_wp2_with fail
                  all_goals go_end0
                  all_goals exact ⟨rfl, HE.out⟩
              · have hrr : (decide ((mid : Int) < en) && decide ((en : Int) < b)) = false := by
                  by_cases h1 : (mid : Int) < en
                  · have : ¬ (en : Int) < b := by omega
                    simp [this]
                  · simp [h1]
                have hsr : Srt le mid b es7 := by
                  rcases Nat.lt_or_ge mid en with h | h
                  · exact H3.out.2.2.2.2.1.mono (Nat.le_refl _) (by omega)
                  · exact H3.out.2.2.2.2.2.1.mono (by omega) (Nat.le_refl _)
                have HE := Lib.hid (show ∃ es', RowAt w7 g es' sp ∧ Mix a b es es' ∧ Srt le a b es' ∧ Chg (fun q => q = g) w w7 from ⟨es7, H3.out.1, H3.out.2.1, H3.out.2.2.1.join H3.out.2.2.2.1 hsr, H3.out.2.2.2.2.2.2⟩)
                clear hsr
                by_cases hr1 : (mid : Int) < en
                · have hr2 : ¬ (en : Int) < b := by omega
                  go_wp2_with fail
                  all_goals go_end0
                  all_goals exact ⟨rfl, HE.out⟩
                · go_wp2_with fail
                  all_goals go_end0
                  all_goals exact ⟨rfl, HE.out⟩
        · have hc7 := HC.out es (RotR.same (by omega) hsm.1 hsm.2.1)
          have H2 := Lib.hid (show Mid w g a mid b start en es sp es wr from ⟨HR.out.1.new HN0.out, Mix.refl _ _ _, hc7.1, hc7.2.1, hc7.2.2.1, hc7.2.2.2.1, hc7.2.2.2.2, HN0.out.to _⟩)
          clear hc7
          by_cases ht1 : (start : Int) < m
          · have ht2 : ¬ (m : Int) < en := by omega
            by_cases hl : a < start ∧ start < mid
            · have hl1 : (a : Int) < start := by omega
              have hl2 : (start : Int) < mid := by omega
              have C := Lib.hid (IH wr g n c a start mid es sp (by omega) H2.out.row (fun e he => HR.out.2.2.1 e (H2.out.mix.perm.mem_iff.1 he)) (by rw [H2.out.mix.len, HR.out.2.1]) hl.1 hl.2 (by omega) hbig H2.out.s1 H2.out.s2)
              go_wp2_with fail
              all_goals
                with_reducible refine C.out.mono ?_
                rintro x w8 ⟨rfl, es8, r8, m8, s8, c8⟩
                have H3 := Lib.hid (show RowAt w8 g es8 sp ∧ Mix a b es es8 ∧ Cut le a mid b es8 ∧ Srt le a mid es8 ∧ Srt le mid en es8 ∧ Srt le en b es8 ∧ Chg (fun q => q = g) w w8 from
                  ⟨r8, H2.out.mix.trans (m8.mono (Nat.le_refl _) (by omega)), H2.out.cut.left m8, s8, H2.out.s3.keep m8 (by omega), H2.out.s4.keep m8 (by omega), H2.out.chg.trans c8 fun _ _ => id⟩)
                clear r8 m8 s8 c8 C
                by_cases hr : mid < en ∧ en < b
                · have hr1 : (mid : Int) < en := by omega
                  have hr2 : (en : Int) < b := by omega
                  have C := Lib.hid (IH w8 g n c mid en b es8 sp (by omega) H3.out.1 (fun e he => HR.out.2.2.1 e (H3.out.2.1.perm.mem_iff.1 he)) (by rw [H3.out.2.1.len, HR.out.2.1]) hr.1 hr.2 hb hbig H3.out.2.2.2.2.1 H3.out.2.2.2.2.2.1)
                  go_wp2_with fail
                  all_goals
                    with_reducible refine C.out.mono ?_
                    rintro x w9 ⟨rfl, es9, r9, m9, s9, c9⟩
                    have HE := Lib.hid (show ∃ es', RowAt w9 g es' sp ∧ Mix a b es es' ∧ Srt le a b es' ∧ Chg (fun q => q = g) w w9 from
                      ⟨es9, r9, H3.out.2.1.trans (m9.mono (by omega) (by omega)), (H3.out.2.2.1.right m9).join (H3.out.2.2.2.1.keep m9 (by omega)) s9, H3.out.2.2.2.2.2.2.trans c9 fun _ _ => id⟩)
                    clear r9 m9 s9 c9 C
                    go_wp2_with fail
                    all_goals go_end0
                    all_goals exact ⟨rfl, HE.out⟩
                · have hrr : (decide ((mid : Int) < en) && decide ((en : Int) < b)) = false := by
                    by_cases h1 : (mid : Int) < en
                    · have : ¬ (en : Int) < b := by omega
                      simp [this]
                    · simp [h1]
                  have hsr : Srt le mid b es8 := by
                    rcases Nat.lt_or_ge mid en with h | h
                    · exact H3.out.2.2.2.2.1.mono (Nat.le_refl _) (by omega)
                    · exact H3.out.2.2.2.2.2.1.mono (by omega) (Nat.le_refl _)
                  have HE := Lib.hid (show ∃ es', RowAt w8 g es' sp ∧ Mix a b es es' ∧ Srt le a b es' ∧ Chg (fun q => q = g) w w8 from ⟨es8, H3.out.1, H3.out.2.1, H3.out.2.2.1.join H3.out.2.2.2.1 hsr, H3.out.2.2.2.2.2.2⟩)
                  clear hsr
                  by_cases hr1 : (mid : Int) < en
                  · have hr2 : ¬ (en : Int) < b := by omega
                    go_wp2_with fail
                    all_goals go_end0
                    all_goals exact ⟨rfl, HE.out⟩
                  · go_wp2_with fail
                    all_goals go_end0
                    all_goals exact ⟨rfl, HE.out⟩
            · have hsl : Srt le a mid es := by
                rcases Nat.lt_or_ge a start with h | h
                · exact H2.out.s1.mono (Nat.le_refl _) (by omega)
                · exact H2.out.s2.mono (by omega) (Nat.le_refl _)
              have H3 := Lib.hid (show RowAt wr g es sp ∧ Mix a b es es ∧ Cut le a mid b es ∧ Srt le a mid es ∧ Srt le mid en es ∧ Srt le en b es ∧ Chg (fun q => q = g) w wr from
                ⟨H2.out.row, H2.out.mix, H2.out.cut, hsl, H2.out.s3, H2.out.s4, H2.out.chg⟩)
              clear hsl
              by_cases hl1 : (a : Int) < start
              · have hl2 : ¬ (start : Int) < mid := by omega
                by_cases hr : mid < en ∧ en < b
                · have hr1 : (mid : Int) < en := by omega
                  have hr2 : (en : Int) < b := by omega
                  have C := Lib.hid (IH wr g n c mid en b es sp (by omega) H3.out.1 (fun e he => HR.out.2.2.1 e (H3.out.2.1.perm.mem_iff.1 he)) (by rw [H3.out.2.1.len, HR.out.2.1]) hr.1 hr.2 hb hbig H3.out.2.2.2.2.1 H3.out.2.2.2.2.2.1)
                  go_wp2_with fail
                  all_goals
                    with_reducible refine C.out.mono ?_
                    rintro x w9 ⟨rfl, es9, r9, m9, s9, c9⟩
                    have HE := Lib.hid (show ∃ es', RowAt w9 g es' sp ∧ Mix a b es es' ∧ Srt le a b es' ∧ Chg (fun q => q = g) w w9 from
                      ⟨es9, r9, H3.out.2.1.trans (m9.mono (by omega) (by omega)), (H3.out.2.2.1.right m9).join (H3.out.2.2.2.1.keep m9 (by omega)) s9, H3.out.2.2.2.2.2.2.trans c9 fun _ _ => id⟩)
                    clear r9 m9 s9 c9 C
                    go_wp2_with fail
                    all_goals go_end0
                    all_goals exact ⟨rfl, HE.out⟩
                · have hrr : (decide ((mid : Int) < en) && decide ((en : Int) < b)) = false := by
                    by_cases h1 : (mid : Int) < en
                    · have : ¬ (en : Int) < b := by omega
                      simp [this]
                    · simp [h1]
                  have hsr : Srt le mid b es := by
                    rcases Nat.lt_or_ge mid en with h | h
                    · exact H3.out.2.2.2.2.1.mono (Nat.le_refl _) (by omega)
                    · exact H3.out.2.2.2.2.2.1.mono (by omega) (Nat.le_refl _)
                  have HE := Lib.hid (show ∃ es', RowAt wr g es' sp ∧ Mix a b es es' ∧ Srt le a b es' ∧ Chg (fun q => q = g) w wr from ⟨es, H3.out.1, H3.out.2.1, H3.out.2.2.1.join H3.out.2.2.2.1 hsr, H3.out.2.2.2.2.2.2⟩)
                  clear hsr
                  by_cases hr1 : (mid : Int) < en
                  · have hr2 : ¬ (en : Int) < b := by omega
                    go_wp2_with fail
                    all_goals go_end0
                    all_goals exact ⟨rfl, HE.out⟩
                  · go_wp2_with fail
                    all_goals go_end0
                    all_goals exact ⟨rfl, HE.out⟩
              · by_cases hr : mid < en ∧ en < b
                · have hr1 : (mid : Int) < en := by omega
                  have hr2 : (en : Int) < b := by omega
                  have C := Lib.hid (IH wr g n c mid en b es sp (by omega) H3.out.1 (fun e he => HR.out.2.2.1 e (H3.out.2.1.perm.mem_iff.1 he)) (by rw [H3.out.2.1.len, HR.out.2.1]) hr.1 hr.2 hb hbig H3.out.2.2.2.2.1 H3.out.2.2.2.2.2.1)
                  go_wp2_with fail
                  all_goals
                    with_reducible refine C.out.mono ?_
                    rintro x w9 ⟨rfl, es9, r9, m9, s9, c9⟩
                    have HE := Lib.hid (show ∃ es', RowAt w9 g es' sp ∧ Mix a b es es' ∧ Srt le a b es' ∧ Chg (fun q => q = g) w w9 from
                      ⟨es9, r9, H3.out.2.1.trans (m9.mono (by omega) (by omega)), (H3.out.2.2.1.right m9).join (H3.out.2.2.2.1.keep m9 (by omega)) s9, H3.out.2.2.2.2.2.2.trans c9 fun _ _ => id⟩)
                    clear r9 m9 s9 c9 C
                    go_wp2_with fail
                    all_goals go_end0
                    all_goals exact ⟨rfl, HE.out⟩
                · have hrr : (decide ((mid : Int) < en) && decide ((en : Int) < b)) = false := by
                    by_cases h1 : (mid : Int) < en
                    · have : ¬ (en : Int) < b := by omega
                      simp [this]
                    · simp [h1]
                  have hsr : Srt le mid b es := by
                    rcases Nat.lt_or_ge mid en with h | h
                    · exact H3.out.2.2.2.2.1.mono (Nat.le_refl _) (by omega)
                    · exact H3.out.2.2.2.2.2.1.mono (by omega) (Nat.le_refl _)
                  have HE := Lib.hid (show ∃ es', RowAt wr g es' sp ∧ Mix a b es es' ∧ Srt le a b es' ∧ Chg (fun q => q = g) w wr from ⟨es, H3.out.1, H3.out.2.1, H3.out.2.2.1.join H3.out.2.2.2.1 hsr, H3.out.2.2.2.2.2.2⟩)
                  clear hsr
                  by_cases hr1 : (mid : Int) < en
                  · have hr2 : ¬ (en : Int) < b := by omega
                    go_wp2_with fail
                    all_goals go_end0
                    all_goals exact ⟨rfl, HE.out⟩
                  · go_wp2_with fail
                    all_goals go_end0
                    all_goals exact ⟨rfl, HE.out⟩
          · by_cases hl : a < start ∧ start < mid
            · have hl1 : (a : Int) < start := by omega
              have hl2 : (start : Int) < mid := by omega
              have C := Lib.hid (IH wr g n c a start mid es sp (by omega) H2.out.row (fun e he => HR.out.2.2.1 e (H2.out.mix.perm.mem_iff.1 he)) (by rw [H2.out.mix.len, HR.out.2.1]) hl.1 hl.2 (by omega) hbig H2.out.s1 H2.out.s2)
              go_wp2_with fail
              all_goals
                with_reducible refine C.out.mono ?_
                rintro x w8 ⟨rfl, es8, r8, m8, s8, c8⟩
                have H3 := Lib.hid (show RowAt w8 g es8 sp ∧ Mix a b es es8 ∧ Cut le a mid b es8 ∧ Srt le a mid es8 ∧ Srt le mid en es8 ∧ Srt le en b es8 ∧ Chg (fun q => q = g) w w8 from
                  ⟨r8, H2.out.mix.trans (m8.mono (Nat.le_refl _) (by omega)), H2.out.cut.left m8, s8, H2.out.s3.keep m8 (by omega), H2.out.s4.keep m8 (by omega), H2.out.chg.trans c8 fun _ _ => id⟩)
                clear r8 m8 s8 c8 C
                by_cases hr : mid < en ∧ en < b
                · have hr1 : (mid : Int) < en := by omega
                  have hr2 : (en : Int) < b := by omega
                  have C := Lib.hid (IH w8 g n c mid en b es8 sp (by omega) H3.out.1 (fun e he => HR.out.2.2.1 e (H3.out.2.1.perm.mem_iff.1 he)) (by rw [H3.out.2.1.len, HR.out.2.1]) hr.1 hr.2 hb hbig H3.out.2.2.2.2.1 H3.out.2.2.2.2.2.1)
                  go_wp2_with fail
                  all_goals
                    with_reducible refine C.out.mono ?_
                    rintro x w9 ⟨rfl, es9, r9, m9, s9, c9⟩
                    have HE := Lib.hid (show ∃ es', RowAt w9 g es' sp ∧ Mix a b es es' ∧ Srt le a b es' ∧ Chg (fun q => q = g) w w9 from
                      ⟨es9, r9, H3.out.2.1.trans (m9.mono (by omega) (by omega)), (H3.out.2.2.1.right m9).join (H3.out.2.2.2.1.keep m9 (by omega)) s9, H3.out.2.2.2.2.2.2.trans c9 fun _ _ => id⟩)
                    clear r9 m9 s9 c9 C
                    go_wp2_with fail
                    all_goals go_end0
                    all_goals exact ⟨rfl, HE.out⟩
                · have hrr : (decide ((mid : Int) < en) && decide ((en : Int) < b)) = false := by
                    by_cases h1 : (mid : Int) < en
                    · have : ¬ (en : Int) < b := by omega
                      simp [this]
                    · simp [h1]
                  have hsr : Srt le mid b es8 := by
                    rcases Nat.lt_or_ge mid en with h | h
                    · exact H3.out.2.2.2.2.1.mono (Nat.le_refl _) (by omega)
                    · exact H3.out.2.2.2.2.2.1.mono (by omega) (Nat.le_refl _)
                  have HE := Lib.hid (show ∃ es', RowAt w8 g es' sp ∧ Mix a b es es' ∧ Srt le a b es' ∧ Chg (fun q => q = g) w w8 from ⟨es8, H3.out.1, H3.out.2.1, H3.out.2.2.1.join H3.out.2.2.2.1 hsr, H3.out.2.2.2.2.2.2⟩)
                  clear hsr
                  by_cases hr1 : (mid : Int) < en
                  · have hr2 : ¬ (en : Int) < b := by omega
                    go_wp2_with fail
                    all_goals go_end0
                    all_goals exact ⟨rfl, HE.out⟩
                  · go_wp2_with fail
                    all_goals go_end0
                    all_goals exact ⟨rfl, HE.out⟩
            · have hsl : Srt le a mid es := by
                rcases Nat.lt_or_ge a start with h | h
                · exact H2.out.s1.mono (Nat.le_refl _) (by omega)
                · exact H2.out.s2.mono (by omega) (Nat.le_refl _)
              have H3 := Lib.hid (show RowAt wr g es sp ∧ Mix a b es es ∧ Cut le a mid b es ∧ Srt le a mid es ∧ Srt le mid en es ∧ Srt le en b es ∧ Chg (fun q => q = g) w wr from
                ⟨H2.out.row, H2.out.mix, H2.out.cut, hsl, H2.out.s3, H2.out.s4, H2.out.chg⟩)
              clear hsl
              by_cases hl1 : (a : Int) < start
              · have hl2 : ¬ (start : Int) < mid := by omega
                by_cases hr : mid < en ∧ en < b
                · have hr1 : (mid : Int) < en := by omega
                  have hr2 : (en : Int) < b := by omega
                  have C := Lib.hid (IH wr g n c mid en b es sp (by omega) H3.out.1 (fun e he => HR.out.2.2.1 e (H3.out.2.1.perm.mem_iff.1 he)) (by rw [H3.out.2.1.len, HR.out.2.1]) hr.1 hr.2 hb hbig H3.out.2.2.2.2.1 H3.out.2.2.2.2.2.1)
                  go_wp2_with fail
                  all_goals
                    with_reducible refine C.out.mono ?_
                    rintro x w9 ⟨rfl, es9, r9, m9, s9, c9⟩
                    have HE := Lib.hid (show ∃ es', RowAt w9 g es' sp ∧ Mix a b es es' ∧ Srt le a b es' ∧ Chg (fun q => q = g) w w9 from
                      ⟨es9, r9, H3.out.2.1.trans (m9.mono (by omega) (by omega)), (H3.out.2.2.1.right m9).join (H3.out.2.2.2.1.keep m9 (by omega)) s9, H3.out.2.2.2.2.2.2.trans c9 fun _ _ => id⟩)
                    clear r9 m9 s9 c9 C
                    go_wp2_with fail
                    all_goals go_end0
                    all_goals exact ⟨rfl, HE.out⟩
                · have hrr : (decide ((mid : Int) < en) && decide ((en : Int) < b)) = false := by
                    by_cases h1 : (mid : Int) < en
                    · have : ¬ (en : Int) < b := by omega
                      simp [this]
                    · simp [h1]
                  have hsr : Srt le mid b es := by
                    rcases Nat.lt_or_ge mid en with h | h
                    · exact H3.out.2.2.2.2.1.mono (Nat.le_refl _) (by omega)
                    · exact H3.out.2.2.2.2.2.1.mono (by omega) (Nat.le_refl _)
                  have HE := Lib.hid (show ∃ es', RowAt wr g es' sp ∧ Mix a b es es' ∧ Srt le a b es' ∧ Chg (fun q => q = g) w wr from ⟨es, H3.out.1, H3.out.2.1, H3.out.2.2.1.join H3.out.2.2.2.1 hsr, H3.out.2.2.2.2.2.2⟩)
                  clear hsr
                  by_cases hr1 : (mid : Int) < en
                  · have hr2 : ¬ (en : Int) < b := by omega
                    go_wp2_with fail
                    all_goals go_end0
                    all_goals exact ⟨rfl, HE.out⟩
                  · go_wp2_with fail
                    all_goals go_end0
                    all_goals exact ⟨rfl, HE.out⟩
              · by_cases hr : mid < en ∧ en < b
                · have hr1 : (mid : Int) < en := by omega
                  have hr2 : (en : Int) < b := by omega
                  have C := Lib.hid (IH wr g n c mid en b es sp (by omega) H3.out.1 (fun e he => HR.out.2.2.1 e (H3.out.2.1.perm.mem_iff.1 he)) (by rw [H3.out.2.1.len, HR.out.2.1]) hr.1 hr.2 hb hbig H3.out.2.2.2.2.1 H3.out.2.2.2.2.2.1)
                  go_wp2_with fail
                  all_goals
                    with_reducible refine C.out.mono ?_
                    rintro x w9 ⟨rfl, es9, r9, m9, s9, c9⟩
                    have HE := Lib.hid (show ∃ es', RowAt w9 g es' sp ∧ Mix a b es es' ∧ Srt le a b es' ∧ Chg (fun q => q = g) w w9 from
                      ⟨es9, r9, H3.out.2.1.trans (m9.mono (by omega) (by omega)), (H3.out.2.2.1.right m9).join (H3.out.2.2.2.1.keep m9 (by omega)) s9, H3.out.2.2.2.2.2.2.trans c9 fun _ _ => id⟩)
                    clear r9 m9 s9 c9 C
                    go_wp2_with fail
                    all_goals go_end0
                    all_goals exact ⟨rfl, HE.out⟩
                · have hrr : (decide ((mid : Int) < en) && decide ((en : Int) < b)) = false := by
                    by_cases h1 : (mid : Int) < en
                    · have : ¬ (en : Int) < b := by omega
                      simp [this]
                    · simp [h1]
                  have hsr : Srt le mid b es := by
                    rcases Nat.lt_or_ge mid en with h | h
                    · exact H3.out.2.2.2.2.1.mono (Nat.le_refl _) (by omega)
                    · exact H3.out.2.2.2.2.2.1.mono (by omega) (Nat.le_refl _)
                  have HE := Lib.hid (show ∃ es', RowAt wr g es' sp ∧ Mix a b es es' ∧ Srt le a b es' ∧ Chg (fun q => q = g) w wr from ⟨es, H3.out.1, H3.out.2.1, H3.out.2.2.1.join H3.out.2.2.2.1 hsr, H3.out.2.2.2.2.2.2⟩)
                  clear hsr
                  by_cases hr1 : (mid : Int) < en
                  · have hr2 : ¬ (en : Int) < b := by omega
                    go_wp2_with fail
                    all_goals go_end0
                    all_goals exact ⟨rfl, HE.out⟩
                  · go_wp2_with fail
                    all_goals go_end0
                    all_goals exact ⟨rfl, HE.out⟩
  · have hmmi : ¬ (mid : Int) < m := by omega
    go_enter Tryd.func46, Tryd.ntmps46
    go_wp2_with fail
    go_loopw [20, 21, 23] (fun iv jv _ wr => ∃ (i j : Nat), a ≤ i ∧ i ≤ j ∧ j ≤ m ∧ iv = .int .i64 i ∧ jv = .int .i64 j ∧ Hid (a < i → ∀ u v, es[i - 1]? = some u → es[n2 - i]? = some v → le u v) ∧ Hid (j < m → ∀ u v, es[n2 - 1 - j]? = some u → es[j]? = some v → le u v) ∧ New w wr) (fun iv jv _ _ => (intOf jv).toNat - (intOf iv).toNat)
    case atStart => exact ⟨a, m, by omega, by omega, by omega, by go_num, by go_num, Lib.hid (fun h => by omega), Lib.hid (fun h => by omega), Chg.refl _ _⟩
    case round =>
      obtain ⟨i, j, hmi, hij, hjb, rfl, rfl, HL, HH, hnw⟩ := hrel
      by_cases hlt : i < j
      · have hli : (i : Int) < j := by omega
        obtain ⟨s, hs⟩ : ∃ s, i + j = s := ⟨_, rfl⟩
        have hws : IntKind.i64.wrap ((i : Int) + (j : Int)) = (s : Int) := by rw [← Int.natCast_add, hs]; exact IntWalk.i64_in _ (by omega)
        obtain ⟨h, hh⟩ : ∃ h, s / 2 = h := ⟨_, rfl⟩
        have hdiv : (s : Int) / 2 = (h : Int) := by omega
        have hih : i ≤ h ∧ h < j := by omega
        have hhn : (h : Int) < n := by omega
        have hwh : IntKind.i64.wrap ((h : Int) + 1) = (h : Int) + 1 := IntWalk.i64_in _ (by omega)
        obtain ⟨q, hq⟩ : ∃ q, n2 - 1 - h = q := ⟨_, rfl⟩
        have hwq : IntKind.i64.wrap ((p : Int) - (h : Int)) = (q : Int) := by rw [show (p : Int) - (h : Int) = (q : Int) by omega]; exact IntWalk.i64_in _ (by omega)
        have hqn : (q : Int) < n := by omega
        obtain ⟨x, hx⟩ : ∃ x, es[q]? = some x := ⟨_, List.getElem?_eq_getElem (by have := HR.out.2.1; omega)⟩
        obtain ⟨y, hy⟩ : ∃ x, es[h]? = some x := ⟨_, List.getElem?_eq_getElem (by have := HR.out.2.1; omega)⟩
        have C := Lib.hid (HR.out.2.2.2 x y (HR.out.2.2.1 x (List.mem_of_getElem? hx)) (HR.out.2.2.1 y (List.mem_of_getElem? hy)) wr.drew)
        obtain ⟨d, hd⟩ : ∃ d, cmpE x y = d := ⟨_, rfl⟩
        rw [hd] at C
        have F := Lib.hid (fun W (hW : New wr.drew W) => And.intro ((HR.out.1.new (hnw.drew.trans hW fun _ _ => id)).ld hx) (And.intro ((HR.out.1.new (hnw.drew.trans hW fun _ _ => id)).ld hy) (HR.out.1.new (hnw.drew.trans hW fun _ _ => id)).lt))
        have HN0 := Lib.hid hnw
        by_cases hd0 : d < 0
        · have hnb : (!decide (d < 0)) = false := by simpa using hd0
          have HE := Lib.hid (show h < m → ∀ u v, es[n2 - 1 - h]? = some u → es[h]? = some v → le u v from fun _ u v hu hv => by
            rw [hq, hx] at hu
            rw [hy] at hv
            injection hu with hu
            injection hv with hv
            subst hu hv
            exact lt_le (by rw [hd]; exact hd0))
          clear hnw hx hy hd hd0
          go_wp2_with fail
          refine grow_start (fun _ => False) (by kernel_rfl) ?_
          refine grow_take (i := 0) (oi := { dst := some 158, op := Op.move (Operand.tmp 4), type := 53, pos := "zsortanyfunc.go:441", after := #[], guard := none }) (v := ?_) rfl (by kernel_rfl) (by kernel_rfl) (by kernel_rfl) (by rfl) ?_ ?_; rotate_left; focus ((intro W hW; go_simp) <;> with_reducible rfl)
          simp only [Act.put, List.setIfInBounds_toArray, List.set_cons_zero, List.set_cons_succ]
          refine grow_take (i := 1) (oi := { dst := some 159, op := Op.move (Operand.tmp 0), type := 24, pos := "zsortanyfunc.go:441", after := #[], guard := none }) (v := ?_) rfl (by kernel_rfl) (by kernel_rfl) (by kernel_rfl) (by rfl) ?_ ?_; rotate_left; focus ((intro W hW; go_simp) <;> with_reducible rfl)
          simp only [Act.put, List.setIfInBounds_toArray, List.set_cons_zero, List.set_cons_succ]
          refine grow_take (i := 2) (oi := { dst := some 160, op := Op.move (Operand.tmp 22), type := 3, pos := "zsortanyfunc.go:441", after := #[], guard := none }) (v := ?_) rfl (by kernel_rfl) (by kernel_rfl) (by kernel_rfl) (by rfl) ?_ ?_; rotate_left; focus ((intro W hW; go_simp) <;> with_reducible rfl)
          simp only [Act.put, List.setIfInBounds_toArray, List.set_cons_zero, List.set_cons_succ]
          refine grow_take (i := 3) (oi := { dst := some 161, op := Op.move (Operand.tmp 23), type := 3, pos := "zsortanyfunc.go:441", after := #[], guard := none }) (v := ?_) rfl (by kernel_rfl) (by kernel_rfl) (by kernel_rfl) (by rfl) ?_ ?_; rotate_left; focus ((intro W hW; go_simp) <;> with_reducible rfl)
          simp only [Act.put, List.setIfInBounds_toArray, List.set_cons_zero, List.set_cons_succ]
          refine grow_take (i := 4) (oi := { dst := some 162, op := Op.binOp BinOp.sub 3 (Operand.tmp 160) (Operand.tmp 161) 3, type := 3, pos := "zsortanyfunc.go:441", after := #[{ on := 2, ground := Ground.data }, { on := 3, ground := Ground.data }], guard := none }) (v := ?_) rfl (by kernel_rfl) (by kernel_rfl) (by kernel_rfl) (by rfl) ?_ ?_; rotate_left; focus ((intro W hW; have fct := F.out W hW; go_simp) <;> with_reducible rfl)
          simp only [Act.put, List.setIfInBounds_toArray, List.set_cons_zero, List.set_cons_succ]
          refine grow_take (i := 5) (oi := { dst := some 163, op := Op.indexAddr 24 (Operand.tmp 159) (Operand.tmp 162), type := 0, pos := "zsortanyfunc.go:441", after := #[{ on := 1, ground := Ground.data }, { on := 4, ground := Ground.data }], guard := none }) (v := ?_) rfl (by kernel_rfl) (by kernel_rfl) (by kernel_rfl) (by rfl) ?_ ?_; rotate_left; focus ((intro W hW; have fct := F.out W hW; go_simp) <;> with_reducible rfl)
          simp only [Act.put, List.setIfInBounds_toArray, List.set_cons_zero, List.set_cons_succ]
          refine grow_take (i := 6) (oi := { dst := some 164, op := Op.load 35 (Operand.tmp 163), type := 35, pos := "zsortanyfunc.go:441", after := #[{ on := 5, ground := Ground.data }], guard := none }) (v := ?_) rfl (by kernel_rfl) (by kernel_rfl) (by kernel_rfl) (by rfl) ?_ ?_; rotate_left; focus ((intro W hW; have fct := F.out W hW; go_simp) <;> with_reducible rfl)
          simp only [Act.put, List.setIfInBounds_toArray, List.set_cons_zero, List.set_cons_succ]
          refine grow_take (i := 7) (oi := { dst := some 165, op := Op.move (Operand.tmp 0), type := 24, pos := "zsortanyfunc.go:441", after := #[], guard := none }) (v := ?_) rfl (by kernel_rfl) (by kernel_rfl) (by kernel_rfl) (by rfl) ?_ ?_; rotate_left; focus ((intro W hW; go_simp) <;> with_reducible rfl)
          simp only [Act.put, List.setIfInBounds_toArray, List.set_cons_zero, List.set_cons_succ]
          refine grow_take (i := 8) (oi := { dst := some 166, op := Op.move (Operand.tmp 23), type := 3, pos := "zsortanyfunc.go:441", after := #[], guard := none }) (v := ?_) rfl (by kernel_rfl) (by kernel_rfl) (by kernel_rfl) (by rfl) ?_ ?_; rotate_left; focus ((intro W hW; go_simp) <;> with_reducible rfl)
          simp only [Act.put, List.setIfInBounds_toArray, List.set_cons_zero, List.set_cons_succ]
          refine grow_take (i := 9) (oi := { dst := some 167, op := Op.indexAddr 24 (Operand.tmp 165) (Operand.tmp 166), type := 0, pos := "zsortanyfunc.go:441", after := #[{ on := 7, ground := Ground.data }, { on := 8, ground := Ground.data }], guard := none }) (v := ?_) rfl (by kernel_rfl) (by kernel_rfl) (by kernel_rfl) (by rfl) ?_ ?_; rotate_left; focus ((intro W hW; have fct := F.out W hW; go_simp) <;> with_reducible rfl)
          simp only [Act.put, List.setIfInBounds_toArray, List.set_cons_zero, List.set_cons_succ]
          refine grow_take (i := 10) (oi := { dst := some 168, op := Op.load 35 (Operand.tmp 167), type := 35, pos := "zsortanyfunc.go:441", after := #[{ on := 9, ground := Ground.data }], guard := none }) (v := ?_) rfl (by kernel_rfl) (by kernel_rfl) (by kernel_rfl) (by rfl) ?_ ?_; rotate_left; focus ((intro W hW; have fct := F.out W hW; go_simp) <;> with_reducible rfl)
          simp only [Act.put, List.setIfInBounds_toArray, List.set_cons_zero, List.set_cons_succ]
          refine grow_next (i := 11) (oi := { dst := some 169, op := Op.call { callee := Callee.value (Operand.tmp 158), args := #[Operand.tmp 164, Operand.tmp 168], argTypes := #[35, 35] }, type := 3, pos := "zsortanyfunc.go:441", after := #[{ on := 0, ground := Ground.data }, { on := 6, ground := Ground.data }, { on := 10, ground := Ground.data }], guard := none }) (by kernel_rfl) rfl (by rfl) (fun K hK => ?_)
          go_simp
          with_reducible refine C.out.mono ?_
          rintro z wa ⟨rfl, na⟩
          refine hK _ _ na ?_
          clear hK K
          try simp only [Act.put, List.setIfInBounds_toArray, List.set_cons_zero, List.set_cons_succ]
          have HN := Lib.hid (HN0.out.drew.trans na fun _ _ => id)
          clear na
          refine grow_take (i := 12) (oi := { dst := some 170, op := Op.binOp BinOp.lss 3 (Operand.tmp 169) (Operand.const (Value.int IntKind.i64 0)) 3, type := 4, pos := "zsortanyfunc.go:441", after := #[{ on := 11, ground := Ground.data }], guard := none }) (v := ?_) rfl (by kernel_rfl) (by kernel_rfl) (by kernel_rfl) (by rfl) ?_ ?_; rotate_left; focus ((intro W hW; have fct := (fun (W : World) (_ : New wa W) => True.intro) W hW; go_simp) <;> with_reducible rfl)
          simp only [Act.put, List.setIfInBounds_toArray, List.set_cons_zero, List.set_cons_succ]
          refine grow_take (i := 13) (oi := { dst := some 171, op := Op.unOp UnOp.not 4 (Operand.tmp 170), type := 4, pos := "zsortanyfunc.go:441", after := #[{ on := 12, ground := Ground.data }], guard := none }) (v := ?_) rfl (by kernel_rfl) (by kernel_rfl) (by kernel_rfl) (by rfl) ?_ ?_; rotate_left; focus ((intro W hW; have fct := (fun (W : World) (_ : New wa W) => True.intro) W hW; go_simp) <;> with_reducible rfl)
          simp only [Act.put, List.setIfInBounds_toArray, List.set_cons_zero, List.set_cons_succ]
          refine grow_done (by kernel_rfl) ?_ _
          go_wp2_with fail
          go_roundw
          case rel => exact ⟨i, h, by omega, by omega, by omega, rfl, by go_num, HL, HE, by first | exact HN.out | exact HN.out.drew⟩
          case measure => simp [intOf]; omega
        · have hnb : (!decide (d < 0)) = true := by simpa using hd0
          have HE := Lib.hid (show a < h + 1 → ∀ u v, es[h + 1 - 1]? = some u → es[n2 - (h + 1)]? = some v → le u v from fun _ u v hu hv => by
            rw [show h + 1 - 1 = h by omega, hy] at hu
            rw [show n2 - (h + 1) = q by omega, hx] at hv
            injection hu with hu
            injection hv with hv
            subst hu hv
            exact not_lt_le (by rw [hd]; exact hd0))
          clear hnw hx hy hd hd0
          go_wp2_with fail
          refine grow_start (fun _ => False) (by kernel_rfl) ?_
          refine grow_take (i := 0) (oi := { dst := some 158, op := Op.move (Operand.tmp 4), type := 53, pos := "zsortanyfunc.go:441", after := #[], guard := none }) (v := ?_) rfl (by kernel_rfl) (by kernel_rfl) (by kernel_rfl) (by rfl) ?_ ?_; rotate_left; focus ((intro W hW; go_simp) <;> with_reducible rfl)
          simp only [Act.put, List.setIfInBounds_toArray, List.set_cons_zero, List.set_cons_succ]
          refine grow_take (i := 1) (oi := { dst := some 159, op := Op.move (Operand.tmp 0), type := 24, pos := "zsortanyfunc.go:441", after := #[], guard := none }) (v := ?_) rfl (by kernel_rfl) (by kernel_rfl) (by kernel_rfl) (by rfl) ?_ ?_; rotate_left; focus ((intro W hW; go_simp) <;> with_reducible rfl)
          simp only [Act.put, List.setIfInBounds_toArray, List.set_cons_zero, List.set_cons_succ]
          refine grow_take (i := 2) (oi := { dst := some 160, op := Op.move (Operand.tmp 22), type := 3, pos := "zsortanyfunc.go:441", after := #[], guard := none }) (v := ?_) rfl (by kernel_rfl) (by kernel_rfl) (by kernel_rfl) (by rfl) ?_ ?_; rotate_left; focus ((intro W hW; go_simp) <;> with_reducible rfl)
          simp only [Act.put, List.setIfInBounds_toArray, List.set_cons_zero, List.set_cons_succ]
          refine grow_take (i := 3) (oi := { dst := some 161, op := Op.move (Operand.tmp 23), type := 3, pos := "zsortanyfunc.go:441", after := #[], guard := none }) (v := ?_) rfl (by kernel_rfl) (by kernel_rfl) (by kernel_rfl) (by rfl) ?_ ?_; rotate_left; focus ((intro W hW; go_simp) <;> with_reducible rfl)
          simp only [Act.put, List.setIfInBounds_toArray, List.set_cons_zero, List.set_cons_succ]
          refine grow_take (i := 4) (oi := { dst := some 162, op := Op.binOp BinOp.sub 3 (Operand.tmp 160) (Operand.tmp 161) 3, type := 3, pos := "zsortanyfunc.go:441", after := #[{ on := 2, ground := Ground.data }, { on := 3, ground := Ground.data }], guard := none }) (v := ?_) rfl (by kernel_rfl) (by kernel_rfl) (by kernel_rfl) (by rfl) ?_ ?_; rotate_left; focus ((intro W hW; have fct := F.out W hW; go_simp) <;> with_reducible rfl)
          simp only [Act.put, List.setIfInBounds_toArray, List.set_cons_zero, List.set_cons_succ]
          refine grow_take (i := 5) (oi := { dst := some 163, op := Op.indexAddr 24 (Operand.tmp 159) (Operand.tmp 162), type := 0, pos := "zsortanyfunc.go:441", after := #[{ on := 1, ground := Ground.data }, { on := 4, ground := Ground.data }], guard := none }) (v := ?_) rfl (by kernel_rfl) (by kernel_rfl) (by kernel_rfl) (by rfl) ?_ ?_; rotate_left; focus ((intro W hW; have fct := F.out W hW; go_simp) <;> with_reducible rfl)
          simp only [Act.put, List.setIfInBounds_toArray, List.set_cons_zero, List.set_cons_succ]
          refine grow_take (i := 6) (oi := { dst := some 164, op := Op.load 35 (Operand.tmp 163), type := 35, pos := "zsortanyfunc.go:441", after := #[{ on := 5, ground := Ground.data }], guard := none }) (v := ?_) rfl (by kernel_rfl) (by kernel_rfl) (by kernel_rfl) (by rfl) ?_ ?_; rotate_left; focus ((intro W hW; have fct := F.out W hW; go_simp) <;> with_reducible rfl)
          simp only [Act.put, List.setIfInBounds_toArray, List.set_cons_zero, List.set_cons_succ]
          refine grow_take (i := 7) (oi := { dst := some 165, op := Op.move (Operand.tmp 0), type := 24, pos := "zsortanyfunc.go:441", after := #[], guard := none }) (v := ?_) rfl (by kernel_rfl) (by kernel_rfl) (by kernel_rfl) (by rfl) ?_ ?_; rotate_left; focus ((intro W hW; go_simp) <;> with_reducible rfl)
          simp only [Act.put, List.setIfInBounds_toArray, List.set_cons_zero, List.set_cons_succ]
          refine grow_take (i := 8) (oi := { dst := some 166, op := Op.move (Operand.tmp 23), type := 3, pos := "zsortanyfunc.go:441", after := #[], guard := none }) (v := ?_) rfl (by kernel_rfl) (by kernel_rfl) (by kernel_rfl) (by rfl) ?_ ?_; rotate_left; focus ((intro W hW; go_simp) <;> with_reducible rfl)
          simp only [Act.put, List.setIfInBounds_toArray, List.set_cons_zero, List.set_cons_succ]
          refine grow_take (i := 9) (oi := { dst := some 167, op := Op.indexAddr 24 (Operand.tmp 165) (Operand.tmp 166), type := 0, pos := "zsortanyfunc.go:441", after := #[{ on := 7, ground := Ground.data }, { on := 8, ground := Ground.data }], guard := none }) (v := ?_) rfl (by kernel_rfl) (by kernel_rfl) (by kernel_rfl) (by rfl) ?_ ?_; rotate_left; focus ((intro W hW; have fct := F.out W hW; go_simp) <;> with_reducible rfl)
          simp only [Act.put, List.setIfInBounds_toArray, List.set_cons_zero, List.set_cons_succ]
          refine grow_take (i := 10) (oi := { dst := some 168, op := Op.load 35 (Operand.tmp 167), type := 35, pos := "zsortanyfunc.go:441", after := #[{ on := 9, ground := Ground.data }], guard := none }) (v := ?_) rfl (by kernel_rfl) (by kernel_rfl) (by kernel_rfl) (by rfl) ?_ ?_; rotate_left; focus ((intro W hW; have fct := F.out W hW; go_simp) <;> with_reducible rfl)
          simp only [Act.put, List.setIfInBounds_toArray, List.set_cons_zero, List.set_cons_succ]
          refine grow_next (i := 11) (oi := { dst := some 169, op := Op.call { callee := Callee.value (Operand.tmp 158), args := #[Operand.tmp 164, Operand.tmp 168], argTypes := #[35, 35] }, type := 3, pos := "zsortanyfunc.go:441", after := #[{ on := 0, ground := Ground.data }, { on := 6, ground := Ground.data }, { on := 10, ground := Ground.data }], guard := none }) (by kernel_rfl) rfl (by rfl) (fun K hK => ?_)
          go_simp
          with_reducible refine C.out.mono ?_
          rintro z wa ⟨rfl, na⟩
          refine hK _ _ na ?_
          clear hK K
          try simp only [Act.put, List.setIfInBounds_toArray, List.set_cons_zero, List.set_cons_succ]
          have HN := Lib.hid (HN0.out.drew.trans na fun _ _ => id)
          clear na
          refine grow_take (i := 12) (oi := { dst := some 170, op := Op.binOp BinOp.lss 3 (Operand.tmp 169) (Operand.const (Value.int IntKind.i64 0)) 3, type := 4, pos := "zsortanyfunc.go:441", after := #[{ on := 11, ground := Ground.data }], guard := none }) (v := ?_) rfl (by kernel_rfl) (by kernel_rfl) (by kernel_rfl) (by rfl) ?_ ?_; rotate_left; focus ((intro W hW; have fct := (fun (W : World) (_ : New wa W) => True.intro) W hW; go_simp) <;> with_reducible rfl)
          simp only [Act.put, List.setIfInBounds_toArray, List.set_cons_zero, List.set_cons_succ]
          refine grow_take (i := 13) (oi := { dst := some 171, op := Op.unOp UnOp.not 4 (Operand.tmp 170), type := 4, pos := "zsortanyfunc.go:441", after := #[{ on := 12, ground := Ground.data }], guard := none }) (v := ?_) rfl (by kernel_rfl) (by kernel_rfl) (by kernel_rfl) (by rfl) ?_ ?_; rotate_left; focus ((intro W hW; have fct := (fun (W : World) (_ : New wa W) => True.intro) W hW; go_simp) <;> with_reducible rfl)
          simp only [Act.put, List.setIfInBounds_toArray, List.set_cons_zero, List.set_cons_succ]
          refine grow_done (by kernel_rfl) ?_ _
          go_wp2_with fail
          go_roundw
          case rel => exact ⟨h + 1, j, by omega, by omega, by omega, by go_num, rfl, HE, HH, by first | exact HN.out | exact HN.out.drew⟩
          case measure => simp [intOf]; omega
      · have hij2 : j = i := by omega
        subst hij2
        have hgi : ¬ (j : Int) < (j : Int) := by omega
        obtain ⟨start, hst⟩ : ∃ s, j = s := ⟨_, rfl⟩
        subst hst
        obtain ⟨en, hen⟩ : ∃ e, n2 - j = e := ⟨_, rfl⟩
        have hwe : IntKind.i64.wrap ((n2 : Int) - (j : Int)) = (en : Int) := by rw [show (n2 : Int) - (j : Int) = (en : Int) by omega]; exact IntWalk.i64_in _ (by omega)
        have hsm : j ≤ m ∧ m ≤ en ∧ a ≤ j ∧ en ≤ b ∧ j + en = mid + m := by omega
        have hcut := fun ys hrr => merge_cut (ys := ys) le_trans' (by have := HR.out.2.1; omega) HS.out.1 HS.out.2 hsm.2.2.1 hsm.1 hsm.2.1 hsm.2.2.2.1 hsm.2.2.2.2 hrr
          (fun h1 h2 u v hu hv => HL.out (by omega) u v hu (by rw [hen]; exact hv)) (fun h1 h2 u v hu hv => HH.out (by omega) u v (by rw [show n2 - 1 - j = en - 1 by omega]; exact hu) hv)
        have HC := Lib.hid hcut
        have HN0 := Lib.hid hnw
        clear hnw hcut hlt hij
        obtain ⟨start, hst⟩ : ∃ s, s = j := ⟨_, rfl⟩
        subst hst
        by_cases hrt : start < m ∧ m < en
        · have ht1 : (start : Int) < m := by omega
          have ht2 : (m : Int) < en := by omega
          have C := Lib.hid (rot_ wr g n c start m en es sp cmpV (HR.out.1.new HN0.out) HR.out.2.1 hrt.1 hrt.2 (by omega) hbig)
          go_wp2_with fail
          with_reducible refine C.out.mono ?_
          rintro x w7 ⟨rfl, es7, r7, rot7, m7, c7⟩
          have hc7 := HC.out es7 rot7
          have H2 := Lib.hid (show Mid w g a mid b start en es sp es7 w7 from ⟨r7, m7.mono (by omega) (by omega), hc7.1, hc7.2.1, hc7.2.2.1, hc7.2.2.2.1, hc7.2.2.2.2, (HN0.out.to _).trans c7 fun _ _ => id⟩)
          clear r7 rot7 m7 c7 hc7 C
          by_cases hl : a < start ∧ start < mid
          · have hl1 : (a : Int) < start := by omega
            have hl2 : (start : Int) < mid := by omega
            have C := Lib.hid (IH w7 g n c a start mid es7 sp (by omega) H2.out.row (fun e he => HR.out.2.2.1 e (H2.out.mix.perm.mem_iff.1 he)) (by rw [H2.out.mix.len, HR.out.2.1]) hl.1 hl.2 (by omega) hbig H2.out.s1 H2.out.s2)
            go_wp2_with fail
            all_goals
              with_reducible refine C.out.mono ?_
              rintro x w8 ⟨rfl, es8, r8, m8, s8, c8⟩
              have H3 := Lib.hid (show RowAt w8 g es8 sp ∧ Mix a b es es8 ∧ Cut le a mid b es8 ∧ Srt le a mid es8 ∧ Srt le mid en es8 ∧ Srt le en b es8 ∧ Chg (fun q => q = g) w w8 from
                ⟨r8, H2.out.mix.trans (m8.mono (Nat.le_refl _) (by omega)), H2.out.cut.left m8, s8, H2.out.s3.keep m8 (by omega), H2.out.s4.keep m8 (by omega), H2.out.chg.trans c8 fun _ _ => id⟩)
              clear r8 m8 s8 c8 C
              by_cases hr : mid < en ∧ en < b
              · have hr1 : (mid : Int) < en := by omega
                have hr2 : (en : Int) < b := by omega
                have C := Lib.hid (IH w8 g n c mid en b es8 sp (by omega) H3.out.1 (fun e he => HR.out.2.2.1 e (H3.out.2.1.perm.mem_iff.1 he)) (by rw [H3.out.2.1.len, HR.out.2.1]) hr.1 hr.2 hb hbig H3.out.2.2.2.2.1 H3.out.2.2.2.2.2.1)
                go_wp2_with fail
                all_goals
                  with_reducible refine C.out.mono ?_
                  rintro x w9 ⟨rfl, es9, r9, m9, s9, c9⟩
                  have HE := Lib.hid (show ∃ es', RowAt w9 g es' sp ∧ Mix a b es es' ∧ Srt le a b es' ∧ Chg (fun q => q = g) w w9 from
                    ⟨es9, r9, H3.out.2.1.trans (m9.mono (by omega) (by omega)), (H3.out.2.2.1.right m9).join (H3.out.2.2.2.1.keep m9 (by omega)) s9, H3.out.2.2.2.2.2.2.trans c9 fun _ _ => id⟩)
                  clear r9 m9 s9 c9 C
                  go_wp2_with fail
                  all_goals go_end0
                  all_goals exact ⟨rfl, HE.out⟩
              · have hrr : (decide ((mid : Int) < en) && decide ((en : Int) < b)) = false := by
                  by_cases h1 : (mid : Int) < en
                  · have : ¬ (en : Int) < b := by omega
                    simp [this]
                  · simp [h1]
                have hsr : Srt le mid b es8 := by
                  rcases Nat.lt_or_ge mid en with h | h
                  · exact H3.out.2.2.2.2.1.mono (Nat.le_refl _) (by omega)
                  · exact H3.out.2.2.2.2.2.1.mono (by omega) (Nat.le_refl _)
                have HE := Lib.hid (show ∃ es', RowAt w8 g es' sp ∧ Mix a b es es' ∧ Srt le a b es' ∧ Chg (fun q => q = g) w w8 from ⟨es8, H3.out.1, H3.out.2.1, H3.out.2.2.1.join H3.out.2.2.2.1 hsr, H3.out.2.2.2.2.2.2⟩)
                clear hsr
                by_cases hr1 : (mid : Int) < en
                · have hr2 : ¬ (en : Int) < b := by omega
                  go_wp2_with fail
                  all_goals go_end0
                  all_goals exact ⟨rfl, HE.out⟩
                · go_wp2_with fail
                  all_goals go_end0
                  all_goals exact ⟨rfl, HE.out⟩
          · have hsl : Srt le a mid es7 := by
              rcases Nat.lt_or_ge a start with h | h
              · exact H2.out.s1.mono (Nat.le_refl _) (by omega)
              · exact H2.out.s2.mono (by omega) (Nat.le_refl _)
            have H3 := Lib.hid (show RowAt w7 g es7 sp ∧ Mix a b es es7 ∧ Cut le a mid b es7 ∧ Srt le a mid es7 ∧ Srt le mid en es7 ∧ Srt le en b es7 ∧ Chg (fun q => q = g) w w7 from
              ⟨H2.out.row, H2.out.mix, H2.out.cut, hsl, H2.out.s3, H2.out.s4, H2.out.chg⟩)
            clear hsl
            by_cases hl1 : (a : Int) < start
            · have hl2 : ¬ (start : Int) < mid := by omega
              by_cases hr : mid < en ∧ en < b
              · have hr1 : (mid : Int) < en := by omega
                have hr2 : (en : Int) < b := by omega
                have C := Lib.hid (IH w7 g n c mid en b es7 sp (by omega) H3.out.1 (fun e he => HR.out.2.2.1 e (H3.out.2.1.perm.mem_iff.1 he)) (by rw [H3.out.2.1.len, HR.out.2.1]) hr.1 hr.2 hb hbig H3.out.2.2.2.2.1 H3.out.2.2.2.2.2.1)
                go_wp2_with fail
                all_goals
                  with_reducible refine C.out.mono ?_
                  rintro x w9 ⟨rfl, es9, r9, m9, s9, c9⟩
                  have HE := Lib.hid (show ∃ es', RowAt w9 g es' sp ∧ Mix a b es es' ∧ Srt le a b es' ∧ Chg (fun q => q = g) w w9 from
                    ⟨es9, r9, H3.out.2.1.trans (m9.mono (by omega) (by omega)), (H3.out.2.2.1.right m9).join (H3.out.2.2.2.1.keep m9 (by omega)) s9, H3.out.2.2.2.2.2.2.trans c9 fun _ _ => id⟩)
                  clear r9 m9 s9 c9 C
                  go_wp2_with fail
                  all_goals go_end0
                  all_goals exact ⟨rfl, HE.out⟩
              · have hrr : (decide ((mid : Int) < en) && decide ((en : Int) < b)) = false := by
                  by_cases h1 : (mid : Int) < en
                  · have : ¬ (en : Int) < b := by omega
                    simp [this]
                  · simp [h1]
                have hsr : Srt le mid b es7 := by
                  rcases Nat.lt_or_ge mid en with h | h
                  · exact H3.out.2.2.2.2.1.mono (Nat.le_refl _) (by omega)
                  · exact H3.out.2.2.2.2.2.1.mono (by omega) (Nat.le_refl _)
                have HE := Lib.hid (show ∃ es', RowAt w7 g es' sp ∧ Mix a b es es' ∧ Srt le a b es' ∧ Chg (fun q => q = g) w w7 from ⟨es7, H3.out.1, H3.out.2.1, H3.out.2.2.1.join H3.out.2.2.2.1 hsr, H3.out.2.2.2.2.2.2⟩)
                clear hsr
                by_cases hr1 : (mid : Int) < en
                · have hr2 : ¬ (en : Int) < b := by omega
                  go_wp2_with fail
                  all_goals go_end0
                  all_goals exact ⟨rfl, HE.out⟩
                · go_wp2_with fail
                  all_goals go_end0
                  all_goals exact ⟨rfl, HE.out⟩
            · by_cases hr : mid < en ∧ en < b
              · have hr1 : (mid : Int) < en := by omega
                have hr2 : (en : Int) < b := by omega
                have C := Lib.hid (IH w7 g n c mid en b es7 sp (by omega) H3.out.1 (fun e he => HR.out.2.2.1 e (H3.out.2.1.perm.mem_iff.1 he)) (by rw [H3.out.2.1.len, HR.out.2.1]) hr.1 hr.2 hb hbig H3.out.2.2.2.2.1 H3.out.2.2.2.2.2.1)
                go_wp2_with fail
                all_goals
                  with_reducible refine C.out.mono ?_
                  rintro x w9 ⟨rfl, es9, r9, m9, s9, c9⟩
                  have HE := Lib.hid (show ∃ es', RowAt w9 g es' sp ∧ Mix a b es es' ∧ Srt le a b es' ∧ Chg (fun q => q = g) w w9 from
                    ⟨es9, r9, H3.out.2.1.trans (m9.mono (by omega) (by omega)), (H3.out.2.2.1.right m9).join (H3.out.2.2.2.1.keep m9 (by omega)) s9, H3.out.2.2.2.2.2.2.trans c9 fun _ _ => id⟩)
                  clear r9 m9 s9 c9 C
                  go_wp2_with fail
                  all_goals go_end0
                  all_goals exact ⟨rfl, HE.out⟩
              · have hrr : (decide ((mid : Int) < en) && decide ((en : Int) < b)) = false := by
                  by_cases h1 : (mid : Int) < en
                  · have : ¬ (en : Int) < b := by omega
                    simp [this]
                  · simp [h1]
                have hsr : Srt le mid b es7 := by
                  rcases Nat.lt_or_ge mid en with h | h
                  · exact H3.out.2.2.2.2.1.mono (Nat.le_refl _) (by omega)
                  · exact H3.out.2.2.2.2.2.1.mono (by omega) (Nat.le_refl _)
                have HE := Lib.hid (show ∃ es', RowAt w7 g es' sp ∧ Mix a b es es' ∧ Srt le a b es' ∧ Chg (fun q => q = g) w w7 from ⟨es7, H3.out.1, H3.out.2.1, H3.out.2.2.1.join H3.out.2.2.2.1 hsr, H3.out.2.2.2.2.2.2⟩)
                clear hsr
                by_cases hr1 : (mid : Int) < en
                · have hr2 : ¬ (en : Int) < b := by omega
                  go_wp2_with fail
                  all_goals go_end0
                  all_goals exact ⟨rfl, HE.out⟩
                · go_wp2_with fail
                  all_goals go_end0
                  all_goals exact ⟨rfl, HE.out⟩
        · have hc7 := HC.out es (RotR.same (by omega) hsm.1 hsm.2.1)
          have H2 := Lib.hid (show Mid w g a mid b start en es sp es wr from ⟨HR.out.1.new HN0.out, Mix.refl _ _ _, hc7.1, hc7.2.1, hc7.2.2.1, hc7.2.2.2.1, hc7.2.2.2.2, HN0.out.to _⟩)
          clear hc7
          by_cases ht1 : (start : Int) < m
          · have ht2 : ¬ (m : Int) < en := by omega
            by_cases hl : a < start ∧ start < mid
            · have hl1 : (a : Int) < start := by omega
              have hl2 : (start : Int) < mid := by omega
              have C := Lib.hid (IH wr g n c a start mid es sp (by omega) H2.out.row (fun e he => HR.out.2.2.1 e (H2.out.mix.perm.mem_iff.1 he)) (by rw [H2.out.mix.len, HR.out.2.1]) hl.1 hl.2 (by omega) hbig H2.out.s1 H2.out.s2)
              go_wp2_with fail
              all_goals
                with_reducible refine C.out.mono ?_
                rintro x w8 ⟨rfl, es8, r8, m8, s8, c8⟩
                have H3 := Lib.hid (show RowAt w8 g es8 sp ∧ Mix a b es es8 ∧ Cut le a mid b es8 ∧ Srt le a mid es8 ∧ Srt le mid en es8 ∧ Srt le en b es8 ∧ Chg (fun q => q = g) w w8 from
                  ⟨r8, H2.out.mix.trans (m8.mono (Nat.le_refl _) (by omega)), H2.out.cut.left m8, s8, H2.out.s3.keep m8 (by omega), H2.out.s4.keep m8 (by omega), H2.out.chg.trans c8 fun _ _ => id⟩)
                clear r8 m8 s8 c8 C
                by_cases hr : mid < en ∧ en < b
                · have hr1 : (mid : Int) < en := by omega
                  have hr2 : (en : Int) < b := by omega
                  have C := Lib.hid (IH w8 g n c mid en b es8 sp (by omega) H3.out.1 (fun e he => HR.out.2.2.1 e (H3.out.2.1.perm.mem_iff.1 he)) (by rw [H3.out.2.1.len, HR.out.2.1]) hr.1 hr.2 hb hbig H3.out.2.2.2.2.1 H3.out.2.2.2.2.2.1)
                  go_wp2_with fail
                  all_goals
                    with_reducible refine C.out.mono ?_
                    rintro x w9 ⟨rfl, es9, r9, m9, s9, c9⟩
                    have HE := Lib.hid (show ∃ es', RowAt w9 g es' sp ∧ Mix a b es es' ∧ Srt le a b es' ∧ Chg (fun q => q = g) w w9 from
                      ⟨es9, r9, H3.out.2.1.trans (m9.mono (by omega) (by omega)), (H3.out.2.2.1.right m9).join (H3.out.2.2.2.1.keep m9 (by omega)) s9, H3.out.2.2.2.2.2.2.trans c9 fun _ _ => id⟩)
                    clear r9 m9 s9 c9 C
                    go_wp2_with fail
                    all_goals go_end0
                    all_goals exact ⟨rfl, HE.out⟩
                · have hrr : (decide ((mid : Int) < en) && decide ((en : Int) < b)) = false := by
                    by_cases h1 : (mid : Int) < en
                    · have : ¬ (en : Int) < b := by omega
                      simp [this]
                    · simp [h1]
                  have hsr : Srt le mid b es8 := by
                    rcases Nat.lt_or_ge mid en with h | h
                    · exact H3.out.2.2.2.2.1.mono (Nat.le_refl _) (by omega)
                    · exact H3.out.2.2.2.2.2.1.mono (by omega) (Nat.le_refl _)
                  have HE := Lib.hid (show ∃ es', RowAt w8 g es' sp ∧ Mix a b es es' ∧ Srt le a b es' ∧ Chg (fun q => q = g) w w8 from ⟨es8, H3.out.1, H3.out.2.1, H3.out.2.2.1.join H3.out.2.2.2.1 hsr, H3.out.2.2.2.2.2.2⟩)
                  clear hsr
                  by_cases hr1 : (mid : Int) < en
                  · have hr2 : ¬ (en : Int) < b := by omega
                    go_wp2_with fail
                    all_goals go_end0
                    all_goals exact ⟨rfl, HE.out⟩
                  · go_wp2_with fail
                    all_goals go_end0
                    all_goals exact ⟨rfl, HE.out⟩
            · have hsl : Srt le a mid es := by
                rcases Nat.lt_or_ge a start with h | h
                · exact H2.out.s1.mono (Nat.le_refl _) (by omega)
                · exact H2.out.s2.mono (by omega) (Nat.le_refl _)
              have H3 := Lib.hid (show RowAt wr g es sp ∧ Mix a b es es ∧ Cut le a mid b es ∧ Srt le a mid es ∧ Srt le mid en es ∧ Srt le en b es ∧ Chg (fun q => q = g) w wr from
                ⟨H2.out.row, H2.out.mix, H2.out.cut, hsl, H2.out.s3, H2.out.s4, H2.out.chg⟩)
              clear hsl
              by_cases hl1 : (a : Int) < start
              · have hl2 : ¬ (start : Int) < mid := by omega
                by_cases hr : mid < en ∧ en < b
                · have hr1 : (mid : Int) < en := by omega
                  have hr2 : (en : Int) < b := by omega
                  have C := Lib.hid (IH wr g n c mid en b es sp (by omega) H3.out.1 (fun e he => HR.out.2.2.1 e (H3.out.2.1.perm.mem_iff.1 he)) (by rw [H3.out.2.1.len, HR.out.2.1]) hr.1 hr.2 hb hbig H3.out.2.2.2.2.1 H3.out.2.2.2.2.2.1)
                  go_wp2_with fail
                  all_goals
                    with_reducible refine C.out.mono ?_
                    rintro x w9 ⟨rfl, es9, r9, m9, s9, c9⟩
                    have HE := Lib.hid (show ∃ es', RowAt w9 g es' sp ∧ Mix a b es es' ∧ Srt le a b es' ∧ Chg (fun q => q = g) w w9 from
                      ⟨es9, r9, H3.out.2.1.trans (m9.mono (by omega) (by omega)), (H3.out.2.2.1.right m9).join (H3.out.2.2.2.1.keep m9 (by omega)) s9, H3.out.2.2.2.2.2.2.trans c9 fun _ _ => id⟩)
                    clear r9 m9 s9 c9 C
                    go_wp2_with fail
                    all_goals go_end0
                    all_goals exact ⟨rfl, HE.out⟩
                · have hrr : (decide ((mid : Int) < en) && decide ((en : Int) < b)) = false := by
                    by_cases h1 : (mid : Int) < en
                    · have : ¬ (en : Int) < b := by omega
                      simp [this]
                    · simp [h1]
                  have hsr : Srt le mid b es := by
                    rcases Nat.lt_or_ge mid en with h | h
                    · exact H3.out.2.2.2.2.1.mono (Nat.le_refl _) (by omega)
                    · exact H3.out.2.2.2.2.2.1.mono (by omega) (Nat.le_refl _)
                  have HE := Lib.hid (show ∃ es', RowAt wr g es' sp ∧ Mix a b es es' ∧ Srt le a b es' ∧ Chg (fun q => q = g) w wr from ⟨es, H3.out.1, H3.out.2.1, H3.out.2.2.1.join H3.out.2.2.2.1 hsr, H3.out.2.2.2.2.2.2⟩)
                  clear hsr
                  by_cases hr1 : (mid : Int) < en
                  · have hr2 : ¬ (en : Int) < b := by omega
                    go_wp2_with fail
                    all_goals go_end0
                    all_goals exact ⟨rfl, HE.out⟩
                  · go_wp2_with fail
                    all_goals go_end0
                    all_goals exact ⟨rfl, HE.out⟩
              · by_cases hr : mid < en ∧ en < b
                · have hr1 : (mid : Int) < en := by omega
                  have hr2 : (en : Int) < b := by omega
                  have C := Lib.hid (IH wr g n c mid en b es sp (by omega) H3.out.1 (fun e he => HR.out.2.2.1 e (H3.out.2.1.perm.mem_iff.1 he)) (by rw [H3.out.2.1.len, HR.out.2.1]) hr.1 hr.2 hb hbig H3.out.2.2.2.2.1 H3.out.2.2.2.2.2.1)
                  go_wp2_with fail
                  all_goals
                    with_reducible refine C.out.mono ?_
                    rintro x w9 ⟨rfl, es9, r9, m9, s9, c9⟩
                    have HE := Lib.hid (show ∃ es', RowAt w9 g es' sp ∧ Mix a b es es' ∧ Srt le a b es' ∧ Chg (fun q => q = g) w w9 from
                      ⟨es9, r9, H3.out.2.1.trans (m9.mono (by omega) (by omega)), (H3.out.2.2.1.right m9).join (H3.out.2.2.2.1.keep m9 (by omega)) s9, H3.out.2.2.2.2.2.2.trans c9 fun _ _ => id⟩)
                    clear r9 m9 s9 c9 C
                    go_wp2_with fail
                    all_goals go_end0
                    all_goals exact ⟨rfl, HE.out⟩
                · have hrr : (decide ((mid : Int) < en) && decide ((en : Int) < b)) = false := by
                    by_cases h1 : (mid : Int) < en
                    · have : ¬ (en : Int) < b := by omega
                      simp [this]
                    · simp [h1]
                  have hsr : Srt le mid b es := by
                    rcases Nat.lt_or_ge mid en with h | h
                    · exact H3.out.2.2.2.2.1.mono (Nat.le_refl _) (by omega)
                    · exact H3.out.2.2.2.2.2.1.mono (by omega) (Nat.le_refl _)
                  have HE := Lib.hid (show ∃ es', RowAt wr g es' sp ∧ Mix a b es es' ∧ Srt le a b es' ∧ Chg (fun q => q = g) w wr from ⟨es, H3.out.1, H3.out.2.1, H3.out.2.2.1.join H3.out.2.2.2.1 hsr, H3.out.2.2.2.2.2.2⟩)
                  clear hsr
                  by_cases hr1 : (mid : Int) < en
                  · have hr2 : ¬ (en : Int) < b := by omega
                    go_wp2_with fail
                    all_goals go_end0
                    all_goals exact ⟨rfl, HE.out⟩
                  · go_wp2_with fail
                    all_goals go_end0
                    all_goals exact ⟨rfl, HE.out⟩
          · by_cases hl : a < start ∧ start < mid
            · have hl1 : (a : Int) < start := by omega
              have hl2 : (start : Int) < mid := by omega
              have C := Lib.hid (IH wr g n c a start mid es sp (by omega) H2.out.row (fun e he => HR.out.2.2.1 e (H2.out.mix.perm.mem_iff.1 he)) (by rw [H2.out.mix.len, HR.out.2.1]) hl.1 hl.2 (by omega) hbig H2.out.s1 H2.out.s2)
              go_wp2_with fail
              all_goals
                with_reducible refine C.out.mono ?_
                rintro x w8 ⟨rfl, es8, r8, m8, s8, c8⟩
                have H3 := Lib.hid (show RowAt w8 g es8 sp ∧ Mix a b es es8 ∧ Cut le a mid b es8 ∧ Srt le a mid es8 ∧ Srt le mid en es8 ∧ Srt le en b es8 ∧ Chg (fun q => q = g) w w8 from
                  ⟨r8, H2.out.mix.trans (m8.mono (Nat.le_refl _) (by omega)), H2.out.cut.left m8, s8, H2.out.s3.keep m8 (by omega), H2.out.s4.keep m8 (by omega), H2.out.chg.trans c8 fun _ _ => id⟩)
                clear r8 m8 s8 c8 C
                by_cases hr : mid < en ∧ en < b
                · have hr1 : (mid : Int) < en := by omega
                  have hr2 : (en : Int) < b := by omega
                  have C := Lib.hid (IH w8 g n c mid en b es8 sp (by omega) H3.out.1 (fun e he => HR.out.2.2.1 e (H3.out.2.1.perm.mem_iff.1 he)) (by rw [H3.out.2.1.len, HR.out.2.1]) hr.1 hr.2 hb hbig H3.out.2.2.2.2.1 H3.out.2.2.2.2.2.1)
                  go_wp2_with fail
                  all_goals
                    with_reducible refine C.out.mono ?_
                    rintro x w9 ⟨rfl, es9, r9, m9, s9, c9⟩
                    have HE := Lib.hid (show ∃ es', RowAt w9 g es' sp ∧ Mix a b es es' ∧ Srt le a b es' ∧ Chg (fun q => q = g) w w9 from
                      ⟨es9, r9, H3.out.2.1.trans (m9.mono (by omega) (by omega)), (H3.out.2.2.1.right m9).join (H3.out.2.2.2.1.keep m9 (by omega)) s9, H3.out.2.2.2.2.2.2.trans c9 fun _ _ => id⟩)
                    clear r9 m9 s9 c9 C
                    go_wp2_with fail
                    all_goals go_end0
                    all_goals exact ⟨rfl, HE.out⟩
                · have hrr : (decide ((mid : Int) < en) && decide ((en : Int) < b)) = false := by
                    by_cases h1 : (mid : Int) < en
                    · have : ¬ (en : Int) < b := by omega
                      simp [this]
                    · simp [h1]
                  have hsr : Srt le mid b es8 := by
                    rcases Nat.lt_or_ge mid en with h | h
                    · exact H3.out.2.2.2.2.1.mono (Nat.le_refl _) (by omega)
                    · exact H3.out.2.2.2.2.2.1.mono (by omega) (Nat.le_refl _)
                  have HE := Lib.hid (show ∃ es', RowAt w8 g es' sp ∧ Mix a b es es' ∧ Srt le a b es' ∧ Chg (fun q => q = g) w w8 from ⟨es8, H3.out.1, H3.out.2.1, H3.out.2.2.1.join H3.out.2.2.2.1 hsr, H3.out.2.2.2.2.2.2⟩)
                  clear hsr
                  by_cases hr1 : (mid : Int) < en
                  · have hr2 : ¬ (en : Int) < b := by omega
                    go_wp2_with fail
                    all_goals go_end0
                    all_goals exact ⟨rfl, HE.out⟩
                  · go_wp2_with fail
                    all_goals go_end0
                    all_goals exact ⟨rfl, HE.out⟩
            · have hsl : Srt le a mid es := by
                rcases Nat.lt_or_ge a start with h | h
                · exact H2.out.s1.mono (Nat.le_refl _) (by omega)
                · exact H2.out.s2.mono (by omega) (Nat.le_refl _)
              have H3 := Lib.hid (show RowAt wr g es sp ∧ Mix a b es es ∧ Cut le a mid b es ∧ Srt le a mid es ∧ Srt le mid en es ∧ Srt le en b es ∧ Chg (fun q => q = g) w wr from
                ⟨H2.out.row, H2.out.mix, H2.out.cut, hsl, H2.out.s3, H2.out.s4, H2.out.chg⟩)
              clear hsl
              by_cases hl1 : (a : Int) < start
              · have hl2 : ¬ (start : Int) < mid := by omega
                by_cases hr : mid < en ∧ en < b
                · have hr1 : (mid : Int) < en := by omega
                  have hr2 : (en : Int) < b := by omega
                  have C := Lib.hid (IH wr g n c mid en b es sp (by omega) H3.out.1 (fun e he => HR.out.2.2.1 e (H3.out.2.1.perm.mem_iff.1 he)) (by rw [H3.out.2.1.len, HR.out.2.1]) hr.1 hr.2 hb hbig H3.out.2.2.2.2.1 H3.out.2.2.2.2.2.1)
                  go_wp2_with fail
                  all_goals
                    with_reducible refine C.out.mono ?_
                    rintro x w9 ⟨rfl, es9, r9, m9, s9, c9⟩
                    have HE := Lib.hid (show ∃ es', RowAt w9 g es' sp ∧ Mix a b es es' ∧ Srt le a b es' ∧ Chg (fun q => q = g) w w9 from
                      ⟨es9, r9, H3.out.2.1.trans (m9.mono (by omega) (by omega)), (H3.out.2.2.1.right m9).join (H3.out.2.2.2.1.keep m9 (by omega)) s9, H3.out.2.2.2.2.2.2.trans c9 fun _ _ => id⟩)
                    clear r9 m9 s9 c9 C
                    go_wp2_with fail
                    all_goals go_end0
                    all_goals exact ⟨rfl, HE.out⟩
                · have hrr : (decide ((mid : Int) < en) && decide ((en : Int) < b)) = false := by
                    by_cases h1 : (mid : Int) < en
                    · have : ¬ (en : Int) < b := by omega
                      simp [this]
                    · simp [h1]
                  have hsr : Srt le mid b es := by
                    rcases Nat.lt_or_ge mid en with h | h
                    · exact H3.out.2.2.2.2.1.mono (Nat.le_refl _) (by omega)
                    · exact H3.out.2.2.2.2.2.1.mono (by omega) (Nat.le_refl _)
                  have HE := Lib.hid (show ∃ es', RowAt wr g es' sp ∧ Mix a b es es' ∧ Srt le a b es' ∧ Chg (fun q => q = g) w wr from ⟨es, H3.out.1, H3.out.2.1, H3.out.2.2.1.join H3.out.2.2.2.1 hsr, H3.out.2.2.2.2.2.2⟩)
                  clear hsr
                  by_cases hr1 : (mid : Int) < en
                  · have hr2 : ¬ (en : Int) < b := by omega
                    go_wp2_with fail
                    all_goals go_end0
                    all_goals exact ⟨rfl, HE.out⟩
                  · go_wp2_with fail
                    all_goals go_end0
                    all_goals exact ⟨rfl, HE.out⟩
              · by_cases hr : mid < en ∧ en < b
                · have hr1 : (mid : Int) < en := by omega
                  have hr2 : (en : Int) < b := by omega
                  have C := Lib.hid (IH wr g n c mid en b es sp (by omega) H3.out.1 (fun e he => HR.out.2.2.1 e (H3.out.2.1.perm.mem_iff.1 he)) (by rw [H3.out.2.1.len, HR.out.2.1]) hr.1 hr.2 hb hbig H3.out.2.2.2.2.1 H3.out.2.2.2.2.2.1)
                  go_wp2_with fail
                  all_goals
                    with_reducible refine C.out.mono ?_
                    rintro x w9 ⟨rfl, es9, r9, m9, s9, c9⟩
                    have HE := Lib.hid (show ∃ es', RowAt w9 g es' sp ∧ Mix a b es es' ∧ Srt le a b es' ∧ Chg (fun q => q = g) w w9 from
                      ⟨es9, r9, H3.out.2.1.trans (m9.mono (by omega) (by omega)), (H3.out.2.2.1.right m9).join (H3.out.2.2.2.1.keep m9 (by omega)) s9, H3.out.2.2.2.2.2.2.trans c9 fun _ _ => id⟩)
                    clear r9 m9 s9 c9 C
                    go_wp2_with fail
                    all_goals go_end0
                    all_goals exact ⟨rfl, HE.out⟩
                · have hrr : (decide ((mid : Int) < en) && decide ((en : Int) < b)) = false := by
                    by_cases h1 : (mid : Int) < en
                    · have : ¬ (en : Int) < b := by omega
                      simp [this]
                    · simp [h1]
                  have hsr : Srt le mid b es := by
                    rcases Nat.lt_or_ge mid en with h | h
                    · exact H3.out.2.2.2.2.1.mono (Nat.le_refl _) (by omega)
                    · exact H3.out.2.2.2.2.2.1.mono (by omega) (Nat.le_refl _)
                  have HE := Lib.hid (show ∃ es', RowAt wr g es' sp ∧ Mix a b es es' ∧ Srt le a b es' ∧ Chg (fun q => q = g) w wr from ⟨es, H3.out.1, H3.out.2.1, H3.out.2.2.1.join H3.out.2.2.2.1 hsr, H3.out.2.2.2.2.2.2⟩)
                  clear hsr
                  by_cases hr1 : (mid : Int) < en
                  · have hr2 : ¬ (en : Int) < b := by omega
                    go_wp2_with fail
                    all_goals go_end0
                    all_goals exact ⟨rfl, HE.out⟩
                  · go_wp2_with fail
                    all_goals go_end0
                    all_goals exact ⟨rfl, HE.out⟩
theorem sym_ (hC : Cmps) : ∀ N, Merges N
  | 0 => fun w g n c a m b es sp hN _ _ _ ham hmb => by omega
  | N + 1 => fun w g n c a m b es sp hN hr hk hn ham hmb hb hbig h1 h2 => by
    by_cases h3 : m = a + 1
    · exact symA hC w g n c a m b es sp hr hk hn h3 hmb hb hbig h2
    · by_cases h4 : b = m + 1
      · exact symB hC w g n c a m b es sp hr hk hn (by omega) h4 hb hbig h1
      · exact symC hC N (sym_ hC N) w g n c a m b es sp hN hr hk hn (by omega) (by omega) hb hbig h1 h2
end Acc
end Go.Proofs.YtgfkopimjmggdaaDoor

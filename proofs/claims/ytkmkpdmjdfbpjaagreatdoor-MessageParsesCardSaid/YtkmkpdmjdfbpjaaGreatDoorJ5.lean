/-
  Names, texts and values: what the program's calls compute (no condition).
-/
import Derived.Test.YtkmkpdmjdfbpjaaGreatDoorJ4
import Derived.Lib.SplitLaws
import Derived.Lib.Join
import Derived.Lib.Strings
import Derived.Laws.RangeAny
/- event.Put: an event's bytes behind what is there (no condition beyond the sizes). -/
namespace Go.Proofs.YtkmkpdmjdfbpjaaGreatDoor
set_option linter.unusedSimpArgs false
set_option linter.unusedVariables false
open Go.ChangeShapes Go.WideShapes Go.RowKit Go.Deep
namespace Evt
open Num
attribute [local go_sem ↓] loadRow0 storeRow0
theorem noF (S : Nat → Prop) (w : World) : ∀ W, Chg S w W → True := fun _ _ => trivial
theorem OwnI.lit {w : World} {base : Nat} (l : List Int) (hb : base ≤ w.heap.size) (hl : l.length ≤ maxLen) : OwnI (w.alloc (.cells (ints l).toArray 3)) base (.slice (some ⟨w.heap.size, 0, none⟩) l.length l.length) l := by
  have := World.ownsRow_lit (e := 3) (size := 1) w (ints l).toArray l.length hb hl (by simp [ints])
  simpa using this
theorem OwnI.form {w : World} {base : Nat} {v : Value} {l : List Int} (h : OwnI w base v l) : ∃ A c, v = .slice A l.length c := by
  rcases h.2 with ⟨rfl, h0⟩ | ⟨g, cap, cur, rfl, _⟩
  · exact ⟨none, 0, by rw [h0]⟩
  · exact ⟨_, cap, rfl⟩
theorem wp_append_i64 (w : World) {o : Oper} {a : Act} {K : Act → World → Prop} {Q : Exit → Act → World → Prop} (s x : Operand)
    (ho : o.op = .call { callee := .builtin .append, args := #[s, x], argTypes := #[50, 50] })
    (base : Nat) (v : Value) (l : List Int) (hs : a.eval s = v) (hown : OwnI w base v l)
    (F : Nat → Prop) (A : Option Addr) (m c : Nat) (k : List Int) (hx : a.eval x = .slice A m c) (hr : Reads w F 1 A m (ints k))
    (hb : l.length + m ≤ 1099511627776) (hbase : base ≤ w.heap.size)
    (h : ∀ v' w', OwnI w' base v' (l ++ k) → w.grownBy w' v.ownBlock → (v'.ownBlock = v.ownBlock ∨ v'.ownBlock = some w.heap.size) → K (a.put o.dst v') w') : o.wp Tryz.prog a w K Q := by
  obtain ⟨i, hi, hz0, hz1, hz2⟩ := info_parts intInfo
  refine wp_append_any w s x _ ho base _ i _ 1 8 Tryz.underlying50 hi hz0 hz1 hz2 rfl (by omega) v l.length (ints l) hs hown F A m c (ints k) hx hr (ints_one k) (by simp only [maxLen]; omega) (by omega) hbase ?_
  intro v' w' ho' hg hat
  refine h v' w' ?_ hg hat
  have hk := hr.len
  unfold OwnI
  rw [show ints (l ++ k) = ints l ++ ints k by simp [ints], List.length_append, show k.length = m by simpa [ints] using hk]
  exact ho'
theorem OwnI.formN {w : World} {base n : Nat} {v : Value} {l : List Int} (h : OwnI w base v l) (hl : l.length = n) : ∃ A c, v = .slice A n c := by rw [← hl]; exact OwnI.form h
def past (e : Ev) : List Int := [e.n 2, e.n 3, e.n 4, e.n 5, e.n 6, e.n 7, e.n 8, e.n 9, e.n 10, e.n 11, e.n 12, e.n 13, e.n 14, e.n 15, e.n 16, e.n 17]
def nums (e : Ev) : List Int := e.n 0 :: e.n 1 :: past e
theorem nums_at (e : Ev) {i : Nat} (h : i < 18) : (ints (nums e))[i]? = some (.int .i64 (e.n i)) ∧ e.items[i]? = some (.n (e.n i)) := by
  rcases (show i = 0 ∨ i = 1 ∨ i = 2 ∨ i = 3 ∨ i = 4 ∨ i = 5 ∨ i = 6 ∨ i = 7 ∨ i = 8 ∨ i = 9 ∨ i = 10 ∨ i = 11 ∨ i = 12 ∨ i = 13 ∨ i = 14 ∨ i = 15 ∨ i = 16 ∨ i = 17 by omega) with rfl | rfl | rfl | rfl | rfl | rfl | rfl | rfl | rfl | rfl | rfl | rfl | rfl | rfl | rfl | rfl | rfl | rfl <;> exact ⟨rfl, rfl⟩
theorem past_reads {w : World} {g : Nat} {t : TypeId} {e : Ev} (h : Blk w g t e.cs.toArray) : Reads w (fun b => b = g) 1 (some ⟨g, 2, none⟩) 16 (ints (past e)) := by
  refine ⟨rfl, fun _ => ⟨_, rfl, rfl, fun j u hu => ?_⟩⟩
  have hj : j < 16 := (List.getElem?_eq_some_iff.1 hu).1
  rw [add_plain, h.cell, List.getElem?_toArray, ← hu]
  rcases (show j = 0 ∨ j = 1 ∨ j = 2 ∨ j = 3 ∨ j = 4 ∨ j = 5 ∨ j = 6 ∨ j = 7 ∨ j = 8 ∨ j = 9 ∨ j = 10 ∨ j = 11 ∨ j = 12 ∨ j = 13 ∨ j = 14 ∨ j = 15 by omega) with rfl | rfl | rfl | rfl | rfl | rfl | rfl | rfl | rfl | rfl | rfl | rfl | rfl | rfl | rfl | rfl <;> rfl
theorem put_pre (e : Ev) (i : Nat) : (putAll (e.items.take i)).length ≤ e.bytes.length := by
  unfold Ev.bytes
  have h : putAll e.items = putAll (e.items.take i) ++ putAll (e.items.drop i) := by
    unfold putAll
    rw [← List.flatMap_append, List.take_append_drop]
  rw [h, List.length_append]
  omega
theorem put_one {e : Ev} {i : Nat} {x : It} (h : e.items[i]? = some x) : putAll (e.items.take (i + 1)) = putAll (e.items.take i) ++ x.put := by
  rw [List.take_add_one, h]
  simp [putAll]
/-- what came so far is put behind l -/
structure PutAt (w : World) (base : Nat) (v : Value) (l x : List UInt8) (wr : World) (u : Value) : Prop where
  own : OwnB wr base u (l ++ x)
  chg : Chg (fun k => v.ownBlock = some k) w wr
  at_ : ∀ k, u.ownBlock = some k → v.ownBlock = some k ∨ w.heap.size ≤ k
theorem PutAt.then_ {w wr w' : World} {base : Nat} {v u u' : Value} {l x y : List UInt8} (h : PutAt w base v l x wr u) (ho : OwnB w' base u' (l ++ x ++ y)) (hc : Chg (fun k => u.ownBlock = some k) wr w') (ha : ∀ k, u'.ownBlock = some k → u.ownBlock = some k ∨ wr.heap.size ≤ k) :
    PutAt w base v l (x ++ y) w' u' := ⟨by rw [← List.append_assoc]; exact ho, chg_trans h.chg h.at_ hc, at_trans h.at_ ha h.chg.size⟩
theorem PutAt.drew {w wr : World} {base : Nat} {v u : Value} {l x : List UInt8} (h : PutAt w base v l x wr u) : PutAt w base v l x wr.drew u := ⟨h.own, h.chg.drew, h.at_⟩
def texts (e : Ev) : List Value := [.string (e.t 20), .string (e.t 21), .string (e.t 22), .string (e.t 23)]
theorem texts_at (e : Ev) {i : Nat} (h : i < 4) : (texts e).toArray[i]? = some (.string (e.t (20 + i))) ∧ e.items[20 + i]? = some (.t (e.t (20 + i)).data.toList) := by
  rcases (show i = 0 ∨ i = 1 ∨ i = 2 ∨ i = 3 by omega) with rfl | rfl | rfl | rfl <;> exact ⟨rfl, rfl⟩
theorem PutAt.far {w wr : World} {base g : Nat} {v u : Value} {l x : List UInt8} (h : PutAt w base v l x wr u) (hv : ∀ k, v.ownBlock = some k → k < g) (hg : g < w.heap.size) : u.ownBlock ≠ some g := fun e => by
  rcases h.at_ g e with h1 | h1
  · have := hv g h1; omega
  · omega
set_option maxHeartbeats 20000000 in
set_option maxRecDepth 20000 in
theorem evput (w : World) (base : Nat) (v : Value) (l : List UInt8) (hv : OwnB w base v l) (hbase : base ≤ w.heap.size) (e : Ev) (hb : l.length + e.bytes.length ≤ 900000000) (hs : ∀ i, (e.t i).size ≤ 1000000) :
    Calls Tryz.prog 19 #[v, e.val] w fun x w' => Puts w base v (l ++ e.bytes) x w' := by
  unfold Puts
  have a1 := (Chg.refl (fun _ => False) w).alloc (.cells e.cs.toArray 48)
  have B1 := Blk.new w 48 e.cs.toArray
  have hvlt := fun k hk => (own_lt hv (k := k) hk).2
  have HV := Lib.hid (And.intro (own_chg hv a1 fun _ _ => id) (And.intro a1 (And.intro B1 hvlt)))
  have hg0 := B1.lt
  have HS := Lib.hid hs
  have HB := Lib.hid hb
  clear hv a1 B1 hvlt hs hb
  go_enter Tryz.func19, Tryz.ntmps19
  go_wp2_with fail
  obtain ⟨g, hg⟩ : ∃ g, w.heap.size = g := ⟨_, rfl⟩
  have hsz : (w.alloc (.cells e.cs.toArray 48)).heap.size = g + 1 := by simp [hg]
  generalize w.alloc (.cells e.cs.toArray 48) = wA at *
  rw [hg] at HV hg0 ⊢
  have F := Lib.hid (fun W (hW : Chg (fun k => k = g + 1) wA.drew W) => (⟨((HV.out.2.2.1.drew).chg hW (by omega)).cell 0, ((HV.out.2.2.1.drew).chg hW (by omega)).cell 1⟩ : W.cell? ⟨g, 0, none⟩ = some (.int .i64 (e.n 0)) ∧ W.cell? ⟨g, 1, none⟩ = some (.int .i64 (e.n 1))))
  refine grow_start (fun k => k = g + 1) (by kernel_rfl) ?_
  refine grow_take (i := 0) (oi := { dst := some 9, op := Op.fieldAddr 48 (Operand.tmp 3) 0, type := 0, pos := "event.go:67", after := #[], guard := none }) (v := ?_) rfl (by kernel_rfl) (by kernel_rfl) (by kernel_rfl) (by rfl) ?_ ?_; rotate_left; focus ((intro W hW; go_simp) <;> with_reducible rfl)
  simp only [Act.put, List.setIfInBounds_toArray, List.set_cons_zero, List.set_cons_succ]
  refine grow_take (i := 1) (oi := { dst := some 10, op := Op.fieldAddr 42 (Operand.tmp 9) 0, type := 0, pos := "event.go:67", after := #[{ on := 0, ground := Ground.data }], guard := none }) (v := ?_) rfl (by kernel_rfl) (by kernel_rfl) (by kernel_rfl) (by rfl) ?_ ?_; rotate_left; focus ((intro W hW; go_simp) <;> with_reducible rfl)
  simp only [Act.put, List.setIfInBounds_toArray, List.set_cons_zero, List.set_cons_succ]
  refine grow_take (i := 2) (oi := { dst := some 11, op := Op.load 3 (Operand.tmp 10), type := 3, pos := "event.go:67", after := #[{ on := 1, ground := Ground.data }], guard := none }) (v := ?_) rfl (by kernel_rfl) (by kernel_rfl) (by kernel_rfl) (by rfl) ?_ ?_; rotate_left; focus ((intro W hW; have fct := F.out W hW; go_simp) <;> with_reducible rfl)
  simp only [Act.put, List.setIfInBounds_toArray, List.set_cons_zero, List.set_cons_succ]
  refine grow_take (i := 3) (oi := { dst := some 12, op := Op.fieldAddr 48 (Operand.tmp 3) 0, type := 0, pos := "event.go:67", after := #[], guard := none }) (v := ?_) rfl (by kernel_rfl) (by kernel_rfl) (by kernel_rfl) (by rfl) ?_ ?_; rotate_left; focus ((intro W hW; go_simp) <;> with_reducible rfl)
  simp only [Act.put, List.setIfInBounds_toArray, List.set_cons_zero, List.set_cons_succ]
  refine grow_take (i := 4) (oi := { dst := some 13, op := Op.fieldAddr 42 (Operand.tmp 12) 1, type := 0, pos := "event.go:67", after := #[{ on := 3, ground := Ground.data }], guard := none }) (v := ?_) rfl (by kernel_rfl) (by kernel_rfl) (by kernel_rfl) (by rfl) ?_ ?_; rotate_left; focus ((intro W hW; go_simp) <;> with_reducible rfl)
  simp only [Act.put, List.setIfInBounds_toArray, List.set_cons_zero, List.set_cons_succ]
  refine grow_take (i := 5) (oi := { dst := some 14, op := Op.load 3 (Operand.tmp 13), type := 3, pos := "event.go:67", after := #[{ on := 4, ground := Ground.data }], guard := none }) (v := ?_) rfl (by kernel_rfl) (by kernel_rfl) (by kernel_rfl) (by rfl) ?_ ?_; rotate_left; focus ((intro W hW; have fct := F.out W hW; go_simp) <;> with_reducible rfl)
  simp only [Act.put, List.setIfInBounds_toArray, List.set_cons_zero, List.set_cons_succ]
  refine grow_take (i := 7) (oi := { dst := some 16, op := Op.fieldAddr 48 (Operand.tmp 3) 1, type := 0, pos := "event.go:67", after := #[], guard := none }) (v := ?_) rfl (by kernel_rfl) (by kernel_rfl) (by kernel_rfl) (by rfl) ?_ ?_; rotate_left; focus ((intro W hW; go_simp) <;> with_reducible rfl)
  simp only [Act.put, List.setIfInBounds_toArray, List.set_cons_zero, List.set_cons_succ]
  refine grow_take (i := 8) (oi := { dst := some 17, op := Op.slice 23 (Operand.tmp 16) none none none, type := 50, pos := "event.go:67", after := #[{ on := 7, ground := Ground.data }], guard := none }) (v := ?_) rfl (by kernel_rfl) (by kernel_rfl) (by kernel_rfl) (by rfl) ?_ ?_; rotate_left; focus ((intro W hW; have fct := F.out W hW; go_simp) <;> with_reducible rfl)
  simp only [Act.put, List.setIfInBounds_toArray, List.set_cons_zero, List.set_cons_succ]
  refine grow_take (i := 11) (oi := { dst := some 20, op := Op.move (Operand.const (Value.int IntKind.i64 0)), type := 3, pos := "event.go:67", after := #[], guard := none }) (v := ?_) rfl (by kernel_rfl) (by kernel_rfl) (by kernel_rfl) (by rfl) ?_ ?_; rotate_left; focus ((intro W hW; go_simp) <;> with_reducible rfl)
  simp only [Act.put, List.setIfInBounds_toArray, List.set_cons_zero, List.set_cons_succ]
  refine grow_next (i := 6) (oi := { dst := some 15, op := Op.buildSlice 50 2 #[(0, Operand.tmp 11), (1, Operand.tmp 14)], type := 50, pos := "event.go:67", after := #[{ on := 2, ground := Ground.data }, { on := 5, ground := Ground.data }], guard := none }) (by kernel_rfl) rfl (by rfl) (fun K hK => ?_)
  go_simp
  refine hK _ _ ((Chg.refl _ _).alloc _) ?_
  clear hK K
  try simp only [Act.put, List.setIfInBounds_toArray, List.set_cons_zero, List.set_cons_succ]
  have m2 := (Chg.refl (fun _ => False) wA.drew).alloc (.cells #[.int .i64 (e.n 0), .int .i64 (e.n 1)] 3)
  have o2 := OwnI.lit (w := wA.drew) (base := g + 1) [e.n 0, e.n 1] (by show g + 1 ≤ wA.heap.size; omega) (by simp [maxLen])
  rw [show wA.drew.heap.size = g + 1 from hsz] at o2
  have r2 := past_reads (HV.out.2.2.1.drew.chg m2 id)
  refine grow_next (i := 9) (oi := { dst := some 18, op := Op.call { callee := Callee.builtin Builtin.append, args := #[Operand.tmp 15, Operand.tmp 17], argTypes := #[50, 50] }, type := 50, pos := "event.go:67", after := #[{ on := 6, ground := Ground.data }, { on := 8, ground := Ground.data }], guard := none }) (by kernel_rfl) rfl (by rfl) (fun K hK => ?_)
  refine wp_append_i64 _ (.tmp 15) (.tmp 17) (by rfl) (g + 1) _ [e.n 0, e.n 1] (by rfl) o2 _ (some ⟨g, 2, none⟩) 16 16 (past e) (by rfl) r2 (by simp) (by simp; omega) ?_
  intro v3 w3 o3 g3 a3
  obtain ⟨A3, c3, rfl⟩ := OwnI.formN (n := 18) o3 rfl
  have n3 : New wA w3 := ((Chg.refl (fun _ => False) wA).drew.trans m2 (fun _ _ => id)).grown g3 (fun k e hlt => by injection (show some (g + 1) = some k from e) with h; omega)
  refine hK _ _ ((Chg.refl _ _).grown g3 fun k e _ => by injection (show some (g + 1) = some k from e) with h; exact h.symm) ?_
  clear hK K
  try simp only [Act.put, List.setIfInBounds_toArray, List.set_cons_zero, List.set_cons_succ]
  skip
  refine grow_take (i := 10) (oi := { dst := some 19, op := Op.call { callee := Callee.builtin Builtin.len, args := #[Operand.tmp 18], argTypes := #[50] }, type := 3, pos := "event.go:67", after := #[{ on := 9, ground := Ground.data }], guard := none }) (v := ?_) rfl (by kernel_rfl) (by kernel_rfl) (by kernel_rfl) (by rfl) ?_ ?_; rotate_left; focus ((intro W hW; have fct := (noF _ _) W hW; go_simp) <;> with_reducible rfl)
  simp only [Act.put, List.setIfInBounds_toArray, List.set_cons_zero, List.set_cons_succ]
  refine grow_done (by kernel_rfl) ?_ _
  have o3' : OwnI w3 (g + 1) (.slice A3 18 c3) (nums e) := o3
  have HP := Lib.hid (PutAt.mk (w := w3) (base := base) (v := v) (l := l) (x := []) (by rw [List.append_nil]; exact own_chg HV.out.1 n3 fun _ _ => id) (Chg.refl (fun k => v.ownBlock = some k) w3) (fun k hk => .inl hk))
  have HN := Lib.hid (HV.out.2.1.trans n3 fun _ _ => id)
  have HI := Lib.hid (And.intro o3' (HV.out.2.2.1.chg n3 id))
  have HVL := Lib.hid HV.out.2.2.2
  have hs3 : g + 1 ≤ w3.heap.size := by have := n3.size; omega
  clear o2 r2 m2 o3 o3' n3 g3 a3 F hsz hg0 HV
  go_wp2_with fail
  go_loopw [0, 20] (fun bv iv wr => ∃ (i : Nat) (u : Value), i ≤ 18 ∧ bv = u ∧ iv = .int .i64 i ∧ PutAt w3 base v l (putAll (e.items.take i)) wr u) (fun _ iv _ => 18 - (intOf iv).toNat)
  case atStart => exact ⟨0, v, by omega, rfl, by go_num, HP.out⟩
  case round =>
    obtain ⟨i, u, hi, rfl, rfl, hp⟩ := hrel
    have hsr := hp.chg.size
    by_cases hlt : i < 18
    · have hli : (i : Int) < 18 := by omega
      have oI := own_chg HI.out.1 hp.chg (fun k hk e => by have := HVL.out k e; have := (own_lt HI.out.1 hk).1; omega)
      obtain ⟨ad, x, rfl, _, hx, hcell⟩ := (Reads.of_own oI).at_ (k := i) hlt
      rw [(nums_at e hlt).1] at hx
      injection hx with hx
      subst hx
      have hpre := put_pre e i
      have HIT := Lib.hid (put_one (nums_at e hlt).2)
      have C := Lib.hid (put wr base _ _ hp.own (by omega) (by rw [List.length_append]; have := HB.out; omega) (e.n i))
      have H := Lib.hid hp
      have hw : IntKind.i64.wrap ((i : Int) + 1) = (i : Int) + 1 := IntWalk.i64_in _ (by omega)
      unfold Puts at C
      clear hp oI hpre
      go_wp2_with fail
      with_reducible refine C.out.mono ?_
      rintro x w4 ⟨u4, rfl, o4, c4, a4⟩
      have HE := Lib.hid (H.out.then_ o4 c4 a4)
      clear o4 c4 a4 C
      go_wp2_with fail
      go_roundw
      case rel => exact ⟨i + 1, _, by omega, rfl, by go_num, by rw [HIT.out]; exact HE.out⟩
      case measure => simp [intOf]; omega
    · have H := Lib.hid (show PutAt w3 base v l (putAll (e.items.take 18)) wr u0 from by rw [show i = 18 by omega] at hp; exact hp)
      have hgi : ¬ ((i : Int) < 18) := by omega
      have HGB := Lib.hid (HI.out.2.chg hp.chg (fun e => by have := HVL.out g e; omega))
      clear hp hi hlt
      generalize wr = w6 at *
      have F := Lib.hid (fun W (hW : Chg (fun k => u0.ownBlock = some k ∨ w6.heap.size ≤ k) w6.drew W) => (⟨((HGB.out.drew).chg hW (by
          have := HGB.out.lt
          rintro (h | h)
          · rcases H.out.at_ g h with h | h
            · have := HVL.out g h; omega
            · omega
          · omega)).cell 18, ((HGB.out.drew).chg hW (by
          have := HGB.out.lt
          rintro (h | h)
          · rcases H.out.at_ g h with h | h
            · have := HVL.out g h; omega
            · omega
          · omega)).cell 19⟩ : W.cell? ⟨g, 18, none⟩ = some (.int .i64 (e.n 18)) ∧ W.cell? ⟨g, 19, none⟩ = some (.int .i64 (e.n 19))))
      have hpre := put_pre e 18
      have C1 := Lib.hid (put w6.drew base _ _ H.out.drew.own (by have := H.out.chg.size; show base ≤ w6.heap.size; omega) (by rw [List.length_append]; have := HB.out; omega) (e.n 18))
      unfold Puts at C1
      go_wp2_with fail
      refine grow_start (fun k => u0.ownBlock = some k ∨ w6.heap.size ≤ k) (by kernel_rfl) ?_
      refine grow_take (i := 0) (oi := { dst := some 28, op := Op.move (Operand.tmp 0), type := 29, pos := "event.go:70", after := #[], guard := none }) (v := ?_) rfl (by kernel_rfl) (by kernel_rfl) (by kernel_rfl) (by rfl) ?_ ?_; rotate_left; focus ((intro W hW; go_simp) <;> with_reducible rfl)
      simp only [Act.put, List.setIfInBounds_toArray, List.set_cons_zero, List.set_cons_succ]
      refine grow_take (i := 1) (oi := { dst := some 29, op := Op.fieldAddr 48 (Operand.tmp 3) 2, type := 0, pos := "event.go:70", after := #[], guard := none }) (v := ?_) rfl (by kernel_rfl) (by kernel_rfl) (by kernel_rfl) (by rfl) ?_ ?_; rotate_left; focus ((intro W hW; go_simp) <;> with_reducible rfl)
      simp only [Act.put, List.setIfInBounds_toArray, List.set_cons_zero, List.set_cons_succ]
      refine grow_take (i := 2) (oi := { dst := some 30, op := Op.load 3 (Operand.tmp 29), type := 3, pos := "event.go:70", after := #[{ on := 1, ground := Ground.data }], guard := none }) (v := ?_) rfl (by kernel_rfl) (by kernel_rfl) (by kernel_rfl) (by rfl) ?_ ?_; rotate_left; focus ((intro W hW; have fct := F.out W hW; go_simp) <;> with_reducible rfl)
      simp only [Act.put, List.setIfInBounds_toArray, List.set_cons_zero, List.set_cons_succ]
      refine grow_take (i := 4) (oi := { dst := some 32, op := Op.fieldAddr 48 (Operand.tmp 3) 3, type := 0, pos := "event.go:70", after := #[], guard := none }) (v := ?_) rfl (by kernel_rfl) (by kernel_rfl) (by kernel_rfl) (by rfl) ?_ ?_; rotate_left; focus ((intro W hW; go_simp) <;> with_reducible rfl)
      simp only [Act.put, List.setIfInBounds_toArray, List.set_cons_zero, List.set_cons_succ]
      refine grow_take (i := 5) (oi := { dst := some 33, op := Op.fieldAddr 44 (Operand.tmp 32) 0, type := 0, pos := "event.go:70", after := #[{ on := 4, ground := Ground.data }], guard := none }) (v := ?_) rfl (by kernel_rfl) (by kernel_rfl) (by kernel_rfl) (by rfl) ?_ ?_; rotate_left; focus ((intro W hW; go_simp) <;> with_reducible rfl)
      simp only [Act.put, List.setIfInBounds_toArray, List.set_cons_zero, List.set_cons_succ]
      refine grow_take (i := 6) (oi := { dst := some 34, op := Op.load 3 (Operand.tmp 33), type := 3, pos := "event.go:70", after := #[{ on := 5, ground := Ground.data }], guard := none }) (v := ?_) rfl (by kernel_rfl) (by kernel_rfl) (by kernel_rfl) (by rfl) ?_ ?_; rotate_left; focus ((intro W hW; have fct := F.out W hW; go_simp) <;> with_reducible rfl)
      simp only [Act.put, List.setIfInBounds_toArray, List.set_cons_zero, List.set_cons_succ]
      refine grow_next (i := 3) (oi := { dst := some 31, op := Op.call { callee := Callee.value (Operand.func 18), args := #[Operand.tmp 28, Operand.tmp 30], argTypes := #[29, 3] }, type := 29, pos := "event.go:70", after := #[{ on := 0, ground := Ground.data }, { on := 2, ground := Ground.data }], guard := none }) (by kernel_rfl) rfl (by rfl) (fun K hK => ?_)
      go_simp
      with_reducible refine C1.out.mono ?_
      rintro x w7 ⟨u7, rfl, o7, c7, a7⟩
      refine hK _ _ (c7.mono fun _ _ h => .inl h) ?_
      clear hK K
      try simp only [Act.put, List.setIfInBounds_toArray, List.set_cons_zero, List.set_cons_succ]
      have h7 := H.out.drew.then_ o7 c7 a7
      have C2 := Lib.hid (put w7 base _ _ h7.own (by have := h7.chg.size; omega) (by rw [List.length_append, List.length_append]; have := HB.out; have := putB_len (e.n 18); omega) (e.n 19))
      unfold Puts at C2
      refine grow_next (i := 7) (oi := { dst := some 35, op := Op.call { callee := Callee.value (Operand.func 18), args := #[Operand.tmp 31, Operand.tmp 34], argTypes := #[29, 3] }, type := 29, pos := "event.go:70", after := #[{ on := 3, ground := Ground.data }, { on := 6, ground := Ground.data }, { on := 3, ground := Ground.chain }], guard := none }) (by kernel_rfl) rfl (by rfl) (fun K hK => ?_)
      go_simp
      with_reducible refine C2.out.mono ?_
      rintro x w8 ⟨u8, rfl, o8, c8, a8⟩
      refine hK _ _ (c8.mono fun k _ h => a7 k h) ?_
      clear hK K
      try simp only [Act.put, List.setIfInBounds_toArray, List.set_cons_zero, List.set_cons_succ]
      have h8 := h7.then_ o8 c8 a8
      refine grow_take (i := 8) (oi := { dst := some 0, op := Op.assign (Operand.tmp 35), type := 29, pos := "event.go:70", after := #[{ on := 7, ground := Ground.data }, { on := 7, ground := Ground.chain }, { on := 0, ground := Ground.phase }, { on := 1, ground := Ground.phase }, { on := 2, ground := Ground.phase }, { on := 3, ground := Ground.phase }, { on := 4, ground := Ground.phase }, { on := 5, ground := Ground.phase }, { on := 6, ground := Ground.phase }, { on := 7, ground := Ground.phase }], guard := none }) (v := ?_) rfl (by kernel_rfl) (by kernel_rfl) (by kernel_rfl) (by rfl) ?_ ?_; rotate_left; focus ((intro W hW; go_simp) <;> with_reducible rfl)
      simp only [Act.put, List.setIfInBounds_toArray, List.set_cons_zero, List.set_cons_succ]
      refine grow_done (by kernel_rfl) ?_ _
      have H8 : PutAt w3 base v l (putAll (e.items.take 20)) w8 u8 := by
        have e1 : putAll (e.items.take 19) = _ := put_one (e := e) (i := 18) rfl
        have e2 : putAll (e.items.take 20) = _ := put_one (e := e) (i := 19) rfl
        rw [e2, e1]
        exact h8
      have HP := Lib.hid H8
      have HGB8 := Lib.hid (HI.out.2.chg H8.chg (fun e => by have := HVL.out g e; omega))
      have b20 := HGB8.out.cell 20
      have b21 := HGB8.out.cell 21
      have b22 := HGB8.out.cell 22
      have b23 := HGB8.out.cell 23
      have hg8 := HGB8.out.lt
      have hsz8 := H8.chg.size
      simp only [List.getElem?_toArray, Ev.cs, List.getElem?_cons_zero, List.getElem?_cons_succ] at b20 b21 b22 b23
      have a9 := (Chg.refl (fun _ => False) w8).alloc (.cells (texts e).toArray 9)
      have hps : PutAt w3 base v l (putAll (e.items.take 20)) (w8.alloc (.cells (texts e).toArray 9)) u8 := ⟨own_chg H8.own a9 fun _ _ => id, H8.chg.trans a9 fun _ _ => False.elim, H8.at_⟩
      have hBS := Blk.new w8 9 (texts e).toArray
      have HPS := Lib.hid (And.intro hps hBS)
      unfold texts at HPS
      have hu8 := H8.own
      clear H8 h8 h7 c7 c8 a7 a8 o7 o8 C1 C2 F hpre a9 hps hBS hu8 H HGB
      go_wp2_with fail
      go_loopw [0, 50] (fun bv iv wr => ∃ (i : Nat) (u : Value), i ≤ 4 ∧ bv = u ∧ iv = .int .i64 i ∧ PutAt w3 base v l (putAll (e.items.take (20 + i))) wr u ∧ Blk wr w8.heap.size 9 (texts e).toArray) (fun _ iv _ => 4 - (intOf iv).toNat)
      case atStart => exact ⟨0, u8, by omega, rfl, by go_num, HPS.out⟩
      case round =>
        obtain ⟨i, u, hi, rfl, rfl, hp, hB⟩ := hrel
        by_cases hlt : i < 4
        · have hli : (i : Int) < 4 := by omega
          have hcell := hB.cell i
          rw [(texts_at e hlt).1] at hcell
          have hpre := put_pre e (20 + i)
          have HIT := Lib.hid (put_one (texts_at e hlt).2)
          have hsr := hp.chg.size
          have C := Lib.hid (text wr base _ _ hp.own (by omega) (by rw [List.length_append]; have := HB.out; omega) (e.t (20 + i)) (by have := HS.out (20 + i); omega))
          have H := Lib.hid (And.intro hp hB)
          have hw : IntKind.i64.wrap ((i : Int) + 1) = (i : Int) + 1 := IntWalk.i64_in _ (by omega)
          have hbl := hB.lt
          unfold Puts at C
          clear hp hB hpre
          go_wp2_with fail
          with_reducible refine C.out.mono ?_
          rintro x w9 ⟨u9, rfl, o9, c9, a9⟩
          have hn9 : ¬ (u0.ownBlock = some w8.heap.size) := own_ne H.out.1.own H.out.2 (by decide)
          have HE := Lib.hid (And.intro (H.out.1.then_ o9 c9 a9) (H.out.2.chg c9 hn9))
          clear o9 c9 a9 C hn9
          go_wp2_with fail
          go_roundw
          case rel => exact ⟨i + 1, _, by omega, rfl, by go_num, by rw [show 20 + (i + 1) = 20 + i + 1 by omega, HIT.out]; exact HE.out.1, HE.out.2⟩
          case measure => simp [intOf]; omega
        · have H := Lib.hid (show PutAt w3 base v l (putAll (e.items.take 24)) wr u0 from by rw [show i = 4 by omega] at hp; exact hp)
          have hgi : ¬ ((i : Int) < 4) := by omega
          have HGB := Lib.hid (HI.out.2.chg hp.chg (fun e => by have := HVL.out g e; omega))
          clear hp hi hlt hB
          generalize wr = wv at *
          have hpre := put_pre e 24
          have hfar : ∀ (W : World), Chg (fun k => u0.ownBlock = some k ∨ wv.heap.size ≤ k) wv.drew W → Blk W g 48 e.cs.toArray := fun W hW => (HGB.out.drew).chg hW (by
            have := HGB.out.lt
            rintro (h | h)
            · rcases H.out.at_ g h with h | h
              · have := HVL.out g h; omega
              · omega
            · omega)
          have F := Lib.hid (fun W (hW : Chg (fun k => u0.ownBlock = some k ∨ wv.heap.size ≤ k) wv.drew W) => (⟨(hfar W hW).cell 24, (hfar W hW).cell 25, (hfar W hW).cell 26⟩ : W.cell? ⟨g, 24, none⟩ = some (.int .i64 (e.n 24)) ∧ W.cell? ⟨g, 25, none⟩ = some (.int .i64 (e.n 25)) ∧ W.cell? ⟨g, 26, none⟩ = some (.string (e.t 26))))
          have C1 := Lib.hid (put wv.drew base _ _ H.out.drew.own (by have := H.out.chg.size; show base ≤ wv.heap.size; omega) (by rw [List.length_append]; have := HB.out; omega) (e.n 24))
          unfold Puts at C1
          clear hfar
          go_wp2_with fail
          refine grow_start (fun k => u0.ownBlock = some k ∨ wv.heap.size ≤ k) (by kernel_rfl) ?_
          refine grow_take (i := 0) (oi := { dst := some 58, op := Op.move (Operand.tmp 0), type := 29, pos := "event.go:74", after := #[], guard := none }) (v := ?_) rfl (by kernel_rfl) (by kernel_rfl) (by kernel_rfl) (by rfl) ?_ ?_; rotate_left; focus ((intro W hW; go_simp) <;> with_reducible rfl)
          simp only [Act.put, List.setIfInBounds_toArray, List.set_cons_zero, List.set_cons_succ]
          refine grow_take (i := 1) (oi := { dst := some 59, op := Op.fieldAddr 48 (Operand.tmp 3) 4, type := 0, pos := "event.go:74", after := #[], guard := none }) (v := ?_) rfl (by kernel_rfl) (by kernel_rfl) (by kernel_rfl) (by rfl) ?_ ?_; rotate_left; focus ((intro W hW; go_simp) <;> with_reducible rfl)
          simp only [Act.put, List.setIfInBounds_toArray, List.set_cons_zero, List.set_cons_succ]
          refine grow_take (i := 2) (oi := { dst := some 60, op := Op.fieldAddr 46 (Operand.tmp 59) 0, type := 0, pos := "event.go:74", after := #[{ on := 1, ground := Ground.data }], guard := none }) (v := ?_) rfl (by kernel_rfl) (by kernel_rfl) (by kernel_rfl) (by rfl) ?_ ?_; rotate_left; focus ((intro W hW; go_simp) <;> with_reducible rfl)
          simp only [Act.put, List.setIfInBounds_toArray, List.set_cons_zero, List.set_cons_succ]
          refine grow_take (i := 3) (oi := { dst := some 61, op := Op.load 3 (Operand.tmp 60), type := 3, pos := "event.go:74", after := #[{ on := 2, ground := Ground.data }], guard := none }) (v := ?_) rfl (by kernel_rfl) (by kernel_rfl) (by kernel_rfl) (by rfl) ?_ ?_; rotate_left; focus ((intro W hW; have fct := F.out W hW; go_simp) <;> with_reducible rfl)
          simp only [Act.put, List.setIfInBounds_toArray, List.set_cons_zero, List.set_cons_succ]
          refine grow_take (i := 5) (oi := { dst := some 63, op := Op.fieldAddr 48 (Operand.tmp 3) 4, type := 0, pos := "event.go:74", after := #[], guard := none }) (v := ?_) rfl (by kernel_rfl) (by kernel_rfl) (by kernel_rfl) (by rfl) ?_ ?_; rotate_left; focus ((intro W hW; go_simp) <;> with_reducible rfl)
          simp only [Act.put, List.setIfInBounds_toArray, List.set_cons_zero, List.set_cons_succ]
          refine grow_take (i := 6) (oi := { dst := some 64, op := Op.fieldAddr 46 (Operand.tmp 63) 1, type := 0, pos := "event.go:74", after := #[{ on := 5, ground := Ground.data }], guard := none }) (v := ?_) rfl (by kernel_rfl) (by kernel_rfl) (by kernel_rfl) (by rfl) ?_ ?_; rotate_left; focus ((intro W hW; go_simp) <;> with_reducible rfl)
          simp only [Act.put, List.setIfInBounds_toArray, List.set_cons_zero, List.set_cons_succ]
          refine grow_take (i := 7) (oi := { dst := some 65, op := Op.load 3 (Operand.tmp 64), type := 3, pos := "event.go:74", after := #[{ on := 6, ground := Ground.data }], guard := none }) (v := ?_) rfl (by kernel_rfl) (by kernel_rfl) (by kernel_rfl) (by rfl) ?_ ?_; rotate_left; focus ((intro W hW; have fct := F.out W hW; go_simp) <;> with_reducible rfl)
          simp only [Act.put, List.setIfInBounds_toArray, List.set_cons_zero, List.set_cons_succ]
          refine grow_take (i := 9) (oi := { dst := some 67, op := Op.fieldAddr 48 (Operand.tmp 3) 4, type := 0, pos := "event.go:74", after := #[], guard := none }) (v := ?_) rfl (by kernel_rfl) (by kernel_rfl) (by kernel_rfl) (by rfl) ?_ ?_; rotate_left; focus ((intro W hW; go_simp) <;> with_reducible rfl)
          simp only [Act.put, List.setIfInBounds_toArray, List.set_cons_zero, List.set_cons_succ]
          refine grow_take (i := 10) (oi := { dst := some 68, op := Op.fieldAddr 46 (Operand.tmp 67) 2, type := 0, pos := "event.go:74", after := #[{ on := 9, ground := Ground.data }], guard := none }) (v := ?_) rfl (by kernel_rfl) (by kernel_rfl) (by kernel_rfl) (by rfl) ?_ ?_; rotate_left; focus ((intro W hW; go_simp) <;> with_reducible rfl)
          simp only [Act.put, List.setIfInBounds_toArray, List.set_cons_zero, List.set_cons_succ]
          refine grow_take (i := 11) (oi := { dst := some 69, op := Op.load 9 (Operand.tmp 68), type := 9, pos := "event.go:74", after := #[{ on := 10, ground := Ground.data }], guard := none }) (v := ?_) rfl (by kernel_rfl) (by kernel_rfl) (by kernel_rfl) (by rfl) ?_ ?_; rotate_left; focus ((intro W hW; have fct := F.out W hW; go_simp) <;> with_reducible rfl)
          simp only [Act.put, List.setIfInBounds_toArray, List.set_cons_zero, List.set_cons_succ]
          refine grow_next (i := 4) (oi := { dst := some 62, op := Op.call { callee := Callee.value (Operand.func 18), args := #[Operand.tmp 58, Operand.tmp 61], argTypes := #[29, 3] }, type := 29, pos := "event.go:74", after := #[{ on := 0, ground := Ground.data }, { on := 3, ground := Ground.data }], guard := none }) (by kernel_rfl) rfl (by rfl) (fun K hK => ?_)
          go_simp
          with_reducible refine C1.out.mono ?_
          rintro x w10 ⟨u10, rfl, o10, c10, a10⟩
          refine hK _ _ (c10.mono fun _ _ h => .inl h) ?_
          clear hK K
          try simp only [Act.put, List.setIfInBounds_toArray, List.set_cons_zero, List.set_cons_succ]
          have h10 := H.out.drew.then_ o10 c10 a10
          have C2 := Lib.hid (signed w10 base _ _ h10.own (by have := h10.chg.size; omega) (by rw [List.length_append, List.length_append]; have := HB.out; have := putB_len (e.n 24); omega) (e.n 25))
          unfold Puts at C2
          refine grow_next (i := 8) (oi := { dst := some 66, op := Op.call { callee := Callee.value (Operand.func 38), args := #[Operand.tmp 62, Operand.tmp 65], argTypes := #[29, 3] }, type := 29, pos := "event.go:74", after := #[{ on := 4, ground := Ground.data }, { on := 7, ground := Ground.data }, { on := 4, ground := Ground.chain }], guard := none }) (by kernel_rfl) rfl (by rfl) (fun K hK => ?_)
          go_simp
          with_reducible refine C2.out.mono ?_
          rintro x w11 ⟨u11, rfl, o11, c11, a11⟩
          refine hK _ _ (c11.mono fun k _ h => a10 k h) ?_
          clear hK K
          try simp only [Act.put, List.setIfInBounds_toArray, List.set_cons_zero, List.set_cons_succ]
          have h11 := h10.then_ o11 c11 a11
          have C3 := Lib.hid (text w11 base _ _ h11.own (by have := h11.chg.size; omega) (by rw [List.length_append, List.length_append, List.length_append]; have := HB.out; have := putB_len (e.n 24); have := signedB_len (e.n 25); omega) (e.t 26) (by have := HS.out 26; omega))
          unfold Puts at C3
          have ha11 := at_trans a10 a11 c10.size
          refine grow_next (i := 12) (oi := { dst := some 70, op := Op.call { callee := Callee.value (Operand.func 37), args := #[Operand.tmp 66, Operand.tmp 69], argTypes := #[29, 9] }, type := 29, pos := "event.go:74", after := #[{ on := 8, ground := Ground.data }, { on := 11, ground := Ground.data }, { on := 8, ground := Ground.chain }], guard := none }) (by kernel_rfl) rfl (by rfl) (fun K hK => ?_)
          go_simp
          with_reducible refine C3.out.mono ?_
          rintro x w12 ⟨u12, rfl, o12, c12, a12⟩
          refine hK _ _ (c12.mono fun k _ h => ha11 k h) ?_
          clear hK K
          try simp only [Act.put, List.setIfInBounds_toArray, List.set_cons_zero, List.set_cons_succ]
          have h12 := h11.then_ o12 c12 a12
          refine grow_take (i := 13) (oi := { dst := some 4, op := Op.assign (Operand.tmp 70), type := 29, pos := "event.go:74", after := #[{ on := 12, ground := Ground.data }, { on := 12, ground := Ground.chain }, { on := 0, ground := Ground.phase }, { on := 1, ground := Ground.phase }, { on := 2, ground := Ground.phase }, { on := 3, ground := Ground.phase }, { on := 4, ground := Ground.phase }, { on := 5, ground := Ground.phase }, { on := 6, ground := Ground.phase }, { on := 7, ground := Ground.phase }, { on := 8, ground := Ground.phase }, { on := 9, ground := Ground.phase }, { on := 10, ground := Ground.phase }, { on := 11, ground := Ground.phase }, { on := 12, ground := Ground.phase }], guard := none }) (v := ?_) rfl (by kernel_rfl) (by kernel_rfl) (by kernel_rfl) (by rfl) ?_ ?_; rotate_left; focus ((intro W hW; go_simp) <;> with_reducible rfl)
          simp only [Act.put, List.setIfInBounds_toArray, List.set_cons_zero, List.set_cons_succ]
          refine grow_done (by kernel_rfl) ?_ _
          have hall : putAll (e.items.take 24) ++ putB (e.n 24) ++ signedB (e.n 25) ++ textB (e.t 26).data.toList = e.bytes := by
            have e1 : putAll (e.items.take 25) = _ := put_one (e := e) (i := 24) rfl
            have e2 : putAll (e.items.take 26) = _ := put_one (e := e) (i := 25) rfl
            have e3 : putAll (e.items.take 27) = _ := put_one (e := e) (i := 26) rfl
            unfold Ev.bytes
            rw [show e.items = e.items.take 27 from rfl, e3, e2, e1]
            rfl
          rw [hall] at h12
          have HE := Lib.hid (And.intro h12.own (And.intro ((HN.out.mono (S' := fun k => v.ownBlock = some k) fun _ _ => False.elim).trans h12.chg fun _ _ e => e) (fun k hk => (h12.at_ k hk).imp id fun h => (by omega : w.heap.size ≤ k))))
          clear h12 h11 h10 c10 c11 c12 a10 a11 a12 o10 o11 o12 C1 C2 C3 F ha11 hall
          go_wp2_with fail
          go_ret
          exact ⟨_, rfl, HE.out⟩
end Evt
end Go.Proofs.YtkmkpdmjdfbpjaaGreatDoor

/- What names, texts, edges' texts, values and elements may be, in plain words (no condition). -/
namespace Go.Proofs.YtkmkpdmjdfbpjaaGreatDoor
namespace Val
def letterB (c : UInt8) : Bool := (decide (97 ≤ c.toNat) && decide (c.toNat ≤ 122)) || (decide (65 ≤ c.toNat) && decide (c.toNat ≤ 90))
def innerB (c : UInt8) : Bool := letterB c || (decide (48 ≤ c.toNat) && decide (c.toNat ≤ 57)) || decide (c.toNat = 95)
def nameB (l : List UInt8) : Bool := decide (l ≠ []) && decide (l.length ≤ 16) && letterB (l.getD 0 0) && l.all innerB
def signB (c : UInt8) : Bool := decide (32 ≤ c.toNat) && decide (c.toNat ≤ 126)
def plainB (l : List UInt8) : Bool := l.all signB && decide (l.length ≤ 64)
theorem letter_inner {c : UInt8} (h : letterB c = true) : innerB c = true := by simp [innerB, h]
theorem nameB_len {l : List UInt8} (h : nameB l = true) : 0 < l.length ∧ l.length ≤ 16 := by
  simp [nameB] at h
  exact ⟨List.length_pos_iff.2 h.1.1.1, h.1.1.2⟩
/-! ### cutting at a byte -/
def headCons (b : UInt8) : List (List UInt8) → List (List UInt8)
  | [] => [[b]]
  | p :: ps => (b :: p) :: ps
def cutAt (c : UInt8) : List UInt8 → List (List UInt8)
  | [] => [[]]
  | b :: l => if b = c then [] :: cutAt c l else headCons b (cutAt c l)
theorem splitK_ne {b c : UInt8} (h : b ≠ c) (l : List UInt8) : ∀ k, Lib.splitK [c] 0 k (b :: l) = headCons b (Lib.splitK [c] 0 k l)
  | 0 => rfl
  | k + 1 => by
    have hp : ([c] : List UInt8).isPrefixOf (b :: l) = false := by simp [List.isPrefixOf, Ne.symm h]
    have hix : Lib.index (b :: l) [c] = if Lib.index l [c] == -1 then -1 else Lib.index l [c] + 1 := by rw [Lib.index, hp]; simp
    unfold Lib.splitK
    by_cases hm : Lib.index l [c] = -1
    · rw [hix, hm]; rfl
    · have hge := Lib.index_ge l [c]
      obtain ⟨j, hj⟩ : ∃ j : Nat, Lib.index l [c] = j := ⟨(Lib.index l [c]).toNat, by omega⟩
      rw [hix, hj]
      have e1 : ((j : Int) == -1) = false := by simp
      have e2 : ((j : Int) + 1 == -1) = false := by simpa using (by omega : ¬ (j : Int) + 1 = -1)
      simp only [e1, Bool.false_eq_true, if_false, e2, headCons]
      have e3 : ((j : Int) + 1).toNat = j + 1 := by omega
      rw [e3, Int.toNat_natCast]
      simp
theorem split_cut (c : UInt8) : ∀ l : List UInt8, Lib.split l [c] = cutAt c l
  | [] => rfl
  | b :: l => by
    have ih := split_cut c l
    unfold Lib.split at ih ⊢
    unfold cutAt
    by_cases h : b = c
    · subst h
      rw [if_pos rfl, Lib.count_cons_eq, Nat.add_comm, ← ih]
      have hix : Lib.index (b :: l) [b] = 0 := by rw [Lib.index]; simp [List.isPrefixOf]
      conv => lhs; unfold Lib.splitK
      rw [hix]
      simp
    · rw [if_neg h, Lib.count_cons_ne b c l h, splitK_ne h, ih]
theorem cutAt_ne (c : UInt8) : ∀ l : List UInt8, cutAt c l ≠ []
  | [] => by simp [cutAt]
  | b :: l => by
    unfold cutAt
    split
    · simp
    · cases cutAt c l <;> simp [headCons]
def lastSnoc (b : UInt8) : List (List UInt8) → List (List UInt8)
  | [] => [[b]]
  | [p] => [p ++ [b]]
  | p :: ps => p :: lastSnoc b ps
theorem lastSnoc_head {b x : UInt8} : ∀ {L : List (List UInt8)}, L ≠ [] → lastSnoc b (headCons x L) = headCons x (lastSnoc b L)
  | [], h => (h rfl).elim
  | [_], _ => rfl
  | _ :: _ :: _, _ => rfl
theorem cut_snoc (c b : UInt8) : ∀ l : List UInt8, cutAt c (l ++ [b]) = if b = c then cutAt c l ++ [[]] else lastSnoc b (cutAt c l)
  | [] => by
    unfold cutAt
    simp only [List.nil_append]
    split
    · simp [cutAt]
    · simp [cutAt, headCons, lastSnoc]
  | x :: l => by
    have ih := cut_snoc c b l
    rw [List.cons_append]
    unfold cutAt
    rw [ih]
    have hne := cutAt_ne c l
    by_cases h : x = c
    · rw [if_pos h, if_pos h]
      by_cases h2 : b = c
      · rw [if_pos h2, if_pos h2]; rfl
      · rw [if_neg h2, if_neg h2]
        cases hq : cutAt c l with
        | nil => exact (hne hq).elim
        | cons p ps => rfl
    · rw [if_neg h, if_neg h]
      by_cases h2 : b = c
      · rw [if_pos h2, if_pos h2]
        cases hq : cutAt c l with
        | nil => exact (hne hq).elim
        | cons p ps => rfl
      · rw [if_neg h2, if_neg h2, lastSnoc_head hne]
theorem cut_len (c : UInt8) : ∀ l : List UInt8, ((cutAt c l).map fun p => p.length + 1).sum = l.length + 1
  | [] => rfl
  | b :: l => by
    have ih := cut_len c l
    have hne := cutAt_ne c l
    unfold cutAt
    split
    · simp only [List.map_cons, List.sum_cons, ih, List.length_cons, List.length_nil]; omega
    · cases hq : cutAt c l with
      | nil => exact (hne hq).elim
      | cons p ps =>
        rw [hq] at ih
        simp only [headCons, List.map_cons, List.sum_cons, List.length_cons] at ih ⊢
        omega
def linkB (l : List UInt8) : Bool := match cutAt 62 l with
  | [a, b, c] => nameB a && nameB b && nameB c
  | _ => false
theorem linkB_len {l : List UInt8} (h : linkB l = true) : l.length ≤ 50 := by
  have hl := cut_len 62 l
  unfold linkB at h
  split at h
  · next a b c e =>
    rw [e] at hl
    simp only [Bool.and_eq_true] at h
    have h1 := nameB_len h.1.1
    have h2 := nameB_len h.1.2
    have h3 := nameB_len h.2
    simp at hl
    omega
  · cases h
/-- may a value be? -/
def rightB (k n : Int) (t : List UInt8) : Bool :=
  if k = 0 then decide (n = 0) && decide (t = [])
  else if k = 1 then (decide (n = 0) || decide (n = 1)) && decide (t = [])
  else if k = 2 then decide (-1099511627776 ≤ n) && decide (n ≤ 1099511627776) && decide (t = [])
  else if k = 3 then decide (n = 0) && plainB t
  else if k = 4 then decide (n = 0) && nameB t
  else if k = 5 then decide (n = 0) && linkB t
  else false
/-- may an element be? -/
def elemB (k : Int) (a b c d : List UInt8) : Bool :=
  if k = 1 then nameB a && decide (b = []) && decide (c = []) && decide (d = [])
  else if k = 2 ∨ k = 4 then nameB a && decide (b = []) && decide (c = []) && nameB d
  else if k = 3 then nameB a && nameB b && nameB c && decide (d = [])
  else if k = 5 then nameB a && nameB b && nameB c && nameB d
  else false
theorem join_nil_iff : ∀ xs : List (List UInt8), Lib.join xs [] = [] ↔ ∀ x ∈ xs, x = []
  | [] => by simp [Lib.join_nil]
  | x :: r => by
    rw [Lib.join_cons]
    simp [Lib.joinTail]
end Val
end Go.Proofs.YtkmkpdmjdfbpjaaGreatDoor

/- Names, texts and values: what the program's calls compute (no condition). -/
namespace Go.Proofs.YtkmkpdmjdfbpjaaGreatDoor
open Go.ChangeShapes Go.WideShapes Go.RowKit Go.Deep
namespace Val
theorem letter (w : World) (c : UInt8) : Calls Tryz.prog 92 #[.int .u8 (c.toNat : Int)] w fun e w' => e = .returned (.bool (letterB c)) ∧ w' = w := by
  unfold letterB
  obtain ⟨x, hx⟩ : ∃ x, c.toNat = x := ⟨_, rfl⟩
  rw [hx]
  clear hx
  by_cases h1 : (97 : Int) ≤ (x : Int)
  · by_cases h2 : (x : Int) ≤ 122
    · have e1 : decide (97 ≤ x) = true := by simp; omega
      have e2 : decide (x ≤ 122) = true := by simp; omega
      rw [e1, e2]
      clear e1 e2
      go_enter Tryz.func92, Tryz.ntmps92
      go_wp2_with fail
      go_ret
      exact ⟨rfl, rfl⟩
    · have e2 : decide (x ≤ 122) = false := by simp; omega
      have e4 : decide (x ≤ 90) = false := by simp; omega
      have h3 : (65 : Int) ≤ (x : Int) := by omega
      have h4 : ¬ (x : Int) ≤ 90 := by omega
      rw [e2, e4]
      simp only [Bool.and_false, Bool.or_false]
      clear e2 e4
      go_enter Tryz.func92, Tryz.ntmps92
      go_wp2_with fail
      go_ret
      exact ⟨rfl, rfl⟩
  · have e1 : decide (97 ≤ x) = false := by simp; omega
    rw [e1]
    by_cases h3 : (65 : Int) ≤ (x : Int)
    · by_cases h4 : (x : Int) ≤ 90
      · have e3 : decide (65 ≤ x) = true := by simp; omega
        have e4 : decide (x ≤ 90) = true := by simp; omega
        rw [e3, e4]
        clear e1 e3 e4
        go_enter Tryz.func92, Tryz.ntmps92
        go_wp2_with fail
        go_ret
        exact ⟨rfl, rfl⟩
      · have e4 : decide (x ≤ 90) = false := by simp; omega
        rw [e4]
        simp only [Bool.and_false, Bool.or_false, Bool.false_and]
        clear e1 e4
        go_enter Tryz.func92, Tryz.ntmps92
        go_wp2_with fail
        go_ret
        exact ⟨rfl, rfl⟩
    · have e3 : decide (65 ≤ x) = false := by simp; omega
      rw [e3]
      simp only [Bool.false_and, Bool.or_false]
      clear e1 e3
      go_enter Tryz.func92, Tryz.ntmps92
      go_wp2_with fail
      go_ret
      exact ⟨rfl, rfl⟩
theorem inner (w : World) (c : UInt8) : Calls Tryz.prog 93 #[.int .u8 (c.toNat : Int)] w fun e w' => e = .returned (.bool (innerB c)) ∧ w' = w := by
  have C := Lib.hid (letter w c)
  unfold innerB
  obtain ⟨l, hl⟩ : ∃ l, letterB c = l := ⟨_, rfl⟩
  rw [hl] at C ⊢
  obtain ⟨x, hx⟩ : ∃ x, c.toNat = x := ⟨_, rfl⟩
  rw [hx] at C ⊢
  clear hx hl
  cases l
  · by_cases h1 : (48 : Int) ≤ (x : Int)
    · by_cases h2 : (x : Int) ≤ 57
      · have e1 : decide (48 ≤ x) = true := by simp; omega
        have e2 : decide (x ≤ 57) = true := by simp; omega
        rw [e1, e2]
        clear e1 e2
        go_enter Tryz.func93, Tryz.ntmps93
        go_wp2_with fail
        refine C.out.mono ?_
        rintro e w1 ⟨rfl, rfl⟩
        go_wp2_with fail
        go_ret
        exact ⟨rfl, rfl⟩
      · have e2 : decide (x ≤ 57) = false := by simp; omega
        rw [e2]
        by_cases h3 : x = 95
        · subst h3
          clear e2
          go_enter Tryz.func93, Tryz.ntmps93
          go_wp2_with fail
          refine C.out.mono ?_
          rintro e w1 ⟨rfl, rfl⟩
          go_wp2_with fail
          go_ret
          exact ⟨rfl, rfl⟩
        · have h4 : ((x : Int) == 95) = false := by simp; omega
          have h5 : ¬ (x : Int) = 95 := by omega
          have e3 : decide (x = 95) = false := by simpa using h3
          have h6 : decide ((x : Int) ≤ 57) = false := by simp; omega
          rw [e3]
          simp only [Bool.and_false, Bool.or_false]
          clear e2 e3 h3
          go_enter Tryz.func93, Tryz.ntmps93
          go_wp2_with fail
          refine C.out.mono ?_
          rintro e w1 ⟨rfl, rfl⟩
          go_wp2_with fail
          go_ret
          exact ⟨rfl, rfl⟩
    · have e1 : decide (48 ≤ x) = false := by simp; omega
      have h4 : ((x : Int) == 95) = false := by simp; omega
      have h5 : ¬ (x : Int) = 95 := by omega
      have e3 : decide (x = 95) = false := by simp; omega
      rw [e1, e3]
      simp only [Bool.false_and, Bool.or_false]
      clear e1 e3
      go_enter Tryz.func93, Tryz.ntmps93
      go_wp2_with fail
      refine C.out.mono ?_
      rintro e w1 ⟨rfl, rfl⟩
      go_wp2_with fail
      go_ret
      exact ⟨rfl, rfl⟩
  · simp only [Bool.true_or]
    go_enter Tryz.func93, Tryz.ntmps93
    go_wp2_with fail
    refine C.out.mono ?_
    rintro e w1 ⟨rfl, rfl⟩
    go_wp2_with fail
    go_ret
    exact ⟨rfl, rfl⟩
theorem at_list {s : ByteArray} {k : Nat} (h : k < s.size) : s.data.toList[k]? = some (s[k]'h) := by
  rw [Array.getElem?_toList]
  exact Array.getElem?_eq_getElem h
theorem toList_data (s : ByteArray) : s.toList = s.data.toList := Lib.toList_data s
theorem size_list (s : ByteArray) : s.data.toList.length = s.size := rfl
set_option maxHeartbeats 1000000 in
theorem name (w : World) (s : ByteArray) : Calls Tryz.prog 88 #[.string s] w fun e w' => e = .returned (.bool (nameB s.data.toList)) ∧ w' = w := by
  by_cases h0 : s = ⟨#[]⟩
  · subst h0
    go_enter Tryz.func88, Tryz.ntmps88
    go_wp2_with fail
    go_ret
    exact ⟨rfl, rfl⟩
  have hpos : 0 < s.size := by
    rcases Nat.eq_zero_or_pos s.size with h | h
    · exact (h0 (by apply ByteArray.ext; exact Array.eq_empty_of_size_eq_zero h)).elim
    · exact h
  have hemp : s.toList.isEmpty = false := by
    rw [toList_data]
    cases hq : s.data.toList with
    | nil => have := size_list s; rw [hq] at this; simp at this; omega
    | cons _ _ => rfl
  have hemp2 : ¬ s.toList = [] := fun e => by rw [e] at hemp; cases hemp
  have hne : s.data.toList ≠ [] := by rw [← toList_data]; exact hemp2
  have hget : s.data.toList.getD 0 0 = s[0]'hpos := by rw [List.getD_eq_getElem?_getD, at_list hpos]; rfl
  obtain ⟨n, hn⟩ : ∃ n, s.size = n := ⟨_, rfl⟩
  have hlen := size_list s
  rw [hn] at hlen
  by_cases h16 : (16 : Int) < n
  · have hr : nameB s.data.toList = false := by
      unfold nameB
      rw [hlen, decide_eq_false (show ¬ n ≤ 16 by omega)]
      simp
    have HR := Lib.hid hr
    clear hr hget hne
    go_enter Tryz.func88, Tryz.ntmps88
    go_wp2_with fail
    go_ret
    rw [HR.out]
    exact ⟨rfl, rfl⟩
  have C := Lib.hid (letter w (s[0]'hpos))
  obtain ⟨l, hl⟩ : ∃ l, letterB (s[0]'hpos) = l := ⟨_, rfl⟩
  rw [hl] at C
  cases l
  · have hr : nameB s.data.toList = false := by
      unfold nameB
      rw [hget, hl]
      simp
    have HR := Lib.hid hr
    clear hr hget hne hl
    go_enter Tryz.func88, Tryz.ntmps88
    go_wp2_with fail
    refine C.out.mono ?_
    rintro e w1 ⟨rfl, rfl⟩
    go_wp2_with fail
    go_ret
    rw [HR.out]
    exact ⟨rfl, rfl⟩
  · have hr : nameB s.data.toList = s.data.toList.all innerB := by
      unfold nameB
      rw [hget, hl, hlen, decide_eq_true (show n ≤ 16 by omega), decide_eq_true hne]
      simp
    have HR := Lib.hid hr
    clear hr hget hne hl
    go_enter Tryz.func88, Tryz.ntmps88
    go_wp2_with fail
    refine C.out.mono ?_
    rintro e w1 ⟨rfl, rfl⟩
    clear C
    go_wp2_with fail
    go_loopw [3, 19] (fun _ iv wr => ∃ i : Nat, i ≤ n ∧ iv = .int .i64 i ∧ wr = w1 ∧ (s.data.toList.take i).all innerB = true) (fun _ iv _ => n - (intOf iv).toNat)
    case atStart => exact ⟨0, by omega, by go_num, rfl, by simp⟩
    case round =>
      obtain ⟨i, hi, rfl, rfl, hall⟩ := hrel
      by_cases hlt : i < n
      · have his : i < s.size := by omega
        have C := Lib.hid (inner wr (s[i]'his))
        have htk : (s.data.toList.take (i + 1)).all innerB = ((s.data.toList.take i).all innerB && innerB (s[i]'his)) := by
          rw [List.take_add_one, at_list his, List.all_append]
          simp
        have hmem : s[i]'his ∈ s.data.toList := List.mem_of_getElem? (at_list his)
        obtain ⟨l, hl⟩ : ∃ l, innerB (s[i]'his) = l := ⟨_, rfl⟩
        rw [hl] at C htk
        have hii : (i : Int) < n := by omega
        cases l
        · have hf : s.data.toList.all innerB = false := by
            rw [List.all_eq_false]
            exact ⟨_, hmem, by rw [hl]; simp⟩
          have HF := Lib.hid (HR.out.trans hf)
          clear htk hmem hl hall hf
          go_wp2_with fail
          refine C.out.mono ?_
          rintro e w2 ⟨rfl, rfl⟩
          go_wp2_with fail
          go_ret
          rw [HF.out]
          exact ⟨rfl, rfl⟩
        · have HT := Lib.hid (show (s.data.toList.take (i + 1)).all innerB = true by rw [htk, hall]; rfl)
          clear htk hmem hl hall
          go_wp2_with fail
          refine C.out.mono ?_
          rintro e w2 ⟨rfl, rfl⟩
          go_wp2_with fail
          go_roundw
          case rel => exact ⟨i + 1, by omega, by go_num, by first | trivial | rfl, HT.out⟩
          case measure => simp [intOf]; omega
      · obtain rfl : n = i := by omega
        rw [List.take_of_length_le (by rw [hlen]; exact Nat.le_refl _)] at hall
        have HF := Lib.hid (HR.out.trans hall)
        clear hall
        go_wp2_with fail
        go_ret
        rw [HF.out]
        exact ⟨rfl, rfl⟩
end Val
end Go.Proofs.YtkmkpdmjdfbpjaaGreatDoor

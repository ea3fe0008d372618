/-
  message.read: a payload's message (no condition beyond the sizes, and that MaxLen holds a number).
-/
import Derived.Test.YtkmkpdmjdfbpjaaGreatDoorJ10
/- message.Bytes: a message's bytes, if it may be (no condition beyond the sizes, and that MaxLen holds a number). -/
namespace Go.Proofs.YtkmkpdmjdfbpjaaGreatDoor
set_option linter.unusedSimpArgs false
set_option linter.unusedVariables false
open Go.ChangeShapes Go.WideShapes Go.RowKit Go.Deep
namespace Msg
open Val (JoinC)
open Num Evt Vec
attribute [local go_sem ↓] loadRow0 storeRow0
attribute [local go_sem ↓] Evt.loadDot Evt.loadVec Evt.loadRow0 Evt.storeRow0 Evt.loadOnly0 Evt.loadOnly1 Evt.loadOnly2
theorem putAll_one {xs : List It} {i : Nat} {x : It} (h : xs[i]? = some x) : putAll (xs.take (i + 1)) = putAll (xs.take i) ++ x.put := by
  rw [List.take_add_one, h]
  simp [putAll]
theorem putAll_pre (xs : List It) (i : Nat) : (putAll (xs.take i)).length ≤ (putAll xs).length := by
  have h : putAll xs = putAll (xs.take i) ++ putAll (xs.drop i) := by
    unfold putAll
    rw [← List.flatMap_append, List.take_append_drop]
  rw [h, List.length_append]
  omega
def hs (m : Ms) : List Int := m.n 0 :: m.n 1 :: m.n 2 :: known m
theorem hs_at (m : Ms) {i : Nat} (h : i < 19) : (ints (hs m))[i]? = some (.int .i64 (m.n i)) ∧ (heads m)[i]? = some (.n (m.n i)) := by
  rcases (show i = 0 ∨ i = 1 ∨ i = 2 ∨ i = 3 ∨ i = 4 ∨ i = 5 ∨ i = 6 ∨ i = 7 ∨ i = 8 ∨ i = 9 ∨ i = 10 ∨ i = 11 ∨ i = 12 ∨ i = 13 ∨ i = 14 ∨ i = 15 ∨ i = 16 ∨ i = 17 ∨ i = 18 by omega) with rfl | rfl | rfl | rfl | rfl | rfl | rfl | rfl | rfl | rfl | rfl | rfl | rfl | rfl | rfl | rfl | rfl | rfl | rfl <;> exact ⟨rfl, rfl⟩
theorem known_reads {w : World} {g : Nat} {t : TypeId} {m : Ms} {v : Value} (h : Blk w g t (m.cs v).toArray) : Reads w (fun b => b = g) 1 (some ⟨g, 3, none⟩) 16 (ints (known m)) := by
  refine ⟨rfl, fun _ => ⟨_, rfl, rfl, fun j u hu => ?_⟩⟩
  have hj : j < 16 := (List.getElem?_eq_some_iff.1 hu).1
  rw [add_plain, h.cell, List.getElem?_toArray, ← hu]
  rcases (show j = 0 ∨ j = 1 ∨ j = 2 ∨ j = 3 ∨ j = 4 ∨ j = 5 ∨ j = 6 ∨ j = 7 ∨ j = 8 ∨ j = 9 ∨ j = 10 ∨ j = 11 ∨ j = 12 ∨ j = 13 ∨ j = 14 ∨ j = 15 by omega) with rfl | rfl | rfl | rfl | rfl | rfl | rfl | rfl | rfl | rfl | rfl | rfl | rfl | rfl | rfl | rfl <;> rfl
/-- what came so far is put into a row of the call's own -/
structure PN (w : World) (x : List UInt8) (wr : World) (u : Value) : Prop where
  own : OwnB wr w.heap.size u x
  chg : New w wr
theorem PN.then_ {w wr w' : World} {u u' : Value} {x y : List UInt8} (h : PN w x wr u) (ho : OwnB w' w.heap.size u' (x ++ y)) (hc : Chg (fun k => u.ownBlock = some k) wr w') : PN w (x ++ y) w' u' :=
  ⟨ho, h.chg.trans hc fun i hi e => by have := (own_lt h.own e).1; omega⟩
theorem PN.new {w wr w' : World} {u : Value} {x : List UInt8} (h : PN w x wr u) (hc : New wr w') : PN w x w' u :=
  ⟨own_chg h.own hc fun _ _ => id, h.chg.trans hc fun _ _ => id⟩
theorem PN.nil (w : World) : PN w [] w (.slice none 0 0) := ⟨OwnB.nil, Chg.refl _ _⟩
theorem es_one {l : List Ev} {i : Nat} {e : Ev} (h : l[i]? = some e) : (l.take (i + 1)).flatMap Ev.bytes = (l.take i).flatMap Ev.bytes ++ e.bytes := by
  rw [List.take_add_one, h]
  simp
theorem es_pre (l : List Ev) (i : Nat) : ((l.take i).flatMap Ev.bytes).length ≤ (l.flatMap Ev.bytes).length := by
  have h : l.flatMap Ev.bytes = (l.take i).flatMap Ev.bytes ++ (l.drop i).flatMap Ev.bytes := by
    rw [← List.flatMap_append, List.take_append_drop]
  rw [h, List.length_append]
  omega
set_option maxHeartbeats 20000000 in
set_option maxRecDepth 20000 in
theorem bytes_ (hJ : JoinC) (w : World) (F : Nat → Prop) (m : Ms) (v : Value) (hv : RowE w F v m.es) (hF : ∀ b, F b → b < w.heap.size) (hs_ : ∀ e ∈ m.es, Fit e) (hm : Val.MaxAt w) (hl : m.es.length ≤ 1000000) (hp : (payload m).length ≤ 800000000) :
    Calls Tryz.prog 9 #[m.val v] w fun x w' => ∃ u, x = .returned (.tuple #[u, .int .i64 (if rightM m = true then 0 else 1)]) ∧ OwnB w' w.heap.size u (if rightM m = true then Frame.frameL (payload m) else []) ∧ New w w' := by
  have n1 := (Chg.refl (fun _ => False) w).alloc (.cells (m.cs v).toArray 26)
  have B1 := Blk.new w 26 (m.cs v).toArray
  have N1 := Lib.hid n1
  have g1 := B1.lt
  have l1 := (blk_ms B1).1
  have CR := right_ hJ _ F m v (hv.new n1) hs_ (hm.new n1) hl
  have HB1 := Lib.hid B1
  have HV := Lib.hid (hv.new n1)
  have HF := Lib.hid hF
  have HS := Lib.hid hs_
  have HPL := Lib.hid hp
  obtain ⟨n, hn⟩ : ∃ n, m.es.length = n := ⟨_, rfl⟩
  have HN := Lib.hid hn
  obtain ⟨A, c, hvv, _⟩ := hv
  rw [hn] at hvv hl
  subst hvv
  obtain ⟨r, hr⟩ : ∃ r, rightM m = r := ⟨_, rfl⟩
  rw [hr] at CR ⊢
  clear n1 B1 hF hs_ hm hn hp hr
  cases r
  · have CR := Lib.hid CR
    go_enter Tryz.func9, Tryz.ntmps9
    go_wp2_with fail
    with_reducible refine CR.out.mono ?_
    rintro x w2 ⟨rfl, n2⟩
    go_wp2_with fail
    go_ret2
    exact ⟨_, rfl, OwnB.nil, N1.out.trans n2 fun _ _ => id⟩
  have CR := Lib.hid CR
  go_enter Tryz.func9, Tryz.ntmps9
  go_wp2_with fail
  obtain ⟨g, hg⟩ : ∃ g, w.heap.size = g := ⟨_, rfl⟩
  have HG := Lib.hid hg
  generalize hw1 : w.alloc (.cells (m.cs (.slice A n c)).toArray 26) = w1 at *
  rw [hg] at HB1 g1 l1 ⊢
  clear hw1 hg
  with_reducible refine CR.out.mono ?_
  rintro x w2 ⟨rfl, n2⟩
  have HV2 := Lib.hid (HV.out.new n2)
  have HB := Lib.hid (HB1.out.chg n2 id)
  have N2 := Lib.hid (N1.out.trans n2 fun _ _ => id)
  obtain ⟨s, hsz⟩ : ∃ s, w2.heap.size = s := ⟨_, rfl⟩
  have hgs : g < s := by rw [← hsz]; exact HB.out.lt
  clear n2 CR l1
  have FC := Lib.hid (fun W (hW : Chg (fun k => k = s) w2.drew W) => (⟨((HB.out.drew).chg hW (by omega)).cell 0, ((HB.out.drew).chg hW (by omega)).cell 1, ((HB.out.drew).chg hW (by omega)).cell 2⟩ : W.cell? ⟨g, 0, none⟩ = some (.int .i64 (m.n 0)) ∧ W.cell? ⟨g, 1, none⟩ = some (.int .i64 (m.n 1)) ∧ W.cell? ⟨g, 2, none⟩ = some (.int .i64 (m.n 2))))
  go_wp2_with fail
  refine grow_start (fun k => k = s) (by kernel_rfl) ?_
  refine grow_take (i := 0) (oi := { dst := some 15, op := Op.fieldAddr 26 (Operand.tmp 1) 0, type := 0, pos := "message.go:51", after := #[], guard := none }) (v := ?_) rfl (by kernel_rfl) (by kernel_rfl) (by kernel_rfl) (by rfl) ?_ ?_; rotate_left; focus ((intro W hW; go_simp) <;> with_reducible rfl)
  simp only [Act.put, List.setIfInBounds_toArray, List.set_cons_zero, List.set_cons_succ]
  refine grow_take (i := 1) (oi := { dst := some 16, op := Op.load 3 (Operand.tmp 15), type := 3, pos := "message.go:51", after := #[{ on := 0, ground := Ground.data }], guard := none }) (v := ?_) rfl (by kernel_rfl) (by kernel_rfl) (by kernel_rfl) (by rfl) ?_ ?_; rotate_left; focus ((intro W hW; have fct := FC.out W hW; go_simp) <;> with_reducible rfl)
  simp only [Act.put, List.setIfInBounds_toArray, List.set_cons_zero, List.set_cons_succ]
  refine grow_take (i := 2) (oi := { dst := some 17, op := Op.fieldAddr 26 (Operand.tmp 1) 1, type := 0, pos := "message.go:51", after := #[], guard := none }) (v := ?_) rfl (by kernel_rfl) (by kernel_rfl) (by kernel_rfl) (by rfl) ?_ ?_; rotate_left; focus ((intro W hW; go_simp) <;> with_reducible rfl)
  simp only [Act.put, List.setIfInBounds_toArray, List.set_cons_zero, List.set_cons_succ]
  refine grow_take (i := 3) (oi := { dst := some 18, op := Op.load 3 (Operand.tmp 17), type := 3, pos := "message.go:51", after := #[{ on := 2, ground := Ground.data }], guard := none }) (v := ?_) rfl (by kernel_rfl) (by kernel_rfl) (by kernel_rfl) (by rfl) ?_ ?_; rotate_left; focus ((intro W hW; have fct := FC.out W hW; go_simp) <;> with_reducible rfl)
  simp only [Act.put, List.setIfInBounds_toArray, List.set_cons_zero, List.set_cons_succ]
  refine grow_take (i := 4) (oi := { dst := some 19, op := Op.fieldAddr 26 (Operand.tmp 1) 2, type := 0, pos := "message.go:51", after := #[], guard := none }) (v := ?_) rfl (by kernel_rfl) (by kernel_rfl) (by kernel_rfl) (by rfl) ?_ ?_; rotate_left; focus ((intro W hW; go_simp) <;> with_reducible rfl)
  simp only [Act.put, List.setIfInBounds_toArray, List.set_cons_zero, List.set_cons_succ]
  refine grow_take (i := 5) (oi := { dst := some 20, op := Op.load 3 (Operand.tmp 19), type := 3, pos := "message.go:51", after := #[{ on := 4, ground := Ground.data }], guard := none }) (v := ?_) rfl (by kernel_rfl) (by kernel_rfl) (by kernel_rfl) (by rfl) ?_ ?_; rotate_left; focus ((intro W hW; have fct := FC.out W hW; go_simp) <;> with_reducible rfl)
  simp only [Act.put, List.setIfInBounds_toArray, List.set_cons_zero, List.set_cons_succ]
  refine grow_take (i := 7) (oi := { dst := some 22, op := Op.fieldAddr 26 (Operand.tmp 1) 3, type := 0, pos := "message.go:51", after := #[], guard := none }) (v := ?_) rfl (by kernel_rfl) (by kernel_rfl) (by kernel_rfl) (by rfl) ?_ ?_; rotate_left; focus ((intro W hW; go_simp) <;> with_reducible rfl)
  simp only [Act.put, List.setIfInBounds_toArray, List.set_cons_zero, List.set_cons_succ]
  refine grow_take (i := 8) (oi := { dst := some 23, op := Op.slice 23 (Operand.tmp 22) none none none, type := 50, pos := "message.go:51", after := #[{ on := 7, ground := Ground.data }], guard := none }) (v := ?_) rfl (by kernel_rfl) (by kernel_rfl) (by kernel_rfl) (by rfl) ?_ ?_; rotate_left; focus ((intro W hW; have fct := FC.out W hW; go_simp) <;> with_reducible rfl)
  simp only [Act.put, List.setIfInBounds_toArray, List.set_cons_zero, List.set_cons_succ]
  refine grow_take (i := 11) (oi := { dst := some 26, op := Op.move (Operand.const (Value.int IntKind.i64 0)), type := 3, pos := "message.go:51", after := #[], guard := none }) (v := ?_) rfl (by kernel_rfl) (by kernel_rfl) (by kernel_rfl) (by rfl) ?_ ?_; rotate_left; focus ((intro W hW; go_simp) <;> with_reducible rfl)
  simp only [Act.put, List.setIfInBounds_toArray, List.set_cons_zero, List.set_cons_succ]
  refine grow_next (i := 6) (oi := { dst := some 21, op := Op.buildSlice 50 3 #[(0, Operand.tmp 16), (1, Operand.tmp 18), (2, Operand.tmp 20)], type := 50, pos := "message.go:51", after := #[{ on := 1, ground := Ground.data }, { on := 3, ground := Ground.data }, { on := 5, ground := Ground.data }], guard := none }) (by kernel_rfl) rfl (by rfl) (fun K hK => ?_)
  go_simp
  refine hK _ _ ((Chg.refl _ _).alloc _) ?_
  clear hK K
  try simp only [Act.put, List.setIfInBounds_toArray, List.set_cons_zero, List.set_cons_succ]
  have m2 := (Chg.refl (fun _ => False) w2.drew).alloc (.cells #[.int .i64 (m.n 0), .int .i64 (m.n 1), .int .i64 (m.n 2)] 3)
  have o2 := OwnI.lit (w := w2.drew) (base := s) [m.n 0, m.n 1, m.n 2] (by show s ≤ w2.heap.size; omega) (by simp [maxLen])
  rw [show w2.drew.heap.size = s from hsz] at o2
  have r2 := known_reads (HB.out.drew.chg m2 id)
  refine grow_next (i := 9) (oi := { dst := some 24, op := Op.call { callee := Callee.builtin Builtin.append, args := #[Operand.tmp 21, Operand.tmp 23], argTypes := #[50, 50] }, type := 50, pos := "message.go:51", after := #[{ on := 6, ground := Ground.data }, { on := 8, ground := Ground.data }], guard := none }) (by kernel_rfl) rfl (by rfl) (fun K hK => ?_)
  refine wp_append_i64 _ (.tmp 21) (.tmp 23) (by rfl) s _ [m.n 0, m.n 1, m.n 2] (by simp [hsz] <;> rfl) o2 _ (some ⟨g, 3, none⟩) 16 16 (known m) (by rfl) r2 (by simp) (by simp; omega) ?_
  intro v3 w3 o3 g3 a3
  obtain ⟨A3, c3, rfl⟩ := OwnI.formN (n := 19) o3 rfl
  have n3 : New w2 w3 := ((Chg.refl (fun _ => False) w2).drew.trans m2 (fun _ _ => id)).grown g3 (fun k e hlt => by injection (show some s = some k from e) with h; omega)
  refine hK _ _ ((Chg.refl _ _).grown g3 fun k e _ => by injection (show some s = some k from e) with h; exact h.symm) ?_
  clear hK K
  try simp only [Act.put, List.setIfInBounds_toArray, List.set_cons_zero, List.set_cons_succ]
  skip
  refine grow_take (i := 10) (oi := { dst := some 25, op := Op.call { callee := Callee.builtin Builtin.len, args := #[Operand.tmp 24], argTypes := #[50] }, type := 3, pos := "message.go:51", after := #[{ on := 9, ground := Ground.data }], guard := none }) (v := ?_) rfl (by kernel_rfl) (by kernel_rfl) (by kernel_rfl) (by rfl) ?_ ?_; rotate_left; focus ((intro W hW; have fct := (noF _ _) W hW; go_simp) <;> with_reducible rfl)
  simp only [Act.put, List.setIfInBounds_toArray, List.set_cons_zero, List.set_cons_succ]
  refine grow_done (by kernel_rfl) ?_ _
  have o3' : OwnI w3 s (.slice A3 19 c3) (hs m) := o3
  have HI := Lib.hid (And.intro o3' (And.intro (HB.out.chg n3 id) (And.intro (HV2.out.new n3) (N2.out.trans n3 fun _ _ => id))))
  clear o2 r2 m2 o3 o3' n3 g3 a3 FC HB HV2 N2
  have HP := Lib.hid (PN.nil w3)
  go_wp2_with fail
  go_loopw [5, 26] (fun bv iv wr => ∃ (i : Nat) (u : Value), i ≤ 19 ∧ bv = u ∧ iv = .int .i64 i ∧ PN w3 (putAll ((heads m).take i)) wr u) (fun _ iv _ => 19 - (intOf iv).toNat)
  case atStart => exact ⟨0, _, by omega, rfl, by go_num, HP.out⟩
  case round =>
    obtain ⟨i, u, hi, hu, rfl, hp⟩ := hrel
    have hu := hu.symm
    subst hu
    have hsr := hp.chg.size
    by_cases hlt : i < 19
    · have hli : (i : Int) < 19 := by omega
      have oI := own_chg HI.out.1 hp.chg (fun k hk => id)
      obtain ⟨ad, x, rfl, _, hx, hcell⟩ := (Reads.of_own oI).at_ (k := i) hlt
      rw [(hs_at m hlt).1] at hx
      injection hx with hx
      subst hx
      have hpre := putAll_pre (heads m) i
      have hpl : (putAll (heads m)).length ≤ (payload m).length := by unfold payload; rw [List.length_append, List.length_append]; omega
      have HIT := Lib.hid (putAll_one (hs_at m hlt).2)
      have C := Lib.hid (put wr w3.heap.size _ _ hp.own hsr (by have := HPL.out; omega) (m.n i))
      have H := Lib.hid hp
      have hw : IntKind.i64.wrap ((i : Int) + 1) = (i : Int) + 1 := IntWalk.i64_in _ (by omega)
      unfold Puts at C
      clear hp oI hpre hpl
      go_wp2_with fail
      with_reducible refine C.out.mono ?_
      rintro x w4 ⟨u4, rfl, o4, c4, a4⟩
      have HE := Lib.hid (H.out.then_ o4 c4)
      clear o4 c4 a4 C
      go_wp2_with fail
      go_roundw
      case rel => exact ⟨i + 1, _, by omega, rfl, by go_num, by rw [HIT.out]; exact HE.out⟩
      case measure => simp [intOf]; omega
    · have H := Lib.hid (show PN w3 (putAll (heads m)) wr u from by rw [show i = 19 by omega] at hp; exact hp)
      have hgi : ¬ ((i : Int) < 19) := by omega
      clear hp hi hlt
      generalize wr = w6 at *
      have c19 := (blk_ms (HI.out.2.1.chg H.out.chg id)).2.2.2.2.2
      have hg6 := (HI.out.2.1.chg H.out.chg id).lt
      have hpl : (putAll (heads m)).length ≤ (payload m).length := by unfold payload; rw [List.length_append, List.length_append]; omega
      have C := Lib.hid (put w6 w3.heap.size _ _ H.out.own hsr (by have := HPL.out; omega) (n : Int))
      unfold Puts at C
      clear hpl
      go_wp2_with fail
      with_reducible refine C.out.mono ?_
      rintro x w7 ⟨u7, rfl, o7, c7, a7⟩
      have HE := Lib.hid (H.out.then_ o7 c7)
      clear o7 c7 a7 C H hsr
      have c19 := (blk_ms (HI.out.2.1.chg HE.out.chg id)).2.2.2.2.2
      have hg7 := (HI.out.2.1.chg HE.out.chg id).lt
      go_wp2_with fail
      go_loopw [5, 42] (fun bv iv wr => ∃ (i : Nat) (u : Value), i ≤ n ∧ bv = u ∧ iv = .int .i64 i ∧ PN w3 (putAll (heads m) ++ putB n ++ (m.es.take i).flatMap Ev.bytes) wr u) (fun _ iv _ => n - (intOf iv).toNat)
      case atStart => exact ⟨0, _, by omega, rfl, by go_num, by rw [List.take_zero, List.flatMap_nil, List.append_nil]; exact HE.out⟩
      case round =>
        obtain ⟨i, u, hi, hu, rfl, hp⟩ := hrel
        have hu := hu.symm
        subst hu
        have hsr := hp.chg.size
        by_cases hlt : i < n
        · have hli : (i : Int) < n := by omega
          obtain ⟨e, he⟩ : ∃ e, m.es[i]? = some e := ⟨_, List.getElem?_eq_getElem (by rw [HN.out]; exact hlt)⟩
          obtain ⟨A', c', hvv, hrd⟩ := HI.out.2.2.1.new hp.chg
          injection hvv with h1 h2 h3
          subst h1 h3
          obtain ⟨ad, rfl, hld⟩ := ld_ev hrd he
          have hpre := es_pre m.es (i + 1)
          have hpl : (putAll (heads m) ++ putB n ++ (m.es.take (i + 1)).flatMap Ev.bytes).length ≤ (payload m).length := by unfold payload; rw [HN.out]; simp only [List.length_append]; omega
          rw [es_one he, ← List.append_assoc, List.length_append] at hpl
          have HIT := Lib.hid (es_one he)
          have hz : ∀ W, (zeroValue 48).run Tryz.prog W = .ok (.agg zero.cs.toArray) W := fun W => by kernel_rfl
          obtain ⟨wE, hst, b3, n3, g3⟩ := new_ev wr e
          have hle := ldE b3
          have gg3 := b3.lt
          have HX := Lib.hid (hp.new n3)
          have C := Lib.hid (evput wE w3.heap.size _ _ HX.out.own (by have := HX.out.chg.size; omega) e (by have := HPL.out; omega) ((HS.out e (List.mem_of_getElem? he)).t))
          have hw : IntKind.i64.wrap ((i : Int) + 1) = (i : Int) + 1 := IntWalk.i64_in _ (by omega)
          unfold Puts at C
          clear hp hrd hpre hpl he h2 n3 b3
          go_wp2_with fail
          with_reducible refine C.out.mono ?_
          rintro x w9 ⟨u9, rfl, o9, c9, a9⟩
          have HE9 := Lib.hid (HX.out.then_ o9 c9)
          clear o9 c9 a9 C
          go_wp2_with fail
          go_roundw
          case rel => exact ⟨i + 1, _, by omega, rfl, by go_num, by rw [HIT.out, ← List.append_assoc]; exact HE9.out⟩
          case measure => simp [intOf]; omega
        · have H := Lib.hid (show PN w3 (payload m) wr u from by rw [show i = n by omega, List.take_of_length_le (by rw [HN.out]; omega)] at hp; unfold payload; rw [HN.out]; exact hp)
          have hgi : ¬ ((i : Int) < n) := by omega
          clear hp hi hlt
          obtain ⟨A7, c7, hu0⟩ : ∃ A c, u = .slice A (payload m).length c := by obtain ⟨A, c, h, _⟩ := H.out.own.form; exact ⟨A, c, h⟩
          subst hu0
          have C := Lib.hid (Frame.put wr w3.heap.size (.slice none 0 0) [] _ A7 (payload m).length c7 (payload m) OwnB.nil hsr (Reads.of_own H.out.own) (fun b hb => ⟨hb.2.1, fun e => by cases e⟩) (by have := HPL.out; simp only [List.length_nil]; omega))
          go_wp2_with fail
          with_reducible refine C.out.mono ?_
          rintro x w9 ⟨u9, rfl, o9, c9, _⟩
          have HE9 := Lib.hid (And.intro (own_mono (base' := w.heap.size) o9 HI.out.2.2.2.size) ((HI.out.2.2.2.trans H.out.chg fun _ _ => id).trans c9 fun _ _ e => by cases e))
          clear o9 c9 C
          go_wp2_with fail
          go_ret2
          exact ⟨_, rfl, by simp only [if_true]; exact HE9.out.1, HE9.out.2⟩
end Msg
end Go.Proofs.YtkmkpdmjdfbpjaaGreatDoor

/- message.read: a payload's message (no condition beyond the sizes, and that MaxLen holds a number). -/
namespace Go.Proofs.YtkmkpdmjdfbpjaaGreatDoor
set_option linter.unusedSimpArgs false
set_option linter.unusedVariables false
open Go.ChangeShapes Go.WideShapes Go.RowKit Go.Deep
namespace Msg
open Val (JoinC)
open Num Evt Vec
attribute [local go_sem ↓] loadRow0 storeRow0
attribute [local go_sem ↓] Evt.loadDot Evt.loadVec Evt.loadRow0 Evt.storeRow0 Evt.loadOnly0 Evt.loadOnly1 Evt.loadOnly2
def msOf (ys : List It) (es : List Ev) : Ms := ⟨fun i => int (ys.getD i (.n 0)), es⟩
def shapeM : List It := [.n 0, .n 0, .n 0, .n 0, .n 0, .n 0, .n 0, .n 0, .n 0, .n 0, .n 0, .n 0, .n 0, .n 0, .n 0, .n 0, .n 0, .n 0, .n 0]
/-- the message that a payload tells -/
def readM (l : List UInt8) : Option Ms :=
  match readEs (numP 200 (readAll shapeM ⟨l, false⟩).2).1.toNat (numP 200 (readAll shapeM ⟨l, false⟩).2).2 with
  | none => none
  | some p => if (!p.2.bad && decide (p.2.l.length = 0)) = true then some (msOf (readAll shapeM ⟨l, false⟩).1 p.1) else none
set_option maxRecDepth 20000 in
set_option maxHeartbeats 1000000 in
theorem cs_set {ys : List It} {k : Nat} (hk : k < 19) (hy : ys.length = k) (x : It) (v : Value) : ((msOf ys []).cs v).set k (.int .i64 (int x)) = (msOf (ys ++ [x]) []).cs v := by
  have hn : ∀ i, (msOf (ys ++ [x]) []).n i = if i = k then int x else (msOf ys []).n i := fun i => by
    show int ((ys ++ [x]).getD i (.n 0)) = if i = k then int x else int (ys.getD i (.n 0))
    simp only [List.getD_eq_getElem?_getD]
    rcases Nat.lt_trichotomy i k with h | h | h
    · rw [if_neg (by omega), List.getElem?_append_left (by omega)]
    · subst h
      rw [if_pos rfl, List.getElem?_append_right (by omega), hy, Nat.sub_self]
      rfl
    · rw [if_neg (by omega), List.getElem?_eq_none (by rw [List.length_append, List.length_singleton]; omega), List.getElem?_eq_none (by omega)]
  clear hy
  rcases (show k = 0 ∨ k = 1 ∨ k = 2 ∨ k = 3 ∨ k = 4 ∨ k = 5 ∨ k = 6 ∨ k = 7 ∨ k = 8 ∨ k = 9 ∨ k = 10 ∨ k = 11 ∨ k = 12 ∨ k = 13 ∨ k = 14 ∨ k = 15 ∨ k = 16 ∨ k = 17 ∨ k = 18 by omega) with rfl | rfl | rfl | rfl | rfl | rfl | rfl | rfl | rfl | rfl | rfl | rfl | rfl | rfl | rfl | rfl | rfl | rfl | rfl <;> simp [Ms.cs, hn]
theorem cs_es (ys : List It) (es fs : List Ev) (v : Value) : (msOf ys es).cs v = (msOf ys fs).cs v := rfl
theorem cs_19 (m : Ms) (u v : Value) : (m.cs u).set 19 v = m.cs v := rfl
theorem ldM {w : World} {g : Nat} {t : TypeId} {m : Ms} {v : Value} (h : Blk w g t (m.cs v).toArray) : (LoadRow 26 ⟨g, 0, none⟩).run Tryz.prog w = .ok (m.val v) w := (blk_ms h).1
theorem Ms.cs_one (m : Ms) {v : Value} (hv : v.oneCell' = true) : ∀ u ∈ m.cs v, u.oneCell' = true := by
  intro u hu
  simp only [Ms.cs, List.mem_cons, List.not_mem_nil, or_false] at hu
  rcases hu with rfl | rfl | rfl | rfl | rfl | rfl | rfl | rfl | rfl | rfl | rfl | rfl | rfl | rfl | rfl | rfl | rfl | rfl | rfl | rfl <;> first | rfl | exact hv
theorem stM {w : World} {g : Nat} {t : TypeId} (m0 m : Ms) (v0 v : Value) (h : Blk w g t (m0.cs v0).toArray) (hv : v.oneCell' = true) : (StoreRow 26 ⟨g, 0, none⟩ (m.val v)).run Tryz.prog w = .ok () (w.setCells g 0 (m.cs v)) ∧ Blk (w.setCells g 0 (m.cs v)) g t (m.cs v).toArray := by
  refine ⟨run_StoreRow (P := Tryz.prog) (t := 26) (n := 20) (by kernel_rfl) (Ms.cs_len m v) (m.cs_one hv) h (by rw [Ms.cs_len]; exact Nat.le_refl _), ?_⟩
  have := Blk.setCells (m.cs v) 0 _ _ h (by rw [Ms.cs_len, Ms.cs_len]; exact Nat.le_refl _)
  have h2 : (m0.cs v0).drop (0 + (m.cs v).length) = [] := rfl
  rw [h2] at this
  simpa using this
theorem resMI {fn : Func} {p q : Tmp} (h : fn.results = #[.cell p 26, .tmp q]) (tmps : Array Value) (w : World) (g : Nat) (t : TypeId) (m : Ms) (v : Value)
    (hp : tmps.getD p undef = .pointer (some ⟨g, 0, none⟩)) (hg : Blk w g t (m.cs v).toArray) : (results fn tmps).run Tryz.prog w = .ok (.tuple #[m.val v, tmps.getD q undef]) w := by
  rw [results_cell_tmp h, hp]
  have := ldM hg
  unfold LoadRow at this
  simp only [asAddr, Sem.run_pure, Result.andThen_ok, this]
end Msg
end Go.Proofs.YtkmkpdmjdfbpjaaGreatDoor

/- message.read: a payload's message (no condition beyond the sizes, and that MaxLen holds a number). -/
namespace Go.Proofs.YtkmkpdmjdfbpjaaGreatDoor
set_option linter.unusedSimpArgs false
set_option linter.unusedVariables false
open Go.ChangeShapes Go.WideShapes Go.RowKit Go.Deep
namespace Msg
open Val (JoinC)
open Num Evt Vec
attribute [local go_sem ↓] loadRow0 storeRow0
attribute [local go_sem ↓] Evt.loadDot Evt.loadVec Evt.loadRow0 Evt.storeRow0 Evt.loadOnly0 Evt.loadOnly1 Evt.loadOnly2
/-- k of a message's 19 numbers in block g are read, with reader gr -/
structure FillM (w : World) (F : Nat → Prop) (g gr : Nat) (s : Rd) (k : Nat) (wr : World) : Prop where
  blk : Blk wr g 26 ((msOf (readAll (shapeM.take k) s).1 []).cs (.slice none 0 0)).toArray
  rd : RdAt wr F gr (readAll (shapeM.take k) s).2
  chg : New w wr
  lo : w.heap.size ≤ g ∧ w.heap.size ≤ gr ∧ g ≠ gr
theorem FillM.new {w wr w' : World} {F : Nat → Prop} {g gr k : Nat} {s : Rd} (h : FillM w F g gr s k wr) (hc : New wr w') : FillM w F g gr s k w' :=
  ⟨h.blk.chg hc id, h.rd.new hc, h.chg.trans hc fun _ _ => id, h.lo⟩
theorem shapeM_at {k : Nat} (h : k < 19) : shapeM[k]? = some (.n 0) := by
  rcases (show k = 0 ∨ k = 1 ∨ k = 2 ∨ k = 3 ∨ k = 4 ∨ k = 5 ∨ k = 6 ∨ k = 7 ∨ k = 8 ∨ k = 9 ∨ k = 10 ∨ k = 11 ∨ k = 12 ∨ k = 13 ∨ k = 14 ∨ k = 15 ∨ k = 16 ∨ k = 17 ∨ k = 18 by omega) with rfl | rfl | rfl | rfl | rfl | rfl | rfl | rfl | rfl | rfl | rfl | rfl | rfl | rfl | rfl | rfl | rfl | rfl | rfl <;> rfl
theorem FillM.step {w wr w1 : World} {F : Nat → Prop} {g gr k : Nat} {s : Rd} (h : FillM w F g gr s k wr) (hk : k < 19) (hF : ∀ b, F b → b < w.heap.size)
    (hr : RdAt w1 F gr (numP 4611686018427387903 (readAll (shapeM.take k) s).2).2) (hc : Chg (fun b => b = gr) wr w1) :
    FillM w F g gr s (k + 1) (w1.setCell ⟨g, k, none⟩ (.int .i64 (numP 4611686018427387903 (readAll (shapeM.take k) s).2).1)) ∧ (∃ x, w1.cell? ⟨g, k, none⟩ = some (.int .i64 x)) ∧ w1.frozen? ⟨g, k, none⟩ = false ∧ g < w1.heap.size := by
  have hl : (readAll (shapeM.take k) s).1.length = k := by rw [readAll_len, List.length_take, show shapeM.length = 19 from rfl]; omega
  have ht : shapeM.take (k + 1) = shapeM.take k ++ [.n 0] := by rw [List.take_add_one, shapeM_at hk]; rfl
  have hb := h.blk.chg hc h.lo.2.2
  have hs := hb.set_ k (.int .i64 (numP 4611686018427387903 (readAll (shapeM.take k) s).2).1)
  have c2 := (Chg.refl (fun b => b = g) w1).setCell (p := ⟨g, k, none⟩) (fun _ => rfl) (.int .i64 (numP 4611686018427387903 (readAll (shapeM.take k) s).2).1)
  refine ⟨⟨?_, ?_, ?_, h.lo⟩, ?_, hb.frozen k, hb.lt⟩
  · rw [ht, readAll_snoc]
    rw [List.setIfInBounds_toArray] at hs
    have e := cs_set hk hl (.n (numP 4611686018427387903 (readAll (shapeM.take k) s).2).1) (.slice none 0 0)
    rw [show int (.n (numP 4611686018427387903 (readAll (shapeM.take k) s).2).1) = (numP 4611686018427387903 (readAll (shapeM.take k) s).2).1 from rfl] at e
    rw [e] at hs
    exact hs
  · rw [ht, readAll_snoc]
    exact hr.chg c2 (fun e => h.lo.2.2 e.symm) fun b hb e => by have := hF b hb; have := h.lo.1; omega
  · exact (h.chg.trans hc fun i hi e => by have := h.lo.2.1; omega).trans c2 fun i hi e => by have := h.lo.1; omega
  · rw [hb.cell, List.getElem?_toArray]
    unfold Ms.cs
    rcases (show k = 0 ∨ k = 1 ∨ k = 2 ∨ k = 3 ∨ k = 4 ∨ k = 5 ∨ k = 6 ∨ k = 7 ∨ k = 8 ∨ k = 9 ∨ k = 10 ∨ k = 11 ∨ k = 12 ∨ k = 13 ∨ k = 14 ∨ k = 15 ∨ k = 16 ∨ k = 17 ∨ k = 18 by omega) with rfl | rfl | rfl | rfl | rfl | rfl | rfl | rfl | rfl | rfl | rfl | rfl | rfl | rfl | rfl | rfl | rfl | rfl | rfl <;> exact ⟨_, rfl⟩
/-- behind i events that were read -/
structure EvsAt (w : World) (F : Nat → Prop) (g gr : Nat) (ys : List It) (K : Nat) (s2 : Rd) (i : Nat) (u : Value) (es : List Ev) (s' : Rd) (wr : World) : Prop where
  blk : Blk wr g 26 ((msOf ys []).cs u).toArray
  own : OwnE wr w.heap.size u es
  rd : RdAt wr F gr s'
  len : es.length = i
  fit : ∀ e ∈ es, Fit e
  sz : s'.l.length ≤ 1000000
  go : readEs K s2 = (readEs (K - i) s').map fun p => (es ++ p.1, p.2)
  chg : New w wr
theorem readEs_no {k : Nat} {s : Rd} (h : nextB s = false) : readEs (k + 1) s = none := by
  unfold nextB at h
  rw [readEs, if_pos]
  cases hb : (nextP s).2.bad
  · rw [hb] at h
    exact .inr (by simpa using h)
  · exact .inl rfl
theorem readEs_yes {k : Nat} {s : Rd} (h : nextB s = true) : readEs (k + 1) s = (readEs k (nextP s).2).map fun p => ((nextP s).1 :: p.1, p.2) := by
  unfold nextB at h
  simp only [Bool.and_eq_true, Bool.not_eq_true'] at h
  rw [readEs, if_neg (by rw [h.1, h.2]; simp)]
theorem readAll_shrink : ∀ (xs : List It) (s : Rd), (readAll xs s).2.l.length ≤ s.l.length
  | [], _ => Nat.le_refl _
  | x :: xs, s => by
    have h1 := (read_fit x s).1
    have h2 := readAll_shrink xs (x.read s).2
    unfold readAll
    exact Nat.le_trans h2 h1
end Msg
end Go.Proofs.YtkmkpdmjdfbpjaaGreatDoor

/- message.read: a payload's message (no condition beyond the sizes, and that MaxLen holds a number). -/
namespace Go.Proofs.YtkmkpdmjdfbpjaaGreatDoor
set_option linter.unusedSimpArgs false
set_option linter.unusedVariables false
open Go.ChangeShapes Go.WideShapes Go.RowKit Go.Deep
namespace Msg
open Val (JoinC)
open Num Evt Vec
attribute [local go_sem ↓] loadRow0 storeRow0
attribute [local go_sem ↓] Evt.loadDot Evt.loadVec Evt.loadRow0 Evt.storeRow0 Evt.loadOnly0 Evt.loadOnly1 Evt.loadOnly2
theorem fold_set : ∀ (xs pre old : List Value), old.length = xs.length → (xs.zipIdx pre.length).foldl (fun (cs : Array Value) (x : Value × Nat) => cs.setIfInBounds x.2 x.1) (pre ++ old).toArray = (pre ++ xs).toArray
  | [], pre, old, h => by
    have : old = [] := List.eq_nil_of_length_eq_zero h
    rw [this]
    rfl
  | x :: xs, pre, [], h => by simp at h
  | x :: xs, pre, o :: old, h => by
    have ih := fold_set xs (pre ++ [x]) old (by simpa using h)
    rw [List.zipIdx_cons, List.foldl_cons]
    have e : (pre ++ o :: old).toArray.setIfInBounds pre.length x = ((pre ++ [x]) ++ old).toArray := by simp
    simp only [e]
    rw [show pre.length + 1 = (pre ++ [x]).length by simp, ih]
    simp
theorem fold_all (Z X : Array Value) (h : Z.size = X.size) (n : Nat) (hn : n = X.size) : Array.foldl (fun (cs : Array Value) (x : Value × Nat) => cs.setIfInBounds x.snd x.fst) Z X.zipIdx 0 n = X := by
  have := fold_set X.toList [] Z.toList (by simpa using h)
  subst hn
  rw [show X.size = X.zipIdx.size by simp, ← Array.foldl_toList, Array.toList_zipIdx]
  simpa using this
set_option maxHeartbeats 20000000 in
set_option maxRecDepth 20000 in
theorem read_ (hJ : JoinC) (w : World) (F : Nat → Prop) (A : Option Addr) (n cp : Nat) (l : List UInt8) (hr : Reads w F 1 A n (u8s l)) (hF : ∀ b, F b → b < w.heap.size) (hn : n ≤ 1000000) (hcp : n ≤ cp) (hm : Val.MaxAt w) :
    Calls Tryz.prog 30 #[.slice A n cp] w fun x w' => ∃ m u ok, x = .returned (.tuple #[m.val u, .bool ok]) ∧ OwnE w' w.heap.size u m.es ∧ (∀ e ∈ m.es, Fit e) ∧ m.es.length ≤ 200 ∧ readM l = (if ok = true then some m else none) ∧ New w w' := by
  have hz : ∀ W, (zeroValue 26).run Tryz.prog W = .ok (.agg ((msOf [] []).cs (.slice none 0 0)).toArray) W := fun W => by kernel_rfl
  have n1 := (Chg.refl (fun _ => False) w).alloc (.cells ((msOf [] []).cs (.slice none 0 0)).toArray 26)
  have B1 := Blk.new w 26 ((msOf [] []).cs (.slice none 0 0)).toArray
  have hln := hr.u8len
  have C1 := Lib.hid (read _ F A n cp l (hr.chg n1 fun b hb => ⟨hF b hb, id⟩) (fun b hb => by have := hF b hb; have := n1.size; omega) (by omega) hcp)
  have HF := Lib.hid hF
  have HM := Lib.hid hm
  have HB := Lib.hid (And.intro B1 n1)
  have g1 := B1.lt
  have HL := Lib.hid (show l.length ≤ 1000000 by omega)
  clear n1 B1 hr hF hln hm hn
  go_enter Tryz.func30, Tryz.ntmps30
  go_upto_region 1 with fail
  obtain ⟨g, hg⟩ : ∃ g, w.heap.size = g := ⟨_, rfl⟩
  have HG := Lib.hid hg
  generalize hw0 : w.alloc (.cells ((msOf [] []).cs (.slice none 0 0)).toArray 26) = w0 at *
  rw [hg] at HB g1 ⊢
  clear hw0 hg
  go_wp2_with fail
  with_reducible refine C1.out.mono ?_
  rintro x w2 ⟨rfl, hrd, n2⟩
  obtain ⟨gr, hgr⟩ : ∃ q, w0.heap.size = q := ⟨_, rfl⟩
  rw [hgr] at hrd g1 ⊢
  have hfill : FillM w F g gr ⟨l, false⟩ 0 w2 := ⟨HB.out.1.chg n2 id, hrd, HB.out.2.trans n2 fun _ _ => id, by have := HG.out; omega, by have := HG.out; omega, by omega⟩
  have hgr2 : gr < w2.heap.size := by obtain ⟨A, n, cp, h1, _⟩ := hrd.ex; exact h1.lt
  have hB := Blk.new w2 86 #[.pointer (some ⟨g, 0, none⟩), .pointer (some ⟨g, 1, none⟩), .pointer (some ⟨g, 2, none⟩)]
  have hfa := hfill.new ((Chg.refl (fun _ => False) w2).alloc (.cells #[.pointer (some ⟨g, 0, none⟩), .pointer (some ⟨g, 1, none⟩), .pointer (some ⟨g, 2, none⟩)] 86))
  have HQ := Lib.hid (show ¬ (w2.heap.size = gr) ∧ w2.heap.size ≠ g from ⟨by omega, by omega⟩)
  have HA := Lib.hid (And.intro hfa hB)
  clear hB hfa hfill hrd n2 C1 hgr HB
  go_wp2_with fail
  go_loopw [17] (fun iv wr => ∃ i : Nat, i ≤ 3 ∧ iv = .int .i64 i ∧ FillM w F g gr ⟨l, false⟩ i wr ∧ Blk wr w2.heap.size 86 #[.pointer (some ⟨g, 0, none⟩), .pointer (some ⟨g, 1, none⟩), .pointer (some ⟨g, 2, none⟩)]) (fun iv _ => 3 - (intOf iv).toNat)
  case atStart => exact ⟨0, by omega, by go_num, HA.out⟩
  case round =>
    obtain ⟨i, hi, rfl, hfill, hB⟩ := hrel
    by_cases hlt : i < 3
    · have hli : (i : Int) < 3 := by omega
      rcases (show i = 0 ∨ i = 1 ∨ i = 2 by omega) with rfl | rfl | rfl
      · clear hlt hli hi
        have C := Lib.hid (num wr F gr _ hfill.rd 4611686018427387903)
        have HS := Lib.hid (And.intro hfill hB)
        have hgp := hB.lt
        have hp := hB.cell 0
        simp only [List.getElem?_toArray, List.getElem?_cons_zero, List.getElem?_cons_succ] at hp
        clear hfill hB
        go_wp2_with fail
        with_reducible refine C.out.mono ?_
        rintro e w1 ⟨rfl, hr1, hc1⟩
        obtain ⟨hf2, ⟨xo, hcell⟩, hfro, hlt1⟩ := FillM.step HS.out.1 (by omega) HF.out hr1 hc1
        have hB2 := (HS.out.2.chg hc1 HQ.out.1).far (p := ⟨g, 0, none⟩) HQ.out.2 (.int .i64 (numP 4611686018427387903 (readAll (shapeM.take 0) ⟨l, false⟩).2).1)
        have HE := Lib.hid (And.intro hf2 hB2)
        clear hf2 hB2 hr1 hc1 C
        go_wp2_with fail
        go_roundw
        case rel => exact ⟨1, by omega, by go_num, HE.out⟩
        case measure => first | (simp [intOf]; done) | (simp [intOf]; omega)
      · clear hlt hli hi
        have C := Lib.hid (num wr F gr _ hfill.rd 4611686018427387903)
        have HS := Lib.hid (And.intro hfill hB)
        have hgp := hB.lt
        have hp := hB.cell 1
        simp only [List.getElem?_toArray, List.getElem?_cons_zero, List.getElem?_cons_succ] at hp
        clear hfill hB
        go_wp2_with fail
        with_reducible refine C.out.mono ?_
        rintro e w1 ⟨rfl, hr1, hc1⟩
        obtain ⟨hf2, ⟨xo, hcell⟩, hfro, hlt1⟩ := FillM.step HS.out.1 (by omega) HF.out hr1 hc1
        have hB2 := (HS.out.2.chg hc1 HQ.out.1).far (p := ⟨g, 1, none⟩) HQ.out.2 (.int .i64 (numP 4611686018427387903 (readAll (shapeM.take 1) ⟨l, false⟩).2).1)
        have HE := Lib.hid (And.intro hf2 hB2)
        clear hf2 hB2 hr1 hc1 C
        go_wp2_with fail
        go_roundw
        case rel => exact ⟨2, by omega, by go_num, HE.out⟩
        case measure => first | (simp [intOf]; done) | (simp [intOf]; omega)
      · clear hlt hli hi
        have C := Lib.hid (num wr F gr _ hfill.rd 4611686018427387903)
        have HS := Lib.hid (And.intro hfill hB)
        have hgp := hB.lt
        have hp := hB.cell 2
        simp only [List.getElem?_toArray, List.getElem?_cons_zero, List.getElem?_cons_succ] at hp
        clear hfill hB
        go_wp2_with fail
        with_reducible refine C.out.mono ?_
        rintro e w1 ⟨rfl, hr1, hc1⟩
        obtain ⟨hf2, ⟨xo, hcell⟩, hfro, hlt1⟩ := FillM.step HS.out.1 (by omega) HF.out hr1 hc1
        have hB2 := (HS.out.2.chg hc1 HQ.out.1).far (p := ⟨g, 2, none⟩) HQ.out.2 (.int .i64 (numP 4611686018427387903 (readAll (shapeM.take 2) ⟨l, false⟩).2).1)
        have HE := Lib.hid (And.intro hf2 hB2)
        clear hf2 hB2 hr1 hc1 C
        go_wp2_with fail
        go_roundw
        case rel => exact ⟨3, by omega, by go_num, HE.out⟩
        case measure => first | (simp [intOf]; done) | (simp [intOf]; omega)
    · have HA := Lib.hid (show FillM w F g gr ⟨l, false⟩ 3 wr from by rw [show i = 3 by omega] at hfill; exact hfill)
      have hgi : ¬ ((i : Int) < 3) := by omega
      clear hfill hB HQ hi hlt
      go_wp2_with fail
      generalize wr = wo at *
      go_loopw [26] (fun iv wr => ∃ i : Nat, i ≤ 16 ∧ iv = .int .i64 i ∧ FillM w F g gr ⟨l, false⟩ (3 + i) wr) (fun iv _ => 16 - (intOf iv).toNat)
      case atStart => exact ⟨0, by omega, by go_num, HA.out⟩
      case round =>
        obtain ⟨i, hi, rfl, hfill⟩ := hrel
        by_cases hlt : i < 16
        · have hli : (i : Int) < 16 := by omega
          have C := Lib.hid (num wr F gr _ hfill.rd 4611686018427387903)
          have HS := Lib.hid hfill
          have hw : IntKind.i64.wrap ((i : Int) + 1) = (i : Int) + 1 := IntWalk.i64_in _ (by omega)
          clear hfill
          go_wp2_with fail
          with_reducible refine C.out.mono ?_
          rintro e w1 ⟨rfl, hr1, hc1⟩
          obtain ⟨hf2, ⟨xo, hcell⟩, hfro, hlt1⟩ := FillM.step HS.out (by omega) HF.out hr1 hc1
          have HE := Lib.hid hf2
          clear hf2 hr1 hc1 C
          go_wp2_with fail
          go_roundw
          case rel => exact ⟨i + 1, by omega, by go_num, HE.out⟩
          case measure => simp [intOf]; omega
        · have HA := Lib.hid (show FillM w F g gr ⟨l, false⟩ 19 wr from by rw [show i = 16 by omega] at hfill; exact hfill)
          have hgi : ¬ ((i : Int) < 16) := by omega
          clear hfill hi hlt
          generalize wr = wp at *
          have ht : shapeM.take 19 = shapeM := rfl
          have HA := Lib.hid (And.intro HA.out.blk (And.intro HA.out.rd (And.intro HA.out.chg HA.out.lo)))
          rw [ht] at HA
          clear ht
          obtain ⟨ys, hys⟩ : ∃ y, (readAll shapeM ⟨l, false⟩).1 = y := ⟨_, rfl⟩
          obtain ⟨s1, hs1⟩ : ∃ y, (readAll shapeM ⟨l, false⟩).2 = y := ⟨_, rfl⟩
          obtain ⟨R, hR⟩ : ∃ R, readM l = R := ⟨_, rfl⟩
          have hZ := hR.symm
          have HR := Lib.hid hR
          clear hR
          have hsz1 := readAll_shrink shapeM ⟨l, false⟩
          unfold readM at hZ
          have HZ := Lib.hid hZ
          clear hZ
          rw [hys, hs1] at HA HZ
          rw [hs1] at hsz1
          clear hys hs1
          have C := Lib.hid (num wp F gr s1 HA.out.2.1 200)
          have hrange := numP_range 200 (by decide) s1
          have hshr := numP_shrink 200 s1
          obtain ⟨K, hK⟩ := Int.eq_ofNat_of_zero_le hrange.1
          obtain ⟨s2, hs2⟩ : ∃ y, (numP 200 s1).2 = y := ⟨_, rfl⟩
          rw [hK, hs2] at HZ C
          rw [hs2] at hshr
          rw [hK] at hrange
          rw [Int.toNat_natCast] at HZ
          have HK := Lib.hid (And.intro hrange.2 (show s2.l.length ≤ 1000000 by have := HL.out; simp only at hsz1; omega))
          clear hK hs2 hrange hshr hsz1
          go_wp2_with fail
          with_reducible refine C.out.mono ?_
          rintro e w4 ⟨rfl, hr4, hc4⟩
          have HE0 : EvsAt w F g gr ys K s2 0 (.slice none 0 0) [] s2 w4 := ⟨HA.out.1.chg hc4 HA.out.2.2.2.2.2, OwnE.nil _ _, hr4, rfl, (fun e h => by cases h), HK.out.2, by simp, HA.out.2.2.1.trans hc4 fun i hi e => by have := HA.out.2.2.2.2.1; omega⟩
          have HE0 := Lib.hid HE0
          have HLO := Lib.hid HA.out.2.2.2
          clear C hr4 hc4 HA
          go_wp2_with fail
          go_loopw [37] (fun iv wr => ∃ (i : Nat) (u : Value) (es : List Ev) (s' : Rd), i ≤ K ∧ iv = .int .i64 i ∧ EvsAt w F g gr ys K s2 i u es s' wr) (fun iv _ => K - (intOf iv).toNat)
          case atStart => exact ⟨0, _, _, _, by omega, by go_num, HE0.out⟩
          case round =>
            obtain ⟨i, u, es, s', hi, rfl, hE⟩ := hrel
            have HE := Lib.hid hE
            have hu1 : u.oneCell' = true := by obtain ⟨A', c', h⟩ := hE.own.form; rw [h]; rfl
            clear hE
            by_cases hlt : i < K
            · have hli : (i : Int) < K := by omega
              have C := Lib.hid (readE hJ wr F gr s' HE.out.rd HE.out.sz (HM.out.new HE.out.chg))
              have hz2 : ∀ W, (zeroValue 48).run Tryz.prog W = .ok (.agg zero.cs.toArray) W := fun W => by kernel_rfl
              have hgg := HLO.out.2.2
              have hfit := next_fit s' HE.out.sz
              obtain ⟨e, he⟩ : ∃ e, (nextP s').1 = e := ⟨_, rfl⟩
              obtain ⟨s3, hs3⟩ : ∃ e, (nextP s').2 = e := ⟨_, rfl⟩
              obtain ⟨nb, hnb⟩ : ∃ b, nextB s' = b := ⟨_, rfl⟩
              rw [he, hs3, hnb] at C
              rw [he] at hfit
              have HFT := Lib.hid hfit
              clear hfit
              cases nb
              · have HNO := Lib.hid (show readM l = none by rw [HR.out, HZ.out, HE.out.go, show K - i = K - i - 1 + 1 by omega, readEs_no hnb]; rfl)
                clear hnb he hs3
                go_wp2_with fail
                with_reducible refine C.out.mono ?_
                rintro x w5 ⟨rfl, hr5, c5⟩
                rw [if_neg (by simp)]
                obtain ⟨W, hst, b3, n3, g3⟩ := new_ev w5 zero
                have HB5 := Lib.hid ((HE.out.blk.chg c5 hgg).chg n3 id)
                have N5 := Lib.hid ((HE.out.chg.trans c5 fun i hi e => by have := HLO.out.2.1; omega).trans n3 fun _ _ => id)
                have O5 := Lib.hid (own_chg (own_chg HE.out.own c5 fun k hk e => by
                  obtain ⟨_, _, _, h1, _⟩ := HE.out.rd.ex
                  exact own_ne HE.out.own h1 (by decide) (e ▸ hk)) n3 fun _ _ => id)
                have hl5 := ldM HB5.out
                have hs5 := stM (msOf ys []) (msOf ys []) u u HB5.out hu1
                have hs51 := hs5.1
                have c6 := Chg.setCells (S := fun _ => False) (a := w) (g := g) ((msOf ys []).cs u) 0 _ N5.out (fun h => by have := HG.out; omega)
                have c7 := (Chg.refl (fun b => b = g) W).setCells (g := g) ((msOf ys []).cs u) 0 _ (fun _ => rfl)
                have HX := Lib.hid (And.intro hs5.2 (And.intro c6 (own_chg O5.out c7 fun k hk e => own_ne O5.out HB5.out (by decide) (e ▸ hk))))
                have gg5 := HB5.out.lt
                clear hr5 c5 n3 b3 hs5 c6 c7 C
                go_wp2_with fail
                refine bodyPost_ret (resMI rfl _ _ g 26 (msOf ys es) u rfl ?hblk) rfl ?hpost
                case hblk => exact HX.out.1
                case hpost => exact ⟨msOf ys es, u, false, rfl, HX.out.2.2, HE.out.fit, by show es.length ≤ 200; rw [HE.out.len]; have := HK.out.1; omega, HNO.out, HX.out.2.1⟩
              · have hgo : readEs K s2 = (readEs (K - (i + 1)) s3).map fun p => ((es ++ [e]) ++ p.1, p.2) := by
                  rw [HE.out.go, show K - i = K - (i + 1) + 1 by omega, readEs_yes hnb, he, hs3]
                  cases readEs (K - (i + 1)) s3 with
                  | none => rfl
                  | some p => simp
                have HGO := Lib.hid hgo
                have hsh : s3.l.length ≤ 1000000 := by
                  have h := readAll_shrink Evt.shape s'
                  have h2 := HE.out.sz
                  rw [← hs3]
                  show (readAll Evt.shape s').2.l.length ≤ _
                  omega
                have HSH := Lib.hid hsh
                clear hnb he hs3 hgo hsh
                obtain ⟨X, hX⟩ : ∃ X, e.cs.toArray = X := ⟨_, rfl⟩
                have hXs : X.size = 27 := by rw [← hX]; rfl
                have hev : (if true = true then e else zero).val = .agg X := by rw [if_pos rfl, ← hX]
                rw [hev] at C
                have HXX := Lib.hid (And.intro hX hXs)
                have hfold := fold_all zeroE X (by rw [hXs]; rfl) 27 hXs.symm
                simp only [zeroE, List.replicate, List.cons_append, List.nil_append] at hfold
                clear hX hev
                go_wp2_with fail
                with_reducible refine C.out.mono ?_
                rintro x w5 ⟨rfl, hr5, c5⟩
                obtain ⟨W, hst, b3, n3, g3⟩ := new_ev w5 e
                have hle := ldE b3
                rw [show e.val = .agg X by rw [← HXX.out.1]] at hst hle
                have HB5 := Lib.hid ((HE.out.blk.chg c5 hgg).chg n3 id)
                have N5 := Lib.hid ((HE.out.chg.trans c5 fun i hi e => by have := HLO.out.2.1; omega).trans n3 fun _ _ => id)
                have O5 := Lib.hid (own_chg (own_chg HE.out.own c5 fun k hk e => by
                  obtain ⟨_, _, _, h1, _⟩ := HE.out.rd.ex
                  exact own_ne HE.out.own h1 (by decide) (e ▸ hk)) n3 fun _ _ => id)
                have R5 := Lib.hid (hr5.new n3)
                have c19 := (blk_ms HB5.out).2.2.2.2.2
                have gg5 := HB5.out.lt
                have gg6 := b3.lt
                clear hr5 c5 n3 b3 C
                go_upto_region 17 with fail
                clear hz2
                go_wp2_with (at_builtin; refine stop ?_)
                delta Stop
                have HRD : Reads (W.alloc (.cells X 48)) (fun b => b = W.heap.size) 27 (some ⟨W.heap.size, 0, none⟩) 1 (rowE [e]) := by
                  have := Reads.of_row (w := W.alloc (.cells X 48)) (g := W.heap.size) (n := 1) (size := 27) (heap_alloc_new W _) (by rw [HXX.out.2])
                  rw [← HXX.out.1] at this ⊢
                  simpa [rowE] using this
                refine append_ev _ rfl _ _ rfl w.heap.size u es rfl (World.ownsRow.alloc O5.out _) _ _ _ _ [e] rfl HRD (by have := HE.out.len; have := HK.out.1; omega) (by have := N5.out.size; simp; omega) ?_
                intro v6 w6 o6 g6 a6
                obtain ⟨A6, cc6, h6⟩ := OwnE.form o6
                obtain ⟨n6', hn6⟩ : ∃ q, (es ++ [e]).length = q := ⟨_, rfl⟩
                rw [hn6] at h6
                subst h6
                clear hn6
                have c6 : Chg (fun k => u.ownBlock = some k) W w6 := Chg.grown ((Chg.refl _ W).alloc _) g6 fun k hk _ => hk
                have hge : ∀ k, u.ownBlock = some k → w.heap.size ≤ k := fun k hk => (own_lt O5.out hk).1
                have hB6 := HB5.out.chg c6 (own_ne O5.out HB5.out (by decide))
                have hR6 := R5.out.chg c6 (by
                  obtain ⟨_, _, _, h1, _⟩ := R5.out.ex
                  exact own_ne O5.out h1 (by decide)) fun b hb e => by have := HF.out b hb; have := hge b e; omega
                have n6 := N5.out.trans c6 fun i hi e => by have := hge i e; omega
                have c19' := (blk_ms hB6).2.2.2.2.2
                have hfr := hB6.frozen 19
                have hlt6 := hB6.lt
                have hv6 : (Value.slice A6 n6' cc6).ownBlock ≠ some g := own_ne o6 hB6 (by decide)
                have c7 := (Chg.refl (fun b => b = g) w6).setCell (p := ⟨g, 19, none⟩) (fun _ => rfl) (.slice A6 n6' cc6)
                have hs7 := hB6.set_ 19 (.slice A6 n6' cc6)
                rw [List.setIfInBounds_toArray, cs_19] at hs7
                have HNX : EvsAt w F g gr ys K s2 (i + 1) (.slice A6 n6' cc6) (es ++ [e]) s3 (w6.setCell ⟨g, 19, none⟩ (.slice A6 n6' cc6)) :=
                  ⟨hs7, own_chg o6 c7 fun k hk h => hv6 (h ▸ hk), hR6.chg c7 (fun h => hgg h.symm) fun b hb h => by have := HF.out b hb; have := HG.out; omega, by rw [List.length_append, HE.out.len]; rfl, fun x hx => by
                    rcases List.mem_append.1 hx with h | h
                    · exact HE.out.fit x h
                    · rw [List.mem_singleton.1 h]; exact HFT.out, HSH.out, HGO.out, n6.trans c7 fun i hi h => by have := HG.out; omega⟩
                have HNX := Lib.hid HNX
                have hw : IntKind.i64.wrap ((i : Int) + 1) = (i : Int) + 1 := IntWalk.i64_in _ (by have := HK.out.1; omega)
                have hbt : (if 24 = 24 then true else false) = true := rfl
                clear HRD o6 g6 a6 c6 hge hB6 hR6 n6 hv6 c7 hs7 hbt hle hst c19
                go_wp2_with fail
                go_roundw
                case rel => exact ⟨i + 1, _, _, _, by omega, by go_num, HNX.out⟩
                case measure => simp [intOf]; omega
            · obtain rfl : i = K := by omega
              have hgi : ¬ ((i : Int) < (i : Int)) := by omega
              have hdone : readM l = if (!s'.bad && decide (s'.l.length = 0)) = true then some (msOf ys es) else none := by
                rw [HR.out, HZ.out, HE.out.go, Nat.sub_self]
                simp only [readEs, Option.map_some, List.append_nil]
              have HD := Lib.hid hdone
              have CD := Lib.hid (done wr.drew F gr s' (HE.out.rd.chg (Chg.refl (fun _ => False) wr).drew id fun _ _ => id))
              have hl5 := ldM HE.out.blk.drew
              have hs5 := stM (msOf ys []) (msOf ys []) u u HE.out.blk.drew hu1
              have hs51 := hs5.1
              have N5 := HE.out.chg.drew
              have c6 := Chg.setCells (S := fun _ => False) (a := w) (g := g) ((msOf ys []).cs u) 0 _ N5 (fun h => by have := HG.out; omega)
              have c7 := ((Chg.refl (fun b => b = g) wr).drew).setCells (g := g) ((msOf ys []).cs u) 0 _ (fun _ => rfl)
              have HX := Lib.hid (And.intro hs5.2 (And.intro c6 (own_chg HE.out.own c7 fun k hk e => own_ne HE.out.own HE.out.blk (by decide) (e ▸ hk))))
              have gg5 := HE.out.blk.lt
              obtain ⟨dn, hdn⟩ : ∃ b, (!s'.bad && decide (s'.l.length = 0)) = b := ⟨_, rfl⟩
              rw [hdn] at HD CD
              clear hs5 c6 c7 hdone hdn N5 hi hlt
              go_wp2_with fail
              go_region_with (go_at_call 53; with_reducible refine CD.out.mono ?_; rintro x w7 ⟨rfl, rfl⟩)
              all_goals go_wp2_with fail
              all_goals refine bodyPost_ret (resMI rfl _ _ g 26 (msOf ys es) u rfl ?hblk) rfl ?hpost
              all_goals first
                | (case hblk => exact HX.out.1)
                | (case hpost => exact ⟨msOf ys es, u, dn, rfl, HX.out.2.2, HE.out.fit, by show es.length ≤ 200; rw [HE.out.len]; exact_mod_cast HK.out.1, HD.out, HX.out.2.1⟩)
end Msg
end Go.Proofs.YtkmkpdmjdfbpjaaGreatDoor

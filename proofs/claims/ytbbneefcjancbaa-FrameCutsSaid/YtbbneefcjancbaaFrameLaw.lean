/-
  The law's own fixed calls answer as the document says: hedgerowlaw04.fixed returns true; 'same' holds rows of payloads against each other (no condition).
-/
import Derived.Test.YtbbneefcjancbaaFramePut
namespace Go.Proofs.Ytbbneefcjancbaa
open Go.ChangeShapes Go.WideShapes Go.RowKit
namespace Frame
/-- the bytes of the two frames -/
def fx : List UInt8 := frameL [104, 105] ++ frameL []
theorem fx_len : fx.length = 18 := by decide +kernel
theorem fx_all : allF fx = ([[104, 105], []], 18, 0) := by decide +kernel
theorem fx_cut : takeE (fx.take 3) = 2 ∧ takeN (fx.take 3) = 0 := by decide +kernel
theorem fx_whole : wholeE fx = 2 := by decide +kernel
theorem fx_first : wholeE (fx.take 10) = 0 ∧ wholeP (fx.take 10) = [104, 105] := by decide +kernel
/-- element i of a row of payloads: the cell, and what string(..) of it is -/
theorem Parts.at_ {w : World} {base : Nat} {v : Value} {ps : List (List UInt8)} (h : Parts w base v ps) {i : Nat} (hi : i < ps.length) : ∃ g c u, v = .slice (some ⟨g, 0, none⟩) ps.length c ∧ w.cell? ⟨g, i, none⟩ = some u ∧
    Part w (fun b => b < w.heap.size ∧ v.ownBlock ≠ some b) u ps[i] := by
  obtain ⟨vs, ho, hp⟩ := h.ex
  obtain ⟨g, c, rfl, _, _⟩ := World.ownsRow.form ho (by omega)
  obtain ⟨u, hu, hq⟩ := hp i ps[i] (List.getElem?_eq_getElem hi)
  exact ⟨g, c, u, rfl, by rw [World.ownsRow.cellAt ho i (by omega), hu], hq⟩
theorem Part.str {w : World} {F : Nat → Prop} {v : Value} {p : List UInt8} (h : Part w F v p) : (convert 22 9 v).run Try.prog w = .ok (.string ⟨p.toArray⟩) w := by
  obtain ⟨A, c, rfl, _, hr⟩ := h
  exact run_str Try.underlying22 Try.underlying5 Try.underlying9 hr c
theorem Parts.form {w : World} {base : Nat} {v : Value} {ps : List (List UInt8)} (h : Parts w base v ps) : ∃ A c, v = .slice A ps.length c := by
  obtain ⟨vs, ho, _⟩ := h.ex
  rcases ho.2 with ⟨rfl, h0⟩ | ⟨g, c, _, rfl, _⟩
  · exact ⟨none, 0, by rw [h0]⟩
  · exact ⟨_, c, rfl⟩
set_option maxHeartbeats 4000000 in
set_option maxRecDepth 100000 in
theorem fixed (w : World) : Calls Try.prog 7 #[] w fun e w' => LawEnd w e w' := by
  have kc := fun (w : World) (C : Array Value) (n c : Nat) => Lib.run_convert_bytes_const (P := Try.prog) w 22 5 C n c Try.underlying22 Try.underlying5
  go_enter Try.func7, Try.ntmps7
  go_wp2_with fail
  have n1 : New w (w.alloc (.cells (u8s [104, 105]).toArray 5 (2, 3))) := (Chg.refl _ _).alloc _
  refine (put (w.alloc (.cells (u8s [104, 105]).toArray 5 (2, 3))) w.heap.size (.slice none 0 0) [] (fun b => b = w.heap.size) (some ⟨w.heap.size, 0, none⟩) 2 2 [104, 105] OwnB.nil (by simp) (reads_lit w [104, 105] (2, 3) 5) (fun b hb => by subst hb; exact ⟨by simp, by simp [Value.ownBlock]⟩) (by simp)).mono ?_
  rintro e w2 ⟨v2, rfl, ho2, c2, b2⟩
  have n2 : New w w2 := n1.trans c2 fun i hi e => by cases e
  clear c2 n1
  rw [List.nil_append] at ho2
  go_wp2_with fail
  refine (put w2 w.heap.size v2 (frameL [104, 105]) (fun _ => False) none 0 0 [] ho2 n2.size (Reads.none_ _) (fun b hb => hb.elim) (by rw [frameL_length]; simp)).mono ?_
  rintro e w3 ⟨v3, rfl, ho3, c3, b3⟩
  have n3 : New w w3 := n2.trans c3 fun i hi e => by
    have := (own_lt ho2 e).1
    omega
  change OwnB w3 w.heap.size v3 fx at ho3
  clear ho2 c3 b3 b2 n2
  obtain ⟨A, c, rfl, hc1, hc2, _, hr3⟩ := ho3.form
  rw [fx_len] at hr3 hc1
  clear ho3
  have hr3 : Reads w3 (fun b => b < w3.heap.size) 1 A 18 (u8s fx) := hr3.mono fun b hb => hb.2.1
  clear hc2
  have hlen : fx.length = 18 := fx_len
  rw [hlen]
  obtain ⟨ad, _, rfl, _⟩ := hr3.at_ (k := 0) (by omega)
  have hpre : ∀ w', New w3 w' → Reads w' (fun b => b < w3.heap.size) 1 (some ad) 18 (u8s fx) := fun _ h => hr3.chg' h (fun _ _ => id) (by omega)
  have HP := Lib.hid hpre
  have hlt : ∀ w', New w3 w' → ∀ b, b < w3.heap.size → b < w'.heap.size := fun _ h b hb => Nat.lt_of_lt_of_le hb h.size
  have HLT := Lib.hid hlt
  have s3 : ∀ W, (Instr.sliceAt 22 (.slice (some ad) 18 c) none (some (.int .i64 3)) none).run Try.prog W = .ok (.slice (some ad) 3 c) W := fun W => slice_u8_to (some ad) 18 c 3 (by omega) W
  have s10 : ∀ W, (Instr.sliceAt 22 (.slice (some ad) 18 c) none (some (.int .i64 10)) none).run Try.prog W = .ok (.slice (some ad) 10 c) W := fun W => slice_u8_to (some ad) 18 c 10 (by omega) W
  clear hr3 hpre hlt hlen
  go_wp2_with fail
  have k1 := all_ w3 _ (some ad) 18 c fx (HP.out _ (Chg.refl _ _)) (fun b hb => hb) hc1 (by omega) (by omega)
  rw [fx_all] at k1
  refine k1.mono ?_
  clear k1
  rintro e w4 ⟨v4, rfl, hp4, n4⟩
  go_wp2_with fail
  have k1 := take w4 _ (some ad) 3 c (fx.take 3) ((HP.out _ n4).takeB (by omega)) (HLT.out _ n4) (by omega) (by omega)
  rw [fx_cut.1, fx_cut.2] at k1
  refine k1.mono ?_
  clear k1
  rintro e w5 ⟨v5, rfl, _, n5⟩
  have hp5 := hp4.new n5
  have n5 := n4.trans n5 fun _ _ => id
  clear hp4 n4
  go_wp2_with fail
  have k1 := whole w5 _ (some ad) 18 c fx (HP.out _ n5) (HLT.out _ n5) (by omega) (by omega)
  rw [fx_whole] at k1
  refine k1.mono ?_
  clear k1
  rintro e w6 ⟨v6, rfl, _, n6⟩
  have hp6 := hp5.new n6
  have n6 := n5.trans n6 fun _ _ => id
  clear hp5 n5
  go_wp2_with fail
  have k1 := whole w6 _ (some ad) 10 c (fx.take 10) ((HP.out _ n6).takeB (by omega)) (HLT.out _ n6) (by omega) (by omega)
  rw [fx_first.1, fx_first.2] at k1
  refine k1.mono ?_
  clear k1
  rintro e w7 ⟨v7, rfl, ho7, n7⟩
  have hp7 := hp6.new n7
  have nn7 := n3.trans (n6.trans n7 fun _ _ => id) fun _ _ => id
  clear hp6 n6 n7 n3
  obtain ⟨g, cg, u, rfl, hc0, hq⟩ := hp7.at_ (i := 0) (by simp)
  have q0 := hq.str
  have q7 := own_str ho7 (Chg.refl _ w7)
  have hsz := size w7 0 (by omega)
  rw [if_pos (by omega)] at hsz
  clear hp7 hq ho7
  go_wp2_with fail
  refine hsz.mono ?_
  clear hsz
  rintro e w8 ⟨rfl, rfl⟩
  go_wp2
  go_ret
  exact ⟨rfl, nn7⟩

/-- v is a slice whose elements are slices of the bytes ps -/
structure PartsR (w : World) (v : Value) (ps : List (List UInt8)) : Prop where
  ex : ∃ A c vs, v = .slice A ps.length c ∧ Reads w (fun b => b < w.heap.size) 1 A ps.length vs ∧ ∀ (i : Nat) (p : List UInt8), ps[i]? = some p → ∃ u, vs[i]? = some u ∧ Part w (fun b => b < w.heap.size) u p
theorem Parts.toR {w : World} {base : Nat} {v : Value} {ps : List (List UInt8)} (h : Parts w base v ps) : PartsR w v ps := by
  obtain ⟨A, c, rfl⟩ := h.form
  obtain ⟨vs, ho, hp⟩ := h.ex
  refine ⟨⟨A, c, vs, rfl, (Reads.of_own ho).mono fun b hb => hb.2.1, fun i p hi => ?_⟩⟩
  obtain ⟨u, hu, hq⟩ := hp i p hi
  exact ⟨u, hu, hq.mono fun b hb => hb.1⟩
theorem PartsR.new {w w' : World} {v : Value} {ps : List (List UInt8)} (h : PartsR w v ps) (hc : New w w') : PartsR w' v ps := by
  obtain ⟨A, c, vs, rfl, hr, hp⟩ := h.ex
  refine ⟨⟨A, c, vs, rfl, (hr.chg' hc (fun _ _ => id) (by omega)).mono fun b hb => Nat.lt_of_lt_of_le hb hc.size, fun i p hi => ?_⟩⟩
  obtain ⟨u, hu, hq⟩ := hp i p hi
  exact ⟨u, hu, (hq.new hc).mono fun b hb => Nat.lt_of_lt_of_le hb hc.size⟩
theorem PartsR.at_ {w : World} {A : Option Addr} {n c : Nat} {ps : List (List UInt8)} (h : PartsR w (.slice A n c) ps) {i : Nat} (hi : i < ps.length) : ∃ ad u, A = some ad ∧ ∀ W, New w W → W.cell? (ad.add i) = some u ∧ (convert 22 9 u).run Try.prog W = .ok (.string ⟨(ps.getD i []).toArray⟩) W := by
  obtain ⟨A', c', vs, hv, hr, hp⟩ := h.ex
  injection hv with h1 h2 h3
  subst h1
  obtain ⟨ad, u, rfl, hb, hu, hc⟩ := hr.at_ hi
  obtain ⟨u', hu', hq⟩ := hp i ps[i] (List.getElem?_eq_getElem hi)
  rw [hu] at hu'
  injection hu' with hu'
  subst hu'
  refine ⟨ad, u, rfl, fun W hW => ⟨(hW.cell (p := ad.add i) (by rw [block_of_add]; exact hb) id).trans hc, ?_⟩⟩
  have := (hq.new hW).str
  rw [show ps.getD i [] = ps[i] by simp [List.getD_eq_getElem?_getD, hi]]
  exact this
theorem PartsR.form {w : World} {v : Value} {ps : List (List UInt8)} (h : PartsR w v ps) : ∃ A c, v = .slice A ps.length c := by
  obtain ⟨A, c, _, h, _⟩ := h.ex
  exact ⟨A, c, h⟩
theorem same_of {ps qs : List (List UInt8)} (hl : ps.length = qs.length) (h : ∀ j, j < ps.length → ps.getD j [] = qs.getD j []) : (ps == qs) = true := by
  refine beq_iff_eq.2 (List.ext_getElem hl fun i h1 h2 => ?_)
  have := h i h1
  simpa [List.getD_eq_getElem?_getD, h1, h2] using this
set_option maxHeartbeats 800000 in
theorem same (w : World) (v u : Value) (ps qs : List (List UInt8)) (hp : PartsR w v ps) (hq : PartsR w u qs) (h47 : ps.length ≤ 140737488351232) :
    Calls Try.prog 13 #[v, u] w fun e w' => e = .returned (.bool (ps == qs)) ∧ New w w' := by
  obtain ⟨A, c, rfl⟩ := hp.form
  obtain ⟨B, d, rfl⟩ := hq.form
  by_cases hl : ps.length = qs.length
  · have hlb : ((ps.length : Int) != (qs.length : Int)) = false := by rw [hl]; simp
    have HL := Lib.hid hl
    have HP := Lib.hid hp
    have HQ := Lib.hid hq
    clear hl hp hq
    go_enter Try.func13, Try.ntmps13
    go_wp2
    go_loopw [5, 13] (fun _ i wr => ∃ (k : Nat), k ≤ ps.length ∧ i = .int .i64 k ∧ (∀ j, j < k → ps.getD j [] = qs.getD j []) ∧ New w wr) (fun _ i _ => ps.length - (intOf i).toNat)
    case atStart => exact ⟨0, by omega, rfl, fun j hj => absurd hj (by omega), Chg.refl _ _⟩
    case round =>
      obtain ⟨k, hk, rfl, hall, hn⟩ := hrel
      have HA := Lib.hid hall
      clear hall
      by_cases hlt : k < ps.length
      · obtain ⟨a1, u1, rfl, f1⟩ := (HP.out.new hn).at_ hlt
        obtain ⟨a2, u2, rfl, f2⟩ := (HQ.out.new hn).at_ (i := k) (by rw [← HL.out]; exact hlt)
        have hltq : (k : Int) < qs.length := by have := HL.out; omega
        have hltp : (k : Int) < ps.length := by omega
        obtain ⟨x, hx⟩ : ∃ x, ps.getD k [] = x := ⟨_, rfl⟩
        obtain ⟨y, hy⟩ : ∃ y, qs.getD k [] = y := ⟨_, rfl⟩
        rw [hx] at f1
        rw [hy] at f2
        have HX := Lib.hid (And.intro hx hy)
        clear hx hy
        by_cases hxy : (x == y) = true
        · have F := Lib.hid (fun W (hW : New wr.drew W) => And.intro (And.intro hxy (beq_bne hxy)) (And.intro (f1 W ((Chg.refl _ wr).drew.trans hW fun _ _ => id)) (f2 W ((Chg.refl _ wr).drew.trans hW fun _ _ => id))))
          clear f1 f2 hxy
          go_wp2
          refine grow_start (fun _ => False) (by kernel_rfl) ?_
          refine grow_take (i := 0) (oi := { dst := some 16, op := Op.move (Operand.tmp 0), type := 27, pos := "law.go:29", after := #[], guard := none }) (v := ?_) rfl (by kernel_rfl) (by kernel_rfl) (by kernel_rfl) (by rfl) ?_ ?_; rotate_left; focus ((intro W hW; go_simp) <;> with_reducible rfl)
          simp only [Act.put, List.setIfInBounds_toArray, List.set_cons_zero, List.set_cons_succ]
          refine grow_take (i := 1) (oi := { dst := some 17, op := Op.move (Operand.tmp 5), type := 3, pos := "law.go:29", after := #[], guard := none }) (v := ?_) rfl (by kernel_rfl) (by kernel_rfl) (by kernel_rfl) (by rfl) ?_ ?_; rotate_left; focus ((intro W hW; go_simp) <;> with_reducible rfl)
          simp only [Act.put, List.setIfInBounds_toArray, List.set_cons_zero, List.set_cons_succ]
          refine grow_take (i := 2) (oi := { dst := some 18, op := Op.indexAddr 27 (Operand.tmp 16) (Operand.tmp 17), type := 0, pos := "law.go:29", after := #[{ on := 0, ground := Ground.data }, { on := 1, ground := Ground.data }], guard := none }) (v := ?_) rfl (by kernel_rfl) (by kernel_rfl) (by kernel_rfl) (by rfl) ?_ ?_; rotate_left; focus ((intro W hW; have fct := F.out W hW; go_simp) <;> with_reducible rfl)
          simp only [Act.put, List.setIfInBounds_toArray, List.set_cons_zero, List.set_cons_succ]
          refine grow_take (i := 3) (oi := { dst := some 19, op := Op.load 22 (Operand.tmp 18), type := 22, pos := "law.go:29", after := #[{ on := 2, ground := Ground.data }], guard := none }) (v := ?_) rfl (by kernel_rfl) (by kernel_rfl) (by kernel_rfl) (by rfl) ?_ ?_; rotate_left; focus ((intro W hW; have fct := F.out W hW; go_simp) <;> with_reducible rfl)
          simp only [Act.put, List.setIfInBounds_toArray, List.set_cons_zero, List.set_cons_succ]
          refine grow_take (i := 4) (oi := { dst := some 20, op := Op.convert 22 9 (Operand.tmp 19), type := 9, pos := "law.go:29", after := #[{ on := 3, ground := Ground.data }], guard := none }) (v := ?_) rfl (by kernel_rfl) (by kernel_rfl) (by kernel_rfl) (by rfl) ?_ ?_; rotate_left; focus ((intro W hW; have fct := F.out W hW; go_simp) <;> with_reducible rfl)
          simp only [Act.put, List.setIfInBounds_toArray, List.set_cons_zero, List.set_cons_succ]
          refine grow_take (i := 5) (oi := { dst := some 21, op := Op.move (Operand.tmp 1), type := 27, pos := "law.go:29", after := #[], guard := none }) (v := ?_) rfl (by kernel_rfl) (by kernel_rfl) (by kernel_rfl) (by rfl) ?_ ?_; rotate_left; focus ((intro W hW; go_simp) <;> with_reducible rfl)
          simp only [Act.put, List.setIfInBounds_toArray, List.set_cons_zero, List.set_cons_succ]
          refine grow_take (i := 6) (oi := { dst := some 22, op := Op.move (Operand.tmp 5), type := 3, pos := "law.go:29", after := #[], guard := none }) (v := ?_) rfl (by kernel_rfl) (by kernel_rfl) (by kernel_rfl) (by rfl) ?_ ?_; rotate_left; focus ((intro W hW; go_simp) <;> with_reducible rfl)
          simp only [Act.put, List.setIfInBounds_toArray, List.set_cons_zero, List.set_cons_succ]
          refine grow_take (i := 7) (oi := { dst := some 23, op := Op.indexAddr 27 (Operand.tmp 21) (Operand.tmp 22), type := 0, pos := "law.go:29", after := #[{ on := 5, ground := Ground.data }, { on := 6, ground := Ground.data }], guard := none }) (v := ?_) rfl (by kernel_rfl) (by kernel_rfl) (by kernel_rfl) (by rfl) ?_ ?_; rotate_left; focus ((intro W hW; have fct := F.out W hW; go_simp) <;> with_reducible rfl)
          simp only [Act.put, List.setIfInBounds_toArray, List.set_cons_zero, List.set_cons_succ]
          refine grow_take (i := 8) (oi := { dst := some 24, op := Op.load 22 (Operand.tmp 23), type := 22, pos := "law.go:29", after := #[{ on := 7, ground := Ground.data }], guard := none }) (v := ?_) rfl (by kernel_rfl) (by kernel_rfl) (by kernel_rfl) (by rfl) ?_ ?_; rotate_left; focus ((intro W hW; have fct := F.out W hW; go_simp) <;> with_reducible rfl)
          simp only [Act.put, List.setIfInBounds_toArray, List.set_cons_zero, List.set_cons_succ]
          refine grow_take (i := 9) (oi := { dst := some 25, op := Op.convert 22 9 (Operand.tmp 24), type := 9, pos := "law.go:29", after := #[{ on := 8, ground := Ground.data }], guard := none }) (v := ?_) rfl (by kernel_rfl) (by kernel_rfl) (by kernel_rfl) (by rfl) ?_ ?_; rotate_left; focus ((intro W hW; have fct := F.out W hW; go_simp) <;> with_reducible rfl)
          simp only [Act.put, List.setIfInBounds_toArray, List.set_cons_zero, List.set_cons_succ]
          refine grow_take (i := 10) (oi := { dst := some 26, op := Op.binOp BinOp.neq 9 (Operand.tmp 20) (Operand.tmp 25) 9, type := 4, pos := "law.go:29", after := #[{ on := 4, ground := Ground.data }, { on := 9, ground := Ground.data }], guard := none }) (v := ?_) rfl (by kernel_rfl) (by kernel_rfl) (by kernel_rfl) (by rfl) ?_ ?_; rotate_left; focus ((intro W hW; have fct := F.out W hW; go_simp) <;> with_reducible rfl)
          simp only [Act.put, List.setIfInBounds_toArray, List.set_cons_zero, List.set_cons_succ]
          refine grow_done (by kernel_rfl) ?_ _
          go_wp2
          go_roundw
          case rel =>
            refine ⟨k + 1, by omega, by go_num, fun j hj => ?_, hn.drew⟩
            by_cases e : j = k
            · subst e
              rw [HX.out.1, HX.out.2]
              exact eq_of_beq (F.out _ (Chg.refl _ _)).1.1
            · exact HA.out j (by omega)
          case measure => simp [intOf]; omega
        · have hxy' : (x == y) = false := by simpa using hxy
          have F := Lib.hid (fun W (hW : New wr.drew W) => And.intro (And.intro hxy' (beq_bne hxy')) (And.intro (f1 W ((Chg.refl _ wr).drew.trans hW fun _ _ => id)) (f2 W ((Chg.refl _ wr).drew.trans hW fun _ _ => id))))
          clear f1 f2 hxy hxy'
          go_wp2
          refine grow_start (fun _ => False) (by kernel_rfl) ?_
          refine grow_take (i := 0) (oi := { dst := some 16, op := Op.move (Operand.tmp 0), type := 27, pos := "law.go:29", after := #[], guard := none }) (v := ?_) rfl (by kernel_rfl) (by kernel_rfl) (by kernel_rfl) (by rfl) ?_ ?_; rotate_left; focus ((intro W hW; go_simp) <;> with_reducible rfl)
          simp only [Act.put, List.setIfInBounds_toArray, List.set_cons_zero, List.set_cons_succ]
          refine grow_take (i := 1) (oi := { dst := some 17, op := Op.move (Operand.tmp 5), type := 3, pos := "law.go:29", after := #[], guard := none }) (v := ?_) rfl (by kernel_rfl) (by kernel_rfl) (by kernel_rfl) (by rfl) ?_ ?_; rotate_left; focus ((intro W hW; go_simp) <;> with_reducible rfl)
          simp only [Act.put, List.setIfInBounds_toArray, List.set_cons_zero, List.set_cons_succ]
          refine grow_take (i := 2) (oi := { dst := some 18, op := Op.indexAddr 27 (Operand.tmp 16) (Operand.tmp 17), type := 0, pos := "law.go:29", after := #[{ on := 0, ground := Ground.data }, { on := 1, ground := Ground.data }], guard := none }) (v := ?_) rfl (by kernel_rfl) (by kernel_rfl) (by kernel_rfl) (by rfl) ?_ ?_; rotate_left; focus ((intro W hW; have fct := F.out W hW; go_simp) <;> with_reducible rfl)
          simp only [Act.put, List.setIfInBounds_toArray, List.set_cons_zero, List.set_cons_succ]
          refine grow_take (i := 3) (oi := { dst := some 19, op := Op.load 22 (Operand.tmp 18), type := 22, pos := "law.go:29", after := #[{ on := 2, ground := Ground.data }], guard := none }) (v := ?_) rfl (by kernel_rfl) (by kernel_rfl) (by kernel_rfl) (by rfl) ?_ ?_; rotate_left; focus ((intro W hW; have fct := F.out W hW; go_simp) <;> with_reducible rfl)
          simp only [Act.put, List.setIfInBounds_toArray, List.set_cons_zero, List.set_cons_succ]
          refine grow_take (i := 4) (oi := { dst := some 20, op := Op.convert 22 9 (Operand.tmp 19), type := 9, pos := "law.go:29", after := #[{ on := 3, ground := Ground.data }], guard := none }) (v := ?_) rfl (by kernel_rfl) (by kernel_rfl) (by kernel_rfl) (by rfl) ?_ ?_; rotate_left; focus ((intro W hW; have fct := F.out W hW; go_simp) <;> with_reducible rfl)
          simp only [Act.put, List.setIfInBounds_toArray, List.set_cons_zero, List.set_cons_succ]
          refine grow_take (i := 5) (oi := { dst := some 21, op := Op.move (Operand.tmp 1), type := 27, pos := "law.go:29", after := #[], guard := none }) (v := ?_) rfl (by kernel_rfl) (by kernel_rfl) (by kernel_rfl) (by rfl) ?_ ?_; rotate_left; focus ((intro W hW; go_simp) <;> with_reducible rfl)
          simp only [Act.put, List.setIfInBounds_toArray, List.set_cons_zero, List.set_cons_succ]
          refine grow_take (i := 6) (oi := { dst := some 22, op := Op.move (Operand.tmp 5), type := 3, pos := "law.go:29", after := #[], guard := none }) (v := ?_) rfl (by kernel_rfl) (by kernel_rfl) (by kernel_rfl) (by rfl) ?_ ?_; rotate_left; focus ((intro W hW; go_simp) <;> with_reducible rfl)
          simp only [Act.put, List.setIfInBounds_toArray, List.set_cons_zero, List.set_cons_succ]
          refine grow_take (i := 7) (oi := { dst := some 23, op := Op.indexAddr 27 (Operand.tmp 21) (Operand.tmp 22), type := 0, pos := "law.go:29", after := #[{ on := 5, ground := Ground.data }, { on := 6, ground := Ground.data }], guard := none }) (v := ?_) rfl (by kernel_rfl) (by kernel_rfl) (by kernel_rfl) (by rfl) ?_ ?_; rotate_left; focus ((intro W hW; have fct := F.out W hW; go_simp) <;> with_reducible rfl)
          simp only [Act.put, List.setIfInBounds_toArray, List.set_cons_zero, List.set_cons_succ]
          refine grow_take (i := 8) (oi := { dst := some 24, op := Op.load 22 (Operand.tmp 23), type := 22, pos := "law.go:29", after := #[{ on := 7, ground := Ground.data }], guard := none }) (v := ?_) rfl (by kernel_rfl) (by kernel_rfl) (by kernel_rfl) (by rfl) ?_ ?_; rotate_left; focus ((intro W hW; have fct := F.out W hW; go_simp) <;> with_reducible rfl)
          simp only [Act.put, List.setIfInBounds_toArray, List.set_cons_zero, List.set_cons_succ]
          refine grow_take (i := 9) (oi := { dst := some 25, op := Op.convert 22 9 (Operand.tmp 24), type := 9, pos := "law.go:29", after := #[{ on := 8, ground := Ground.data }], guard := none }) (v := ?_) rfl (by kernel_rfl) (by kernel_rfl) (by kernel_rfl) (by rfl) ?_ ?_; rotate_left; focus ((intro W hW; have fct := F.out W hW; go_simp) <;> with_reducible rfl)
          simp only [Act.put, List.setIfInBounds_toArray, List.set_cons_zero, List.set_cons_succ]
          refine grow_take (i := 10) (oi := { dst := some 26, op := Op.binOp BinOp.neq 9 (Operand.tmp 20) (Operand.tmp 25) 9, type := 4, pos := "law.go:29", after := #[{ on := 4, ground := Ground.data }, { on := 9, ground := Ground.data }], guard := none }) (v := ?_) rfl (by kernel_rfl) (by kernel_rfl) (by kernel_rfl) (by rfl) ?_ ?_; rotate_left; focus ((intro W hW; have fct := F.out W hW; go_simp) <;> with_reducible rfl)
          simp only [Act.put, List.setIfInBounds_toArray, List.set_cons_zero, List.set_cons_succ]
          refine grow_done (by kernel_rfl) ?_ _
          go_wp2
          go_ret
          refine ⟨?_, hn.drew⟩
          have : (ps == qs) = false := by
            refine beq_eq_false_iff_ne.2 fun e => ?_
            have h1 := (F.out _ (Chg.refl _ _)).1.1
            rw [← HX.out.1, ← HX.out.2, e] at h1
            simp at h1
          rw [this]
          rfl
      · obtain rfl : k = ps.length := by omega
        go_wp2
        go_ret
        refine ⟨?_, hn⟩
        rw [same_of HL.out HA.out]
        rfl
  · have hlb : ((ps.length : Int) != (qs.length : Int)) = true := by
      rw [bne_iff_ne]
      omega
    have hf : (ps == qs) = false := beq_eq_false_iff_ne.2 fun e => hl (by rw [e])
    rw [hf]
    clear hp hq hl hf
    go_enter Try.func13, Try.ntmps13
    go_wp2
    go_ret
    exact ⟨rfl, Chg.refl _ _⟩
end Frame
end Go.Proofs.Ytbbneefcjancbaa

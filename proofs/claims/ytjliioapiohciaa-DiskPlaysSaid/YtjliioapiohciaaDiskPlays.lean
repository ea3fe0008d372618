/-
  hedgerowlaw10.DiskPlays returns true for every input: whatever is written, synced, lost and spoilt, all bytes, and how many stay, are what a plain row tells (no condition).
-/
import Derived.Test.YtjliioapiohciaaDiskActs
import Derived.Deep.CutBlock
import Derived.Deep.DeepCutAuto
namespace Go.Proofs.Ytjliioapiohciaa
open Go.ChangeShapes Go.WideShapes Go.RowKit
namespace Disk
theorem loadOnly0 (p : Value) : Instr.loadAt 28 p = LoadRowV 28 p := rfl
attribute [local go_sem ↓] loadOnly0
/-- the disk d at b, and the plain row r of its bytes beside it -/
def Both (w wr : World) (lo b : Nat) (v : Value) (d : Dsk) (m : Nat) (r s : Value) : Prop :=
  At wr lo b v d ∧ d.b.length ≤ m ∧ s = .int .i64 (d.s : Int) ∧ (∃ A c, r = .slice A d.b.length c ∧ d.b.length ≤ c ∧ Reads wr (fun g => g < wr.heap.size ∧ ¬ Foot b v g) 1 A d.b.length (u8s d.b)) ∧ New w wr
theorem wp_append_u8 (w : World) {o : Oper} {a : Act} {K : Act → World → Prop} {Q : Exit → Act → World → Prop} (s x : Operand)
    (ho : o.op = .call { callee := .builtin .append, args := #[s, x], argTypes := #[26, 26] })
    (base : Nat) (v : Value) (l : List UInt8) (hs : a.eval s = v) (hown : OwnB w base v l)
    (F : Nat → Prop) (A : Option Addr) (m c : Nat) (k : List UInt8) (hx : a.eval x = .slice A m c) (hr : Reads w F 1 A m (u8s k))
    (hb : l.length + m ≤ 1099511627776) (hbase : base ≤ w.heap.size)
    (h : ∀ v' w', OwnB w' base v' (l ++ k) → w.grownBy w' v.ownBlock → (v'.ownBlock = v.ownBlock ∨ v'.ownBlock = some w.heap.size) → K (a.put o.dst v') w') : o.wp Try.prog a w K Q := by
  obtain ⟨i, hi, hz0, hz1, hz2⟩ := info_parts u8info
  refine wp_append_any w s x _ ho base _ i _ 1 1 Try.underlying26 hi hz0 hz1 hz2 rfl (by omega) v l.length (u8s l) hs hown F A m c (u8s k) hx hr (u8s_one k) (by simp only [maxLen]; omega) (by omega) hbase ?_
  intro v' w' ho' hg hat
  refine h v' w' ?_ hg hat
  have hk := hr.u8len
  unfold OwnB
  rw [u8s_append, List.length_append, hk]
  exact ho'
theorem reads_lit (w : World) (l : List UInt8) (fr : Nat × Nat) (t : TypeId) : Reads (w.alloc (.cells (u8s l).toArray t fr)) (fun b => b = w.heap.size) 1 (some ⟨w.heap.size, 0, none⟩) l.length (u8s l) := by
  have := Reads.of_row (n := l.length) (size := 1) (heap_alloc_new w (.cells (u8s l).toArray t fr)) (by simp [u8s])
  simpa using this
theorem empty_row {w : World} {base g : Nat} (hb : base ≤ w.heap.size) (e : (Value.slice (some ⟨w.heap.size, 0, none⟩) 0 0).ownBlock = some g) : base ≤ g := ((OwnB.empty (w := w) (base := base) hb).lt g e).1
theorem both_of {w w4 w6 : World} {b m : Nat} {v row : Value} {d : Dsk} (hat : At w4 b b v d) (hc : Chg (fun g => w4.heap.size ≤ g) w4 w6) (ho : OwnB w6 w4.heap.size row d.b) (hn : New w w4) (hm : d.b.length ≤ m) (_hlo : w.heap.size ≤ b) :
    Both w w6 b b v d m row (.int .i64 (d.s : Int)) := by
  have hfoot : ∀ g, Foot b v g → ¬ w4.heap.size ≤ g := fun g hg => by have := (hat.foot hg).2; omega
  refine ⟨hat.chg hc (hfoot b (.inl rfl)) fun g hg => hfoot g (.inr hg), hm, rfl, ?_, hn.trans hc fun g hg h => by have := hn.size; omega⟩
  obtain ⟨A, c, rfl, hlc, _, _, hr⟩ := ho.form
  exact ⟨A, c, rfl, hlc, hr.mono fun g hg => ⟨hg.2.1, fun hf => hfoot g hf hg.1⟩⟩
theorem both_keep {w w3 w4 : World} {b m c gx : Nat} {v v0 : Value} {A : Option Addr} {d d' : Dsk} (hat : At w4 b b v d') (hb : d'.b = d.b) (hc : Chg (Foot b v0) w3 w4) (hv : v.ownBlock = v0.ownBlock) (hr : Reads w3 (fun g => g < gx ∧ ¬ Foot b v0 g) 1 A d.b.length (u8s d.b)) (hgx : gx ≤ w3.heap.size)
    (hn : New w w4) (hm : d.b.length ≤ m) (hlc : d.b.length ≤ c) : Both w w4 b b v d' m (.slice A d.b.length c) (.int .i64 (d'.s : Int)) := by
  refine ⟨hat, by rw [hb]; exact hm, rfl, ⟨A, c, by rw [hb], by rw [hb]; exact hlc, ?_⟩, hn⟩
  rw [hb]
  refine (hr.chg' hc (fun g hg => hg.2) (by omega)).mono fun g hg => ⟨by have := hc.size; omega, fun h => hg.2 ?_⟩
  rcases h with h | h
  · exact .inl h
  · exact .inr (hv ▸ h)
/-- what is left after j bytes -/
def leftL (d : Dsk) (N at_ : Int) (y : UInt8) (j : Nat) : List UInt8 := (crashB d (keepN d N) at_ y).take (min j (d.s + keepN d N))
theorem left_zero (d : Dsk) (N at_ : Int) (y : UInt8) : leftL d N at_ y 0 = [] := by simp [leftL]
theorem left_end {d : Dsk} (h : d.ok) (N at_ : Int) (y : UInt8) : leftL d N at_ y d.b.length = (crashF d N at_ y).b := by
  have h1 := keepN_le d N
  have h2 := h.1
  unfold leftL crashF
  rw [Nat.min_eq_right (by omega)]
theorem left_skip {d : Dsk} {N at_ : Int} {y : UInt8} {j : Nat} (hj : j < d.b.length) (h : 0 ≤ (j : Int) - d.s) (hN : N ≤ (j : Int) - d.s) : leftL d N at_ y (j + 1) = leftL d N at_ y j := by
  have hk : d.s + keepN d N ≤ j := by unfold keepN; omega
  unfold leftL
  rw [Nat.min_eq_right (by omega), Nat.min_eq_right (by omega)]
theorem left_add {d : Dsk} {N at_ : Int} {y : UInt8} {j : Nat} {x : UInt8} (hj : d.b[j]? = some x) (h : (j : Int) - d.s < 0 ∨ (j : Int) - d.s < N) :
    leftL d N at_ y (j + 1) = leftL d N at_ y j ++ [if 0 ≤ (j : Int) - d.s ∧ (j : Int) - d.s = at_ then x ^^^ y else x] := by
  have hlt : j < d.b.length := (List.getElem?_eq_some_iff.1 hj).1
  have hk : j < d.s + keepN d N := by unfold keepN; omega
  unfold leftL
  have hc : (crashB d (keepN d N) at_ y)[j]? = some (if 0 ≤ (j : Int) - d.s ∧ (j : Int) - d.s = at_ then x ^^^ y else x) := by
    unfold crashB
    by_cases hc : 0 ≤ at_ ∧ at_ < keepN d N
    · rw [if_pos hc]
      by_cases e : d.s + at_.toNat = j
      · rw [if_pos (by omega)]
        subst e
        rw [turn, List.getElem?_set_self hlt]
        simp [List.getD_eq_getElem?_getD, hj]
      · rw [if_neg (by omega), turn, List.getElem?_set_ne e, hj]
    · rw [if_neg hc, if_neg (by omega), hj]
  rw [Nat.min_eq_left (by omega), Nat.min_eq_left (by omega), List.take_add_one, hc]
  rfl
theorem spoil_s (d : Dsk) (at_ : Int) (y : UInt8) : (spoilF d at_ y).s = d.s := by
  unfold spoilF
  split <;> rfl
theorem write_s (d : Dsk) (xs : List UInt8) : (writeF d xs).s = d.s := by
  unfold writeF
  split <;> rfl
set_option maxHeartbeats 20000000 in
set_option maxRecDepth 100000 in
theorem plays (w : World) (A : Option Addr) (n c : Nat) (hn : n ≤ 140737488351232) (hacts : ∀ k, k < n → ∃ a, ActAt w A k a) :
    Calls Try.prog 3 #[.slice A n c] w fun e w' => LawEnd w e w' := by
  have HACT := Lib.hid hacts
  clear hacts
  by_cases hbig : 80 < (n : Int)
  · go_enter Try.func3, Try.ntmps3
    go_wp2_with fail
    refine (fixed _).mono ?_
    rintro e w1 ⟨rfl, n1⟩
    go_wp2
    go_ret
    exact ⟨rfl, n1⟩
  · go_enter Try.func3, Try.ntmps3
    go_wp2_with fail
    refine (fixed _).mono ?_
    rintro e w1 ⟨rfl, n1⟩
    go_wp2_with fail
    refine (new_ _).mono ?_
    rintro e w2 ⟨rfl, h2, n2⟩
    have n12 := n1.trans n2 (fun _ _ => False.elim)
    have hlo := n1.size
    clear n1 n2
    generalize w1.heap.size = b at *
    go_wp2
    go_loopw [4, 5, 7, 8, 9, 10, 11, 21] (fun r s _ _ _ _ _ i wr => ∃ (k : Nat) (d : Dsk) (v : Value), k ≤ n ∧ i = .int .i64 k ∧ Both w wr b b v d (300 * k) r s) (fun _ _ _ _ _ _ _ i _ => n - (intOf i).toNat)
    case atStart => exact ⟨0, fresh, .slice none 0 0, by omega, rfl, h2, Nat.le_refl _, rfl, ⟨none, 0, rfl, Nat.le_refl _, Reads.none_ _⟩, n12⟩
    case round =>
      clear h2 n12
      obtain ⟨k, d, v, hk, rfl, hat, hlen, rfl, ⟨A2, c2, rfl, hlc2, hrow⟩, hn2⟩ := hrel
      by_cases hlt : k < n
      · obtain ⟨a, ⟨hN1, hN2⟩, ⟨ha1, ha2⟩, hnc, ad, rfl, hact⟩ := HACT.out k hlt
        obtain ⟨hld, _⟩ := hact wr hn2
        have HR := Lib.hid (fun W hW => (hact W hW).2)
        obtain ⟨kind, A3, n3, c3, bs, N, at_, y⟩ := a
        simp only [actC] at hld hN1 hN2 ha1 ha2 hnc HR
        have hblt := hat.blk.lt
        have hvlt := fun g hg => (own_lt hat.own (k := g) hg).2
        have HAT := Lib.hid (hat.new ((Chg.refl (fun _ => False) wr).alloc (.cells #[.int .u8 (kind.toNat : Int), .slice A3 n3 c3, .int .i64 N, .int .i64 at_, .int .u8 (y.toNat : Int)] 28)))
        have HROW := Lib.hid ((hrow.chg' ((Chg.refl (fun _ => False) wr).alloc (.cells #[.int .u8 (kind.toNat : Int), .slice A3 n3 c3, .int .i64 N, .int .i64 at_, .int .u8 (y.toNat : Int)] 28)) (fun _ _ => id) (by omega)))
        have HN := Lib.hid (hn2.alloc (.cells #[.int .u8 (kind.toNat : Int), .slice A3 n3 c3, .int .i64 N, .int .i64 at_, .int .u8 (y.toNat : Int)] 28))
        have HBX := Lib.hid (Blk.new wr 28 #[.int .u8 (kind.toNat : Int), .slice A3 n3 c3, .int .i64 N, .int .i64 at_, .int .u8 (y.toNat : Int)])
        have HV := Lib.hid hvlt
        clear hact hat hrow hn2 hvlt
        by_cases h300 : 300 < (n3 : Int)
        · go_wp2
          go_ret
          exact ⟨rfl, HN.out⟩
        · have hk300 : d.b.length + n3 + 300 ≤ 300 * (k + 1) + 300 := by omega
          have HAW := Lib.hid hk300
          have hc0 := HBX.out.cell 0
          have hc1 := HBX.out.cell 1
          have hc2 := HBX.out.cell 2
          have hc3 := HBX.out.cell 3
          have hc4 := HBX.out.cell 4
          simp only [List.getElem?_toArray, List.getElem?_cons_zero, List.getElem?_cons_succ] at hc0 hc1 hc2 hc3 hc4
          have HC := Lib.hid (And.intro hc0 (And.intro hc1 (And.intro hc2 (And.intro hc3 hc4))))
          clear hc0 hc1 hc2 hc3 hc4
          go_upto_block 2 with fail
          generalize wr.alloc (.cells #[.int .u8 (kind.toNat : Int), .slice A3 n3 c3, .int .i64 N, .int .i64 at_, .int .u8 (y.toNat : Int)] 28) = w3 at *
          generalize wr.heap.size = gx at *
          have hc0 := HC.out.1
          have hc1 := HC.out.2.1
          have hc2 := HC.out.2.2.1
          have hc3 := HC.out.2.2.2.1
          have hc4 := HC.out.2.2.2.2
          go_cut [4, 5, 31] (fun r s _ wx => ∃ (d' : Dsk) (v' : Value), Both w wx b b v' d' (300 * (k + 1)) r s)
          case first =>
            have hgx3 : gx < w3.heap.size := HBX.out.lt
            have hq : (kind.toNat : Int) % 5 = 0 ∨ (kind.toNat : Int) % 5 = 1 ∨ (kind.toNat : Int) % 5 = 2 ∨ (kind.toNat : Int) % 5 = 3 ∨ (kind.toNat : Int) % 5 = 4 := by omega
            rcases hq with hq | hq | hq | hq | hq
            · have hE : writeE d n3 = 0 := by unfold writeE; rw [if_neg (by omega)]
              have hbn := (HR.out w3 HN.out).u8len
              have hF : writeF d bs = ⟨d.b ++ bs, d.s⟩ := by unfold writeF; rw [if_neg (by omega)]
              have k1 := write w3 b b v d HAT.out A3 n3 c3 bs _ (HR.out w3 HN.out) (by omega)
              rw [hE, hF] at k1
              have HBn := Lib.hid hbn
              clear hE hF hbn
              go_wp2_with fail
              refine k1.mono ?_
              clear k1
              rintro e w4 ⟨rfl, v4, h4, c4, b4⟩
              have hn4 := HAT.out.newF HN.out c4 hlo
              have hs4 := c4.size
              have hrow4 := HROW.out.chg' c4 (fun g hg => hg.2) (by omega)
              have hbx4 := HBX.out.chg c4 (fun h => by
                rcases h with h | h
                · omega
                · have := HV.out _ h
                  omega)
              have hgx4 := hbx4.lt
              have H4 := Lib.hid h4
              have HROW4 := Lib.hid hrow4
              have HN4 := Lib.hid hn4
              have hlb : d.b.length ≤ 24000 := by omega
              have F := Lib.hid (fun W (hW : Chg (fun g => w4.heap.size ≤ g) w4.drew W) => (hW.cell (p := ⟨gx, 1, none⟩) hgx4 (show ¬ w4.heap.size ≤ gx by omega)).trans (show w4.drew.cell? ⟨gx, 1, none⟩ = some (.slice A3 n3 c3) from hbx4.cell 1))
              clear h4 hrow4 hn4 hbx4 c4 b4
              go_wp2_with fail
              refine grow_start (fun g => w4.heap.size ≤ g) (by kernel_rfl) ?_
              refine grow_take (i := 1) (oi := { dst := some 40, op := Op.move (Operand.tmp 4), type := 26, pos := "law.go:52", after := #[], guard := none }) (v := ?_) rfl (by kernel_rfl) (by kernel_rfl) (by kernel_rfl) (by rfl) ?_ ?_; rotate_left; focus ((intro W hW; go_simp) <;> with_reducible rfl)
              simp only [Act.put, List.setIfInBounds_toArray, List.set_cons_zero, List.set_cons_succ]
              refine grow_take (i := 3) (oi := { dst := some 42, op := Op.fieldAddr 28 (Operand.tmp 7) 1, type := 0, pos := "law.go:52", after := #[], guard := none }) (v := ?_) rfl (by kernel_rfl) (by kernel_rfl) (by kernel_rfl) (by rfl) ?_ ?_; rotate_left; focus ((intro W hW; go_simp) <;> with_reducible rfl)
              simp only [Act.put, List.setIfInBounds_toArray, List.set_cons_zero, List.set_cons_succ]
              refine grow_take (i := 4) (oi := { dst := some 43, op := Op.load 26 (Operand.tmp 42), type := 26, pos := "law.go:52", after := #[{ on := 3, ground := Ground.data }], guard := none }) (v := ?_) rfl (by kernel_rfl) (by kernel_rfl) (by kernel_rfl) (by rfl) ?_ ?_; rotate_left; focus ((intro W hW; have fct := F.out W hW; go_simp) <;> with_reducible rfl)
              simp only [Act.put, List.setIfInBounds_toArray, List.set_cons_zero, List.set_cons_succ]
              refine grow_next (i := 0) (oi := { dst := some 39, op := Op.buildSlice 26 0 #[], type := 26, pos := "law.go:52", after := #[], guard := none }) (by kernel_rfl) rfl (by rfl) (fun K hK => ?_)
              go_simp
              refine hK _ _ ((Chg.refl _ _).alloc _) ?_
              clear hK K
              try simp only [Act.put, List.setIfInBounds_toArray, List.set_cons_zero, List.set_cons_succ]
              have m5 := ((Chg.refl (fun _ => False) w4).drew).alloc (.cells #[] 5)
              have F5 := Lib.hid (fun W (hW : Chg (fun g => w4.heap.size ≤ g) (w4.drew.alloc (.cells #[] 5)) W) => F.out W (((Chg.refl (fun g => w4.heap.size ≤ g) w4.drew).alloc (.cells #[] 5)).trans hW (fun _ _ => id)))
              refine grow_next (i := 2) (oi := { dst := some 41, op := Op.call { callee := Callee.builtin Builtin.append, args := #[Operand.tmp 39, Operand.tmp 40], argTypes := #[26, 26] }, type := 26, pos := "law.go:52", after := #[{ on := 0, ground := Ground.data }, { on := 1, ground := Ground.data }], guard := none }) (by kernel_rfl) rfl (by rfl) (fun K hK => ?_)
              refine wp_append_u8 _ (.tmp 39) (.tmp 40) rfl w4.heap.size _ [] (by rfl) (OwnB.empty (w := w4.drew) (Nat.le_refl _)) _ A2 d.b.length c2 d.b (by rfl) (HROW4.out.chg' m5 (fun _ _ => id) (by omega)) (by simp; omega) (by simp) ?_
              intro v5 w5 o5 g5 a5
              refine hK _ _ ((Chg.refl _ _).grown g5 fun g e _ => empty_row (w := w4.drew) (base := w4.heap.size) (Nat.le_refl _) e) ?_
              clear hK K
              try simp only [Act.put, List.setIfInBounds_toArray, List.set_cons_zero, List.set_cons_succ]
              have m6 : New w4 w5 := m5.grown g5 (fun g e hlt => absurd hlt (Nat.not_lt.2 (empty_row (base := w4.heap.size) (w := w4.drew) (Nat.le_refl _) e)))
              rw [List.nil_append] at o5
              have q5 := m6.size
              refine grow_next (i := 5) (oi := { dst := some 44, op := Op.call { callee := Callee.builtin Builtin.append, args := #[Operand.tmp 41, Operand.tmp 43], argTypes := #[26, 26] }, type := 26, pos := "law.go:52", after := #[{ on := 2, ground := Ground.data }, { on := 4, ground := Ground.data }, { on := 2, ground := Ground.chain }], guard := none }) (by kernel_rfl) rfl (by rfl) (fun K hK => ?_)
              refine wp_append_u8 _ (.tmp 41) (.tmp 43) rfl w4.heap.size _ d.b (by rfl) o5 _ A3 n3 c3 bs (by rfl) (HR.out _ (HN4.out.trans m6 fun _ _ => False.elim)) (by omega) (by omega) ?_
              intro v6 w6 o6 g6 a6
              refine hK _ _ ((Chg.refl _ _).grown g6 fun g e _ => (own_lt o5 e).1) ?_
              clear hK K
              try simp only [Act.put, List.setIfInBounds_toArray, List.set_cons_zero, List.set_cons_succ]
              have hn6 : Chg (fun g => w4.heap.size ≤ g) w4 w6 := (m6.mono fun _ _ => False.elim).grown g6 fun g e _ => (own_lt o5 e).1
              refine grow_take (i := 6) (oi := { dst := some 4, op := Op.assign (Operand.tmp 44), type := 26, pos := "law.go:52", after := #[{ on := 5, ground := Ground.data }, { on := 5, ground := Ground.chain }, { on := 0, ground := Ground.phase }, { on := 1, ground := Ground.phase }, { on := 2, ground := Ground.phase }, { on := 3, ground := Ground.phase }, { on := 4, ground := Ground.phase }, { on := 5, ground := Ground.phase }], guard := none }) (v := ?_) rfl (by kernel_rfl) (by kernel_rfl) (by kernel_rfl) (by rfl) ?_ ?_; rotate_left; focus ((intro W hW; go_simp) <;> with_reducible rfl)
              simp only [Act.put, List.setIfInBounds_toArray, List.set_cons_zero, List.set_cons_succ]
              refine grow_done (by kernel_rfl) ?_ _
              have HB := Lib.hid (both_of (m := 300 * (k + 1)) H4.out hn6 o6 HN4.out (by simp only [List.length_append]; have := HBn.out; omega) hlo)
              clear o5 o6 g5 g6 a5 a6 hn6 m5 m6
              go_wp2_with fail
              go_meet
              exact ⟨_, _, HB.out⟩
            · go_wp2_with fail
              refine (sync _ _ _ _ _ HAT.out).mono ?_
              rintro e w4 ⟨rfl, h4, c4⟩
              have hn4 : New w w4 := HN.out.trans c4 fun i hi e => by omega
              have HB := Lib.hid (both_keep (d := d) (d' := syncF d) (m := 300 * (k + 1)) (c := c2) h4 rfl (c4.mono fun _ _ h => .inl h) rfl HROW.out (by omega) hn4 (by omega) hlc2)
              clear h4 c4 hn4
              go_wp2_with fail
              go_meet
              exact ⟨_, _, HB.out⟩
            · have hE : resetE n3 = 0 := by unfold resetE; rw [if_neg (by omega)]
              have hbn := (HR.out w3 HN.out).u8len
              have hF : resetF d bs = ⟨bs, bs.length⟩ := by unfold resetF; rw [if_neg (by omega)]
              have k1 := reset w3 b b v d HAT.out A3 n3 c3 bs _ (HR.out w3 HN.out) (by omega)
              rw [hE, hF] at k1
              have HBn := Lib.hid hbn
              clear hE hF hbn
              go_wp2_with fail
              refine k1.mono ?_
              clear k1
              rintro e w4 ⟨rfl, v4, h4, c4, b4⟩
              have hn4 := HAT.out.newF HN.out c4 hlo
              have hs4 := c4.size
              have hbx4 := HBX.out.chg c4 (fun h => by
                rcases h with h | h
                · omega
                · have := HV.out _ h
                  omega)
              have hx1 : w4.cell? ⟨gx, 1, none⟩ = some (.slice A3 n3 c3) := hbx4.cell 1
              have hgx4 := hbx4.lt
              have H4 := Lib.hid h4
              have HN4 := Lib.hid hn4
              clear h4 hn4 hbx4 c4 b4
              go_wp2_with (at_builtin; refine stop ?_)
              delta Stop
              refine append_u8 _ rfl _ _ rfl w4.heap.size _ [] rfl (OwnB.empty (Nat.le_refl _)) _ A3 n3 c3 bs rfl (HR.out _ (HN4.out.alloc _)) (by simp; omega) (by simp) ?_
              intro v5 w5 o5 g5 a5
              rw [List.nil_append] at o5
              have m6 : Chg (fun g => w4.heap.size ≤ g) w4 w5 := ((Chg.refl _ w4).alloc (.cells #[] 5)).grown g5 fun g e hlt => ((OwnB.empty (w := w4) (base := w4.heap.size) (Nat.le_refl _)).lt g e).1
              have hcell5 : w5.cell? ⟨gx, 0, none⟩ = w5.cell? ⟨gx, 0, none⟩ := rfl
              have HB := Lib.hid (both_of (m := 300 * (k + 1)) H4.out m6 o5 HN4.out (by simp only; have := HBn.out; omega) hlo)
              obtain ⟨A5, c5, hv5, _⟩ := o5.form
              subst hv5
              clear o5 g5 a5 m6 hcell5
              go_wp2_with fail
              go_meet
              exact ⟨_, _, HB.out⟩
            · have k1 := crash w3 b b v d HAT.out N at_ y ha1 ha2
              go_wp2_with fail
              refine k1.mono ?_
              clear k1
              rintro e w4 ⟨rfl, v4, e4, h4, c4⟩
              have hn4 := HAT.out.newF HN.out c4 hlo
              have hs4 := c4.size
              have hbx4 := HBX.out.chg c4 (fun h => by
                rcases h with h | h
                · omega
                · have := HV.out _ h
                  omega)
              have hgx4 := hbx4.lt
              have H4 := Lib.hid h4
              have HN4 := Lib.hid hn4
              have HROW4 := Lib.hid (HROW.out.chg' c4 (fun g hg => hg.2) (by omega))
              have HBX4 := Lib.hid hbx4
              have hok := HAT.out.ok
              have HOK := Lib.hid hok
              have hds := hok.1
              have hlb : d.b.length ≤ 24000 := by omega
              clear h4 hn4 hbx4 c4 hok e4 hc0 hc1 hc2 hc3 hc4 hld
              go_wp2_with fail
              go_loopw [8, 9, 10, 11, 76] (fun lv _ _ _ i wr => ∃ (j : Nat) (u : Value), u = lv ∧ j ≤ d.b.length ∧ i = .int .i64 j ∧ OwnB wr w4.heap.size u (leftL d N at_ y j) ∧ Chg (fun g => w4.heap.size ≤ g) w4 wr) (fun _ _ _ _ i _ => d.b.length - (intOf i).toNat)
              case atStart => exact ⟨0, .slice none 0 0, rfl, by omega, rfl, by rw [left_zero]; exact OwnB.nil, Chg.refl _ _⟩
              case round =>
                rename_i wx _
                obtain ⟨j, u, rfl, hj, rfl, hu, hcg⟩ := hrel
                by_cases hjl : j < d.b.length
                · obtain ⟨ar, x, rfl, hgb, hx, hcx⟩ := (HROW4.out.chg' hcg (fun g hg => by omega) (by omega)).byte hjl
                  have hk2 := (hcg.cell (p := ⟨gx, 2, none⟩) hgx4 (show ¬ w4.heap.size ≤ gx by omega)).trans (show w4.cell? ⟨gx, 2, none⟩ = some (.int .i64 N) from HBX4.out.cell 2)
                  have hk3 := (hcg.cell (p := ⟨gx, 3, none⟩) hgx4 (show ¬ w4.heap.size ≤ gx by omega)).trans (show w4.cell? ⟨gx, 3, none⟩ = some (.int .i64 at_) from HBX4.out.cell 3)
                  have hk4 := (hcg.cell (p := ⟨gx, 4, none⟩) hgx4 (show ¬ w4.heap.size ≤ gx by omega)).trans (show w4.cell? ⟨gx, 4, none⟩ = some (.int .u8 (y.toNat : Int)) from HBX4.out.cell 4)
                  have hll : (leftL d N at_ y j).length ≤ 24000 := by unfold leftL; rw [List.length_take, crashB_length]; omega
                  have HLL := Lib.hid hll
                  have HX := Lib.hid hx
                  have hjl' : (j : Int) < d.b.length := by omega
                  clear hll hx
                  obtain ⟨q, hq⟩ : ∃ q : Int, (j : Int) - d.s = q := ⟨_, rfl⟩
                  have HQ := Lib.hid hq
                  have hxor := xor_u8 x y
                  have hsz := hcg.size
                  have hjd : IntKind.i64.wrap ((j : Int) - d.s) = (j : Int) - d.s := IntWalk.i64_in _ (by omega)
                  rw [hq] at hjd
                  by_cases hq0 : q < 0
                  · have HA := Lib.hid (left_add (at_ := at_) (y := y) (N := N) HX.out (by rw [HQ.out]; exact .inl hq0))
                    have hif : (if 0 ≤ (j : Int) - d.s ∧ (j : Int) - d.s = at_ then x ^^^ y else x) = x := by rw [HQ.out, if_neg (by omega)]
                    have HIF := Lib.hid hif
                    clear hif
                    go_wp2_with (at_builtin; refine stop ?_)
                    delta Stop
                    refine append_u8 _ rfl _ _ rfl w4.heap.size _ _ rfl (own_chg hu ((Chg.refl (fun _ => False) _).alloc (.cells #[.int .u8 (x.toNat : Int)] 5)) fun _ _ => id) _ _ 1 1 [x] rfl (reads_lit _ [x] (0, 0) 5) (by have := HLL.out; omega) (by simp; omega) ?_
                    intro v5 w5 o5 g5 a5
                    have m5 := (hcg.alloc (.cells #[.int .u8 (x.toNat : Int)] 5)).grown g5 fun g e hlt => (own_lt hu e).1
                    have o6 : OwnB w5 w4.heap.size v5 (leftL d N at_ y (j + 1)) := by rw [HA.out, HIF.out]; exact o5
                    clear o5 g5 a5 hu hcg
                    go_wp2
                    go_roundw
                    case rel => exact ⟨j + 1, v5, rfl, by omega, by go_num, o6, m5⟩
                    case measure => simp [intOf]; omega
                  · by_cases hqN : N ≤ q
                    · have HA := Lib.hid (left_skip (at_ := at_) (y := y) (N := N) hjl (by rw [HQ.out]; omega) (by rw [HQ.out]; exact hqN))
                      go_wp2_with fail
                      go_roundw
                      case rel => exact ⟨j + 1, u, rfl, by omega, by go_num, by rw [HA.out]; exact hu, hcg⟩
                      case measure => simp [intOf]; omega
                    · have HA := Lib.hid (left_add (at_ := at_) (y := y) (N := N) HX.out (by rw [HQ.out]; exact .inr (by omega)))
                      by_cases hqa : q = at_
                      · have hif : (if 0 ≤ (j : Int) - d.s ∧ (j : Int) - d.s = at_ then x ^^^ y else x) = x ^^^ y := by rw [HQ.out, if_pos (by omega)]
                        have HIF := Lib.hid hif
                        have hqb : (q == at_) = true := by simpa using hqa
                        clear hif hqa
                        generalize x ^^^ y = z at *
                        go_wp2_with (at_builtin; refine stop ?_)
                        delta Stop
                        refine append_u8 _ rfl _ _ rfl w4.heap.size _ _ rfl (own_chg hu ((Chg.refl (fun _ => False) _).alloc (.cells #[.int .u8 (z.toNat : Int)] 5)) fun _ _ => id) _ _ 1 1 [z] rfl (reads_lit _ [z] (0, 0) 5) (by have := HLL.out; omega) (by simp; omega) ?_
                        intro v5 w5 o5 g5 a5
                        have m5 := (hcg.alloc (.cells #[.int .u8 (z.toNat : Int)] 5)).grown g5 fun g e hlt => (own_lt hu e).1
                        have o6 : OwnB w5 w4.heap.size v5 (leftL d N at_ y (j + 1)) := by rw [HA.out, HIF.out]; exact o5
                        clear o5 g5 a5 hu hcg
                        go_wp2
                        go_roundw
                        case rel => exact ⟨j + 1, v5, rfl, by omega, by go_num, o6, m5⟩
                        case measure => simp [intOf]; omega
                      · have hif : (if 0 ≤ (j : Int) - d.s ∧ (j : Int) - d.s = at_ then x ^^^ y else x) = x := by rw [HQ.out, if_neg (by omega)]
                        have HIF := Lib.hid hif
                        have hqb : (q == at_) = false := by simpa using hqa
                        clear hif hqa
                        go_wp2_with (at_builtin; refine stop ?_)
                        delta Stop
                        refine append_u8 _ rfl _ _ rfl w4.heap.size _ _ rfl (own_chg hu ((Chg.refl (fun _ => False) _).alloc (.cells #[.int .u8 (x.toNat : Int)] 5)) fun _ _ => id) _ _ 1 1 [x] rfl (reads_lit _ [x] (0, 0) 5) (by have := HLL.out; omega) (by simp; omega) ?_
                        intro v5 w5 o5 g5 a5
                        have m5 := (hcg.alloc (.cells #[.int .u8 (x.toNat : Int)] 5)).grown g5 fun g e hlt => (own_lt hu e).1
                        have o6 : OwnB w5 w4.heap.size v5 (leftL d N at_ y (j + 1)) := by rw [HA.out, HIF.out]; exact o5
                        clear o5 g5 a5 hu hcg
                        go_wp2
                        go_roundw
                        case rel => exact ⟨j + 1, v5, rfl, by omega, by go_num, o6, m5⟩
                        case measure => simp [intOf]; omega
                · obtain rfl : j = d.b.length := by omega
                  rw [left_end HOK.out] at hu
                  have hlen2 : (crashF d N at_ y).b.length ≤ 300 * (k + 1) := by
                    have : (crashF d N at_ y).b.length ≤ d.b.length := by simp only [crashF, List.length_take, crashB_length]; omega
                    omega
                  have HB := Lib.hid (both_of (m := 300 * (k + 1)) H4.out hcg hu HN4.out hlen2 hlo)
                  clear hu hcg hlen2
                  go_wp2_with fail
                  go_meet
                  exact ⟨_, _, HB.out⟩
            · have k1 := spoil w3 b b v d HAT.out at_ y ha1 ha2
              have hlb : d.b.length ≤ 24000 := by omega
              by_cases hin : 0 ≤ at_ ∧ at_ < d.b.length
              · obtain ⟨i, rfl⟩ := Int.eq_ofNat_of_zero_le hin.1
                have hi : i < d.b.length := by omega
                have hF : spoilF d (i : Int) y = ⟨turn d.b i y, d.s⟩ := by unfold spoilF; rw [if_pos hin, Int.toNat_natCast]
                rw [hF] at k1
                have hii : (i : Int) < d.b.length := by omega
                clear hF hin
                go_wp2_with fail
                refine k1.mono ?_
                clear k1
                rintro e w4 ⟨rfl, h4, c4⟩
                have hn4 := HAT.out.newF HN.out c4 hlo
                have hs4 := c4.size
                have hbx4 := HBX.out.chg c4 (fun h => by
                  rcases h with h | h
                  · omega
                  · have := HV.out _ h
                    omega)
                have hgx4 := hbx4.lt
                have hx3 : w4.cell? ⟨gx, 3, none⟩ = some (.int .i64 (i : Int)) := hbx4.cell 3
                have hx4 : w4.cell? ⟨gx, 4, none⟩ = some (.int .u8 (y.toNat : Int)) := hbx4.cell 4
                have H4 := Lib.hid h4
                have HN4 := Lib.hid hn4
                have HROW4 := Lib.hid (HROW.out.chg' c4 (fun g hg => hg.2) (by omega))
                have HBX4 := Lib.hid hbx4
                clear h4 hn4 hbx4 c4 hc0 hc1 hc2 hc3 hc4 hld
                go_wp2_with (at_builtin; refine stop ?_)
                delta Stop
                refine append_u8 _ rfl _ _ rfl w4.heap.size _ [] rfl (OwnB.empty (Nat.le_refl _)) _ A2 d.b.length c2 d.b rfl (HROW4.out.chg' ((Chg.refl (fun _ => False) w4).alloc _) (fun _ _ => id) (by omega)) (by simp; omega) (by simp) ?_
                intro v5 w5 o5 g5 a5
                rw [List.nil_append] at o5
                have m5 : Chg (fun g => w4.heap.size ≤ g) w4 w5 := ((Chg.refl _ w4).alloc (.cells #[] 5)).grown g5 fun g e hlt => empty_row (w := w4) (base := w4.heap.size) (Nat.le_refl _) e
                obtain ⟨g, c5, rfl, hgl, _⟩ := World.ownsRow.form o5 (by omega)
                have hcell := World.ownsRow.cellAt o5 i (by omega)
                rw [u8s_get, List.getElem?_eq_getElem hi] at hcell
                have hfr := World.ownsRow.frozenAt o5 i
                have hgg : g ≠ gx := by omega
                have hx3' := (m5.cell (p := ⟨gx, 3, none⟩) hgx4 (show ¬ w4.heap.size ≤ gx by omega)).trans hx3
                have hx4' := (m5.cell (p := ⟨gx, 4, none⟩) hgx4 (show ¬ w4.heap.size ≤ gx by omega)).trans hx4
                have hx : d.b.getD i 0 = d.b[i] := by simp [List.getD_eq_getElem?_getD, hi]
                have ho6 := o5.stored (i := i) (d.b[i] ^^^ y)
                have m6 : Chg (fun g => w4.heap.size ≤ g) w4 (w5.setCell ⟨g, i, none⟩ (.int .u8 ((d.b[i] ^^^ y).toNat : Int))) := m5.setCell (p := ⟨g, i, none⟩) (fun _ => hgl) _
                rw [← hx] at ho6
                change OwnB _ _ _ (turn d.b i y) at ho6
                rw [hx] at ho6
                have HB := Lib.hid (both_of (m := 300 * (k + 1)) H4.out m6.drew (World.ownsRow.drew ho6) HN4.out (by simp only [turn_length]; omega) hlo)
                have hxor := xor_u8 d.b[i] y
                have HH := Lib.hid hi
                clear ho6 m6 o5 g5 a5 m5 hx hx3 hx4 hgl
                generalize d.b[i] = x at *
                generalize d.b.length = L at *
                go_wp2_with fail
                refine wp_region_tail 9 (by kernel_rfl) (by kernel_rfl) ?_
                simp only [List.take_succ_cons, List.take_zero, List.drop_succ_cons, List.drop_zero]
                repeat still_step
                refine wpStill_nil ?_
                go_wp2_with fail
                go_meet
                exact ⟨_, _, HB.out⟩
              · have hF : spoilF d at_ y = d := by unfold spoilF; rw [if_neg hin]
                rw [hF] at k1
                clear hF
                go_wp2_with fail
                refine k1.mono ?_
                clear k1
                rintro e w4 ⟨rfl, h4, c4⟩
                have hn4 := HAT.out.newF HN.out c4 hlo
                have hs4 := c4.size
                have hbx4 := HBX.out.chg c4 (fun h => by
                  rcases h with h | h
                  · omega
                  · have := HV.out _ h
                    omega)
                have hx3 : w4.cell? ⟨gx, 3, none⟩ = some (.int .i64 at_) := hbx4.cell 3
                have HB := Lib.hid (both_keep (d := d) (d' := d) (m := 300 * (k + 1)) (c := c2) h4 rfl c4 rfl HROW.out (by omega) hn4 (by omega) hlc2)
                clear h4 c4 hn4 hbx4 hc0 hc1 hc2 hc3 hc4 hld
                by_cases ha0 : at_ < 0
                · clear hin
                  go_wp2_with fail
                  go_meet
                  exact ⟨_, _, HB.out⟩
                · have hal : (d.b.length : Int) ≤ at_ := by omega
                  clear hin
                  go_wp2_with fail
                  go_meet
                  exact ⟨_, _, HB.out⟩
          case rest =>
            clear hc0 hc1 hc2 hc3 hc4 HC HBX HROW HAT HN hld
            obtain ⟨d', v', hat, hlen', rfl, ⟨Ar, cr, rfl, hlc', hrow⟩, hn'⟩ := hcut
            have C1 := Lib.hid (bytes _ _ _ _ _ hat.drew)
            have F := Lib.hid (fun W (hW : New wc.drew W) => run_str (P := Try.prog) Try.underlying26 Try.underlying5 Try.underlying9 (hrow.chg' ((Chg.refl _ wc).drew.trans hW (fun _ _ => id)) (fun _ _ => id) (by omega)) cr)
            have HAT := Lib.hid hat
            have HROW := Lib.hid hrow
            have HN := Lib.hid hn'
            clear hat hrow hn'
            go_wp2_with fail
            refine grow_start (fun _ => False) (by kernel_rfl) ?_
            refine grow_take (i := 0) (oi := { dst := some 144, op := Op.move (Operand.tmp 3), type := 24, pos := "law.go:85", after := #[], guard := none }) (v := ?_) rfl (by kernel_rfl) (by kernel_rfl) (by kernel_rfl) (by rfl) ?_ ?_; rotate_left; focus ((intro W hW; go_simp) <;> with_reducible rfl)
            simp only [Act.put, List.setIfInBounds_toArray, List.set_cons_zero, List.set_cons_succ]
            refine grow_take (i := 3) (oi := { dst := some 147, op := Op.move (Operand.tmp 4), type := 26, pos := "law.go:85", after := #[], guard := none }) (v := ?_) rfl (by kernel_rfl) (by kernel_rfl) (by kernel_rfl) (by rfl) ?_ ?_; rotate_left; focus ((intro W hW; go_simp) <;> with_reducible rfl)
            simp only [Act.put, List.setIfInBounds_toArray, List.set_cons_zero, List.set_cons_succ]
            refine grow_take (i := 4) (oi := { dst := some 148, op := Op.convert 26 9 (Operand.tmp 147), type := 9, pos := "law.go:85", after := #[{ on := 3, ground := Ground.data }], guard := none }) (v := ?_) rfl (by kernel_rfl) (by kernel_rfl) (by kernel_rfl) (by rfl) ?_ ?_; rotate_left; focus ((intro W hW; have fct := F.out W hW; go_simp) <;> with_reducible rfl)
            simp only [Act.put, List.setIfInBounds_toArray, List.set_cons_zero, List.set_cons_succ]
            refine grow_next (i := 1) (oi := { dst := some 145, op := Op.call { callee := Callee.value (Operand.func 14), args := #[Operand.tmp 144], argTypes := #[24] }, type := 26, pos := "law.go:85", after := #[{ on := 0, ground := Ground.data }], guard := none }) (by kernel_rfl) rfl (by rfl) (fun K hK => ?_)
            go_simp
            refine C1.out.mono ?_
            rintro e w8 ⟨u8, rfl, ho8, c8⟩
            refine hK _ _ c8 ?_
            clear hK K
            try simp only [Act.put, List.setIfInBounds_toArray, List.set_cons_zero, List.set_cons_succ]
            have F8 := Lib.hid (fun W (hW : New w8 W) => And.intro (F.out W (c8.trans hW (fun _ _ => id))) (bstrN ho8 hW))
            have n8 := (Chg.refl (fun _ => False) wc).drew.trans c8 (fun _ _ => id)
            have C2 := synced _ _ _ _ _ (HAT.out.new n8)
            clear ho8 c8
            refine grow_take (i := 2) (oi := { dst := some 146, op := Op.convert 26 9 (Operand.tmp 145), type := 9, pos := "law.go:85", after := #[{ on := 1, ground := Ground.data }], guard := none }) (v := ?_) rfl (by kernel_rfl) (by kernel_rfl) (by kernel_rfl) (by rfl) ?_ ?_; rotate_left; focus ((intro W hW; have fct := F8.out W hW; go_simp) <;> with_reducible rfl)
            simp only [Act.put, List.setIfInBounds_toArray, List.set_cons_zero, List.set_cons_succ]
            refine grow_take (i := 5) (oi := { dst := some 149, op := Op.binOp BinOp.neq 9 (Operand.tmp 146) (Operand.tmp 148) 9, type := 4, pos := "law.go:85", after := #[{ on := 2, ground := Ground.data }, { on := 4, ground := Ground.data }], guard := none }) (v := ?_) rfl (by kernel_rfl) (by kernel_rfl) (by kernel_rfl) (by rfl) ?_ ?_; rotate_left; focus ((intro W hW; have fct := F8.out W hW; go_simp) <;> with_reducible rfl)
            simp only [Act.put, List.setIfInBounds_toArray, List.set_cons_zero, List.set_cons_succ]
            refine grow_take (i := 6) (oi := { dst := some 150, op := Op.move (Operand.tmp 149), type := 4, pos := "law.go:85", after := #[{ on := 5, ground := Ground.data }, { on := 1, ground := Ground.chain }], guard := none }) (v := ?_) rfl (by kernel_rfl) (by kernel_rfl) (by kernel_rfl) (by rfl) ?_ ?_; rotate_left; focus ((intro W hW; go_simp) <;> with_reducible rfl)
            simp only [Act.put, List.setIfInBounds_toArray, List.set_cons_zero, List.set_cons_succ]
            first | (refine grow_take (i := 7) (oi := { dst := some 151, op := Op.move (Operand.tmp 3), type := 24, pos := "law.go:85", after := #[{ on := 6, ground := Ground.guard }], guard := some (6, false) }) (v := ?_) rfl (by kernel_rfl) (by kernel_rfl) (by kernel_rfl) (by rfl) ?_ ?_; rotate_left; focus ((intro W hW; go_simp) <;> with_reducible rfl)) | refine grow_skip (i := 7) (oi := { dst := some 151, op := Op.move (Operand.tmp 3), type := 24, pos := "law.go:85", after := #[{ on := 6, ground := Ground.guard }], guard := some (6, false) }) rfl (by kernel_rfl) (by kernel_rfl) (by kernel_rfl) (by rfl) ?_ | fail "op 7"
            simp only [Act.put, List.setIfInBounds_toArray, List.set_cons_zero, List.set_cons_succ]
            first | (refine grow_take (i := 9) (oi := { dst := some 153, op := Op.move (Operand.tmp 5), type := 3, pos := "law.go:85", after := #[{ on := 6, ground := Ground.guard }], guard := some (6, false) }) (v := ?_) rfl (by kernel_rfl) (by kernel_rfl) (by kernel_rfl) (by rfl) ?_ ?_; rotate_left; focus ((intro W hW; go_simp) <;> with_reducible rfl)) | refine grow_skip (i := 9) (oi := { dst := some 153, op := Op.move (Operand.tmp 5), type := 3, pos := "law.go:85", after := #[{ on := 6, ground := Ground.guard }], guard := some (6, false) }) rfl (by kernel_rfl) (by kernel_rfl) (by kernel_rfl) (by rfl) ?_ | fail "op 9"
            simp only [Act.put, List.setIfInBounds_toArray, List.set_cons_zero, List.set_cons_succ]
            refine grow_next (i := 8) (oi := { dst := some 152, op := Op.call { callee := Callee.value (Operand.func 15), args := #[Operand.tmp 151], argTypes := #[24] }, type := 3, pos := "law.go:85", after := #[{ on := 7, ground := Ground.data }, { on := 6, ground := Ground.chain }, { on := 6, ground := Ground.guard }], guard := some (6, false) }) (by kernel_rfl) rfl (by rfl) (fun K hK => ?_)
            go_simp
            refine C2.mono ?_
            clear C2
            rintro e w9 ⟨rfl, rfl⟩
            refine hK _ _ (Chg.refl _ _) ?_
            clear hK K
            try simp only [Act.put, List.setIfInBounds_toArray, List.set_cons_zero, List.set_cons_succ]
            skip
            first | (refine grow_take (i := 10) (oi := { dst := some 154, op := Op.binOp BinOp.neq 3 (Operand.tmp 152) (Operand.tmp 153) 3, type := 4, pos := "law.go:85", after := #[{ on := 8, ground := Ground.data }, { on := 9, ground := Ground.data }, { on := 6, ground := Ground.guard }], guard := some (6, false) }) (v := ?_) rfl (by kernel_rfl) (by kernel_rfl) (by kernel_rfl) (by rfl) ?_ ?_; rotate_left; focus ((intro W hW; have fct := F8.out W hW; go_simp) <;> with_reducible rfl)) | refine grow_skip (i := 10) (oi := { dst := some 154, op := Op.binOp BinOp.neq 3 (Operand.tmp 152) (Operand.tmp 153) 3, type := 4, pos := "law.go:85", after := #[{ on := 8, ground := Ground.data }, { on := 9, ground := Ground.data }, { on := 6, ground := Ground.guard }], guard := some (6, false) }) rfl (by kernel_rfl) (by kernel_rfl) (by kernel_rfl) (by rfl) ?_ | fail "op 10"
            simp only [Act.put, List.setIfInBounds_toArray, List.set_cons_zero, List.set_cons_succ]
            refine grow_take (i := 11) (oi := { dst := some 155, op := Op.pick (Operand.tmp 150) (Operand.const (Value.bool true)) (Operand.tmp 154), type := 4, pos := "law.go:85", after := #[{ on := 6, ground := Ground.data }, { on := 10, ground := Ground.data }], guard := none }) (v := ?_) rfl (by kernel_rfl) (by kernel_rfl) (by kernel_rfl) (by rfl) ?_ ?_; rotate_left; focus ((intro W hW; go_simp) <;> with_reducible rfl)
            simp only [Act.put, List.setIfInBounds_toArray, List.set_cons_zero, List.set_cons_succ]
            refine grow_done (by kernel_rfl) ?_ _
            go_wp2
            go_roundw
            case rel => exact ⟨k + 1, d', v', by omega, by go_num, HAT.out.new n8, hlen', rfl, ⟨Ar, cr, rfl, hlc', (HROW.out.chg' n8 (fun _ _ => id) (by omega)).mono fun g hg => ⟨Nat.lt_of_lt_of_le hg.1 n8.size, hg.2⟩⟩, HN.out.trans n8 fun _ _ => False.elim⟩
            case measure => simp [intOf]; omega
      · obtain rfl : k = n := by omega
        have hat0 := hat
        have hrow0 := hrow
        clear hat hrow
        go_wp2_with fail
        refine (twin _ _ _ _ _ hat0).mono ?_
        rintro e w3 ⟨bt, vt, rfl, ht, c3⟩
        have hat3 := hat0.new c3
        have ap := hat0.apart ht (Nat.le_refl _)
        have hn3 := hn2.trans c3 fun _ _ => False.elim
        have hrow3 := hrow0.chg' c3 (fun _ _ => id) (by omega)
        have hs3 := c3.size
        have hbt := ht.low
        have hbl := hat0.blk.lt
        have hs2 := hn2.size
        have htl := fun g hg => (ht.foot (k := g) hg).1
        clear hat0 hrow0 hn2 c3
        have m4 := (Chg.refl (fun _ => False) w3).alloc (.cells (u8s [1]).toArray 5)
        have k1 := write _ _ _ _ _ (ht.new m4) _ 1 1 [1] _ (reads_lit w3 [1] (0, 0) 5) (by omega)
        go_wp2_with fail
        refine k1.mono ?_
        clear k1
        rintro e w4 ⟨rfl, v4, h4, c4, b4⟩
        have hat4 := (hat3.new m4).chgF c4 ap
        have hrow4 := (hrow3.chg' m4 (fun _ _ => id) (by omega)).chg' c4 (fun g hg hf => by have := htl g hf; omega) (by omega)
        have ap4 : Apart b v bt v4 := (ap.symm.step (hat3.new m4) b4).symm
        have hn4 : New w w4 := (hn3.alloc _).trans c4 fun g hg hf => by have := htl g hf; omega
        have hv4 : ∀ g, Foot bt v4 g → wr.heap.size ≤ g := fun g hf => (h4.foot hf).1
        clear hat3 hrow3 hn3 c4 b4 ht ap m4
        have k1 := spoil _ _ _ _ _ h4 0 1 (by omega) (by omega)
        go_wp2_with fail
        refine k1.mono ?_
        clear k1
        rintro e w5 ⟨rfl, h5, c5⟩
        have hat5 := hat4.chgF c5 ap4
        have hrow5 := hrow4.chg' c5 (fun g hg hf => by have := hv4 g hf; omega) (by omega)
        have hn5 : New w w5 := hn4.trans c5 fun g hg hf => by have := hv4 g hf; omega
        have hsy : (spoilF (writeF d [1]) 0 1).s = d.s := by rw [spoil_s, write_s]
        have HSY := Lib.hid hsy
        clear hat4 hrow4 hn4 c5 h4 ap4 hv4 htl hsy
        have C1 := Lib.hid (bytes _ _ _ _ _ hat5.drew)
        have F := Lib.hid (fun W (hW : New w5.drew W) => run_str (P := Try.prog) Try.underlying26 Try.underlying5 Try.underlying9 (hrow5.chg' ((Chg.refl _ w5).drew.trans hW (fun _ _ => id)) (fun _ _ => id) (by omega)) c2)
        have H5 := Lib.hid h5
        have HN := Lib.hid hn5
        clear hat5 hrow5 hn5 h5
        go_wp2_with fail
        refine grow_start (fun _ => False) (by kernel_rfl) ?_
        refine grow_take (i := 0) (oi := { dst := some 164, op := Op.move (Operand.tmp 3), type := 24, pos := "law.go:92", after := #[], guard := none }) (v := ?_) rfl (by kernel_rfl) (by kernel_rfl) (by kernel_rfl) (by rfl) ?_ ?_; rotate_left; focus ((intro W hW; go_simp) <;> with_reducible rfl)
        simp only [Act.put, List.setIfInBounds_toArray, List.set_cons_zero, List.set_cons_succ]
        refine grow_take (i := 3) (oi := { dst := some 167, op := Op.move (Operand.tmp 4), type := 26, pos := "law.go:92", after := #[], guard := none }) (v := ?_) rfl (by kernel_rfl) (by kernel_rfl) (by kernel_rfl) (by rfl) ?_ ?_; rotate_left; focus ((intro W hW; go_simp) <;> with_reducible rfl)
        simp only [Act.put, List.setIfInBounds_toArray, List.set_cons_zero, List.set_cons_succ]
        refine grow_take (i := 4) (oi := { dst := some 168, op := Op.convert 26 9 (Operand.tmp 167), type := 9, pos := "law.go:92", after := #[{ on := 3, ground := Ground.data }], guard := none }) (v := ?_) rfl (by kernel_rfl) (by kernel_rfl) (by kernel_rfl) (by rfl) ?_ ?_; rotate_left; focus ((intro W hW; have fct := F.out W hW; go_simp) <;> with_reducible rfl)
        simp only [Act.put, List.setIfInBounds_toArray, List.set_cons_zero, List.set_cons_succ]
        refine grow_next (i := 1) (oi := { dst := some 165, op := Op.call { callee := Callee.value (Operand.func 14), args := #[Operand.tmp 164], argTypes := #[24] }, type := 26, pos := "law.go:92", after := #[{ on := 0, ground := Ground.data }], guard := none }) (by kernel_rfl) rfl (by rfl) (fun K hK => ?_)
        go_simp
        refine C1.out.mono ?_
        rintro e w8 ⟨u8, rfl, ho8, c8⟩
        refine hK _ _ c8 ?_
        clear hK K
        try simp only [Act.put, List.setIfInBounds_toArray, List.set_cons_zero, List.set_cons_succ]
        have F8 := Lib.hid (fun W (hW : New w8 W) => And.intro (F.out W (c8.trans hW (fun _ _ => id))) (bstrN ho8 hW))
        have n8 := (Chg.refl (fun _ => False) w5).drew.trans c8 (fun _ _ => id)
        have C2 := synced _ _ _ _ _ (H5.out.new n8)
        rw [HSY.out] at C2
        clear ho8 c8
        refine grow_take (i := 2) (oi := { dst := some 166, op := Op.convert 26 9 (Operand.tmp 165), type := 9, pos := "law.go:92", after := #[{ on := 1, ground := Ground.data }], guard := none }) (v := ?_) rfl (by kernel_rfl) (by kernel_rfl) (by kernel_rfl) (by rfl) ?_ ?_; rotate_left; focus ((intro W hW; have fct := F8.out W hW; go_simp) <;> with_reducible rfl)
        simp only [Act.put, List.setIfInBounds_toArray, List.set_cons_zero, List.set_cons_succ]
        refine grow_take (i := 5) (oi := { dst := some 169, op := Op.binOp BinOp.eql 9 (Operand.tmp 166) (Operand.tmp 168) 9, type := 4, pos := "law.go:92", after := #[{ on := 2, ground := Ground.data }, { on := 4, ground := Ground.data }], guard := none }) (v := ?_) rfl (by kernel_rfl) (by kernel_rfl) (by kernel_rfl) (by rfl) ?_ ?_; rotate_left; focus ((intro W hW; have fct := F8.out W hW; go_simp) <;> with_reducible rfl)
        simp only [Act.put, List.setIfInBounds_toArray, List.set_cons_zero, List.set_cons_succ]
        refine grow_take (i := 6) (oi := { dst := some 170, op := Op.move (Operand.tmp 169), type := 4, pos := "law.go:92", after := #[{ on := 5, ground := Ground.data }, { on := 1, ground := Ground.chain }], guard := none }) (v := ?_) rfl (by kernel_rfl) (by kernel_rfl) (by kernel_rfl) (by rfl) ?_ ?_; rotate_left; focus ((intro W hW; go_simp) <;> with_reducible rfl)
        simp only [Act.put, List.setIfInBounds_toArray, List.set_cons_zero, List.set_cons_succ]
        first | (refine grow_take (i := 7) (oi := { dst := some 171, op := Op.move (Operand.tmp 12), type := 24, pos := "law.go:92", after := #[{ on := 6, ground := Ground.guard }], guard := some (6, true) }) (v := ?_) rfl (by kernel_rfl) (by kernel_rfl) (by kernel_rfl) (by rfl) ?_ ?_; rotate_left; focus ((intro W hW; go_simp) <;> with_reducible rfl)) | refine grow_skip (i := 7) (oi := { dst := some 171, op := Op.move (Operand.tmp 12), type := 24, pos := "law.go:92", after := #[{ on := 6, ground := Ground.guard }], guard := some (6, true) }) rfl (by kernel_rfl) (by kernel_rfl) (by kernel_rfl) (by rfl) ?_ | fail "op 7"
        simp only [Act.put, List.setIfInBounds_toArray, List.set_cons_zero, List.set_cons_succ]
        first | (refine grow_take (i := 9) (oi := { dst := some 173, op := Op.move (Operand.tmp 5), type := 3, pos := "law.go:92", after := #[{ on := 6, ground := Ground.guard }], guard := some (6, true) }) (v := ?_) rfl (by kernel_rfl) (by kernel_rfl) (by kernel_rfl) (by rfl) ?_ ?_; rotate_left; focus ((intro W hW; go_simp) <;> with_reducible rfl)) | refine grow_skip (i := 9) (oi := { dst := some 173, op := Op.move (Operand.tmp 5), type := 3, pos := "law.go:92", after := #[{ on := 6, ground := Ground.guard }], guard := some (6, true) }) rfl (by kernel_rfl) (by kernel_rfl) (by kernel_rfl) (by rfl) ?_ | fail "op 9"
        simp only [Act.put, List.setIfInBounds_toArray, List.set_cons_zero, List.set_cons_succ]
        refine grow_next (i := 8) (oi := { dst := some 172, op := Op.call { callee := Callee.value (Operand.func 15), args := #[Operand.tmp 171], argTypes := #[24] }, type := 3, pos := "law.go:92", after := #[{ on := 7, ground := Ground.data }, { on := 6, ground := Ground.chain }, { on := 6, ground := Ground.guard }], guard := some (6, true) }) (by kernel_rfl) rfl (by rfl) (fun K hK => ?_)
        go_simp
        refine C2.mono ?_
        clear C2
        rintro e w9 ⟨rfl, rfl⟩
        refine hK _ _ (Chg.refl _ _) ?_
        clear hK K
        try simp only [Act.put, List.setIfInBounds_toArray, List.set_cons_zero, List.set_cons_succ]
        skip
        first | (refine grow_take (i := 10) (oi := { dst := some 174, op := Op.binOp BinOp.eql 3 (Operand.tmp 172) (Operand.tmp 173) 3, type := 4, pos := "law.go:92", after := #[{ on := 8, ground := Ground.data }, { on := 9, ground := Ground.data }, { on := 6, ground := Ground.guard }], guard := some (6, true) }) (v := ?_) rfl (by kernel_rfl) (by kernel_rfl) (by kernel_rfl) (by rfl) ?_ ?_; rotate_left; focus ((intro W hW; have fct := F8.out W hW; go_simp) <;> with_reducible rfl)) | refine grow_skip (i := 10) (oi := { dst := some 174, op := Op.binOp BinOp.eql 3 (Operand.tmp 172) (Operand.tmp 173) 3, type := 4, pos := "law.go:92", after := #[{ on := 8, ground := Ground.data }, { on := 9, ground := Ground.data }, { on := 6, ground := Ground.guard }], guard := some (6, true) }) rfl (by kernel_rfl) (by kernel_rfl) (by kernel_rfl) (by rfl) ?_ | fail "op 10"
        simp only [Act.put, List.setIfInBounds_toArray, List.set_cons_zero, List.set_cons_succ]
        refine grow_take (i := 11) (oi := { dst := some 175, op := Op.pick (Operand.tmp 170) (Operand.tmp 174) (Operand.const (Value.bool false)), type := 4, pos := "law.go:92", after := #[{ on := 6, ground := Ground.data }, { on := 10, ground := Ground.data }], guard := none }) (v := ?_) rfl (by kernel_rfl) (by kernel_rfl) (by kernel_rfl) (by rfl) ?_ ?_; rotate_left; focus ((intro W hW; go_simp) <;> with_reducible rfl)
        simp only [Act.put, List.setIfInBounds_toArray, List.set_cons_zero, List.set_cons_succ]
        refine grow_take (i := 12) (oi := { dst := some 2, op := Op.assign (Operand.tmp 175), type := 4, pos := "law.go:92", after := #[{ on := 11, ground := Ground.data }, { on := 8, ground := Ground.chain }, { on := 0, ground := Ground.phase }, { on := 1, ground := Ground.phase }, { on := 2, ground := Ground.phase }, { on := 3, ground := Ground.phase }, { on := 4, ground := Ground.phase }, { on := 5, ground := Ground.phase }, { on := 6, ground := Ground.phase }, { on := 7, ground := Ground.phase }, { on := 8, ground := Ground.phase }, { on := 9, ground := Ground.phase }, { on := 10, ground := Ground.phase }, { on := 11, ground := Ground.phase }], guard := none }) (v := ?_) rfl (by kernel_rfl) (by kernel_rfl) (by kernel_rfl) (by rfl) ?_ ?_; rotate_left; focus ((intro W hW; go_simp) <;> with_reducible rfl)
        simp only [Act.put, List.setIfInBounds_toArray, List.set_cons_zero, List.set_cons_succ]
        refine grow_done (by kernel_rfl) ?_ _
        go_wp2
        go_ret
        exact ⟨rfl, HN.out.trans n8 fun _ _ => False.elim⟩

theorem plays_args {H : Type} {enc : TypeId × Value → H} {W : World} {base : Nat} {args : Array Value} {ds : List (DataW H)} {ps : List MemPlace}
    (hval : ∀ (j : Nat) t v, Try.f3.params[j]? = some t → args[j]? = some v → Value.okWide Try.prog W .any base t v)
    (hw : ∀ (j : Nat) t d, Try.f3.params.toList[j]? = some t → ds[j]? = some d → ∀ n ∈ d.weights Try.prog t, n ≤ reachBytes)
    (hA : DataW.TrodAll enc Try.prog W 0 (fun _ => true) true Try.f3.params.toList args.toList ds ps) :
    Calls Try.prog 3 args W fun e w' => LawEnd W e w' := by
  rw [Try.params3] at hA hval hw
  obtain ⟨v0, d0, rfl, rfl, h0⟩ := trodAll_one hA
  have o0 := hval 0 _ v0 rfl rfl
  have q0 := hw 0 _ d0 rfl rfl
  obtain ⟨A, n, c, rfl, hn, ha⟩ := open_acts (cells_slice Try.underlying22 o0) q0 h0
  exact plays W A n c hn ha
end Disk

namespace lawDiskPlays
theorem own : ownKnob Try.prog.godebug = none := by kernel_rfl
theorem laidOut : laidOutB Try.prog = true := by kernel_rfl
theorem reads : ∀ t ∈ Try.f3.params.toList, Try.prog.readableRec t = true ∧ t < Try.prog.types.size := by
  have h : (Try.f3.params.toList.all fun t => Try.prog.readableRec t && decide (t < Try.prog.types.size)) = true := by kernel_rfl
  intro t ht
  have := List.all_eq_true.1 h t ht
  simpa using this
theorem spec {H : Type} (ds : List (DataW H)) (h : ds.length = 1) : Rows.diskPlaysSpec.fn H ds = { results := [.lit (.bool true)], args := ds } := by
  match ds, h with
  | [d1], _ => rfl
theorem trodAll_len {H : Type} {enc : TypeId × Value → H} {P : Program} {w : World} {base : Nat} {sp : Nat → Bool} {held : Bool} : ∀ (ts : List TypeId) (vs : List Value) (ds : List (DataW H)) (ps : List MemPlace),
    DataW.TrodAll enc P w base sp held ts vs ds ps → ds.length = ts.length
  | [], _, _, _, h => by
    obtain ⟨_, rfl, _⟩ := trodAll_nil h
    rfl
  | _ :: ts, _, _, _, h => by
    obtain ⟨_, vs, _, ds, _, _, _, rfl, _, _, hr⟩ := trodAll_cons h
    simp [trodAll_len ts vs ds _ hr]
theorem contract (H : Type) (enc : TypeId × Value → H) (W : World) (base : Nat) (args : Array Value) (ds gs : List (DataW H)) (before : List MemPlace)
    (hval : ∀ (j : Nat) t v, Try.f3.params[j]? = some t → args[j]? = some v → Value.okWide Try.prog W .any base t v)
    (hW : DataW.Whole enc Try.prog Try.f3.params.toList Rows.diskPlaysSpec.vars false W args.toList ds gs before)
    (hz : (DataW.weightsEach Try.prog (Try.f3.params.toList ++ Rows.diskPlaysSpec.plain.varTypes Try.prog) (ds ++ gs)).all (· ≤ reachBytes) = true) :
    Calls Try.prog 3 args W fun e W' => ∃ v, e = .returned v ∧ Rows.diskPlaysSpec.post enc Try.prog Try.f3 false true false false W args v W' := by
  obtain ⟨p, q, hA, hV, _⟩ := id hW
  have hlen : ds.length = 1 := (trodAll_len _ _ _ _ hA).trans (by kernel_rfl)
  have hV1 : DataW.TrodVars enc Try.prog W (fun _ => true) [] gs q := hV
  obtain ⟨rfl, rfl⟩ := trodVars_none hV1
  have hw : ∀ (j : Nat) t d, Try.f3.params.toList[j]? = some t → ds[j]? = some d → ∀ n ∈ d.weights Try.prog t, n ≤ reachBytes := by
    intro j t d ht hd n hn
    rw [List.append_nil] at hz
    have hlt : j < Try.f3.params.toList.length := (List.getElem?_eq_some_iff.1 ht).1
    have := List.all_eq_true.1 hz n (DataW.weights_mem_each (by rw [List.getElem?_append_left hlt]; exact ht) hd n hn)
    simpa using this
  refine (Disk.plays_args hval hw hA).mono fun e W' ⟨he, hn⟩ => ?_
  exact ⟨_, he, law_post laidOut (tb := 4) rfl Try.underlying4 reads rfl hW (spec ds hlen) hn.below⟩
set_option maxRecDepth 100000 in
theorem lifted (os : Os) (started : os.Started) (H : Type) (enc : TypeId × Value → H) :
    ReturnsInHanded {} Try.checked os 3 .any (Rows.diskPlaysSpec.pre6 enc Try.prog Try.f3 Rows.diskPlaysRow.domain false) (Rows.diskPlaysSpec.post enc Try.prog Try.f3 false true false false) := by
  refine returnsInHanded_of_change_sized (C := Try.checked) own started (by kernel_rfl) Try.func3
    (ChangeSpec.witness6 (enc := enc) (C := Try.checked) (s := Rows.diskPlaysSpec) false ⟨#[], #[.slice none 0 0], []⟩ 60 (by kernel_rfl) (by kernel_rfl) (by kernel_rfl) (by kernel_rfl)) ?_
  intro W base args ds gs before hval hW _ hz _
  exact contract H enc W base args ds gs before hval hW hz
theorem proved : Rows.DiskPlaysSaid :=
  OpenClaim.holds_of_wide 3 Try.f3 rfl rfl rfl rfl rfl rfl rfl ⟨rfl, rfl, rfl, rfl, rfl⟩ rfl rfl rfl rfl rfl (by kernel_rfl) Try.func3 (by kernel_rfl)
    (of_decide_eq_true (by kernel_rfl)) (by unfold Func.isWrapper; first | (rw [if_pos (by decide +kernel)]; kernel_rfl) | (rw [if_neg (by decide +kernel)]; exact ⟨rfl, rfl⟩))
    (fun os started H enc _ => lifted os started H enc)
end lawDiskPlays
end Go.Proofs.Ytjliioapiohciaa

/-
  hedgerowlaw16.NetPlays returns true for every input: whatever is sent, taken, doubled and turned, all that is under way is what a plain row tells (no condition).
-/
import Derived.Test.YtbagiehocgaoiaaNetRow
import Derived.Deep.CutBlock
import Derived.Deep.DeepCutAuto
namespace Go.Proofs.Ytbagiehocgaoiaa
open Go.ChangeShapes Go.WideShapes Go.RowKit Go.Deep
namespace Net
attribute [local go_sem ↓] loadOnly0 loadOnly1
theorem loadLaw0 (p : Value) : Instr.loadAt 29 p = LoadRowV 29 p := rfl
attribute [local go_sem ↓] loadLaw0
theorem loadLaw1 (p : Value) : Instr.loadAt 33 p = LoadRowV 33 p := rfl
attribute [local go_sem ↓] loadLaw1
/-- a net, and the plain row beside it -/
def Both (w W : World) (b m : Nat) (r : Value) : Prop := ∃ (v : Value) (fs : List Fl), St w W b v fs ∧ RowP W b r fs ∧ fs.length ≤ m ∧ ∀ f ∈ fs, f.b.length ≤ 200
theorem Both.mono {w W : World} {b m m' : Nat} {r : Value} (h : Both w W b m r) (hm : m ≤ m') : Both w W b m' r := by
  obtain ⟨v, fs, h1, h2, h3, h4⟩ := h
  exact ⟨v, fs, h1, h2, Nat.le_trans h3 hm, h4⟩
theorem St.step {w W W' : World} {b : Nat} {v v' : Value} {fs fs' : List Fl} (h : St w W b v fs) (ha : At W' b b v' fs') (hc : Chg (Foot b v fs) W W') : St w W' b v' fs' :=
  ⟨ha, h.new.trans hc fun k hk e => by have := (h.at_.foot e).1; have := h.lo; omega, h.lo⟩
theorem At.away {w : World} {lo b g : Nat} {v : Value} {fs : List Fl} {t : TypeId} {cs : Array Value} (h : At w lo b v fs) (hx : Blk w g t cs) (h1 : 49 ≠ t) (h2 : 52 ≠ t) (h3 : 5 ≠ t) : ¬ Foot b v fs g := fun e => by
  rcases e with e | e | ⟨f, hf, e⟩
  · exact (h.blk.ne_ hx h1) e.symm
  · exact own_ne h.own hx h2 e
  · exact own_ne (h.mem hf) hx h3 e
/-- parcel i of the row: its cells, and read whole -/
theorem row_cells {W : World} {base g c : Nat} {fs : List Fl} (h : RowP W base (.slice (some ⟨g, 0, none⟩) fs.length c) fs) {i : Nat} {f : Fl} (hi : fs[i]? = some f) : W.cell? ⟨g, i * 3, none⟩ = some (.int .i64 f.to_) ∧ W.cell? ⟨g, i * 3 + 1, none⟩ = some (.string ⟨f.b.toArray⟩) ∧ W.cell? ⟨g, i * 3 + 2, none⟩ = some (.bool f.t) ∧
    (∀ j, W.frozen? ⟨g, j, none⟩ = false) ∧ (LoadRow 33 ⟨g, i * 3, none⟩).run Try.prog W = .ok (.agg #[.int .i64 f.to_, .string ⟨f.b.toArray⟩, .bool f.t]) W := by
  have hlt : i < fs.length := (List.getElem?_eq_some_iff.1 hi).1
  obtain ⟨e0, e1, e2⟩ := plain_get hi
  have c0 := World.ownsRow.cellAt h (i * 3) (by omega)
  have c1 := World.ownsRow.cellAt h (i * 3 + 1) (by omega)
  have c2 := World.ownsRow.cellAt h (i * 3 + 2) (by omega)
  rw [e0] at c0
  rw [e1] at c1
  rw [e2] at c2
  refine ⟨c0, c1, c2, fun j => World.ownsRow.frozenAt h j, ?_⟩
  refine run_LoadRow_at (P := Try.prog) (t := 33) Try.underlying33 rfl (n := 3) (cs := [_, _, _]) (by kernel_rfl) rfl fun j u hj => ?_
  rw [add_plain]
  match j, hj with
  | 0, hj => injection hj with hj; subst hj; exact c0
  | 1, hj => injection hj with hj; subst hj; exact c1
  | 2, hj => injection hj with hj; subst hj; exact c2
  | j + 3, hj => simp at hj
theorem St.apart {w W W' : World} {b g n c : Nat} {v : Value} {fs gs : List Fl} (h : St w W b v fs) (hr : RowP W b (.slice (some ⟨g, 0, none⟩) n c) gs) (hc : Chg (fun k => k = g) W W') : St w W' b v fs := by
  have hr0 : (Value.slice (some ⟨g, 0, none⟩) n c).ownBlock = some g := rfl
  refine ⟨h.at_.chg hc fun k hk e => RowP.foot hr h.at_ hr0 (e ▸ hk), h.new.trans hc fun k hk e => ?_, h.lo⟩
  have := (own_lt hr hr0).1
  have := h.lo
  omega
/-- the row beside the net has grown -/
theorem St.beside {w W W' : World} {b : Nat} {v r : Value} {fs gs : List Fl} (h : St w W b v fs) (hr : RowP W b r gs) (hg : W.grownBy W' r.ownBlock) : St w W' b v fs := by
  have hc : Chg (fun k => r.ownBlock = some k) W W' := (Chg.refl _ W).grown hg fun k e _ => e
  refine ⟨h.at_.chg hc fun k hk e => RowP.foot hr h.at_ e hk, h.new.trans hc fun k hk e => ?_, h.lo⟩
  have := (own_lt hr e).1
  have := h.lo
  omega
set_option maxHeartbeats 20000000 in
set_option maxRecDepth 100000 in
theorem plays (w : World) (A : Option Addr) (n c : Nat) (hn : n ≤ 140737488351232) (hacts : ∀ k, k < n → ∃ a, ActAt w A k a) :
    Calls Try.prog 3 #[.slice A n c] w fun e w' => LawEnd w e w' := by
  have HACT := Lib.hid hacts
  clear hacts
  by_cases hbig : 100 < (n : Int)
  · go_enter Try.func3, Try.ntmps3
    go_wp2_with fail
    refine (fixed _).mono ?_
    rintro e w1 ⟨rfl, n1⟩
    go_wp2
    go_ret
    exact ⟨rfl, n1⟩
  · go_enter Try.func3, Try.ntmps3
    go_wp2_with fail
    refine (fixed _).mono ?_
    rintro e w1 ⟨rfl, n1⟩
    go_wp2_with fail
    refine (new_ _).mono ?_
    rintro e w2 ⟨rfl, h2, n2⟩
    have s2 : St w w2 w1.heap.size (.slice none 0 0) [] := ⟨h2, n1.trans n2 fun _ _ => id, n1.size⟩
    clear h2 n1 n2
    obtain ⟨b, hb⟩ : ∃ b, w1.heap.size = b := ⟨_, rfl⟩
    rw [hb] at s2 ⊢
    clear hb
    go_wp2_with fail
    go_loopw [2, 4, 6, 7, 8, 9, 10, 11, 12, 13, 14, 23] (fun _ r _ _ _ _ _ _ _ _ _ i wr => ∃ (k : Nat), k ≤ n ∧ i = .int .i64 k ∧ Both w wr b k r) (fun _ _ _ _ _ _ _ _ _ _ _ i _ => n - (intOf i).toNat)
    case atStart => exact ⟨0, by omega, rfl, _, [], s2, World.ownsRow_nil _ _ _ _, Nat.le_refl _, fun f hf => by cases hf⟩
    case round =>
      clear s2
      generalize wr = wo at *
      obtain ⟨k, hk, rfl, v, fs, hs, hrow, hfl, h200⟩ := hrel
      by_cases hlt : k < n
      · obtain ⟨a, ⟨ht1, ht2⟩, ⟨hi1, hi2⟩, ⟨ha1, ha2⟩, hnc, hbn, ad, rfl, hact⟩ := HACT.out k hlt
        obtain ⟨hld, _⟩ := hact wo hs.new
        have HR := Lib.hid (fun W hW => (hact W hW).2)
        obtain ⟨kind, to_, A3, n3, c3, bs, I, at_, y⟩ := a
        simp only [actC] at hld ht1 ht2 hi1 hi2 ha1 ha2 hnc hbn HR
        have HNW := Lib.hid hs.new
        obtain ⟨Ar, cr, hr⟩ := own_form hrow
        subst hr
        by_cases h3 : 200 < (n3 : Int)
        · clear hact hs hrow hfl h200 hbn
          go_wp2_with fail
          go_ret
          exact ⟨rfl, HNW.out.alloc _⟩
        · have m1 := (Chg.refl (fun _ => False) wo).alloc (.cells #[.int .u8 (kind.toNat : Int), .int .i64 to_, .slice A3 n3 c3, .int .i64 I, .int .i64 at_, .int .u8 (y.toNat : Int)] 29)
          have HB := Lib.hid (And.intro (hs.news m1) (And.intro (own_chg hrow m1 fun _ _ => id) (And.intro (Blk.new wo 29 #[.int .u8 (kind.toNat : Int), .int .i64 to_, .slice A3 n3 c3, .int .i64 I, .int .i64 at_, .int .u8 (y.toNat : Int)]) (And.intro h200 hbn))))
          have hdom := hrow.1
          clear hact hs hrow h200 hbn m1 hdom
          by_cases hin : 0 ≤ I ∧ I < fs.length
          · obtain ⟨hI0, hI1⟩ := hin
            obtain ⟨j, rfl⟩ := Int.eq_ofNat_of_zero_le hI0
            have hjl : j < fs.length := by omega
            obtain ⟨f, hf⟩ : ∃ f, fs[j]? = some f := ⟨_, List.getElem?_eq_getElem hjl⟩
            obtain ⟨gr, cr', hvr, _, _⟩ := World.ownsRow.form HB.out.2.1 (by omega)
            injection hvr with hv1 hv2 hv3
            subst hv1 hv3
            clear hv2
            have HROW := Lib.hid (fun W (hW : RowP W b (.slice (some ⟨gr, 0, none⟩) fs.length cr) fs) => row_cells hW hf)
            have HF := Lib.hid hf
            clear hf
            go_upto_block 2 with fail
            generalize wo.alloc (.cells #[.int .u8 (kind.toNat : Int), .int .i64 to_, .slice A3 n3 c3, .int .i64 (j : Int), .int .i64 at_, .int .u8 (y.toNat : Int)] 29) = w3 at *
            generalize wo.heap.size = gx at *
            have hc0 := HB.out.2.2.1.cell 0
            have hc1 := HB.out.2.2.1.cell 1
            have hc2 := HB.out.2.2.1.cell 2
            have hc3 := HB.out.2.2.1.cell 3
            have hc4 := HB.out.2.2.1.cell 4
            have hc5 := HB.out.2.2.1.cell 5
            simp only [List.getElem?_toArray, List.getElem?_cons_zero, List.getElem?_cons_succ] at hc0 hc1 hc2 hc3 hc4 hc5
            go_cut [4, 45] (fun r _ wx => Both w wx b (k + 1) r)
            case first =>
              have hq : (kind.toNat : Int) % 4 = 0 ∨ (kind.toNat : Int) % 4 = 1 ∨ (kind.toNat : Int) % 4 = 2 ∨ (kind.toNat : Int) % 4 = 3 := by omega
              rcases hq with hq | hq | hq | hq
              · as_aux_lemma =>
                  have hq1 : ((kind.toNat : Int) % 4 == 0) = true := by simpa using hq
                  have C := Lib.hid (send_ok _ _ _ _ _ HB.out.1.at_ to_ A3 n3 c3 bs _ (HR.out _ HB.out.1.new) (by omega) (by omega))
                  go_wp2_with fail
                  refine C.out.mono ?_
                  rintro e w4 ⟨rfl, u, v4, h4, c4, _⟩
                  have s4 := HB.out.1.step h4 c4
                  have r4 := own_chg HB.out.2.1 c4 fun k hk => RowP.foot HB.out.2.1 HB.out.1.at_ hk
                  have bx4 := HB.out.2.2.1.chg c4 (HB.out.1.at_.away HB.out.2.2.1 (by decide) (by decide) (by decide))
                  have kb := run_str Try.underlying27 Try.underlying5 Try.underlying9 (HR.out w4 s4.new) c3
                  have hd1 := bx4.cell 1
                  have hd2 := bx4.cell 2
                  simp only [List.getElem?_toArray, List.getElem?_cons_zero, List.getElem?_cons_succ] at hd1 hd2
                  have H4 := Lib.hid (And.intro s4 r4)
                  have hgx := bx4.lt
                  have hlb := s4.at_.blk.lt
                  clear C h4 c4 s4 r4 bx4 hc0 hc1 hc2 hc3 hc4 hc5
                  go_wp2_with (at_builtin; refine stop ?_)
                  delta Stop
                  have m5 := (Chg.refl (fun _ => False) w4).alloc (.cells #[.int .i64 to_, .string ⟨bs.toArray⟩, .bool false] 33)
                  refine append_pl _ rfl _ _ rfl b _ fs rfl (own_chg H4.out.2 m5 fun _ _ => id) _ _ 1 1 [⟨to_, u, bs, false⟩] rfl (Reads.of_row (n := 1) (size := 3) (heap_alloc_new w4 _) (by simp)) (by omega) (by rw [World.size_alloc]; omega) ?_
                  intro r6 w6 o6 g6 a6
                  have s6 := (H4.out.1.news m5).beside (own_chg H4.out.2 m5 fun _ _ => id) g6
                  have HZ := Lib.hid (And.intro s6 o6)
                  clear o6 g6 a6 s6 m5
                  go_wp2_with fail
                  go_meet
                  exact ⟨v4, _, HZ.out.1, HZ.out.2, by rw [List.length_append, List.length_singleton]; omega, fun f hf => by
                    rcases List.mem_append.1 hf with h | h
                    · exact HB.out.2.2.2.1 f h
                    · rw [List.mem_singleton.1 h]
                      have := HB.out.2.2.2.2
                      show bs.length ≤ 200
                      omega⟩
              · as_aux_lemma =>
                  have hq0 : ((kind.toNat : Int) % 4 == 0) = false := by simp; omega
                  have hq1 : ((kind.toNat : Int) % 4 == 1) = true := by simpa using hq
                  have C := Lib.hid (take_in _ _ _ _ _ HB.out.1.at_ j f HF.out)
                  go_wp2_with fail
                  refine C.out.mono ?_
                  rintro e w4 ⟨rfl, ⟨v4, h4, c4, _⟩, hu⟩
                  have s4 := HB.out.1.step h4 c4
                  have r4 := own_chg HB.out.2.1 c4 fun k hk => RowP.foot HB.out.2.1 HB.out.1.at_ hk
                  have bx4 := HB.out.2.2.1.chg c4 (HB.out.1.at_.away HB.out.2.2.1 (by decide) (by decide) (by decide))
                  obtain ⟨Af, cf, hfu⟩ := own_form hu
                  rw [hfu] at hu ⊢
                  have m5 := (Chg.refl (fun _ => False) w4).alloc (.cells #[.int .i64 f.to_, .slice Af f.b.length cf] 35)
                  have pb5 := Blk.new w4 35 #[.int .i64 f.to_, .slice Af f.b.length cf]
                  have F := Lib.hid (fun W (hW : New (w4.alloc (.cells #[.int .i64 f.to_, .slice Af f.b.length cf] 35)).drew W) => by
                    have hW1 := (Chg.refl (fun _ => False) (w4.alloc (.cells #[.int .i64 f.to_, .slice Af f.b.length cf] 35))).drew.trans hW fun _ _ => id
                    have hW4 := m5.trans hW1 fun _ _ => id
                    have hb := pb5.chg hW1 id
                    have hx := bx4.chg hW4 id
                    obtain ⟨x0, x1, x2, _⟩ := HROW.out W (own_chg r4 hW4 fun _ _ => id)
                    exact (show (W.cell? ⟨w4.heap.size, 0, none⟩ = some (.int .i64 f.to_) ∧ W.cell? ⟨w4.heap.size, 1, none⟩ = some (.slice Af f.b.length cf)) ∧ (convert 27 9 (.slice Af f.b.length cf)).run Try.prog W = .ok (.string ⟨f.b.toArray⟩) W ∧
                        W.cell? ⟨gx, 3, none⟩ = some (.int .i64 (j : Int)) ∧ W.cell? ⟨gr, j * 3, none⟩ = some (.int .i64 f.to_) ∧ W.cell? ⟨gr, j * 3 + 1, none⟩ = some (.string ⟨f.b.toArray⟩) from
                      ⟨⟨hb.cell 0, hb.cell 1⟩, own_str hu hW4, hx.cell 3, x0, x1⟩))
                  have H5 := Lib.hid (And.intro (s4.news m5) (And.intro (own_chg r4 m5 fun _ _ => id) (bx4.chg m5 id)))
                  clear C h4 c4 s4 r4 bx4 hc0 hc1 hc2 hc3 hc4 hc5 hu hfu m5 pb5
                  generalize f.b.length = Lf at *
                  go_wp2_with fail
                  refine grow_start (fun _ => False) (by kernel_rfl) ?_
                  refine grow_take (i := 0) (oi := { dst := some 73, op := Op.move (Operand.tmp 10), type := 30, pos := "law.go:68", after := #[], guard := none }) (v := ?_) rfl (by kernel_rfl) (by kernel_rfl) (by kernel_rfl) (by rfl) ?_ ?_; rotate_left; focus ((intro W hW; go_simp) <;> with_reducible rfl)
                  simp only [Act.put, List.setIfInBounds_toArray, List.set_cons_zero, List.set_cons_succ]
                  refine grow_take (i := 1) (oi := { dst := some 74, op := Op.move (Operand.tmp 8), type := 30, pos := "law.go:68", after := #[], guard := none }) (v := ?_) rfl (by kernel_rfl) (by kernel_rfl) (by kernel_rfl) (by rfl) ?_ ?_; rotate_left; focus ((intro W hW; go_simp) <;> with_reducible rfl)
                  simp only [Act.put, List.setIfInBounds_toArray, List.set_cons_zero, List.set_cons_succ]
                  refine grow_take (i := 2) (oi := { dst := some 75, op := Op.binOp BinOp.neq 30 (Operand.tmp 73) (Operand.tmp 74) 30, type := 4, pos := "law.go:68", after := #[{ on := 0, ground := Ground.data }, { on := 1, ground := Ground.data }], guard := none }) (v := ?_) rfl (by kernel_rfl) (by kernel_rfl) (by kernel_rfl) (by rfl) ?_ ?_; rotate_left; focus ((intro W hW; have fct := F.out W hW; go_simp) <;> with_reducible rfl)
                  simp only [Act.put, List.setIfInBounds_toArray, List.set_cons_zero, List.set_cons_succ]
                  refine grow_take (i := 3) (oi := { dst := some 76, op := Op.move (Operand.tmp 75), type := 4, pos := "law.go:68", after := #[{ on := 2, ground := Ground.data }], guard := none }) (v := ?_) rfl (by kernel_rfl) (by kernel_rfl) (by kernel_rfl) (by rfl) ?_ ?_; rotate_left; focus ((intro W hW; go_simp) <;> with_reducible rfl)
                  simp only [Act.put, List.setIfInBounds_toArray, List.set_cons_zero, List.set_cons_succ]
                  first | (refine grow_take (i := 4) (oi := { dst := some 77, op := Op.move (Operand.tmp 7), type := 4, pos := "law.go:68", after := #[{ on := 3, ground := Ground.guard }], guard := some (3, false) }) (v := ?_) rfl (by kernel_rfl) (by kernel_rfl) (by kernel_rfl) (by rfl) ?_ ?_; rotate_left; focus ((intro W hW; go_simp) <;> with_reducible rfl)) | refine grow_skip (i := 4) (oi := { dst := some 77, op := Op.move (Operand.tmp 7), type := 4, pos := "law.go:68", after := #[{ on := 3, ground := Ground.guard }], guard := some (3, false) }) rfl (by kernel_rfl) (by kernel_rfl) (by kernel_rfl) (by rfl) ?_ | fail "op 4"
                  simp only [Act.put, List.setIfInBounds_toArray, List.set_cons_zero, List.set_cons_succ]
                  first | (refine grow_take (i := 5) (oi := { dst := some 78, op := Op.move (Operand.tmp 77), type := 4, pos := "law.go:68", after := #[{ on := 4, ground := Ground.data }, { on := 3, ground := Ground.chain }, { on := 3, ground := Ground.guard }], guard := some (3, false) }) (v := ?_) rfl (by kernel_rfl) (by kernel_rfl) (by kernel_rfl) (by rfl) ?_ ?_; rotate_left; focus ((intro W hW; go_simp) <;> with_reducible rfl)) | refine grow_skip (i := 5) (oi := { dst := some 78, op := Op.move (Operand.tmp 77), type := 4, pos := "law.go:68", after := #[{ on := 4, ground := Ground.data }, { on := 3, ground := Ground.chain }, { on := 3, ground := Ground.guard }], guard := some (3, false) }) rfl (by kernel_rfl) (by kernel_rfl) (by kernel_rfl) (by rfl) ?_ | fail "op 5"
                  simp only [Act.put, List.setIfInBounds_toArray, List.set_cons_zero, List.set_cons_succ]
                  first | (refine grow_take (i := 6) (oi := { dst := some 79, op := Op.fieldAddr 35 (Operand.tmp 9) 0, type := 0, pos := "law.go:68", after := #[{ on := 5, ground := Ground.guard }], guard := some (5, true) }) (v := ?_) rfl (by kernel_rfl) (by kernel_rfl) (by kernel_rfl) (by rfl) ?_ ?_; rotate_left; focus ((intro W hW; go_simp) <;> with_reducible rfl)) | refine grow_skip (i := 6) (oi := { dst := some 79, op := Op.fieldAddr 35 (Operand.tmp 9) 0, type := 0, pos := "law.go:68", after := #[{ on := 5, ground := Ground.guard }], guard := some (5, true) }) rfl (by kernel_rfl) (by kernel_rfl) (by kernel_rfl) (by rfl) ?_ | fail "op 6"
                  simp only [Act.put, List.setIfInBounds_toArray, List.set_cons_zero, List.set_cons_succ]
                  first | (refine grow_take (i := 7) (oi := { dst := some 80, op := Op.load 3 (Operand.tmp 79), type := 3, pos := "law.go:68", after := #[{ on := 6, ground := Ground.data }, { on := 5, ground := Ground.guard }], guard := some (5, true) }) (v := ?_) rfl (by kernel_rfl) (by kernel_rfl) (by kernel_rfl) (by rfl) ?_ ?_; rotate_left; focus ((intro W hW; have fct := F.out W hW; go_simp) <;> with_reducible rfl)) | refine grow_skip (i := 7) (oi := { dst := some 80, op := Op.load 3 (Operand.tmp 79), type := 3, pos := "law.go:68", after := #[{ on := 6, ground := Ground.data }, { on := 5, ground := Ground.guard }], guard := some (5, true) }) rfl (by kernel_rfl) (by kernel_rfl) (by kernel_rfl) (by rfl) ?_ | fail "op 7"
                  simp only [Act.put, List.setIfInBounds_toArray, List.set_cons_zero, List.set_cons_succ]
                  first | (refine grow_take (i := 8) (oi := { dst := some 81, op := Op.move (Operand.tmp 4), type := 26, pos := "law.go:68", after := #[{ on := 5, ground := Ground.guard }], guard := some (5, true) }) (v := ?_) rfl (by kernel_rfl) (by kernel_rfl) (by kernel_rfl) (by rfl) ?_ ?_; rotate_left; focus ((intro W hW; go_simp) <;> with_reducible rfl)) | refine grow_skip (i := 8) (oi := { dst := some 81, op := Op.move (Operand.tmp 4), type := 26, pos := "law.go:68", after := #[{ on := 5, ground := Ground.guard }], guard := some (5, true) }) rfl (by kernel_rfl) (by kernel_rfl) (by kernel_rfl) (by rfl) ?_ | fail "op 8"
                  simp only [Act.put, List.setIfInBounds_toArray, List.set_cons_zero, List.set_cons_succ]
                  first | (refine grow_take (i := 9) (oi := { dst := some 82, op := Op.fieldAddr 29 (Operand.tmp 6) 3, type := 0, pos := "law.go:68", after := #[{ on := 5, ground := Ground.guard }], guard := some (5, true) }) (v := ?_) rfl (by kernel_rfl) (by kernel_rfl) (by kernel_rfl) (by rfl) ?_ ?_; rotate_left; focus ((intro W hW; go_simp) <;> with_reducible rfl)) | refine grow_skip (i := 9) (oi := { dst := some 82, op := Op.fieldAddr 29 (Operand.tmp 6) 3, type := 0, pos := "law.go:68", after := #[{ on := 5, ground := Ground.guard }], guard := some (5, true) }) rfl (by kernel_rfl) (by kernel_rfl) (by kernel_rfl) (by rfl) ?_ | fail "op 9"
                  simp only [Act.put, List.setIfInBounds_toArray, List.set_cons_zero, List.set_cons_succ]
                  first | (refine grow_take (i := 10) (oi := { dst := some 83, op := Op.load 3 (Operand.tmp 82), type := 3, pos := "law.go:68", after := #[{ on := 9, ground := Ground.data }, { on := 5, ground := Ground.guard }], guard := some (5, true) }) (v := ?_) rfl (by kernel_rfl) (by kernel_rfl) (by kernel_rfl) (by rfl) ?_ ?_; rotate_left; focus ((intro W hW; have fct := F.out W hW; go_simp) <;> with_reducible rfl)) | refine grow_skip (i := 10) (oi := { dst := some 83, op := Op.load 3 (Operand.tmp 82), type := 3, pos := "law.go:68", after := #[{ on := 9, ground := Ground.data }, { on := 5, ground := Ground.guard }], guard := some (5, true) }) rfl (by kernel_rfl) (by kernel_rfl) (by kernel_rfl) (by rfl) ?_ | fail "op 10"
                  simp only [Act.put, List.setIfInBounds_toArray, List.set_cons_zero, List.set_cons_succ]
                  first | (refine grow_take (i := 11) (oi := { dst := some 84, op := Op.indexAddr 26 (Operand.tmp 81) (Operand.tmp 83), type := 0, pos := "law.go:68", after := #[{ on := 8, ground := Ground.data }, { on := 10, ground := Ground.data }, { on := 5, ground := Ground.guard }], guard := some (5, true) }) (v := ?_) rfl (by kernel_rfl) (by kernel_rfl) (by kernel_rfl) (by rfl) ?_ ?_; rotate_left; focus ((intro W hW; have fct := F.out W hW; go_simp) <;> with_reducible rfl)) | refine grow_skip (i := 11) (oi := { dst := some 84, op := Op.indexAddr 26 (Operand.tmp 81) (Operand.tmp 83), type := 0, pos := "law.go:68", after := #[{ on := 8, ground := Ground.data }, { on := 10, ground := Ground.data }, { on := 5, ground := Ground.guard }], guard := some (5, true) }) rfl (by kernel_rfl) (by kernel_rfl) (by kernel_rfl) (by rfl) ?_ | fail "op 11"
                  simp only [Act.put, List.setIfInBounds_toArray, List.set_cons_zero, List.set_cons_succ]
                  first | (refine grow_take (i := 12) (oi := { dst := some 85, op := Op.fieldAddr 33 (Operand.tmp 84) 0, type := 0, pos := "law.go:68", after := #[{ on := 11, ground := Ground.data }, { on := 5, ground := Ground.guard }], guard := some (5, true) }) (v := ?_) rfl (by kernel_rfl) (by kernel_rfl) (by kernel_rfl) (by rfl) ?_ ?_; rotate_left; focus ((intro W hW; go_simp) <;> with_reducible rfl)) | refine grow_skip (i := 12) (oi := { dst := some 85, op := Op.fieldAddr 33 (Operand.tmp 84) 0, type := 0, pos := "law.go:68", after := #[{ on := 11, ground := Ground.data }, { on := 5, ground := Ground.guard }], guard := some (5, true) }) rfl (by kernel_rfl) (by kernel_rfl) (by kernel_rfl) (by rfl) ?_ | fail "op 12"
                  simp only [Act.put, List.setIfInBounds_toArray, List.set_cons_zero, List.set_cons_succ]
                  first | (refine grow_take (i := 13) (oi := { dst := some 86, op := Op.load 3 (Operand.tmp 85), type := 3, pos := "law.go:68", after := #[{ on := 12, ground := Ground.data }, { on := 5, ground := Ground.guard }], guard := some (5, true) }) (v := ?_) rfl (by kernel_rfl) (by kernel_rfl) (by kernel_rfl) (by rfl) ?_ ?_; rotate_left; focus ((intro W hW; have fct := F.out W hW; go_simp) <;> with_reducible rfl)) | refine grow_skip (i := 13) (oi := { dst := some 86, op := Op.load 3 (Operand.tmp 85), type := 3, pos := "law.go:68", after := #[{ on := 12, ground := Ground.data }, { on := 5, ground := Ground.guard }], guard := some (5, true) }) rfl (by kernel_rfl) (by kernel_rfl) (by kernel_rfl) (by rfl) ?_ | fail "op 13"
                  simp only [Act.put, List.setIfInBounds_toArray, List.set_cons_zero, List.set_cons_succ]
                  first | (refine grow_take (i := 14) (oi := { dst := some 87, op := Op.binOp BinOp.neq 3 (Operand.tmp 80) (Operand.tmp 86) 3, type := 4, pos := "law.go:68", after := #[{ on := 7, ground := Ground.data }, { on := 13, ground := Ground.data }, { on := 5, ground := Ground.guard }], guard := some (5, true) }) (v := ?_) rfl (by kernel_rfl) (by kernel_rfl) (by kernel_rfl) (by rfl) ?_ ?_; rotate_left; focus ((intro W hW; have fct := F.out W hW; go_simp) <;> with_reducible rfl)) | refine grow_skip (i := 14) (oi := { dst := some 87, op := Op.binOp BinOp.neq 3 (Operand.tmp 80) (Operand.tmp 86) 3, type := 4, pos := "law.go:68", after := #[{ on := 7, ground := Ground.data }, { on := 13, ground := Ground.data }, { on := 5, ground := Ground.guard }], guard := some (5, true) }) rfl (by kernel_rfl) (by kernel_rfl) (by kernel_rfl) (by rfl) ?_ | fail "op 14"
                  simp only [Act.put, List.setIfInBounds_toArray, List.set_cons_zero, List.set_cons_succ]
                  first | (refine grow_take (i := 15) (oi := { dst := some 88, op := Op.move (Operand.tmp 87), type := 4, pos := "law.go:68", after := #[{ on := 14, ground := Ground.data }, { on := 5, ground := Ground.chain }, { on := 5, ground := Ground.guard }], guard := some (5, true) }) (v := ?_) rfl (by kernel_rfl) (by kernel_rfl) (by kernel_rfl) (by rfl) ?_ ?_; rotate_left; focus ((intro W hW; go_simp) <;> with_reducible rfl)) | refine grow_skip (i := 15) (oi := { dst := some 88, op := Op.move (Operand.tmp 87), type := 4, pos := "law.go:68", after := #[{ on := 14, ground := Ground.data }, { on := 5, ground := Ground.chain }, { on := 5, ground := Ground.guard }], guard := some (5, true) }) rfl (by kernel_rfl) (by kernel_rfl) (by kernel_rfl) (by rfl) ?_ | fail "op 15"
                  simp only [Act.put, List.setIfInBounds_toArray, List.set_cons_zero, List.set_cons_succ]
                  first | (refine grow_take (i := 16) (oi := { dst := some 89, op := Op.fieldAddr 35 (Operand.tmp 9) 1, type := 0, pos := "law.go:68", after := #[{ on := 15, ground := Ground.guard }], guard := some (15, false) }) (v := ?_) rfl (by kernel_rfl) (by kernel_rfl) (by kernel_rfl) (by rfl) ?_ ?_; rotate_left; focus ((intro W hW; go_simp) <;> with_reducible rfl)) | refine grow_skip (i := 16) (oi := { dst := some 89, op := Op.fieldAddr 35 (Operand.tmp 9) 1, type := 0, pos := "law.go:68", after := #[{ on := 15, ground := Ground.guard }], guard := some (15, false) }) rfl (by kernel_rfl) (by kernel_rfl) (by kernel_rfl) (by rfl) ?_ | fail "op 16"
                  simp only [Act.put, List.setIfInBounds_toArray, List.set_cons_zero, List.set_cons_succ]
                  first | (refine grow_take (i := 17) (oi := { dst := some 90, op := Op.load 27 (Operand.tmp 89), type := 27, pos := "law.go:68", after := #[{ on := 16, ground := Ground.data }, { on := 15, ground := Ground.guard }], guard := some (15, false) }) (v := ?_) rfl (by kernel_rfl) (by kernel_rfl) (by kernel_rfl) (by rfl) ?_ ?_; rotate_left; focus ((intro W hW; have fct := F.out W hW; go_simp) <;> with_reducible rfl)) | refine grow_skip (i := 17) (oi := { dst := some 90, op := Op.load 27 (Operand.tmp 89), type := 27, pos := "law.go:68", after := #[{ on := 16, ground := Ground.data }, { on := 15, ground := Ground.guard }], guard := some (15, false) }) rfl (by kernel_rfl) (by kernel_rfl) (by kernel_rfl) (by rfl) ?_ | fail "op 17"
                  simp only [Act.put, List.setIfInBounds_toArray, List.set_cons_zero, List.set_cons_succ]
                  first | (refine grow_take (i := 18) (oi := { dst := some 91, op := Op.convert 27 9 (Operand.tmp 90), type := 9, pos := "law.go:68", after := #[{ on := 17, ground := Ground.data }, { on := 15, ground := Ground.guard }], guard := some (15, false) }) (v := ?_) rfl (by kernel_rfl) (by kernel_rfl) (by kernel_rfl) (by rfl) ?_ ?_; rotate_left; focus ((intro W hW; have fct := F.out W hW; go_simp) <;> with_reducible rfl)) | refine grow_skip (i := 18) (oi := { dst := some 91, op := Op.convert 27 9 (Operand.tmp 90), type := 9, pos := "law.go:68", after := #[{ on := 17, ground := Ground.data }, { on := 15, ground := Ground.guard }], guard := some (15, false) }) rfl (by kernel_rfl) (by kernel_rfl) (by kernel_rfl) (by rfl) ?_ | fail "op 18"
                  simp only [Act.put, List.setIfInBounds_toArray, List.set_cons_zero, List.set_cons_succ]
                  first | (refine grow_take (i := 19) (oi := { dst := some 92, op := Op.move (Operand.tmp 4), type := 26, pos := "law.go:68", after := #[{ on := 15, ground := Ground.guard }], guard := some (15, false) }) (v := ?_) rfl (by kernel_rfl) (by kernel_rfl) (by kernel_rfl) (by rfl) ?_ ?_; rotate_left; focus ((intro W hW; go_simp) <;> with_reducible rfl)) | refine grow_skip (i := 19) (oi := { dst := some 92, op := Op.move (Operand.tmp 4), type := 26, pos := "law.go:68", after := #[{ on := 15, ground := Ground.guard }], guard := some (15, false) }) rfl (by kernel_rfl) (by kernel_rfl) (by kernel_rfl) (by rfl) ?_ | fail "op 19"
                  simp only [Act.put, List.setIfInBounds_toArray, List.set_cons_zero, List.set_cons_succ]
                  first | (refine grow_take (i := 20) (oi := { dst := some 93, op := Op.fieldAddr 29 (Operand.tmp 6) 3, type := 0, pos := "law.go:68", after := #[{ on := 15, ground := Ground.guard }], guard := some (15, false) }) (v := ?_) rfl (by kernel_rfl) (by kernel_rfl) (by kernel_rfl) (by rfl) ?_ ?_; rotate_left; focus ((intro W hW; go_simp) <;> with_reducible rfl)) | refine grow_skip (i := 20) (oi := { dst := some 93, op := Op.fieldAddr 29 (Operand.tmp 6) 3, type := 0, pos := "law.go:68", after := #[{ on := 15, ground := Ground.guard }], guard := some (15, false) }) rfl (by kernel_rfl) (by kernel_rfl) (by kernel_rfl) (by rfl) ?_ | fail "op 20"
                  simp only [Act.put, List.setIfInBounds_toArray, List.set_cons_zero, List.set_cons_succ]
                  first | (refine grow_take (i := 21) (oi := { dst := some 94, op := Op.load 3 (Operand.tmp 93), type := 3, pos := "law.go:68", after := #[{ on := 20, ground := Ground.data }, { on := 15, ground := Ground.guard }], guard := some (15, false) }) (v := ?_) rfl (by kernel_rfl) (by kernel_rfl) (by kernel_rfl) (by rfl) ?_ ?_; rotate_left; focus ((intro W hW; have fct := F.out W hW; go_simp) <;> with_reducible rfl)) | refine grow_skip (i := 21) (oi := { dst := some 94, op := Op.load 3 (Operand.tmp 93), type := 3, pos := "law.go:68", after := #[{ on := 20, ground := Ground.data }, { on := 15, ground := Ground.guard }], guard := some (15, false) }) rfl (by kernel_rfl) (by kernel_rfl) (by kernel_rfl) (by rfl) ?_ | fail "op 21"
                  simp only [Act.put, List.setIfInBounds_toArray, List.set_cons_zero, List.set_cons_succ]
                  first | (refine grow_take (i := 22) (oi := { dst := some 95, op := Op.indexAddr 26 (Operand.tmp 92) (Operand.tmp 94), type := 0, pos := "law.go:68", after := #[{ on := 19, ground := Ground.data }, { on := 21, ground := Ground.data }, { on := 15, ground := Ground.guard }], guard := some (15, false) }) (v := ?_) rfl (by kernel_rfl) (by kernel_rfl) (by kernel_rfl) (by rfl) ?_ ?_; rotate_left; focus ((intro W hW; have fct := F.out W hW; go_simp) <;> with_reducible rfl)) | refine grow_skip (i := 22) (oi := { dst := some 95, op := Op.indexAddr 26 (Operand.tmp 92) (Operand.tmp 94), type := 0, pos := "law.go:68", after := #[{ on := 19, ground := Ground.data }, { on := 21, ground := Ground.data }, { on := 15, ground := Ground.guard }], guard := some (15, false) }) rfl (by kernel_rfl) (by kernel_rfl) (by kernel_rfl) (by rfl) ?_ | fail "op 22"
                  simp only [Act.put, List.setIfInBounds_toArray, List.set_cons_zero, List.set_cons_succ]
                  first | (refine grow_take (i := 23) (oi := { dst := some 96, op := Op.fieldAddr 33 (Operand.tmp 95) 1, type := 0, pos := "law.go:68", after := #[{ on := 22, ground := Ground.data }, { on := 15, ground := Ground.guard }], guard := some (15, false) }) (v := ?_) rfl (by kernel_rfl) (by kernel_rfl) (by kernel_rfl) (by rfl) ?_ ?_; rotate_left; focus ((intro W hW; go_simp) <;> with_reducible rfl)) | refine grow_skip (i := 23) (oi := { dst := some 96, op := Op.fieldAddr 33 (Operand.tmp 95) 1, type := 0, pos := "law.go:68", after := #[{ on := 22, ground := Ground.data }, { on := 15, ground := Ground.guard }], guard := some (15, false) }) rfl (by kernel_rfl) (by kernel_rfl) (by kernel_rfl) (by rfl) ?_ | fail "op 23"
                  simp only [Act.put, List.setIfInBounds_toArray, List.set_cons_zero, List.set_cons_succ]
                  first | (refine grow_take (i := 24) (oi := { dst := some 97, op := Op.load 9 (Operand.tmp 96), type := 9, pos := "law.go:68", after := #[{ on := 23, ground := Ground.data }, { on := 15, ground := Ground.guard }], guard := some (15, false) }) (v := ?_) rfl (by kernel_rfl) (by kernel_rfl) (by kernel_rfl) (by rfl) ?_ ?_; rotate_left; focus ((intro W hW; have fct := F.out W hW; go_simp) <;> with_reducible rfl)) | refine grow_skip (i := 24) (oi := { dst := some 97, op := Op.load 9 (Operand.tmp 96), type := 9, pos := "law.go:68", after := #[{ on := 23, ground := Ground.data }, { on := 15, ground := Ground.guard }], guard := some (15, false) }) rfl (by kernel_rfl) (by kernel_rfl) (by kernel_rfl) (by rfl) ?_ | fail "op 24"
                  simp only [Act.put, List.setIfInBounds_toArray, List.set_cons_zero, List.set_cons_succ]
                  first | (refine grow_take (i := 25) (oi := { dst := some 98, op := Op.binOp BinOp.neq 9 (Operand.tmp 91) (Operand.tmp 97) 9, type := 4, pos := "law.go:68", after := #[{ on := 18, ground := Ground.data }, { on := 24, ground := Ground.data }, { on := 15, ground := Ground.guard }], guard := some (15, false) }) (v := ?_) rfl (by kernel_rfl) (by kernel_rfl) (by kernel_rfl) (by rfl) ?_ ?_; rotate_left; focus ((intro W hW; have fct := F.out W hW; go_simp) <;> with_reducible rfl)) | refine grow_skip (i := 25) (oi := { dst := some 98, op := Op.binOp BinOp.neq 9 (Operand.tmp 91) (Operand.tmp 97) 9, type := 4, pos := "law.go:68", after := #[{ on := 18, ground := Ground.data }, { on := 24, ground := Ground.data }, { on := 15, ground := Ground.guard }], guard := some (15, false) }) rfl (by kernel_rfl) (by kernel_rfl) (by kernel_rfl) (by rfl) ?_ | fail "op 25"
                  simp only [Act.put, List.setIfInBounds_toArray, List.set_cons_zero, List.set_cons_succ]
                  first | (refine grow_take (i := 26) (oi := { dst := some 99, op := Op.pick (Operand.tmp 88) (Operand.const (Value.bool true)) (Operand.tmp 98), type := 4, pos := "law.go:68", after := #[{ on := 15, ground := Ground.data }, { on := 25, ground := Ground.data }, { on := 5, ground := Ground.guard }], guard := some (5, true) }) (v := ?_) rfl (by kernel_rfl) (by kernel_rfl) (by kernel_rfl) (by rfl) ?_ ?_; rotate_left; focus ((intro W hW; go_simp) <;> with_reducible rfl)) | refine grow_skip (i := 26) (oi := { dst := some 99, op := Op.pick (Operand.tmp 88) (Operand.const (Value.bool true)) (Operand.tmp 98), type := 4, pos := "law.go:68", after := #[{ on := 15, ground := Ground.data }, { on := 25, ground := Ground.data }, { on := 5, ground := Ground.guard }], guard := some (5, true) }) rfl (by kernel_rfl) (by kernel_rfl) (by kernel_rfl) (by rfl) ?_ | fail "op 26"
                  simp only [Act.put, List.setIfInBounds_toArray, List.set_cons_zero, List.set_cons_succ]
                  first | (refine grow_take (i := 27) (oi := { dst := some 100, op := Op.pick (Operand.tmp 78) (Operand.tmp 99) (Operand.const (Value.bool false)), type := 4, pos := "law.go:68", after := #[{ on := 5, ground := Ground.data }, { on := 26, ground := Ground.data }, { on := 3, ground := Ground.guard }], guard := some (3, false) }) (v := ?_) rfl (by kernel_rfl) (by kernel_rfl) (by kernel_rfl) (by rfl) ?_ ?_; rotate_left; focus ((intro W hW; go_simp) <;> with_reducible rfl)) | refine grow_skip (i := 27) (oi := { dst := some 100, op := Op.pick (Operand.tmp 78) (Operand.tmp 99) (Operand.const (Value.bool false)), type := 4, pos := "law.go:68", after := #[{ on := 5, ground := Ground.data }, { on := 26, ground := Ground.data }, { on := 3, ground := Ground.guard }], guard := some (3, false) }) rfl (by kernel_rfl) (by kernel_rfl) (by kernel_rfl) (by rfl) ?_ | fail "op 27"
                  simp only [Act.put, List.setIfInBounds_toArray, List.set_cons_zero, List.set_cons_succ]
                  refine grow_take (i := 28) (oi := { dst := some 101, op := Op.pick (Operand.tmp 76) (Operand.const (Value.bool true)) (Operand.tmp 100), type := 4, pos := "law.go:68", after := #[{ on := 3, ground := Ground.data }, { on := 27, ground := Ground.data }], guard := none }) (v := ?_) rfl (by kernel_rfl) (by kernel_rfl) (by kernel_rfl) (by rfl) ?_ ?_; rotate_left; focus ((intro W hW; go_simp) <;> with_reducible rfl)
                  simp only [Act.put, List.setIfInBounds_toArray, List.set_cons_zero, List.set_cons_succ]
                  refine grow_done (by kernel_rfl) ?_ _
                  go_wp2_with fail
                  generalize w4.alloc (.cells #[.int .i64 f.to_, .slice Af Lf cf] 35) = w5 at *
                  generalize w4.heap.size = g4 at *
                  obtain ⟨N, hN⟩ : ∃ N, fs.length = N := ⟨_, rfl⟩
                  obtain ⟨ti, hti, hz0, hz1, hz2⟩ := info_parts plInfo
                  have hro := H5.out.2.1
                  rw [hN] at hro
                  have hrd := Reads.of_own (show w5.ownsRow b 33 3 (.slice (some ⟨gr, 0, none⟩) N cr) N (plain fs) from hro)
                  have hncr : N ≤ cr := by
                    rcases hro.2 with ⟨h0, _⟩ | ⟨_, _, _, h0, _, _, h1, _⟩
                    · cases h0
                    · injection h0 with _ _ h2
                      omega
                  have ra := hrd.take (k := j) (by omega)
                  have rb := hrd.cut (k := j + 1) (cap := cr) (by omega) hncr
                  rw [plain_take] at ra
                  rw [plain_drop] at rb
                  have s1 := run_slice_to (P := Try.prog) Try.underlying26 hti (some ⟨gr, 0, none⟩) N cr j (by omega)
                  have s2 := run_slice_from (P := Try.prog) Try.underlying26 hti (some ⟨gr, 0, none⟩) N cr (j + 1) (by omega)
                  rw [hz1, Int.natCast_add, Int.natCast_one] at s2
                  obtain ⟨AX, hAX⟩ : ∃ AX, (if cr = j + 1 then some (⟨gr, 0, none⟩ : Addr) else (some (⟨gr, 0, none⟩ : Addr)).map (·.add ((j + 1) * 3))) = AX := ⟨_, rfl⟩
                  rw [hAX] at rb
                  simp only [hAX] at s2
                  have hj9 : IntKind.i64.wrap ((j : Int) + 1) = (j : Int) + 1 := IntWalk.i64_in _ (by omega)
                  obtain ⟨M, hM⟩ : ∃ M, N - (j + 1) = M := ⟨_, rfl⟩
                  obtain ⟨CX, hCX⟩ : ∃ CX, cr - (j + 1) = CX := ⟨_, rfl⟩
                  rw [hM] at rb
                  simp only [hM, hCX] at s2
                  have F2 := Lib.hid (fun W (hW : Chg (fun g => w5.heap.size ≤ g) w5.drew.drew W) => by
                    have hlx := H5.out.2.2.lt
                    have hx := H5.out.2.2.chg ((Chg.refl _ w5).drew.drew.trans hW fun _ _ => id) (by omega)
                    exact (show W.cell? ⟨gx, 3, none⟩ = some (.int .i64 (j : Int)) ∧ IntKind.i64.wrap ((j : Int) + 1) = (j : Int) + 1 ∧ (Instr.sliceAt 26 (.slice (some ⟨gr, 0, none⟩) N cr) none (some (.int .i64 (j : Int))) none).run Try.prog W = .ok (.slice (some ⟨gr, 0, none⟩) j cr) W ∧
                      (Instr.sliceAt 26 (.slice (some ⟨gr, 0, none⟩) N cr) (some (.int .i64 ((j : Int) + 1))) none none).run Try.prog W = .ok (.slice AX M CX) W from ⟨hx.cell 3, hj9, s1 W, s2 W⟩))
                  have hMb : M + j < N := by omega
                  have hNk : N ≤ k := by omega
                  have RA := Lib.hid ra
                  have RB := Lib.hid rb
                  have HN := Lib.hid hN
                  have hin3 : (j : Int) < N := by omega
                  rw [hN]
                  clear ra rb s1 s2 hAX hM hCX hrd hro hz0 hz1 hz2 hti hj9 hN F
                  refine grow_start (fun g => w5.heap.size ≤ g) (by kernel_rfl) ?_
                  refine grow_take (i := 1) (oi := { dst := some 104, op := Op.move (Operand.tmp 4), type := 26, pos := "law.go:72", after := #[], guard := none }) (v := ?_) rfl (by kernel_rfl) (by kernel_rfl) (by kernel_rfl) (by rfl) ?_ ?_; rotate_left; focus ((intro W hW; go_simp) <;> with_reducible rfl)
                  simp only [Act.put, List.setIfInBounds_toArray, List.set_cons_zero, List.set_cons_succ]
                  refine grow_take (i := 2) (oi := { dst := some 105, op := Op.fieldAddr 29 (Operand.tmp 6) 3, type := 0, pos := "law.go:72", after := #[], guard := none }) (v := ?_) rfl (by kernel_rfl) (by kernel_rfl) (by kernel_rfl) (by rfl) ?_ ?_; rotate_left; focus ((intro W hW; go_simp) <;> with_reducible rfl)
                  simp only [Act.put, List.setIfInBounds_toArray, List.set_cons_zero, List.set_cons_succ]
                  refine grow_take (i := 3) (oi := { dst := some 106, op := Op.load 3 (Operand.tmp 105), type := 3, pos := "law.go:72", after := #[{ on := 2, ground := Ground.data }], guard := none }) (v := ?_) rfl (by kernel_rfl) (by kernel_rfl) (by kernel_rfl) (by rfl) ?_ ?_; rotate_left; focus ((intro W hW; have fct := F2.out W hW; go_simp) <;> with_reducible rfl)
                  simp only [Act.put, List.setIfInBounds_toArray, List.set_cons_zero, List.set_cons_succ]
                  refine grow_take (i := 4) (oi := { dst := some 107, op := Op.slice 26 (Operand.tmp 104) none (some (Operand.tmp 106)) none, type := 26, pos := "law.go:72", after := #[{ on := 1, ground := Ground.data }, { on := 3, ground := Ground.data }], guard := none }) (v := ?_) rfl (by kernel_rfl) (by kernel_rfl) (by kernel_rfl) (by rfl) ?_ ?_; rotate_left; focus ((intro W hW; have fct := F2.out W hW; go_simp) <;> with_reducible rfl)
                  simp only [Act.put, List.setIfInBounds_toArray, List.set_cons_zero, List.set_cons_succ]
                  refine grow_take (i := 6) (oi := { dst := some 109, op := Op.move (Operand.tmp 4), type := 26, pos := "law.go:72", after := #[], guard := none }) (v := ?_) rfl (by kernel_rfl) (by kernel_rfl) (by kernel_rfl) (by rfl) ?_ ?_; rotate_left; focus ((intro W hW; go_simp) <;> with_reducible rfl)
                  simp only [Act.put, List.setIfInBounds_toArray, List.set_cons_zero, List.set_cons_succ]
                  refine grow_take (i := 7) (oi := { dst := some 110, op := Op.fieldAddr 29 (Operand.tmp 6) 3, type := 0, pos := "law.go:72", after := #[], guard := none }) (v := ?_) rfl (by kernel_rfl) (by kernel_rfl) (by kernel_rfl) (by rfl) ?_ ?_; rotate_left; focus ((intro W hW; go_simp) <;> with_reducible rfl)
                  simp only [Act.put, List.setIfInBounds_toArray, List.set_cons_zero, List.set_cons_succ]
                  refine grow_take (i := 8) (oi := { dst := some 111, op := Op.load 3 (Operand.tmp 110), type := 3, pos := "law.go:72", after := #[{ on := 7, ground := Ground.data }], guard := none }) (v := ?_) rfl (by kernel_rfl) (by kernel_rfl) (by kernel_rfl) (by rfl) ?_ ?_; rotate_left; focus ((intro W hW; have fct := F2.out W hW; go_simp) <;> with_reducible rfl)
                  simp only [Act.put, List.setIfInBounds_toArray, List.set_cons_zero, List.set_cons_succ]
                  refine grow_take (i := 9) (oi := { dst := some 112, op := Op.binOp BinOp.add 3 (Operand.tmp 111) (Operand.const (Value.int IntKind.i64 1)) 3, type := 3, pos := "law.go:72", after := #[{ on := 8, ground := Ground.data }], guard := none }) (v := ?_) rfl (by kernel_rfl) (by kernel_rfl) (by kernel_rfl) (by rfl) ?_ ?_; rotate_left; focus ((intro W hW; have fct := F2.out W hW; go_simp) <;> with_reducible rfl)
                  simp only [Act.put, List.setIfInBounds_toArray, List.set_cons_zero, List.set_cons_succ]
                  refine grow_take (i := 10) (oi := { dst := some 113, op := Op.slice 26 (Operand.tmp 109) (some (Operand.tmp 112)) none none, type := 26, pos := "law.go:72", after := #[{ on := 6, ground := Ground.data }, { on := 9, ground := Ground.data }], guard := none }) (v := ?_) rfl (by kernel_rfl) (by kernel_rfl) (by kernel_rfl) (by rfl) ?_ ?_; rotate_left; focus ((intro W hW; have fct := F2.out W hW; go_simp) <;> with_reducible rfl)
                  simp only [Act.put, List.setIfInBounds_toArray, List.set_cons_zero, List.set_cons_succ]
                  refine grow_next (i := 0) (oi := { dst := some 103, op := Op.buildSlice 26 0 #[], type := 26, pos := "law.go:72", after := #[], guard := none }) (by kernel_rfl) rfl (by rfl) (fun K hK => ?_)
                  go_simp
                  refine hK _ _ ((Chg.refl _ _).alloc _) ?_
                  clear hK K
                  try simp only [Act.put, List.setIfInBounds_toArray, List.set_cons_zero, List.set_cons_succ]
                  have m6 := ((Chg.refl (fun _ => False) w5).alloc (.cells #[] 33)).drew.drew
                  have o6 : RowP (w5.alloc (.cells #[] 33)).drew.drew w5.heap.size (.slice (some ⟨w5.heap.size, 0, none⟩) 0 0) [] := World.ownsRow_lit (e := 33) (size := 3) (base := w5.heap.size) w5 #[] 0 (Nat.le_refl _) (by simp) (by simp)
                  have q6 := m6.size
                  refine grow_next (i := 5) (oi := { dst := some 108, op := Op.call { callee := Callee.builtin Builtin.append, args := #[Operand.tmp 103, Operand.tmp 107], argTypes := #[26, 26] }, type := 26, pos := "law.go:72", after := #[{ on := 0, ground := Ground.data }, { on := 4, ground := Ground.data }], guard := none }) (by kernel_rfl) rfl (by rfl) (fun K hK => ?_)
                  refine wp_append_pl _ (.tmp 103) (.tmp 107) rfl w5.heap.size _ [] (by rfl) o6 _ (some ⟨gr, 0, none⟩) j cr (fs.take j) (by rfl) (RA.out.chg' m6 (fun _ _ => id) (by omega)) (by simp; omega) q6 ?_
                  intro v7 w7 o7 g7 a7
                  refine hK _ _ ((Chg.refl _ _).grown g7 fun g e _ => (own_lt o6 e).1) ?_
                  clear hK K
                  try simp only [Act.put, List.setIfInBounds_toArray, List.set_cons_zero, List.set_cons_succ]
                  have m7 : New w5 w7 := m6.grown g7 (fun g e hlt => absurd hlt (Nat.not_lt.2 (own_lt o6 e).1))
                  rw [List.nil_append] at o7
                  have q7 := m7.size
                  refine grow_next (i := 11) (oi := { dst := some 114, op := Op.call { callee := Callee.builtin Builtin.append, args := #[Operand.tmp 108, Operand.tmp 113], argTypes := #[26, 26] }, type := 26, pos := "law.go:72", after := #[{ on := 5, ground := Ground.data }, { on := 10, ground := Ground.data }, { on := 5, ground := Ground.chain }], guard := none }) (by kernel_rfl) rfl (by rfl) (fun K hK => ?_)
                  refine wp_append_pl _ (.tmp 108) (.tmp 113) rfl w5.heap.size _ (fs.take j) (by rfl) o7 _ AX M CX (fs.drop (j + 1)) (by rfl) (RB.out.chg' m7 (fun _ _ => id) (by omega)) (by rw [List.length_take]; omega) q7 ?_
                  intro v8 w8 o8 g8 a8
                  refine hK _ _ ((Chg.refl _ _).grown g8 fun g e _ => (own_lt o7 e).1) ?_
                  clear hK K
                  try simp only [Act.put, List.setIfInBounds_toArray, List.set_cons_zero, List.set_cons_succ]
                  have m8 : New w5 w8 := m7.grown g8 (fun g e hlt => absurd hlt (Nat.not_lt.2 (own_lt o7 e).1))
                  refine grow_take (i := 12) (oi := { dst := some 4, op := Op.assign (Operand.tmp 114), type := 26, pos := "law.go:72", after := #[{ on := 11, ground := Ground.data }, { on := 11, ground := Ground.chain }, { on := 0, ground := Ground.phase }, { on := 1, ground := Ground.phase }, { on := 2, ground := Ground.phase }, { on := 3, ground := Ground.phase }, { on := 4, ground := Ground.phase }, { on := 5, ground := Ground.phase }, { on := 6, ground := Ground.phase }, { on := 7, ground := Ground.phase }, { on := 8, ground := Ground.phase }, { on := 9, ground := Ground.phase }, { on := 10, ground := Ground.phase }, { on := 11, ground := Ground.phase }], guard := none }) (v := ?_) rfl (by kernel_rfl) (by kernel_rfl) (by kernel_rfl) (by rfl) ?_ ?_; rotate_left; focus ((intro W hW; go_simp) <;> with_reducible rfl)
                  simp only [Act.put, List.setIfInBounds_toArray, List.set_cons_zero, List.set_cons_succ]
                  refine grow_done (by kernel_rfl) ?_ _
                  rw [← List.eraseIdx_eq_take_drop_succ] at o8
                  have hlb := H5.out.1.at_.blk.lt
                  have HZ := Lib.hid (And.intro (H5.out.1.news m8) (own_mono o8 (Nat.le_of_lt hlb)))
                  clear o8 g8 a8 m8 m7 m6 o6 o7
                  go_wp2_with fail
                  go_meet
                  exact ⟨v4, _, HZ.out.1, HZ.out.2, by rw [List.length_eraseIdx]; split <;> omega, fun q hq => HB.out.2.2.2.1 q (List.mem_of_mem_eraseIdx hq)⟩
              · as_aux_lemma =>
                  have hq0 : ((kind.toNat : Int) % 4 == 0) = false := by simp; omega
                  have hq1 : ((kind.toNat : Int) % 4 == 1) = false := by simp; omega
                  have hq2 : ((kind.toNat : Int) % 4 == 2) = true := by simpa using hq
                  have C := Lib.hid (double_ok _ _ _ _ _ HB.out.1.at_ j f HF.out (by omega) (by have := HB.out.2.2.2.1 f (List.mem_of_getElem? HF.out); omega))
                  go_wp2_with fail
                  refine C.out.mono ?_
                  rintro e w4 ⟨rfl, u, v4, h4, c4, _⟩
                  have s4 := HB.out.1.step h4 c4
                  have r4 := own_chg HB.out.2.1 c4 fun k hk => RowP.foot HB.out.2.1 HB.out.1.at_ hk
                  have bx4 := HB.out.2.2.1.chg c4 (HB.out.1.at_.away HB.out.2.2.1 (by decide) (by decide) (by decide))
                  have hd3 := bx4.cell 3
                  simp only [List.getElem?_toArray, List.getElem?_cons_zero, List.getElem?_cons_succ] at hd3
                  obtain ⟨_, _, _, _, hldr⟩ := HROW.out w4 r4
                  have H4 := Lib.hid (And.intro s4 r4)
                  have hlb := s4.at_.blk.lt
                  clear C h4 c4 s4 r4 bx4 hc0 hc1 hc2 hc3 hc4 hc5
                  go_wp2_with (at_builtin; refine stop ?_)
                  delta Stop
                  have m5 := (Chg.refl (fun _ => False) w4).alloc (.cells #[.int .i64 f.to_, .string ⟨f.b.toArray⟩, .bool f.t] 33)
                  refine append_pl _ rfl _ _ rfl b _ fs rfl (own_chg H4.out.2 m5 fun _ _ => id) _ _ 1 1 [⟨f.to_, u, f.b, f.t⟩] rfl (Reads.of_row (n := 1) (size := 3) (heap_alloc_new w4 _) (by simp)) (by omega) (by rw [World.size_alloc]; omega) ?_
                  intro r6 w6 o6 g6 a6
                  have s6 := (H4.out.1.news m5).beside (own_chg H4.out.2 m5 fun _ _ => id) g6
                  have HZ := Lib.hid (And.intro s6 o6)
                  clear o6 g6 a6 s6 m5
                  go_wp2_with fail
                  go_meet
                  exact ⟨v4, _, HZ.out.1, HZ.out.2, by rw [List.length_append, List.length_singleton]; omega, fun q hq => by
                    rcases List.mem_append.1 hq with h | h
                    · exact HB.out.2.2.2.1 q h
                    · rw [List.mem_singleton.1 h]
                      exact HB.out.2.2.2.1 f (List.mem_of_getElem? HF.out)⟩
              · as_aux_lemma =>
                  have hq0 : ((kind.toNat : Int) % 4 == 0) = false := by simp; omega
                  have hq1 : ((kind.toNat : Int) % 4 == 1) = false := by simp; omega
                  have hq2 : ((kind.toNat : Int) % 4 == 2) = false := by simp; omega
                  have hq3 : ((kind.toNat : Int) % 4 == 3) = true := by simpa using hq
                  have F := Lib.hid (fun W (hW : New w3.drew W) => by
                    have hW3 := (Chg.refl (fun _ => False) w3).drew.trans hW fun _ _ => id
                    have hx := HB.out.2.2.1.chg hW3 id
                    obtain ⟨x0, x1, x2, _⟩ := HROW.out W (own_chg HB.out.2.1 hW3 fun _ _ => id)
                    exact (show W.cell? ⟨gx, 3, none⟩ = some (.int .i64 (j : Int)) ∧ W.cell? ⟨gx, 4, none⟩ = some (.int .i64 at_) ∧ W.cell? ⟨gr, j * 3 + 1, none⟩ = some (.string ⟨f.b.toArray⟩) from ⟨hx.cell 3, hx.cell 4, x1⟩))
                  have hsz : (ByteArray.mk f.b.toArray).size = f.b.length := List.size_toArray ..
                  obtain ⟨x0, x1, x2, _, _⟩ := HROW.out w3 HB.out.2.1
                  have hxd2 : w3.drew.cell? ⟨gr, j * 3 + 2, none⟩ = some (.bool f.t) := x2
                  clear x0
                  have hd3 : w3.drew.cell? ⟨gx, 3, none⟩ = some (.int .i64 (j : Int)) := hc3
                  have hd4 : w3.drew.cell? ⟨gx, 4, none⟩ = some (.int .i64 at_) := hc4
                  have hd5 : w3.drew.cell? ⟨gx, 5, none⟩ = some (.int .u8 (y.toNat : Int)) := hc5
                  by_cases hat : at_ < 0 ∨ (f.b.length : Int) ≤ at_
                  · have C := Lib.hid (turn_range w3.drew b b v fs (HB.out.1.at_.new (Chg.refl (fun _ => False) w3).drew) j f HF.out at_ hat (.int .u8 (y.toNat : Int)))
                    have HZ := Lib.hid (show St w w3.drew b v fs ∧ RowP w3.drew b (.slice (some ⟨gr, 0, none⟩) fs.length cr) fs from ⟨HB.out.1.news (Chg.refl (fun _ => False) w3).drew, own_chg HB.out.2.1 (Chg.refl (fun _ => False) w3).drew fun _ _ => id⟩)
                    by_cases h0 : at_ < 0
                    · have hb0 : decide (at_ < 0) = true := by simpa using h0
                      go_wp2_with fail
                      refine grow_start (fun _ => False) (by kernel_rfl) ?_
                      refine grow_take (i := 0) (oi := { dst := some 134, op := Op.move (Operand.tmp 7), type := 4, pos := "law.go:82", after := #[], guard := none }) (v := ?_) rfl (by kernel_rfl) (by kernel_rfl) (by kernel_rfl) (by rfl) ?_ ?_; rotate_left; focus ((intro W hW; go_simp) <;> with_reducible rfl)
                      simp only [Act.put, List.setIfInBounds_toArray, List.set_cons_zero, List.set_cons_succ]
                      refine grow_take (i := 1) (oi := { dst := some 135, op := Op.move (Operand.tmp 134), type := 4, pos := "law.go:82", after := #[{ on := 0, ground := Ground.data }], guard := none }) (v := ?_) rfl (by kernel_rfl) (by kernel_rfl) (by kernel_rfl) (by rfl) ?_ ?_; rotate_left; focus ((intro W hW; go_simp) <;> with_reducible rfl)
                      simp only [Act.put, List.setIfInBounds_toArray, List.set_cons_zero, List.set_cons_succ]
                      first | (refine grow_take (i := 2) (oi := { dst := some 136, op := Op.fieldAddr 29 (Operand.tmp 6) 4, type := 0, pos := "law.go:82", after := #[{ on := 1, ground := Ground.guard }], guard := some (1, true) }) (v := ?_) rfl (by kernel_rfl) (by kernel_rfl) (by kernel_rfl) (by rfl) ?_ ?_; rotate_left; focus ((intro W hW; go_simp) <;> with_reducible rfl)) | refine grow_skip (i := 2) (oi := { dst := some 136, op := Op.fieldAddr 29 (Operand.tmp 6) 4, type := 0, pos := "law.go:82", after := #[{ on := 1, ground := Ground.guard }], guard := some (1, true) }) rfl (by kernel_rfl) (by kernel_rfl) (by kernel_rfl) (by rfl) ?_ | fail "op 2"
                      simp only [Act.put, List.setIfInBounds_toArray, List.set_cons_zero, List.set_cons_succ]
                      first | (refine grow_take (i := 3) (oi := { dst := some 137, op := Op.load 3 (Operand.tmp 136), type := 3, pos := "law.go:82", after := #[{ on := 2, ground := Ground.data }, { on := 1, ground := Ground.guard }], guard := some (1, true) }) (v := ?_) rfl (by kernel_rfl) (by kernel_rfl) (by kernel_rfl) (by rfl) ?_ ?_; rotate_left; focus ((intro W hW; have fct := F.out W hW; go_simp) <;> with_reducible rfl)) | refine grow_skip (i := 3) (oi := { dst := some 137, op := Op.load 3 (Operand.tmp 136), type := 3, pos := "law.go:82", after := #[{ on := 2, ground := Ground.data }, { on := 1, ground := Ground.guard }], guard := some (1, true) }) rfl (by kernel_rfl) (by kernel_rfl) (by kernel_rfl) (by rfl) ?_ | fail "op 3"
                      simp only [Act.put, List.setIfInBounds_toArray, List.set_cons_zero, List.set_cons_succ]
                      first | (refine grow_take (i := 4) (oi := { dst := some 138, op := Op.binOp BinOp.lss 3 (Operand.tmp 137) (Operand.const (Value.int IntKind.i64 0)) 3, type := 4, pos := "law.go:82", after := #[{ on := 3, ground := Ground.data }, { on := 1, ground := Ground.guard }], guard := some (1, true) }) (v := ?_) rfl (by kernel_rfl) (by kernel_rfl) (by kernel_rfl) (by rfl) ?_ ?_; rotate_left; focus ((intro W hW; have fct := F.out W hW; go_simp) <;> with_reducible rfl)) | refine grow_skip (i := 4) (oi := { dst := some 138, op := Op.binOp BinOp.lss 3 (Operand.tmp 137) (Operand.const (Value.int IntKind.i64 0)) 3, type := 4, pos := "law.go:82", after := #[{ on := 3, ground := Ground.data }, { on := 1, ground := Ground.guard }], guard := some (1, true) }) rfl (by kernel_rfl) (by kernel_rfl) (by kernel_rfl) (by rfl) ?_ | fail "op 4"
                      simp only [Act.put, List.setIfInBounds_toArray, List.set_cons_zero, List.set_cons_succ]
                      first | (refine grow_take (i := 5) (oi := { dst := some 139, op := Op.move (Operand.tmp 138), type := 4, pos := "law.go:82", after := #[{ on := 4, ground := Ground.data }, { on := 1, ground := Ground.chain }, { on := 1, ground := Ground.guard }], guard := some (1, true) }) (v := ?_) rfl (by kernel_rfl) (by kernel_rfl) (by kernel_rfl) (by rfl) ?_ ?_; rotate_left; focus ((intro W hW; go_simp) <;> with_reducible rfl)) | refine grow_skip (i := 5) (oi := { dst := some 139, op := Op.move (Operand.tmp 138), type := 4, pos := "law.go:82", after := #[{ on := 4, ground := Ground.data }, { on := 1, ground := Ground.chain }, { on := 1, ground := Ground.guard }], guard := some (1, true) }) rfl (by kernel_rfl) (by kernel_rfl) (by kernel_rfl) (by rfl) ?_ | fail "op 5"
                      simp only [Act.put, List.setIfInBounds_toArray, List.set_cons_zero, List.set_cons_succ]
                      first | (refine grow_take (i := 6) (oi := { dst := some 140, op := Op.fieldAddr 29 (Operand.tmp 6) 4, type := 0, pos := "law.go:82", after := #[{ on := 5, ground := Ground.guard }], guard := some (5, false) }) (v := ?_) rfl (by kernel_rfl) (by kernel_rfl) (by kernel_rfl) (by rfl) ?_ ?_; rotate_left; focus ((intro W hW; go_simp) <;> with_reducible rfl)) | refine grow_skip (i := 6) (oi := { dst := some 140, op := Op.fieldAddr 29 (Operand.tmp 6) 4, type := 0, pos := "law.go:82", after := #[{ on := 5, ground := Ground.guard }], guard := some (5, false) }) rfl (by kernel_rfl) (by kernel_rfl) (by kernel_rfl) (by rfl) ?_ | fail "op 6"
                      simp only [Act.put, List.setIfInBounds_toArray, List.set_cons_zero, List.set_cons_succ]
                      first | (refine grow_take (i := 7) (oi := { dst := some 141, op := Op.load 3 (Operand.tmp 140), type := 3, pos := "law.go:82", after := #[{ on := 6, ground := Ground.data }, { on := 5, ground := Ground.guard }], guard := some (5, false) }) (v := ?_) rfl (by kernel_rfl) (by kernel_rfl) (by kernel_rfl) (by rfl) ?_ ?_; rotate_left; focus ((intro W hW; have fct := F.out W hW; go_simp) <;> with_reducible rfl)) | refine grow_skip (i := 7) (oi := { dst := some 141, op := Op.load 3 (Operand.tmp 140), type := 3, pos := "law.go:82", after := #[{ on := 6, ground := Ground.data }, { on := 5, ground := Ground.guard }], guard := some (5, false) }) rfl (by kernel_rfl) (by kernel_rfl) (by kernel_rfl) (by rfl) ?_ | fail "op 7"
                      simp only [Act.put, List.setIfInBounds_toArray, List.set_cons_zero, List.set_cons_succ]
                      first | (refine grow_take (i := 8) (oi := { dst := some 142, op := Op.move (Operand.tmp 4), type := 26, pos := "law.go:82", after := #[{ on := 5, ground := Ground.guard }], guard := some (5, false) }) (v := ?_) rfl (by kernel_rfl) (by kernel_rfl) (by kernel_rfl) (by rfl) ?_ ?_; rotate_left; focus ((intro W hW; go_simp) <;> with_reducible rfl)) | refine grow_skip (i := 8) (oi := { dst := some 142, op := Op.move (Operand.tmp 4), type := 26, pos := "law.go:82", after := #[{ on := 5, ground := Ground.guard }], guard := some (5, false) }) rfl (by kernel_rfl) (by kernel_rfl) (by kernel_rfl) (by rfl) ?_ | fail "op 8"
                      simp only [Act.put, List.setIfInBounds_toArray, List.set_cons_zero, List.set_cons_succ]
                      first | (refine grow_take (i := 9) (oi := { dst := some 143, op := Op.fieldAddr 29 (Operand.tmp 6) 3, type := 0, pos := "law.go:82", after := #[{ on := 5, ground := Ground.guard }], guard := some (5, false) }) (v := ?_) rfl (by kernel_rfl) (by kernel_rfl) (by kernel_rfl) (by rfl) ?_ ?_; rotate_left; focus ((intro W hW; go_simp) <;> with_reducible rfl)) | refine grow_skip (i := 9) (oi := { dst := some 143, op := Op.fieldAddr 29 (Operand.tmp 6) 3, type := 0, pos := "law.go:82", after := #[{ on := 5, ground := Ground.guard }], guard := some (5, false) }) rfl (by kernel_rfl) (by kernel_rfl) (by kernel_rfl) (by rfl) ?_ | fail "op 9"
                      simp only [Act.put, List.setIfInBounds_toArray, List.set_cons_zero, List.set_cons_succ]
                      first | (refine grow_take (i := 10) (oi := { dst := some 144, op := Op.load 3 (Operand.tmp 143), type := 3, pos := "law.go:82", after := #[{ on := 9, ground := Ground.data }, { on := 5, ground := Ground.guard }], guard := some (5, false) }) (v := ?_) rfl (by kernel_rfl) (by kernel_rfl) (by kernel_rfl) (by rfl) ?_ ?_; rotate_left; focus ((intro W hW; have fct := F.out W hW; go_simp) <;> with_reducible rfl)) | refine grow_skip (i := 10) (oi := { dst := some 144, op := Op.load 3 (Operand.tmp 143), type := 3, pos := "law.go:82", after := #[{ on := 9, ground := Ground.data }, { on := 5, ground := Ground.guard }], guard := some (5, false) }) rfl (by kernel_rfl) (by kernel_rfl) (by kernel_rfl) (by rfl) ?_ | fail "op 10"
                      simp only [Act.put, List.setIfInBounds_toArray, List.set_cons_zero, List.set_cons_succ]
                      first | (refine grow_take (i := 11) (oi := { dst := some 145, op := Op.indexAddr 26 (Operand.tmp 142) (Operand.tmp 144), type := 0, pos := "law.go:82", after := #[{ on := 8, ground := Ground.data }, { on := 10, ground := Ground.data }, { on := 5, ground := Ground.guard }], guard := some (5, false) }) (v := ?_) rfl (by kernel_rfl) (by kernel_rfl) (by kernel_rfl) (by rfl) ?_ ?_; rotate_left; focus ((intro W hW; have fct := F.out W hW; go_simp) <;> with_reducible rfl)) | refine grow_skip (i := 11) (oi := { dst := some 145, op := Op.indexAddr 26 (Operand.tmp 142) (Operand.tmp 144), type := 0, pos := "law.go:82", after := #[{ on := 8, ground := Ground.data }, { on := 10, ground := Ground.data }, { on := 5, ground := Ground.guard }], guard := some (5, false) }) rfl (by kernel_rfl) (by kernel_rfl) (by kernel_rfl) (by rfl) ?_ | fail "op 11"
                      simp only [Act.put, List.setIfInBounds_toArray, List.set_cons_zero, List.set_cons_succ]
                      first | (refine grow_take (i := 12) (oi := { dst := some 146, op := Op.fieldAddr 33 (Operand.tmp 145) 1, type := 0, pos := "law.go:82", after := #[{ on := 11, ground := Ground.data }, { on := 5, ground := Ground.guard }], guard := some (5, false) }) (v := ?_) rfl (by kernel_rfl) (by kernel_rfl) (by kernel_rfl) (by rfl) ?_ ?_; rotate_left; focus ((intro W hW; go_simp) <;> with_reducible rfl)) | refine grow_skip (i := 12) (oi := { dst := some 146, op := Op.fieldAddr 33 (Operand.tmp 145) 1, type := 0, pos := "law.go:82", after := #[{ on := 11, ground := Ground.data }, { on := 5, ground := Ground.guard }], guard := some (5, false) }) rfl (by kernel_rfl) (by kernel_rfl) (by kernel_rfl) (by rfl) ?_ | fail "op 12"
                      simp only [Act.put, List.setIfInBounds_toArray, List.set_cons_zero, List.set_cons_succ]
                      first | (refine grow_take (i := 13) (oi := { dst := some 147, op := Op.load 9 (Operand.tmp 146), type := 9, pos := "law.go:82", after := #[{ on := 12, ground := Ground.data }, { on := 5, ground := Ground.guard }], guard := some (5, false) }) (v := ?_) rfl (by kernel_rfl) (by kernel_rfl) (by kernel_rfl) (by rfl) ?_ ?_; rotate_left; focus ((intro W hW; have fct := F.out W hW; go_simp) <;> with_reducible rfl)) | refine grow_skip (i := 13) (oi := { dst := some 147, op := Op.load 9 (Operand.tmp 146), type := 9, pos := "law.go:82", after := #[{ on := 12, ground := Ground.data }, { on := 5, ground := Ground.guard }], guard := some (5, false) }) rfl (by kernel_rfl) (by kernel_rfl) (by kernel_rfl) (by rfl) ?_ | fail "op 13"
                      simp only [Act.put, List.setIfInBounds_toArray, List.set_cons_zero, List.set_cons_succ]
                      first | (refine grow_take (i := 14) (oi := { dst := some 148, op := Op.call { callee := Callee.builtin Builtin.len, args := #[Operand.tmp 147], argTypes := #[9] }, type := 3, pos := "law.go:82", after := #[{ on := 13, ground := Ground.data }, { on := 5, ground := Ground.guard }], guard := some (5, false) }) (v := ?_) rfl (by kernel_rfl) (by kernel_rfl) (by kernel_rfl) (by rfl) ?_ ?_; rotate_left; focus ((intro W hW; have fct := F.out W hW; go_simp) <;> with_reducible rfl)) | refine grow_skip (i := 14) (oi := { dst := some 148, op := Op.call { callee := Callee.builtin Builtin.len, args := #[Operand.tmp 147], argTypes := #[9] }, type := 3, pos := "law.go:82", after := #[{ on := 13, ground := Ground.data }, { on := 5, ground := Ground.guard }], guard := some (5, false) }) rfl (by kernel_rfl) (by kernel_rfl) (by kernel_rfl) (by rfl) ?_ | fail "op 14"
                      simp only [Act.put, List.setIfInBounds_toArray, List.set_cons_zero, List.set_cons_succ]
                      first | (refine grow_take (i := 15) (oi := { dst := some 149, op := Op.binOp BinOp.geq 3 (Operand.tmp 141) (Operand.tmp 148) 3, type := 4, pos := "law.go:82", after := #[{ on := 7, ground := Ground.data }, { on := 14, ground := Ground.data }, { on := 5, ground := Ground.guard }], guard := some (5, false) }) (v := ?_) rfl (by kernel_rfl) (by kernel_rfl) (by kernel_rfl) (by rfl) ?_ ?_; rotate_left; focus ((intro W hW; have fct := F.out W hW; go_simp) <;> with_reducible rfl)) | refine grow_skip (i := 15) (oi := { dst := some 149, op := Op.binOp BinOp.geq 3 (Operand.tmp 141) (Operand.tmp 148) 3, type := 4, pos := "law.go:82", after := #[{ on := 7, ground := Ground.data }, { on := 14, ground := Ground.data }, { on := 5, ground := Ground.guard }], guard := some (5, false) }) rfl (by kernel_rfl) (by kernel_rfl) (by kernel_rfl) (by rfl) ?_ | fail "op 15"
                      simp only [Act.put, List.setIfInBounds_toArray, List.set_cons_zero, List.set_cons_succ]
                      first | (refine grow_take (i := 16) (oi := { dst := some 150, op := Op.pick (Operand.tmp 139) (Operand.const (Value.bool true)) (Operand.tmp 149), type := 4, pos := "law.go:82", after := #[{ on := 5, ground := Ground.data }, { on := 15, ground := Ground.data }, { on := 1, ground := Ground.guard }], guard := some (1, true) }) (v := ?_) rfl (by kernel_rfl) (by kernel_rfl) (by kernel_rfl) (by rfl) ?_ ?_; rotate_left; focus ((intro W hW; go_simp) <;> with_reducible rfl)) | refine grow_skip (i := 16) (oi := { dst := some 150, op := Op.pick (Operand.tmp 139) (Operand.const (Value.bool true)) (Operand.tmp 149), type := 4, pos := "law.go:82", after := #[{ on := 5, ground := Ground.data }, { on := 15, ground := Ground.data }, { on := 1, ground := Ground.guard }], guard := some (1, true) }) rfl (by kernel_rfl) (by kernel_rfl) (by kernel_rfl) (by rfl) ?_ | fail "op 16"
                      simp only [Act.put, List.setIfInBounds_toArray, List.set_cons_zero, List.set_cons_succ]
                      refine grow_take (i := 17) (oi := { dst := some 151, op := Op.pick (Operand.tmp 135) (Operand.tmp 150) (Operand.const (Value.bool false)), type := 4, pos := "law.go:82", after := #[{ on := 1, ground := Ground.data }, { on := 16, ground := Ground.data }], guard := none }) (v := ?_) rfl (by kernel_rfl) (by kernel_rfl) (by kernel_rfl) (by rfl) ?_ ?_; rotate_left; focus ((intro W hW; go_simp) <;> with_reducible rfl)
                      simp only [Act.put, List.setIfInBounds_toArray, List.set_cons_zero, List.set_cons_succ]
                      refine grow_done (by kernel_rfl) ?_ _
                      go_wp2_with fail
                      refine C.out.mono ?_
                      rintro e w4 ⟨rfl, rfl⟩
                      go_wp2_with fail
                      go_meet
                      exact ⟨v, fs, HZ.out.1, HZ.out.2, by omega, HB.out.2.2.2.1⟩
                    · have hge : (f.b.length : Int) ≤ at_ := by omega
                      have hb0 : decide (at_ < 0) = false := by simp; omega
                      have h1 : 0 ≤ at_ := by omega
                      generalize f.b.length = Lf at *
                      go_wp2_with fail
                      refine grow_start (fun _ => False) (by kernel_rfl) ?_
                      refine grow_take (i := 0) (oi := { dst := some 134, op := Op.move (Operand.tmp 7), type := 4, pos := "law.go:82", after := #[], guard := none }) (v := ?_) rfl (by kernel_rfl) (by kernel_rfl) (by kernel_rfl) (by rfl) ?_ ?_; rotate_left; focus ((intro W hW; go_simp) <;> with_reducible rfl)
                      simp only [Act.put, List.setIfInBounds_toArray, List.set_cons_zero, List.set_cons_succ]
                      refine grow_take (i := 1) (oi := { dst := some 135, op := Op.move (Operand.tmp 134), type := 4, pos := "law.go:82", after := #[{ on := 0, ground := Ground.data }], guard := none }) (v := ?_) rfl (by kernel_rfl) (by kernel_rfl) (by kernel_rfl) (by rfl) ?_ ?_; rotate_left; focus ((intro W hW; go_simp) <;> with_reducible rfl)
                      simp only [Act.put, List.setIfInBounds_toArray, List.set_cons_zero, List.set_cons_succ]
                      first | (refine grow_take (i := 2) (oi := { dst := some 136, op := Op.fieldAddr 29 (Operand.tmp 6) 4, type := 0, pos := "law.go:82", after := #[{ on := 1, ground := Ground.guard }], guard := some (1, true) }) (v := ?_) rfl (by kernel_rfl) (by kernel_rfl) (by kernel_rfl) (by rfl) ?_ ?_; rotate_left; focus ((intro W hW; go_simp) <;> with_reducible rfl)) | refine grow_skip (i := 2) (oi := { dst := some 136, op := Op.fieldAddr 29 (Operand.tmp 6) 4, type := 0, pos := "law.go:82", after := #[{ on := 1, ground := Ground.guard }], guard := some (1, true) }) rfl (by kernel_rfl) (by kernel_rfl) (by kernel_rfl) (by rfl) ?_ | fail "op 2"
                      simp only [Act.put, List.setIfInBounds_toArray, List.set_cons_zero, List.set_cons_succ]
                      first | (refine grow_take (i := 3) (oi := { dst := some 137, op := Op.load 3 (Operand.tmp 136), type := 3, pos := "law.go:82", after := #[{ on := 2, ground := Ground.data }, { on := 1, ground := Ground.guard }], guard := some (1, true) }) (v := ?_) rfl (by kernel_rfl) (by kernel_rfl) (by kernel_rfl) (by rfl) ?_ ?_; rotate_left; focus ((intro W hW; have fct := F.out W hW; go_simp) <;> with_reducible rfl)) | refine grow_skip (i := 3) (oi := { dst := some 137, op := Op.load 3 (Operand.tmp 136), type := 3, pos := "law.go:82", after := #[{ on := 2, ground := Ground.data }, { on := 1, ground := Ground.guard }], guard := some (1, true) }) rfl (by kernel_rfl) (by kernel_rfl) (by kernel_rfl) (by rfl) ?_ | fail "op 3"
                      simp only [Act.put, List.setIfInBounds_toArray, List.set_cons_zero, List.set_cons_succ]
                      first | (refine grow_take (i := 4) (oi := { dst := some 138, op := Op.binOp BinOp.lss 3 (Operand.tmp 137) (Operand.const (Value.int IntKind.i64 0)) 3, type := 4, pos := "law.go:82", after := #[{ on := 3, ground := Ground.data }, { on := 1, ground := Ground.guard }], guard := some (1, true) }) (v := ?_) rfl (by kernel_rfl) (by kernel_rfl) (by kernel_rfl) (by rfl) ?_ ?_; rotate_left; focus ((intro W hW; have fct := F.out W hW; go_simp) <;> with_reducible rfl)) | refine grow_skip (i := 4) (oi := { dst := some 138, op := Op.binOp BinOp.lss 3 (Operand.tmp 137) (Operand.const (Value.int IntKind.i64 0)) 3, type := 4, pos := "law.go:82", after := #[{ on := 3, ground := Ground.data }, { on := 1, ground := Ground.guard }], guard := some (1, true) }) rfl (by kernel_rfl) (by kernel_rfl) (by kernel_rfl) (by rfl) ?_ | fail "op 4"
                      simp only [Act.put, List.setIfInBounds_toArray, List.set_cons_zero, List.set_cons_succ]
                      first | (refine grow_take (i := 5) (oi := { dst := some 139, op := Op.move (Operand.tmp 138), type := 4, pos := "law.go:82", after := #[{ on := 4, ground := Ground.data }, { on := 1, ground := Ground.chain }, { on := 1, ground := Ground.guard }], guard := some (1, true) }) (v := ?_) rfl (by kernel_rfl) (by kernel_rfl) (by kernel_rfl) (by rfl) ?_ ?_; rotate_left; focus ((intro W hW; go_simp) <;> with_reducible rfl)) | refine grow_skip (i := 5) (oi := { dst := some 139, op := Op.move (Operand.tmp 138), type := 4, pos := "law.go:82", after := #[{ on := 4, ground := Ground.data }, { on := 1, ground := Ground.chain }, { on := 1, ground := Ground.guard }], guard := some (1, true) }) rfl (by kernel_rfl) (by kernel_rfl) (by kernel_rfl) (by rfl) ?_ | fail "op 5"
                      simp only [Act.put, List.setIfInBounds_toArray, List.set_cons_zero, List.set_cons_succ]
                      first | (refine grow_take (i := 6) (oi := { dst := some 140, op := Op.fieldAddr 29 (Operand.tmp 6) 4, type := 0, pos := "law.go:82", after := #[{ on := 5, ground := Ground.guard }], guard := some (5, false) }) (v := ?_) rfl (by kernel_rfl) (by kernel_rfl) (by kernel_rfl) (by rfl) ?_ ?_; rotate_left; focus ((intro W hW; go_simp) <;> with_reducible rfl)) | refine grow_skip (i := 6) (oi := { dst := some 140, op := Op.fieldAddr 29 (Operand.tmp 6) 4, type := 0, pos := "law.go:82", after := #[{ on := 5, ground := Ground.guard }], guard := some (5, false) }) rfl (by kernel_rfl) (by kernel_rfl) (by kernel_rfl) (by rfl) ?_ | fail "op 6"
                      simp only [Act.put, List.setIfInBounds_toArray, List.set_cons_zero, List.set_cons_succ]
                      first | (refine grow_take (i := 7) (oi := { dst := some 141, op := Op.load 3 (Operand.tmp 140), type := 3, pos := "law.go:82", after := #[{ on := 6, ground := Ground.data }, { on := 5, ground := Ground.guard }], guard := some (5, false) }) (v := ?_) rfl (by kernel_rfl) (by kernel_rfl) (by kernel_rfl) (by rfl) ?_ ?_; rotate_left; focus ((intro W hW; have fct := F.out W hW; go_simp) <;> with_reducible rfl)) | refine grow_skip (i := 7) (oi := { dst := some 141, op := Op.load 3 (Operand.tmp 140), type := 3, pos := "law.go:82", after := #[{ on := 6, ground := Ground.data }, { on := 5, ground := Ground.guard }], guard := some (5, false) }) rfl (by kernel_rfl) (by kernel_rfl) (by kernel_rfl) (by rfl) ?_ | fail "op 7"
                      simp only [Act.put, List.setIfInBounds_toArray, List.set_cons_zero, List.set_cons_succ]
                      first | (refine grow_take (i := 8) (oi := { dst := some 142, op := Op.move (Operand.tmp 4), type := 26, pos := "law.go:82", after := #[{ on := 5, ground := Ground.guard }], guard := some (5, false) }) (v := ?_) rfl (by kernel_rfl) (by kernel_rfl) (by kernel_rfl) (by rfl) ?_ ?_; rotate_left; focus ((intro W hW; go_simp) <;> with_reducible rfl)) | refine grow_skip (i := 8) (oi := { dst := some 142, op := Op.move (Operand.tmp 4), type := 26, pos := "law.go:82", after := #[{ on := 5, ground := Ground.guard }], guard := some (5, false) }) rfl (by kernel_rfl) (by kernel_rfl) (by kernel_rfl) (by rfl) ?_ | fail "op 8"
                      simp only [Act.put, List.setIfInBounds_toArray, List.set_cons_zero, List.set_cons_succ]
                      first | (refine grow_take (i := 9) (oi := { dst := some 143, op := Op.fieldAddr 29 (Operand.tmp 6) 3, type := 0, pos := "law.go:82", after := #[{ on := 5, ground := Ground.guard }], guard := some (5, false) }) (v := ?_) rfl (by kernel_rfl) (by kernel_rfl) (by kernel_rfl) (by rfl) ?_ ?_; rotate_left; focus ((intro W hW; go_simp) <;> with_reducible rfl)) | refine grow_skip (i := 9) (oi := { dst := some 143, op := Op.fieldAddr 29 (Operand.tmp 6) 3, type := 0, pos := "law.go:82", after := #[{ on := 5, ground := Ground.guard }], guard := some (5, false) }) rfl (by kernel_rfl) (by kernel_rfl) (by kernel_rfl) (by rfl) ?_ | fail "op 9"
                      simp only [Act.put, List.setIfInBounds_toArray, List.set_cons_zero, List.set_cons_succ]
                      first | (refine grow_take (i := 10) (oi := { dst := some 144, op := Op.load 3 (Operand.tmp 143), type := 3, pos := "law.go:82", after := #[{ on := 9, ground := Ground.data }, { on := 5, ground := Ground.guard }], guard := some (5, false) }) (v := ?_) rfl (by kernel_rfl) (by kernel_rfl) (by kernel_rfl) (by rfl) ?_ ?_; rotate_left; focus ((intro W hW; have fct := F.out W hW; go_simp) <;> with_reducible rfl)) | refine grow_skip (i := 10) (oi := { dst := some 144, op := Op.load 3 (Operand.tmp 143), type := 3, pos := "law.go:82", after := #[{ on := 9, ground := Ground.data }, { on := 5, ground := Ground.guard }], guard := some (5, false) }) rfl (by kernel_rfl) (by kernel_rfl) (by kernel_rfl) (by rfl) ?_ | fail "op 10"
                      simp only [Act.put, List.setIfInBounds_toArray, List.set_cons_zero, List.set_cons_succ]
                      first | (refine grow_take (i := 11) (oi := { dst := some 145, op := Op.indexAddr 26 (Operand.tmp 142) (Operand.tmp 144), type := 0, pos := "law.go:82", after := #[{ on := 8, ground := Ground.data }, { on := 10, ground := Ground.data }, { on := 5, ground := Ground.guard }], guard := some (5, false) }) (v := ?_) rfl (by kernel_rfl) (by kernel_rfl) (by kernel_rfl) (by rfl) ?_ ?_; rotate_left; focus ((intro W hW; have fct := F.out W hW; go_simp) <;> with_reducible rfl)) | refine grow_skip (i := 11) (oi := { dst := some 145, op := Op.indexAddr 26 (Operand.tmp 142) (Operand.tmp 144), type := 0, pos := "law.go:82", after := #[{ on := 8, ground := Ground.data }, { on := 10, ground := Ground.data }, { on := 5, ground := Ground.guard }], guard := some (5, false) }) rfl (by kernel_rfl) (by kernel_rfl) (by kernel_rfl) (by rfl) ?_ | fail "op 11"
                      simp only [Act.put, List.setIfInBounds_toArray, List.set_cons_zero, List.set_cons_succ]
                      first | (refine grow_take (i := 12) (oi := { dst := some 146, op := Op.fieldAddr 33 (Operand.tmp 145) 1, type := 0, pos := "law.go:82", after := #[{ on := 11, ground := Ground.data }, { on := 5, ground := Ground.guard }], guard := some (5, false) }) (v := ?_) rfl (by kernel_rfl) (by kernel_rfl) (by kernel_rfl) (by rfl) ?_ ?_; rotate_left; focus ((intro W hW; go_simp) <;> with_reducible rfl)) | refine grow_skip (i := 12) (oi := { dst := some 146, op := Op.fieldAddr 33 (Operand.tmp 145) 1, type := 0, pos := "law.go:82", after := #[{ on := 11, ground := Ground.data }, { on := 5, ground := Ground.guard }], guard := some (5, false) }) rfl (by kernel_rfl) (by kernel_rfl) (by kernel_rfl) (by rfl) ?_ | fail "op 12"
                      simp only [Act.put, List.setIfInBounds_toArray, List.set_cons_zero, List.set_cons_succ]
                      first | (refine grow_take (i := 13) (oi := { dst := some 147, op := Op.load 9 (Operand.tmp 146), type := 9, pos := "law.go:82", after := #[{ on := 12, ground := Ground.data }, { on := 5, ground := Ground.guard }], guard := some (5, false) }) (v := ?_) rfl (by kernel_rfl) (by kernel_rfl) (by kernel_rfl) (by rfl) ?_ ?_; rotate_left; focus ((intro W hW; have fct := F.out W hW; go_simp) <;> with_reducible rfl)) | refine grow_skip (i := 13) (oi := { dst := some 147, op := Op.load 9 (Operand.tmp 146), type := 9, pos := "law.go:82", after := #[{ on := 12, ground := Ground.data }, { on := 5, ground := Ground.guard }], guard := some (5, false) }) rfl (by kernel_rfl) (by kernel_rfl) (by kernel_rfl) (by rfl) ?_ | fail "op 13"
                      simp only [Act.put, List.setIfInBounds_toArray, List.set_cons_zero, List.set_cons_succ]
                      first | (refine grow_take (i := 14) (oi := { dst := some 148, op := Op.call { callee := Callee.builtin Builtin.len, args := #[Operand.tmp 147], argTypes := #[9] }, type := 3, pos := "law.go:82", after := #[{ on := 13, ground := Ground.data }, { on := 5, ground := Ground.guard }], guard := some (5, false) }) (v := ?_) rfl (by kernel_rfl) (by kernel_rfl) (by kernel_rfl) (by rfl) ?_ ?_; rotate_left; focus ((intro W hW; have fct := F.out W hW; go_simp) <;> with_reducible rfl)) | refine grow_skip (i := 14) (oi := { dst := some 148, op := Op.call { callee := Callee.builtin Builtin.len, args := #[Operand.tmp 147], argTypes := #[9] }, type := 3, pos := "law.go:82", after := #[{ on := 13, ground := Ground.data }, { on := 5, ground := Ground.guard }], guard := some (5, false) }) rfl (by kernel_rfl) (by kernel_rfl) (by kernel_rfl) (by rfl) ?_ | fail "op 14"
                      simp only [Act.put, List.setIfInBounds_toArray, List.set_cons_zero, List.set_cons_succ]
                      first | (refine grow_take (i := 15) (oi := { dst := some 149, op := Op.binOp BinOp.geq 3 (Operand.tmp 141) (Operand.tmp 148) 3, type := 4, pos := "law.go:82", after := #[{ on := 7, ground := Ground.data }, { on := 14, ground := Ground.data }, { on := 5, ground := Ground.guard }], guard := some (5, false) }) (v := ?_) rfl (by kernel_rfl) (by kernel_rfl) (by kernel_rfl) (by rfl) ?_ ?_; rotate_left; focus ((intro W hW; have fct := F.out W hW; go_simp) <;> with_reducible rfl)) | refine grow_skip (i := 15) (oi := { dst := some 149, op := Op.binOp BinOp.geq 3 (Operand.tmp 141) (Operand.tmp 148) 3, type := 4, pos := "law.go:82", after := #[{ on := 7, ground := Ground.data }, { on := 14, ground := Ground.data }, { on := 5, ground := Ground.guard }], guard := some (5, false) }) rfl (by kernel_rfl) (by kernel_rfl) (by kernel_rfl) (by rfl) ?_ | fail "op 15"
                      simp only [Act.put, List.setIfInBounds_toArray, List.set_cons_zero, List.set_cons_succ]
                      first | (refine grow_take (i := 16) (oi := { dst := some 150, op := Op.pick (Operand.tmp 139) (Operand.const (Value.bool true)) (Operand.tmp 149), type := 4, pos := "law.go:82", after := #[{ on := 5, ground := Ground.data }, { on := 15, ground := Ground.data }, { on := 1, ground := Ground.guard }], guard := some (1, true) }) (v := ?_) rfl (by kernel_rfl) (by kernel_rfl) (by kernel_rfl) (by rfl) ?_ ?_; rotate_left; focus ((intro W hW; go_simp) <;> with_reducible rfl)) | refine grow_skip (i := 16) (oi := { dst := some 150, op := Op.pick (Operand.tmp 139) (Operand.const (Value.bool true)) (Operand.tmp 149), type := 4, pos := "law.go:82", after := #[{ on := 5, ground := Ground.data }, { on := 15, ground := Ground.data }, { on := 1, ground := Ground.guard }], guard := some (1, true) }) rfl (by kernel_rfl) (by kernel_rfl) (by kernel_rfl) (by rfl) ?_ | fail "op 16"
                      simp only [Act.put, List.setIfInBounds_toArray, List.set_cons_zero, List.set_cons_succ]
                      refine grow_take (i := 17) (oi := { dst := some 151, op := Op.pick (Operand.tmp 135) (Operand.tmp 150) (Operand.const (Value.bool false)), type := 4, pos := "law.go:82", after := #[{ on := 1, ground := Ground.data }, { on := 16, ground := Ground.data }], guard := none }) (v := ?_) rfl (by kernel_rfl) (by kernel_rfl) (by kernel_rfl) (by rfl) ?_ ?_; rotate_left; focus ((intro W hW; go_simp) <;> with_reducible rfl)
                      simp only [Act.put, List.setIfInBounds_toArray, List.set_cons_zero, List.set_cons_succ]
                      refine grow_done (by kernel_rfl) ?_ _
                      go_wp2_with fail
                      refine C.out.mono ?_
                      rintro e w4 ⟨rfl, rfl⟩
                      go_wp2_with fail
                      go_meet
                      exact ⟨v, fs, HZ.out.1, HZ.out.2, by omega, HB.out.2.2.2.1⟩
                  · obtain ⟨q, rfl⟩ := Int.eq_ofNat_of_zero_le (show 0 ≤ at_ by omega)
                    have hql : q < f.b.length := by omega
                    have hlt : (q : Int) < f.b.length := by omega
                    have hge2 : decide (f.b.length ≤ q) = false := by simp; omega
                    have hs3 := HB.out.1.at_.new (Chg.refl (fun _ => False) w3).drew
                    cases hft : f.t with
                    | true =>
                      rw [hft] at hxd2 x2
                      have C := Lib.hid (turn_twice w3.drew b b v fs hs3 j f HF.out q hql hft (.int .u8 (y.toNat : Int)))
                      have HZ := Lib.hid (show St w w3.drew b v fs ∧ RowP w3.drew b (.slice (some ⟨gr, 0, none⟩) fs.length cr) fs from ⟨HB.out.1.news (Chg.refl (fun _ => False) w3).drew, own_chg HB.out.2.1 (Chg.refl (fun _ => False) w3).drew fun _ _ => id⟩)
                      clear hs3 hql
                      generalize f.b.length = Lf at *
                      go_wp2_with fail
                      refine grow_start (fun _ => False) (by kernel_rfl) ?_
                      refine grow_take (i := 0) (oi := { dst := some 134, op := Op.move (Operand.tmp 7), type := 4, pos := "law.go:82", after := #[], guard := none }) (v := ?_) rfl (by kernel_rfl) (by kernel_rfl) (by kernel_rfl) (by rfl) ?_ ?_; rotate_left; focus ((intro W hW; go_simp) <;> with_reducible rfl)
                      simp only [Act.put, List.setIfInBounds_toArray, List.set_cons_zero, List.set_cons_succ]
                      refine grow_take (i := 1) (oi := { dst := some 135, op := Op.move (Operand.tmp 134), type := 4, pos := "law.go:82", after := #[{ on := 0, ground := Ground.data }], guard := none }) (v := ?_) rfl (by kernel_rfl) (by kernel_rfl) (by kernel_rfl) (by rfl) ?_ ?_; rotate_left; focus ((intro W hW; go_simp) <;> with_reducible rfl)
                      simp only [Act.put, List.setIfInBounds_toArray, List.set_cons_zero, List.set_cons_succ]
                      first | (refine grow_take (i := 2) (oi := { dst := some 136, op := Op.fieldAddr 29 (Operand.tmp 6) 4, type := 0, pos := "law.go:82", after := #[{ on := 1, ground := Ground.guard }], guard := some (1, true) }) (v := ?_) rfl (by kernel_rfl) (by kernel_rfl) (by kernel_rfl) (by rfl) ?_ ?_; rotate_left; focus ((intro W hW; go_simp) <;> with_reducible rfl)) | refine grow_skip (i := 2) (oi := { dst := some 136, op := Op.fieldAddr 29 (Operand.tmp 6) 4, type := 0, pos := "law.go:82", after := #[{ on := 1, ground := Ground.guard }], guard := some (1, true) }) rfl (by kernel_rfl) (by kernel_rfl) (by kernel_rfl) (by rfl) ?_ | fail "op 2"
                      simp only [Act.put, List.setIfInBounds_toArray, List.set_cons_zero, List.set_cons_succ]
                      first | (refine grow_take (i := 3) (oi := { dst := some 137, op := Op.load 3 (Operand.tmp 136), type := 3, pos := "law.go:82", after := #[{ on := 2, ground := Ground.data }, { on := 1, ground := Ground.guard }], guard := some (1, true) }) (v := ?_) rfl (by kernel_rfl) (by kernel_rfl) (by kernel_rfl) (by rfl) ?_ ?_; rotate_left; focus ((intro W hW; have fct := F.out W hW; go_simp) <;> with_reducible rfl)) | refine grow_skip (i := 3) (oi := { dst := some 137, op := Op.load 3 (Operand.tmp 136), type := 3, pos := "law.go:82", after := #[{ on := 2, ground := Ground.data }, { on := 1, ground := Ground.guard }], guard := some (1, true) }) rfl (by kernel_rfl) (by kernel_rfl) (by kernel_rfl) (by rfl) ?_ | fail "op 3"
                      simp only [Act.put, List.setIfInBounds_toArray, List.set_cons_zero, List.set_cons_succ]
                      first | (refine grow_take (i := 4) (oi := { dst := some 138, op := Op.binOp BinOp.lss 3 (Operand.tmp 137) (Operand.const (Value.int IntKind.i64 0)) 3, type := 4, pos := "law.go:82", after := #[{ on := 3, ground := Ground.data }, { on := 1, ground := Ground.guard }], guard := some (1, true) }) (v := ?_) rfl (by kernel_rfl) (by kernel_rfl) (by kernel_rfl) (by rfl) ?_ ?_; rotate_left; focus ((intro W hW; have fct := F.out W hW; go_simp) <;> with_reducible rfl)) | refine grow_skip (i := 4) (oi := { dst := some 138, op := Op.binOp BinOp.lss 3 (Operand.tmp 137) (Operand.const (Value.int IntKind.i64 0)) 3, type := 4, pos := "law.go:82", after := #[{ on := 3, ground := Ground.data }, { on := 1, ground := Ground.guard }], guard := some (1, true) }) rfl (by kernel_rfl) (by kernel_rfl) (by kernel_rfl) (by rfl) ?_ | fail "op 4"
                      simp only [Act.put, List.setIfInBounds_toArray, List.set_cons_zero, List.set_cons_succ]
                      first | (refine grow_take (i := 5) (oi := { dst := some 139, op := Op.move (Operand.tmp 138), type := 4, pos := "law.go:82", after := #[{ on := 4, ground := Ground.data }, { on := 1, ground := Ground.chain }, { on := 1, ground := Ground.guard }], guard := some (1, true) }) (v := ?_) rfl (by kernel_rfl) (by kernel_rfl) (by kernel_rfl) (by rfl) ?_ ?_; rotate_left; focus ((intro W hW; go_simp) <;> with_reducible rfl)) | refine grow_skip (i := 5) (oi := { dst := some 139, op := Op.move (Operand.tmp 138), type := 4, pos := "law.go:82", after := #[{ on := 4, ground := Ground.data }, { on := 1, ground := Ground.chain }, { on := 1, ground := Ground.guard }], guard := some (1, true) }) rfl (by kernel_rfl) (by kernel_rfl) (by kernel_rfl) (by rfl) ?_ | fail "op 5"
                      simp only [Act.put, List.setIfInBounds_toArray, List.set_cons_zero, List.set_cons_succ]
                      first | (refine grow_take (i := 6) (oi := { dst := some 140, op := Op.fieldAddr 29 (Operand.tmp 6) 4, type := 0, pos := "law.go:82", after := #[{ on := 5, ground := Ground.guard }], guard := some (5, false) }) (v := ?_) rfl (by kernel_rfl) (by kernel_rfl) (by kernel_rfl) (by rfl) ?_ ?_; rotate_left; focus ((intro W hW; go_simp) <;> with_reducible rfl)) | refine grow_skip (i := 6) (oi := { dst := some 140, op := Op.fieldAddr 29 (Operand.tmp 6) 4, type := 0, pos := "law.go:82", after := #[{ on := 5, ground := Ground.guard }], guard := some (5, false) }) rfl (by kernel_rfl) (by kernel_rfl) (by kernel_rfl) (by rfl) ?_ | fail "op 6"
                      simp only [Act.put, List.setIfInBounds_toArray, List.set_cons_zero, List.set_cons_succ]
                      first | (refine grow_take (i := 7) (oi := { dst := some 141, op := Op.load 3 (Operand.tmp 140), type := 3, pos := "law.go:82", after := #[{ on := 6, ground := Ground.data }, { on := 5, ground := Ground.guard }], guard := some (5, false) }) (v := ?_) rfl (by kernel_rfl) (by kernel_rfl) (by kernel_rfl) (by rfl) ?_ ?_; rotate_left; focus ((intro W hW; have fct := F.out W hW; go_simp) <;> with_reducible rfl)) | refine grow_skip (i := 7) (oi := { dst := some 141, op := Op.load 3 (Operand.tmp 140), type := 3, pos := "law.go:82", after := #[{ on := 6, ground := Ground.data }, { on := 5, ground := Ground.guard }], guard := some (5, false) }) rfl (by kernel_rfl) (by kernel_rfl) (by kernel_rfl) (by rfl) ?_ | fail "op 7"
                      simp only [Act.put, List.setIfInBounds_toArray, List.set_cons_zero, List.set_cons_succ]
                      first | (refine grow_take (i := 8) (oi := { dst := some 142, op := Op.move (Operand.tmp 4), type := 26, pos := "law.go:82", after := #[{ on := 5, ground := Ground.guard }], guard := some (5, false) }) (v := ?_) rfl (by kernel_rfl) (by kernel_rfl) (by kernel_rfl) (by rfl) ?_ ?_; rotate_left; focus ((intro W hW; go_simp) <;> with_reducible rfl)) | refine grow_skip (i := 8) (oi := { dst := some 142, op := Op.move (Operand.tmp 4), type := 26, pos := "law.go:82", after := #[{ on := 5, ground := Ground.guard }], guard := some (5, false) }) rfl (by kernel_rfl) (by kernel_rfl) (by kernel_rfl) (by rfl) ?_ | fail "op 8"
                      simp only [Act.put, List.setIfInBounds_toArray, List.set_cons_zero, List.set_cons_succ]
                      first | (refine grow_take (i := 9) (oi := { dst := some 143, op := Op.fieldAddr 29 (Operand.tmp 6) 3, type := 0, pos := "law.go:82", after := #[{ on := 5, ground := Ground.guard }], guard := some (5, false) }) (v := ?_) rfl (by kernel_rfl) (by kernel_rfl) (by kernel_rfl) (by rfl) ?_ ?_; rotate_left; focus ((intro W hW; go_simp) <;> with_reducible rfl)) | refine grow_skip (i := 9) (oi := { dst := some 143, op := Op.fieldAddr 29 (Operand.tmp 6) 3, type := 0, pos := "law.go:82", after := #[{ on := 5, ground := Ground.guard }], guard := some (5, false) }) rfl (by kernel_rfl) (by kernel_rfl) (by kernel_rfl) (by rfl) ?_ | fail "op 9"
                      simp only [Act.put, List.setIfInBounds_toArray, List.set_cons_zero, List.set_cons_succ]
                      first | (refine grow_take (i := 10) (oi := { dst := some 144, op := Op.load 3 (Operand.tmp 143), type := 3, pos := "law.go:82", after := #[{ on := 9, ground := Ground.data }, { on := 5, ground := Ground.guard }], guard := some (5, false) }) (v := ?_) rfl (by kernel_rfl) (by kernel_rfl) (by kernel_rfl) (by rfl) ?_ ?_; rotate_left; focus ((intro W hW; have fct := F.out W hW; go_simp) <;> with_reducible rfl)) | refine grow_skip (i := 10) (oi := { dst := some 144, op := Op.load 3 (Operand.tmp 143), type := 3, pos := "law.go:82", after := #[{ on := 9, ground := Ground.data }, { on := 5, ground := Ground.guard }], guard := some (5, false) }) rfl (by kernel_rfl) (by kernel_rfl) (by kernel_rfl) (by rfl) ?_ | fail "op 10"
                      simp only [Act.put, List.setIfInBounds_toArray, List.set_cons_zero, List.set_cons_succ]
                      first | (refine grow_take (i := 11) (oi := { dst := some 145, op := Op.indexAddr 26 (Operand.tmp 142) (Operand.tmp 144), type := 0, pos := "law.go:82", after := #[{ on := 8, ground := Ground.data }, { on := 10, ground := Ground.data }, { on := 5, ground := Ground.guard }], guard := some (5, false) }) (v := ?_) rfl (by kernel_rfl) (by kernel_rfl) (by kernel_rfl) (by rfl) ?_ ?_; rotate_left; focus ((intro W hW; have fct := F.out W hW; go_simp) <;> with_reducible rfl)) | refine grow_skip (i := 11) (oi := { dst := some 145, op := Op.indexAddr 26 (Operand.tmp 142) (Operand.tmp 144), type := 0, pos := "law.go:82", after := #[{ on := 8, ground := Ground.data }, { on := 10, ground := Ground.data }, { on := 5, ground := Ground.guard }], guard := some (5, false) }) rfl (by kernel_rfl) (by kernel_rfl) (by kernel_rfl) (by rfl) ?_ | fail "op 11"
                      simp only [Act.put, List.setIfInBounds_toArray, List.set_cons_zero, List.set_cons_succ]
                      first | (refine grow_take (i := 12) (oi := { dst := some 146, op := Op.fieldAddr 33 (Operand.tmp 145) 1, type := 0, pos := "law.go:82", after := #[{ on := 11, ground := Ground.data }, { on := 5, ground := Ground.guard }], guard := some (5, false) }) (v := ?_) rfl (by kernel_rfl) (by kernel_rfl) (by kernel_rfl) (by rfl) ?_ ?_; rotate_left; focus ((intro W hW; go_simp) <;> with_reducible rfl)) | refine grow_skip (i := 12) (oi := { dst := some 146, op := Op.fieldAddr 33 (Operand.tmp 145) 1, type := 0, pos := "law.go:82", after := #[{ on := 11, ground := Ground.data }, { on := 5, ground := Ground.guard }], guard := some (5, false) }) rfl (by kernel_rfl) (by kernel_rfl) (by kernel_rfl) (by rfl) ?_ | fail "op 12"
                      simp only [Act.put, List.setIfInBounds_toArray, List.set_cons_zero, List.set_cons_succ]
                      first | (refine grow_take (i := 13) (oi := { dst := some 147, op := Op.load 9 (Operand.tmp 146), type := 9, pos := "law.go:82", after := #[{ on := 12, ground := Ground.data }, { on := 5, ground := Ground.guard }], guard := some (5, false) }) (v := ?_) rfl (by kernel_rfl) (by kernel_rfl) (by kernel_rfl) (by rfl) ?_ ?_; rotate_left; focus ((intro W hW; have fct := F.out W hW; go_simp) <;> with_reducible rfl)) | refine grow_skip (i := 13) (oi := { dst := some 147, op := Op.load 9 (Operand.tmp 146), type := 9, pos := "law.go:82", after := #[{ on := 12, ground := Ground.data }, { on := 5, ground := Ground.guard }], guard := some (5, false) }) rfl (by kernel_rfl) (by kernel_rfl) (by kernel_rfl) (by rfl) ?_ | fail "op 13"
                      simp only [Act.put, List.setIfInBounds_toArray, List.set_cons_zero, List.set_cons_succ]
                      first | (refine grow_take (i := 14) (oi := { dst := some 148, op := Op.call { callee := Callee.builtin Builtin.len, args := #[Operand.tmp 147], argTypes := #[9] }, type := 3, pos := "law.go:82", after := #[{ on := 13, ground := Ground.data }, { on := 5, ground := Ground.guard }], guard := some (5, false) }) (v := ?_) rfl (by kernel_rfl) (by kernel_rfl) (by kernel_rfl) (by rfl) ?_ ?_; rotate_left; focus ((intro W hW; have fct := F.out W hW; go_simp) <;> with_reducible rfl)) | refine grow_skip (i := 14) (oi := { dst := some 148, op := Op.call { callee := Callee.builtin Builtin.len, args := #[Operand.tmp 147], argTypes := #[9] }, type := 3, pos := "law.go:82", after := #[{ on := 13, ground := Ground.data }, { on := 5, ground := Ground.guard }], guard := some (5, false) }) rfl (by kernel_rfl) (by kernel_rfl) (by kernel_rfl) (by rfl) ?_ | fail "op 14"
                      simp only [Act.put, List.setIfInBounds_toArray, List.set_cons_zero, List.set_cons_succ]
                      first | (refine grow_take (i := 15) (oi := { dst := some 149, op := Op.binOp BinOp.geq 3 (Operand.tmp 141) (Operand.tmp 148) 3, type := 4, pos := "law.go:82", after := #[{ on := 7, ground := Ground.data }, { on := 14, ground := Ground.data }, { on := 5, ground := Ground.guard }], guard := some (5, false) }) (v := ?_) rfl (by kernel_rfl) (by kernel_rfl) (by kernel_rfl) (by rfl) ?_ ?_; rotate_left; focus ((intro W hW; have fct := F.out W hW; go_simp) <;> with_reducible rfl)) | refine grow_skip (i := 15) (oi := { dst := some 149, op := Op.binOp BinOp.geq 3 (Operand.tmp 141) (Operand.tmp 148) 3, type := 4, pos := "law.go:82", after := #[{ on := 7, ground := Ground.data }, { on := 14, ground := Ground.data }, { on := 5, ground := Ground.guard }], guard := some (5, false) }) rfl (by kernel_rfl) (by kernel_rfl) (by kernel_rfl) (by rfl) ?_ | fail "op 15"
                      simp only [Act.put, List.setIfInBounds_toArray, List.set_cons_zero, List.set_cons_succ]
                      first | (refine grow_take (i := 16) (oi := { dst := some 150, op := Op.pick (Operand.tmp 139) (Operand.const (Value.bool true)) (Operand.tmp 149), type := 4, pos := "law.go:82", after := #[{ on := 5, ground := Ground.data }, { on := 15, ground := Ground.data }, { on := 1, ground := Ground.guard }], guard := some (1, true) }) (v := ?_) rfl (by kernel_rfl) (by kernel_rfl) (by kernel_rfl) (by rfl) ?_ ?_; rotate_left; focus ((intro W hW; go_simp) <;> with_reducible rfl)) | refine grow_skip (i := 16) (oi := { dst := some 150, op := Op.pick (Operand.tmp 139) (Operand.const (Value.bool true)) (Operand.tmp 149), type := 4, pos := "law.go:82", after := #[{ on := 5, ground := Ground.data }, { on := 15, ground := Ground.data }, { on := 1, ground := Ground.guard }], guard := some (1, true) }) rfl (by kernel_rfl) (by kernel_rfl) (by kernel_rfl) (by rfl) ?_ | fail "op 16"
                      simp only [Act.put, List.setIfInBounds_toArray, List.set_cons_zero, List.set_cons_succ]
                      refine grow_take (i := 17) (oi := { dst := some 151, op := Op.pick (Operand.tmp 135) (Operand.tmp 150) (Operand.const (Value.bool false)), type := 4, pos := "law.go:82", after := #[{ on := 1, ground := Ground.data }, { on := 16, ground := Ground.data }], guard := none }) (v := ?_) rfl (by kernel_rfl) (by kernel_rfl) (by kernel_rfl) (by rfl) ?_ ?_; rotate_left; focus ((intro W hW; go_simp) <;> with_reducible rfl)
                      simp only [Act.put, List.setIfInBounds_toArray, List.set_cons_zero, List.set_cons_succ]
                      refine grow_done (by kernel_rfl) ?_ _
                      go_wp2_with fail
                      refine C.out.mono ?_
                      rintro e w4 ⟨rfl, rfl⟩
                      go_wp2_with fail
                      go_meet
                      exact ⟨v, fs, HZ.out.1, HZ.out.2, by omega, HB.out.2.2.2.1⟩
                    | false =>
                      rw [hft] at hxd2 x2
                      have C := Lib.hid (turn_ok w3.drew b b v fs hs3 j f HF.out q hql hft y)
                      have hfb := HB.out.2.2.2.1 f (List.mem_of_getElem? HF.out)
                      have HS := Lib.hid (And.intro hs3 hql)
                      have HD := Lib.hid (And.intro (HB.out.1.news (Chg.refl (fun _ => False) w3).drew) (And.intro (own_chg HB.out.2.1 (Chg.refl (fun _ => False) w3).drew fun _ _ => id) (HB.out.2.2.1.chg (Chg.refl (fun _ => False) w3).drew id)))
                      obtain ⟨fb, hfb2⟩ : ∃ fb, f.b = fb := ⟨_, rfl⟩
                      have HFB := Lib.hid hfb2
                      obtain ⟨Lf, hLf⟩ : ∃ Lf, f.b.length = Lf := ⟨_, rfl⟩
                      have HLF := Lib.hid hLf
                      rw [hLf] at hfb hlt hge2 hsz
                      clear hs3 hql hfb2 hLf hat
                      go_wp2_with fail
                      refine grow_start (fun _ => False) (by kernel_rfl) ?_
                      refine grow_take (i := 0) (oi := { dst := some 134, op := Op.move (Operand.tmp 7), type := 4, pos := "law.go:82", after := #[], guard := none }) (v := ?_) rfl (by kernel_rfl) (by kernel_rfl) (by kernel_rfl) (by rfl) ?_ ?_; rotate_left; focus ((intro W hW; go_simp) <;> with_reducible rfl)
                      simp only [Act.put, List.setIfInBounds_toArray, List.set_cons_zero, List.set_cons_succ]
                      refine grow_take (i := 1) (oi := { dst := some 135, op := Op.move (Operand.tmp 134), type := 4, pos := "law.go:82", after := #[{ on := 0, ground := Ground.data }], guard := none }) (v := ?_) rfl (by kernel_rfl) (by kernel_rfl) (by kernel_rfl) (by rfl) ?_ ?_; rotate_left; focus ((intro W hW; go_simp) <;> with_reducible rfl)
                      simp only [Act.put, List.setIfInBounds_toArray, List.set_cons_zero, List.set_cons_succ]
                      first | (refine grow_take (i := 2) (oi := { dst := some 136, op := Op.fieldAddr 29 (Operand.tmp 6) 4, type := 0, pos := "law.go:82", after := #[{ on := 1, ground := Ground.guard }], guard := some (1, true) }) (v := ?_) rfl (by kernel_rfl) (by kernel_rfl) (by kernel_rfl) (by rfl) ?_ ?_; rotate_left; focus ((intro W hW; go_simp) <;> with_reducible rfl)) | refine grow_skip (i := 2) (oi := { dst := some 136, op := Op.fieldAddr 29 (Operand.tmp 6) 4, type := 0, pos := "law.go:82", after := #[{ on := 1, ground := Ground.guard }], guard := some (1, true) }) rfl (by kernel_rfl) (by kernel_rfl) (by kernel_rfl) (by rfl) ?_ | fail "op 2"
                      simp only [Act.put, List.setIfInBounds_toArray, List.set_cons_zero, List.set_cons_succ]
                      first | (refine grow_take (i := 3) (oi := { dst := some 137, op := Op.load 3 (Operand.tmp 136), type := 3, pos := "law.go:82", after := #[{ on := 2, ground := Ground.data }, { on := 1, ground := Ground.guard }], guard := some (1, true) }) (v := ?_) rfl (by kernel_rfl) (by kernel_rfl) (by kernel_rfl) (by rfl) ?_ ?_; rotate_left; focus ((intro W hW; have fct := F.out W hW; go_simp) <;> with_reducible rfl)) | refine grow_skip (i := 3) (oi := { dst := some 137, op := Op.load 3 (Operand.tmp 136), type := 3, pos := "law.go:82", after := #[{ on := 2, ground := Ground.data }, { on := 1, ground := Ground.guard }], guard := some (1, true) }) rfl (by kernel_rfl) (by kernel_rfl) (by kernel_rfl) (by rfl) ?_ | fail "op 3"
                      simp only [Act.put, List.setIfInBounds_toArray, List.set_cons_zero, List.set_cons_succ]
                      first | (refine grow_take (i := 4) (oi := { dst := some 138, op := Op.binOp BinOp.lss 3 (Operand.tmp 137) (Operand.const (Value.int IntKind.i64 0)) 3, type := 4, pos := "law.go:82", after := #[{ on := 3, ground := Ground.data }, { on := 1, ground := Ground.guard }], guard := some (1, true) }) (v := ?_) rfl (by kernel_rfl) (by kernel_rfl) (by kernel_rfl) (by rfl) ?_ ?_; rotate_left; focus ((intro W hW; have fct := F.out W hW; go_simp) <;> with_reducible rfl)) | refine grow_skip (i := 4) (oi := { dst := some 138, op := Op.binOp BinOp.lss 3 (Operand.tmp 137) (Operand.const (Value.int IntKind.i64 0)) 3, type := 4, pos := "law.go:82", after := #[{ on := 3, ground := Ground.data }, { on := 1, ground := Ground.guard }], guard := some (1, true) }) rfl (by kernel_rfl) (by kernel_rfl) (by kernel_rfl) (by rfl) ?_ | fail "op 4"
                      simp only [Act.put, List.setIfInBounds_toArray, List.set_cons_zero, List.set_cons_succ]
                      first | (refine grow_take (i := 5) (oi := { dst := some 139, op := Op.move (Operand.tmp 138), type := 4, pos := "law.go:82", after := #[{ on := 4, ground := Ground.data }, { on := 1, ground := Ground.chain }, { on := 1, ground := Ground.guard }], guard := some (1, true) }) (v := ?_) rfl (by kernel_rfl) (by kernel_rfl) (by kernel_rfl) (by rfl) ?_ ?_; rotate_left; focus ((intro W hW; go_simp) <;> with_reducible rfl)) | refine grow_skip (i := 5) (oi := { dst := some 139, op := Op.move (Operand.tmp 138), type := 4, pos := "law.go:82", after := #[{ on := 4, ground := Ground.data }, { on := 1, ground := Ground.chain }, { on := 1, ground := Ground.guard }], guard := some (1, true) }) rfl (by kernel_rfl) (by kernel_rfl) (by kernel_rfl) (by rfl) ?_ | fail "op 5"
                      simp only [Act.put, List.setIfInBounds_toArray, List.set_cons_zero, List.set_cons_succ]
                      first | (refine grow_take (i := 6) (oi := { dst := some 140, op := Op.fieldAddr 29 (Operand.tmp 6) 4, type := 0, pos := "law.go:82", after := #[{ on := 5, ground := Ground.guard }], guard := some (5, false) }) (v := ?_) rfl (by kernel_rfl) (by kernel_rfl) (by kernel_rfl) (by rfl) ?_ ?_; rotate_left; focus ((intro W hW; go_simp) <;> with_reducible rfl)) | refine grow_skip (i := 6) (oi := { dst := some 140, op := Op.fieldAddr 29 (Operand.tmp 6) 4, type := 0, pos := "law.go:82", after := #[{ on := 5, ground := Ground.guard }], guard := some (5, false) }) rfl (by kernel_rfl) (by kernel_rfl) (by kernel_rfl) (by rfl) ?_ | fail "op 6"
                      simp only [Act.put, List.setIfInBounds_toArray, List.set_cons_zero, List.set_cons_succ]
                      first | (refine grow_take (i := 7) (oi := { dst := some 141, op := Op.load 3 (Operand.tmp 140), type := 3, pos := "law.go:82", after := #[{ on := 6, ground := Ground.data }, { on := 5, ground := Ground.guard }], guard := some (5, false) }) (v := ?_) rfl (by kernel_rfl) (by kernel_rfl) (by kernel_rfl) (by rfl) ?_ ?_; rotate_left; focus ((intro W hW; have fct := F.out W hW; go_simp) <;> with_reducible rfl)) | refine grow_skip (i := 7) (oi := { dst := some 141, op := Op.load 3 (Operand.tmp 140), type := 3, pos := "law.go:82", after := #[{ on := 6, ground := Ground.data }, { on := 5, ground := Ground.guard }], guard := some (5, false) }) rfl (by kernel_rfl) (by kernel_rfl) (by kernel_rfl) (by rfl) ?_ | fail "op 7"
                      simp only [Act.put, List.setIfInBounds_toArray, List.set_cons_zero, List.set_cons_succ]
                      first | (refine grow_take (i := 8) (oi := { dst := some 142, op := Op.move (Operand.tmp 4), type := 26, pos := "law.go:82", after := #[{ on := 5, ground := Ground.guard }], guard := some (5, false) }) (v := ?_) rfl (by kernel_rfl) (by kernel_rfl) (by kernel_rfl) (by rfl) ?_ ?_; rotate_left; focus ((intro W hW; go_simp) <;> with_reducible rfl)) | refine grow_skip (i := 8) (oi := { dst := some 142, op := Op.move (Operand.tmp 4), type := 26, pos := "law.go:82", after := #[{ on := 5, ground := Ground.guard }], guard := some (5, false) }) rfl (by kernel_rfl) (by kernel_rfl) (by kernel_rfl) (by rfl) ?_ | fail "op 8"
                      simp only [Act.put, List.setIfInBounds_toArray, List.set_cons_zero, List.set_cons_succ]
                      first | (refine grow_take (i := 9) (oi := { dst := some 143, op := Op.fieldAddr 29 (Operand.tmp 6) 3, type := 0, pos := "law.go:82", after := #[{ on := 5, ground := Ground.guard }], guard := some (5, false) }) (v := ?_) rfl (by kernel_rfl) (by kernel_rfl) (by kernel_rfl) (by rfl) ?_ ?_; rotate_left; focus ((intro W hW; go_simp) <;> with_reducible rfl)) | refine grow_skip (i := 9) (oi := { dst := some 143, op := Op.fieldAddr 29 (Operand.tmp 6) 3, type := 0, pos := "law.go:82", after := #[{ on := 5, ground := Ground.guard }], guard := some (5, false) }) rfl (by kernel_rfl) (by kernel_rfl) (by kernel_rfl) (by rfl) ?_ | fail "op 9"
                      simp only [Act.put, List.setIfInBounds_toArray, List.set_cons_zero, List.set_cons_succ]
                      first | (refine grow_take (i := 10) (oi := { dst := some 144, op := Op.load 3 (Operand.tmp 143), type := 3, pos := "law.go:82", after := #[{ on := 9, ground := Ground.data }, { on := 5, ground := Ground.guard }], guard := some (5, false) }) (v := ?_) rfl (by kernel_rfl) (by kernel_rfl) (by kernel_rfl) (by rfl) ?_ ?_; rotate_left; focus ((intro W hW; have fct := F.out W hW; go_simp) <;> with_reducible rfl)) | refine grow_skip (i := 10) (oi := { dst := some 144, op := Op.load 3 (Operand.tmp 143), type := 3, pos := "law.go:82", after := #[{ on := 9, ground := Ground.data }, { on := 5, ground := Ground.guard }], guard := some (5, false) }) rfl (by kernel_rfl) (by kernel_rfl) (by kernel_rfl) (by rfl) ?_ | fail "op 10"
                      simp only [Act.put, List.setIfInBounds_toArray, List.set_cons_zero, List.set_cons_succ]
                      first | (refine grow_take (i := 11) (oi := { dst := some 145, op := Op.indexAddr 26 (Operand.tmp 142) (Operand.tmp 144), type := 0, pos := "law.go:82", after := #[{ on := 8, ground := Ground.data }, { on := 10, ground := Ground.data }, { on := 5, ground := Ground.guard }], guard := some (5, false) }) (v := ?_) rfl (by kernel_rfl) (by kernel_rfl) (by kernel_rfl) (by rfl) ?_ ?_; rotate_left; focus ((intro W hW; have fct := F.out W hW; go_simp) <;> with_reducible rfl)) | refine grow_skip (i := 11) (oi := { dst := some 145, op := Op.indexAddr 26 (Operand.tmp 142) (Operand.tmp 144), type := 0, pos := "law.go:82", after := #[{ on := 8, ground := Ground.data }, { on := 10, ground := Ground.data }, { on := 5, ground := Ground.guard }], guard := some (5, false) }) rfl (by kernel_rfl) (by kernel_rfl) (by kernel_rfl) (by rfl) ?_ | fail "op 11"
                      simp only [Act.put, List.setIfInBounds_toArray, List.set_cons_zero, List.set_cons_succ]
                      first | (refine grow_take (i := 12) (oi := { dst := some 146, op := Op.fieldAddr 33 (Operand.tmp 145) 1, type := 0, pos := "law.go:82", after := #[{ on := 11, ground := Ground.data }, { on := 5, ground := Ground.guard }], guard := some (5, false) }) (v := ?_) rfl (by kernel_rfl) (by kernel_rfl) (by kernel_rfl) (by rfl) ?_ ?_; rotate_left; focus ((intro W hW; go_simp) <;> with_reducible rfl)) | refine grow_skip (i := 12) (oi := { dst := some 146, op := Op.fieldAddr 33 (Operand.tmp 145) 1, type := 0, pos := "law.go:82", after := #[{ on := 11, ground := Ground.data }, { on := 5, ground := Ground.guard }], guard := some (5, false) }) rfl (by kernel_rfl) (by kernel_rfl) (by kernel_rfl) (by rfl) ?_ | fail "op 12"
                      simp only [Act.put, List.setIfInBounds_toArray, List.set_cons_zero, List.set_cons_succ]
                      first | (refine grow_take (i := 13) (oi := { dst := some 147, op := Op.load 9 (Operand.tmp 146), type := 9, pos := "law.go:82", after := #[{ on := 12, ground := Ground.data }, { on := 5, ground := Ground.guard }], guard := some (5, false) }) (v := ?_) rfl (by kernel_rfl) (by kernel_rfl) (by kernel_rfl) (by rfl) ?_ ?_; rotate_left; focus ((intro W hW; have fct := F.out W hW; go_simp) <;> with_reducible rfl)) | refine grow_skip (i := 13) (oi := { dst := some 147, op := Op.load 9 (Operand.tmp 146), type := 9, pos := "law.go:82", after := #[{ on := 12, ground := Ground.data }, { on := 5, ground := Ground.guard }], guard := some (5, false) }) rfl (by kernel_rfl) (by kernel_rfl) (by kernel_rfl) (by rfl) ?_ | fail "op 13"
                      simp only [Act.put, List.setIfInBounds_toArray, List.set_cons_zero, List.set_cons_succ]
                      first | (refine grow_take (i := 14) (oi := { dst := some 148, op := Op.call { callee := Callee.builtin Builtin.len, args := #[Operand.tmp 147], argTypes := #[9] }, type := 3, pos := "law.go:82", after := #[{ on := 13, ground := Ground.data }, { on := 5, ground := Ground.guard }], guard := some (5, false) }) (v := ?_) rfl (by kernel_rfl) (by kernel_rfl) (by kernel_rfl) (by rfl) ?_ ?_; rotate_left; focus ((intro W hW; have fct := F.out W hW; go_simp) <;> with_reducible rfl)) | refine grow_skip (i := 14) (oi := { dst := some 148, op := Op.call { callee := Callee.builtin Builtin.len, args := #[Operand.tmp 147], argTypes := #[9] }, type := 3, pos := "law.go:82", after := #[{ on := 13, ground := Ground.data }, { on := 5, ground := Ground.guard }], guard := some (5, false) }) rfl (by kernel_rfl) (by kernel_rfl) (by kernel_rfl) (by rfl) ?_ | fail "op 14"
                      simp only [Act.put, List.setIfInBounds_toArray, List.set_cons_zero, List.set_cons_succ]
                      first | (refine grow_take (i := 15) (oi := { dst := some 149, op := Op.binOp BinOp.geq 3 (Operand.tmp 141) (Operand.tmp 148) 3, type := 4, pos := "law.go:82", after := #[{ on := 7, ground := Ground.data }, { on := 14, ground := Ground.data }, { on := 5, ground := Ground.guard }], guard := some (5, false) }) (v := ?_) rfl (by kernel_rfl) (by kernel_rfl) (by kernel_rfl) (by rfl) ?_ ?_; rotate_left; focus ((intro W hW; have fct := F.out W hW; go_simp) <;> with_reducible rfl)) | refine grow_skip (i := 15) (oi := { dst := some 149, op := Op.binOp BinOp.geq 3 (Operand.tmp 141) (Operand.tmp 148) 3, type := 4, pos := "law.go:82", after := #[{ on := 7, ground := Ground.data }, { on := 14, ground := Ground.data }, { on := 5, ground := Ground.guard }], guard := some (5, false) }) rfl (by kernel_rfl) (by kernel_rfl) (by kernel_rfl) (by rfl) ?_ | fail "op 15"
                      simp only [Act.put, List.setIfInBounds_toArray, List.set_cons_zero, List.set_cons_succ]
                      first | (refine grow_take (i := 16) (oi := { dst := some 150, op := Op.pick (Operand.tmp 139) (Operand.const (Value.bool true)) (Operand.tmp 149), type := 4, pos := "law.go:82", after := #[{ on := 5, ground := Ground.data }, { on := 15, ground := Ground.data }, { on := 1, ground := Ground.guard }], guard := some (1, true) }) (v := ?_) rfl (by kernel_rfl) (by kernel_rfl) (by kernel_rfl) (by rfl) ?_ ?_; rotate_left; focus ((intro W hW; go_simp) <;> with_reducible rfl)) | refine grow_skip (i := 16) (oi := { dst := some 150, op := Op.pick (Operand.tmp 139) (Operand.const (Value.bool true)) (Operand.tmp 149), type := 4, pos := "law.go:82", after := #[{ on := 5, ground := Ground.data }, { on := 15, ground := Ground.data }, { on := 1, ground := Ground.guard }], guard := some (1, true) }) rfl (by kernel_rfl) (by kernel_rfl) (by kernel_rfl) (by rfl) ?_ | fail "op 16"
                      simp only [Act.put, List.setIfInBounds_toArray, List.set_cons_zero, List.set_cons_succ]
                      refine grow_take (i := 17) (oi := { dst := some 151, op := Op.pick (Operand.tmp 135) (Operand.tmp 150) (Operand.const (Value.bool false)), type := 4, pos := "law.go:82", after := #[{ on := 1, ground := Ground.data }, { on := 16, ground := Ground.data }], guard := none }) (v := ?_) rfl (by kernel_rfl) (by kernel_rfl) (by kernel_rfl) (by rfl) ?_ ?_; rotate_left; focus ((intro W hW; go_simp) <;> with_reducible rfl)
                      simp only [Act.put, List.setIfInBounds_toArray, List.set_cons_zero, List.set_cons_succ]
                      refine grow_done (by kernel_rfl) ?_ _
                      go_wp2_with fail
                      refine C.out.mono ?_
                      rintro e w4 ⟨rfl, v4, h4, c4, _⟩
                      have s4 := HD.out.1.step h4 c4
                      have r4 : RowP w4 b (.slice (some ⟨gr, 0, none⟩) fs.length cr) fs := own_chg HD.out.2.1 c4 fun k hk => RowP.foot HD.out.2.1 HD.out.1.at_ hk
                      have bx4 := HD.out.2.2.chg c4 (HD.out.1.at_.away HD.out.2.2 (by decide) (by decide) (by decide))
                      obtain ⟨y0, y1, y2, yf, _⟩ := HROW.out w4 r4
                      obtain ⟨c5, w5, hconv, n5, cur, fr, hheap, htake, hfrz⟩ := conv_bytes w4 f.b
                      have hd3 := bx4.cell 3
                      simp only [List.getElem?_toArray, List.getElem?_cons_zero, List.getElem?_cons_succ] at hd3
                      have hbx5 := bx4.chg n5 id
                      have s5 := s4.news n5
                      have r5 : RowP w5 b (.slice (some ⟨gr, 0, none⟩) fs.length cr) fs := own_chg r4 n5 fun _ _ => id
                      have hg5 : w4.heap.size < w5.heap.size := (Array.getElem?_eq_some_iff.1 hheap).1
                      obtain ⟨g5, hg5e⟩ : ∃ g5, w4.heap.size = g5 := ⟨_, rfl⟩
                      have hx : f.b.getD q 0 = f.b[q]'HS.out.2 := by simp [List.getD_eq_getElem?_getD, HS.out.2]
                      have hbc : w5.cell? ⟨w4.heap.size, q, none⟩ = some (.int .u8 ((f.b.getD q 0).toNat : Int)) := by
                        rw [cell_of_row w5 w4.heap.size q cur _ fr hheap, hx]
                        have := congrArg (fun l => l[q]?) htake
                        simp only [List.getElem?_take, if_pos HS.out.2, u8s_get, List.getElem?_eq_getElem HS.out.2] at this
                        simpa using this
                      have hbf := hfrz q HS.out.2
                      have hput := reads_put (q := q) hheap htake (f.b.getD q 0 ^^^ y)
                      have hxor := xor_u8 (f.b.getD q 0) y
                      have hgx5 : gx < w4.heap.size := bx4.lt
                      have hgr5 : gr < w4.heap.size := (own_lt r4 rfl).2
                      have c6 := (Chg.refl (fun k => k = w4.heap.size) w5).setCell (p := ⟨w4.heap.size, q, none⟩) (fun _ => rfl) (.int .u8 ((f.b.getD q 0 ^^^ y).toNat : Int))
                      have hbx6 := hbx5.chg c6 (by omega)
                      have s6 : St w (w5.setCell ⟨w4.heap.size, q, none⟩ (.int .u8 ((f.b.getD q 0 ^^^ y).toNat : Int))) b v4 _ := ⟨s5.at_.chg c6 fun k hk e => by have := (s4.at_.foot hk).2; omega, s5.new.trans c6 fun k hk e => by have := s4.new.size; omega, s5.lo⟩
                      have r6 : RowP (w5.setCell ⟨w4.heap.size, q, none⟩ (.int .u8 ((f.b.getD q 0 ^^^ y).toNat : Int))) b (.slice (some ⟨gr, 0, none⟩) fs.length cr) fs := own_chg r5 c6 fun k hk e => by have := (own_lt r4 hk).2; omega
                      have kd4 : w5.drew.cell? ⟨gx, 4, none⟩ = some (.int .i64 (q : Int)) := hbx5.cell 4
                      have kd5 : w5.drew.cell? ⟨gx, 5, none⟩ = some (.int .u8 (y.toNat : Int)) := hbx5.cell 5
                      have kbc : w5.drew.cell? ⟨w4.heap.size, q, none⟩ = some (.int .u8 ((f.b.getD q 0).toNat : Int)) := hbc
                      have kbf : w5.drew.frozen? ⟨w4.heap.size, q, none⟩ = false := hbf
                      have H6 := Lib.hid (And.intro s6 (And.intro r6 (And.intro hbx6 hput)))
                      have H45 := Lib.hid (And.intro hgx5 hgr5)
                      clear C h4 c4 s4 r4 bx4 y0 y2 yf n5 hheap htake hfrz hbx5 s5 r5 hput c6 hbx6 s6 r6 hc0 hc1 hc2 hc3 hc4 hc5 hx hbc hbf hg5e hgx5 hgr5
                      rw [HLF.out] at hconv H6
                      generalize f.b.getD q 0 = x at *
                      go_wp2_with fail
                      refine wp_region_tail 8 (by kernel_rfl) (by kernel_rfl) ?_
                      simp only [List.take_succ_cons, List.take_zero, List.drop_succ_cons, List.drop_zero]
                      repeat still_step
                      refine wpStill_nil ?_
                      go_wp2_with fail
                      simp only [u8_xor] at H6
                      generalize w5.setCell ⟨w4.heap.size, q, none⟩ (.int .u8 ((x.toNat ^^^ y.toNat : Nat) : Int)) = w6 at *
                      generalize w4.heap.size = g5 at *
                      have hstr := run_str Try.underlying27 Try.underlying5 Try.underlying9 H6.out.2.2.2 c5
                      have F2 := Lib.hid (fun W (hW : Chg (fun g => g = gr) w6.drew.drew W) => by
                        have hW6 : Chg (fun g => g = gr) w6 W := (Chg.refl _ w6).drew.drew.trans hW fun _ _ => id
                        have hx := H6.out.2.2.1.chg hW6 (fun e => own_ne H6.out.2.1 H6.out.2.2.1 (by decide) (by rw [e]; rfl))
                        have hr := H6.out.2.2.2.chg' hW6 (fun g hg e => by have := H45.out.2; omega) (by omega)
                        exact (show W.cell? ⟨gx, 3, none⟩ = some (.int .i64 (j : Int)) ∧ (convert 27 9 (.slice (some ⟨g5, 0, none⟩) Lf c5)).run Try.prog W = .ok (.string ⟨(f.b.set q (x ^^^ y)).toArray⟩) W from
                          ⟨hx.cell 3, run_str Try.underlying27 Try.underlying5 Try.underlying9 hr c5⟩))
                      obtain ⟨z0, z1, z2, zf, _⟩ := HROW.out w6 H6.out.2.1
                      have zf1 : w6.frozen? ⟨gr, j * 3 + 1, none⟩ = false := zf _
                      have hgrlt : gr < w6.heap.size := (own_lt H6.out.2.1 rfl).2
                      have o7 := World.ownsRow.stored H6.out.2.1 (j * 3 + 1) (.string ⟨(f.b.set q (x ^^^ y)).toArray⟩)
                      have o8 := World.ownsRow.stored o7.1 (j * 3 + 2) (.bool true)
                      have c7 := ((Chg.refl (fun g => g = gr) w6).setCell (p := ⟨gr, j * 3 + 1, none⟩) (fun _ => rfl) (.string ⟨(f.b.set q (x ^^^ y)).toArray⟩)).setCell (p := ⟨gr, j * 3 + 2, none⟩) (fun _ => rfl) (.bool true)
                      have s8 := H6.out.1.apart (H6.out.2.1) c7
                      have z7 : (w6.setCell ⟨gr, j * 3 + 1, none⟩ (.string ⟨(f.b.set q (x ^^^ y)).toArray⟩)).cell? ⟨gr, j * 3 + 2, none⟩ = some (.bool false) := by
                        have := World.ownsRow.cellAt o7.1 (j * 3 + 2) (by omega)
                        rw [List.getElem?_set_ne (by omega), (plain_get HF.out).2.2, hft] at this
                        exact this
                      have zf7 := World.ownsRow.frozenAt o7.1 (j * 3 + 2)
                      have e8 := plain_set (f' := ⟨f.to_, f.u, f.b.set q (x ^^^ y), true⟩) HF.out rfl
                      rw [e8] at o8
                      have HZ := Lib.hid (show St w _ b v4 _ ∧ RowP ((w6.setCell ⟨gr, j * 3 + 1, none⟩ (.string ⟨(f.b.set q (x ^^^ y)).toArray⟩)).setCell ⟨gr, j * 3 + 2, none⟩ (.bool true)) b _ _ from And.intro s8 (by unfold RowP; rw [List.length_set]; exact o8.1))
                      have zd1 : w6.drew.drew.cell? ⟨gr, j * 3 + 1, none⟩ = some (.string ⟨f.b.toArray⟩) := z1
                      have zfd1 : w6.drew.drew.frozen? ⟨gr, j * 3 + 1, none⟩ = false := zf1
                      have hgrN : (j : Int) < fs.length := hI1
                      have d71 := (Chg.refl (fun g => g = gr) w6).setCell (p := ⟨gr, j * 3 + 1, none⟩) (fun _ => rfl) (.string ⟨(f.b.set q (x ^^^ y)).toArray⟩)
                      have c71 : Chg (fun g => g = gr) w6.drew.drew (w6.setCell ⟨gr, j * 3 + 1, none⟩ (.string ⟨(f.b.set q (x ^^^ y)).toArray⟩)).drew.drew := ⟨d71.os, d71.tape, d71.output, d71.size, d71.block⟩
                      have d72 := (Chg.refl (fun g => g = gr) (w6.setCell ⟨gr, j * 3 + 1, none⟩ (.string ⟨(f.b.set q (x ^^^ y)).toArray⟩))).setCell (p := ⟨gr, j * 3 + 2, none⟩) (fun _ => rfl) (.bool true)
                      have c72 : Chg (fun g => g = gr) (w6.setCell ⟨gr, j * 3 + 1, none⟩ (.string ⟨(f.b.set q (x ^^^ y)).toArray⟩)).drew.drew ((w6.setCell ⟨gr, j * 3 + 1, none⟩ (.string ⟨(f.b.set q (x ^^^ y)).toArray⟩)).setCell ⟨gr, j * 3 + 2, none⟩ (.bool true)).drew.drew := ⟨d72.os, d72.tape, d72.output, d72.size, d72.block⟩
                      clear s8 o7 o8 e8 c7 z0 z2 zf hgrlt kd4 kd5 kbc kbf hxor hstr F d71 d72
                      refine grow_start (fun g => g = gr) (by kernel_rfl) ?_
                      refine grow_take (i := 0) (oi := { dst := some 189, op := Op.move (Operand.tmp 4), type := 26, pos := "law.go:93", after := #[], guard := none }) (v := ?_) rfl (by kernel_rfl) (by kernel_rfl) (by kernel_rfl) (by rfl) ?_ ?_; rotate_left; focus ((intro W hW; go_simp) <;> with_reducible rfl)
                      simp only [Act.put, List.setIfInBounds_toArray, List.set_cons_zero, List.set_cons_succ]
                      refine grow_take (i := 1) (oi := { dst := some 190, op := Op.fieldAddr 29 (Operand.tmp 6) 3, type := 0, pos := "law.go:93", after := #[], guard := none }) (v := ?_) rfl (by kernel_rfl) (by kernel_rfl) (by kernel_rfl) (by rfl) ?_ ?_; rotate_left; focus ((intro W hW; go_simp) <;> with_reducible rfl)
                      simp only [Act.put, List.setIfInBounds_toArray, List.set_cons_zero, List.set_cons_succ]
                      refine grow_take (i := 2) (oi := { dst := some 191, op := Op.load 3 (Operand.tmp 190), type := 3, pos := "law.go:93", after := #[{ on := 1, ground := Ground.data }], guard := none }) (v := ?_) rfl (by kernel_rfl) (by kernel_rfl) (by kernel_rfl) (by rfl) ?_ ?_; rotate_left; focus ((intro W hW; have fct := F2.out W hW; go_simp) <;> with_reducible rfl)
                      simp only [Act.put, List.setIfInBounds_toArray, List.set_cons_zero, List.set_cons_succ]
                      refine grow_take (i := 3) (oi := { dst := some 192, op := Op.move (Operand.tmp 4), type := 26, pos := "law.go:93", after := #[{ on := 10, ground := Ground.gcOnly Departure.lateStores }], guard := none }) (v := ?_) rfl (by kernel_rfl) (by kernel_rfl) (by kernel_rfl) (by rfl) ?_ ?_; rotate_left; focus ((intro W hW; go_simp) <;> with_reducible rfl)
                      simp only [Act.put, List.setIfInBounds_toArray, List.set_cons_zero, List.set_cons_succ]
                      refine grow_take (i := 4) (oi := { dst := some 193, op := Op.fieldAddr 29 (Operand.tmp 6) 3, type := 0, pos := "law.go:93", after := #[{ on := 10, ground := Ground.gcOnly Departure.lateStores }], guard := none }) (v := ?_) rfl (by kernel_rfl) (by kernel_rfl) (by kernel_rfl) (by rfl) ?_ ?_; rotate_left; focus ((intro W hW; go_simp) <;> with_reducible rfl)
                      simp only [Act.put, List.setIfInBounds_toArray, List.set_cons_zero, List.set_cons_succ]
                      refine grow_take (i := 5) (oi := { dst := some 194, op := Op.load 3 (Operand.tmp 193), type := 3, pos := "law.go:93", after := #[{ on := 4, ground := Ground.data }, { on := 10, ground := Ground.gcOnly Departure.lateStores }], guard := none }) (v := ?_) rfl (by kernel_rfl) (by kernel_rfl) (by kernel_rfl) (by rfl) ?_ ?_; rotate_left; focus ((intro W hW; have fct := F2.out W hW; go_simp) <;> with_reducible rfl)
                      simp only [Act.put, List.setIfInBounds_toArray, List.set_cons_zero, List.set_cons_succ]
                      refine grow_take (i := 6) (oi := { dst := some 195, op := Op.move (Operand.tmp 11), type := 27, pos := "law.go:93", after := #[], guard := none }) (v := ?_) rfl (by kernel_rfl) (by kernel_rfl) (by kernel_rfl) (by rfl) ?_ ?_; rotate_left; focus ((intro W hW; go_simp) <;> with_reducible rfl)
                      simp only [Act.put, List.setIfInBounds_toArray, List.set_cons_zero, List.set_cons_succ]
                      refine grow_take (i := 7) (oi := { dst := some 196, op := Op.convert 27 9 (Operand.tmp 195), type := 9, pos := "law.go:93", after := #[{ on := 6, ground := Ground.data }], guard := none }) (v := ?_) rfl (by kernel_rfl) (by kernel_rfl) (by kernel_rfl) (by rfl) ?_ ?_; rotate_left; focus ((intro W hW; have fct := F2.out W hW; go_simp) <;> with_reducible rfl)
                      simp only [Act.put, List.setIfInBounds_toArray, List.set_cons_zero, List.set_cons_succ]
                      refine grow_take (i := 8) (oi := { dst := some 197, op := Op.indexAddr 26 (Operand.tmp 189) (Operand.tmp 191), type := 0, pos := "law.go:93", after := #[{ on := 0, ground := Ground.data }, { on := 2, ground := Ground.data }, { on := 0, ground := Ground.phase }, { on := 1, ground := Ground.phase }, { on := 2, ground := Ground.phase }, { on := 3, ground := Ground.textOnly Departure.lateStores }, { on := 4, ground := Ground.textOnly Departure.lateStores }, { on := 5, ground := Ground.textOnly Departure.lateStores }, { on := 6, ground := Ground.phase }, { on := 7, ground := Ground.phase }], guard := none }) (v := ?_) rfl (by kernel_rfl) (by kernel_rfl) (by kernel_rfl) (by rfl) ?_ ?_; rotate_left; focus ((intro W hW; have fct := F2.out W hW; go_simp) <;> with_reducible rfl)
                      simp only [Act.put, List.setIfInBounds_toArray, List.set_cons_zero, List.set_cons_succ]
                      refine grow_take (i := 9) (oi := { dst := some 198, op := Op.fieldAddr 33 (Operand.tmp 197) 1, type := 0, pos := "law.go:93", after := #[{ on := 8, ground := Ground.data }, { on := 0, ground := Ground.phase }, { on := 1, ground := Ground.phase }, { on := 2, ground := Ground.phase }, { on := 3, ground := Ground.textOnly Departure.lateStores }, { on := 4, ground := Ground.textOnly Departure.lateStores }, { on := 5, ground := Ground.textOnly Departure.lateStores }, { on := 6, ground := Ground.phase }, { on := 7, ground := Ground.phase }], guard := none }) (v := ?_) rfl (by kernel_rfl) (by kernel_rfl) (by kernel_rfl) (by rfl) ?_ ?_; rotate_left; focus ((intro W hW; go_simp) <;> with_reducible rfl)
                      simp only [Act.put, List.setIfInBounds_toArray, List.set_cons_zero, List.set_cons_succ]
                      refine grow_next (i := 10) (oi := { dst := none, op := Op.store 9 (Operand.tmp 198) (Operand.tmp 196), type := 0, pos := "law.go:93", after := #[{ on := 9, ground := Ground.data }, { on := 7, ground := Ground.data }, { on := 0, ground := Ground.phase }, { on := 1, ground := Ground.phase }, { on := 2, ground := Ground.phase }, { on := 3, ground := Ground.textOnly Departure.lateStores }, { on := 4, ground := Ground.textOnly Departure.lateStores }, { on := 5, ground := Ground.textOnly Departure.lateStores }, { on := 6, ground := Ground.phase }, { on := 7, ground := Ground.phase }], guard := none }) (by kernel_rfl) rfl (by rfl) (fun K hK => ?_)
                      go_simp
                      refine hK _ _ c71 ?_
                      clear hK K
                      try simp only [Act.put, List.setIfInBounds_toArray, List.set_cons_zero, List.set_cons_succ]
                      have F3 := Lib.hid (fun W (_ : Chg (fun g => g = gr) (w6.setCell ⟨gr, j * 3 + 1, none⟩ (.string ⟨(f.b.set q (x ^^^ y)).toArray⟩)).drew.drew W) => True.intro)
                      refine grow_take (i := 11) (oi := { dst := some 199, op := Op.indexAddr 26 (Operand.tmp 192) (Operand.tmp 194), type := 0, pos := "law.go:93", after := #[{ on := 3, ground := Ground.data }, { on := 5, ground := Ground.data }, { on := 0, ground := Ground.phase }, { on := 1, ground := Ground.phase }, { on := 2, ground := Ground.phase }, { on := 3, ground := Ground.phase }, { on := 4, ground := Ground.phase }, { on := 5, ground := Ground.phase }, { on := 6, ground := Ground.phase }, { on := 7, ground := Ground.phase }, { on := 8, ground := Ground.phase }, { on := 9, ground := Ground.phase }, { on := 10, ground := Ground.phase }], guard := none }) (v := ?_) rfl (by kernel_rfl) (by kernel_rfl) (by kernel_rfl) (by rfl) ?_ ?_; rotate_left; focus ((intro W hW; have fct := F3.out W hW; go_simp) <;> with_reducible rfl)
                      simp only [Act.put, List.setIfInBounds_toArray, List.set_cons_zero, List.set_cons_succ]
                      refine grow_take (i := 12) (oi := { dst := some 200, op := Op.fieldAddr 33 (Operand.tmp 199) 2, type := 0, pos := "law.go:93", after := #[{ on := 11, ground := Ground.data }, { on := 0, ground := Ground.phase }, { on := 1, ground := Ground.phase }, { on := 2, ground := Ground.phase }, { on := 3, ground := Ground.phase }, { on := 4, ground := Ground.phase }, { on := 5, ground := Ground.phase }, { on := 6, ground := Ground.phase }, { on := 7, ground := Ground.phase }, { on := 8, ground := Ground.phase }, { on := 9, ground := Ground.phase }, { on := 10, ground := Ground.phase }], guard := none }) (v := ?_) rfl (by kernel_rfl) (by kernel_rfl) (by kernel_rfl) (by rfl) ?_ ?_; rotate_left; focus ((intro W hW; go_simp) <;> with_reducible rfl)
                      simp only [Act.put, List.setIfInBounds_toArray, List.set_cons_zero, List.set_cons_succ]
                      refine grow_next (i := 13) (oi := { dst := none, op := Op.store 4 (Operand.tmp 200) (Operand.const (Value.bool true)), type := 0, pos := "law.go:93", after := #[{ on := 12, ground := Ground.data }, { on := 10, ground := Ground.chain }, { on := 0, ground := Ground.phase }, { on := 1, ground := Ground.phase }, { on := 2, ground := Ground.phase }, { on := 3, ground := Ground.phase }, { on := 4, ground := Ground.phase }, { on := 5, ground := Ground.phase }, { on := 6, ground := Ground.phase }, { on := 7, ground := Ground.phase }, { on := 8, ground := Ground.phase }, { on := 9, ground := Ground.phase }, { on := 10, ground := Ground.phase }], guard := none }) (by kernel_rfl) rfl (by rfl) (fun K hK => ?_)
                      go_simp
                      refine hK _ _ c72 ?_
                      clear hK K
                      try simp only [Act.put, List.setIfInBounds_toArray, List.set_cons_zero, List.set_cons_succ]
                      refine grow_done (by kernel_rfl) ?_ _
                      go_wp2_with fail
                      go_meet
                      exact ⟨v4, _, HZ.out.1.news (Chg.refl (fun _ => False) _).drew.drew, own_chg HZ.out.2 (Chg.refl (fun _ => False) _).drew.drew fun _ _ => id, by rw [List.length_set]; omega, fun z hz => by
                        rcases List.mem_or_eq_of_mem_set hz with h | h
                        · exact HB.out.2.2.2.1 z h
                        · rw [h]
                          show (f.b.set q (x ^^^ y)).length ≤ 200
                          rw [List.length_set]
                          exact HB.out.2.2.2.1 f (List.mem_of_getElem? HF.out)⟩
            case rest =>
              as_aux_lemma =>
                clear hc0 hc1 hc2 hc3 hc4 hc5 HB hld
                obtain ⟨v, fs, hs, hrow, hfl, h200⟩ := hcut
                obtain ⟨Ar, cr, hr⟩ := own_form hrow
                subst hr
                have C := Lib.hid (all_ _ _ _ _ _ hs.at_ (fun f hf => by have := h200 f hf; omega) (by omega))
                have K := Lib.hid (fun W (hW : New wc W) => len _ _ _ _ _ (hs.news hW).at_)
                have HS := Lib.hid (And.intro hs (And.intro hrow (And.intro hfl h200)))
                obtain ⟨N, hN⟩ : ∃ N, fs.length = N := ⟨_, rfl⟩
                rw [hN] at K
                have hNb : N ≤ 101 := by omega
                have HN := Lib.hid hN
                clear hs hrow hfl h200 hN
                go_wp2_with fail
                refine C.out.mono ?_
                rintro e w4 ⟨u4, rfl, p4, n4⟩
                obtain ⟨A4, c4, hu4⟩ := p4.form
                rw [show (told fs).length = N by simp [told, HN.out]] at hu4
                subst hu4
                rw [HN.out]
                have KK := Lib.hid (K.out w4 n4)
                have P4 := Lib.hid (And.intro p4 n4)
                clear p4 n4 C K
                go_wp2_with fail
                refine KK.out.mono ?_
                rintro e w5 ⟨rfl, rfl⟩
                go_wp2_with fail
                go_loopw [2, 13, 14, 217] (fun _ _ _ i wr => ∃ (q : Nat), q ≤ N ∧ i = .int .i64 q ∧ New w4 wr) (fun _ _ _ i _ => N - (intOf i).toNat)
                case atStart => exact ⟨0, by omega, rfl, Chg.refl _ _⟩
                case round =>
                  obtain ⟨q, hq, rfl, hnw⟩ := hrel
                  by_cases hlq : q < N
                  · obtain ⟨f, hf⟩ : ∃ f, fs[q]? = some f := ⟨_, List.getElem?_eq_getElem (by rw [HN.out]; exact hlq)⟩
                    obtain ⟨g4, c4', u4, hv4, ⟨Au, cu, rfl⟩, hall⟩ := P4.out.1.at_ (i := q) (p := (f.to_, f.b)) (by unfold told; rw [List.getElem?_map, hf]; rfl)
                    injection hv4 with hv1 hv2 hv3
                    subst hv1 hv3
                    clear hv2
                    obtain ⟨_, _, hld4, _⟩ := hall wr hnw
                    obtain ⟨gr, cr', hvr, _, _⟩ := World.ownsRow.form HS.out.2.1 (by rw [HN.out]; omega)
                    injection hvr with hv1 hv2 hv3
                    subst hv1 hv3
                    clear hv2
                    obtain ⟨e0, e1, _⟩ := plain_get hf
                    have x0 := World.ownsRow.cellAt HS.out.2.1 (q * 3) (by rw [HN.out]; omega)
                    have x1 := World.ownsRow.cellAt HS.out.2.1 (q * 3 + 1) (by rw [HN.out]; omega)
                    rw [e0] at x0
                    rw [e1] at x1
                    have hbx := Blk.new wr 35 #[.int .i64 f.to_, .slice Au f.b.length cu]
                    have m6 := (Chg.refl (fun _ => False) wr).alloc (.cells #[.int .i64 f.to_, .slice Au f.b.length cu] 35)
                    have F := Lib.hid (fun W (hW : New (wr.alloc (.cells #[.int .i64 f.to_, .slice Au f.b.length cu] 35)).drew W) => by
                      have hW1 := (Chg.refl (fun _ => False) (wr.alloc (.cells #[.int .i64 f.to_, .slice Au f.b.length cu] 35))).drew.trans hW fun _ _ => id
                      have hW4 := hnw.trans (m6.trans hW1 fun _ _ => id) fun _ _ => id
                      have hWc := P4.out.2.trans hW4 fun _ _ => id
                      have hb := hbx.chg hW1 id
                      obtain ⟨_, _, _, hs⟩ := hall W hW4
                      exact (show (W.cell? ⟨wr.heap.size, 0, none⟩ = some (.int .i64 f.to_) ∧ W.cell? ⟨wr.heap.size, 1, none⟩ = some (.slice Au f.b.length cu)) ∧ (convert 27 9 (.slice Au f.b.length cu)).run Try.prog W = .ok (.string ⟨f.b.toArray⟩) W ∧
                          W.cell? ⟨gr, q * 3, none⟩ = some (.int .i64 f.to_) ∧ W.cell? ⟨gr, q * 3 + 1, none⟩ = some (.string ⟨f.b.toArray⟩) from
                        ⟨⟨hb.cell 0, hb.cell 1⟩, hs, (hWc.cell (p := ⟨gr, _, none⟩) (block_lt_of_cell x0) id).trans x0, (hWc.cell (p := ⟨gr, _, none⟩) (block_lt_of_cell x1) id).trans x1⟩))
                    have M6 := Lib.hid (hnw.trans m6 fun _ _ => id)
                    have hlp : (q : Int) < N := by omega
                    clear hall e0 e1 x0 x1 hbx m6 hf
                    generalize f.b.length = L at *
                    go_wp2_with fail
                    refine grow_start (fun _ => False) (by kernel_rfl) ?_
                    refine grow_take (i := 0) (oi := { dst := some 222, op := Op.fieldAddr 35 (Operand.tmp 14) 0, type := 0, pos := "law.go:101", after := #[], guard := none }) (v := ?_) rfl (by kernel_rfl) (by kernel_rfl) (by kernel_rfl) (by rfl) ?_ ?_; rotate_left; focus ((intro W hW; go_simp) <;> with_reducible rfl)
                    simp only [Act.put, List.setIfInBounds_toArray, List.set_cons_zero, List.set_cons_succ]
                    refine grow_take (i := 1) (oi := { dst := some 223, op := Op.load 3 (Operand.tmp 222), type := 3, pos := "law.go:101", after := #[{ on := 0, ground := Ground.data }], guard := none }) (v := ?_) rfl (by kernel_rfl) (by kernel_rfl) (by kernel_rfl) (by rfl) ?_ ?_; rotate_left; focus ((intro W hW; have fct := F.out W hW; go_simp) <;> with_reducible rfl)
                    simp only [Act.put, List.setIfInBounds_toArray, List.set_cons_zero, List.set_cons_succ]
                    refine grow_take (i := 2) (oi := { dst := some 224, op := Op.move (Operand.tmp 4), type := 26, pos := "law.go:101", after := #[], guard := none }) (v := ?_) rfl (by kernel_rfl) (by kernel_rfl) (by kernel_rfl) (by rfl) ?_ ?_; rotate_left; focus ((intro W hW; go_simp) <;> with_reducible rfl)
                    simp only [Act.put, List.setIfInBounds_toArray, List.set_cons_zero, List.set_cons_succ]
                    refine grow_take (i := 3) (oi := { dst := some 225, op := Op.move (Operand.tmp 13), type := 3, pos := "law.go:101", after := #[], guard := none }) (v := ?_) rfl (by kernel_rfl) (by kernel_rfl) (by kernel_rfl) (by rfl) ?_ ?_; rotate_left; focus ((intro W hW; go_simp) <;> with_reducible rfl)
                    simp only [Act.put, List.setIfInBounds_toArray, List.set_cons_zero, List.set_cons_succ]
                    refine grow_take (i := 4) (oi := { dst := some 226, op := Op.indexAddr 26 (Operand.tmp 224) (Operand.tmp 225), type := 0, pos := "law.go:101", after := #[{ on := 2, ground := Ground.data }, { on := 3, ground := Ground.data }], guard := none }) (v := ?_) rfl (by kernel_rfl) (by kernel_rfl) (by kernel_rfl) (by rfl) ?_ ?_; rotate_left; focus ((intro W hW; have fct := F.out W hW; go_simp) <;> with_reducible rfl)
                    simp only [Act.put, List.setIfInBounds_toArray, List.set_cons_zero, List.set_cons_succ]
                    refine grow_take (i := 5) (oi := { dst := some 227, op := Op.fieldAddr 33 (Operand.tmp 226) 0, type := 0, pos := "law.go:101", after := #[{ on := 4, ground := Ground.data }], guard := none }) (v := ?_) rfl (by kernel_rfl) (by kernel_rfl) (by kernel_rfl) (by rfl) ?_ ?_; rotate_left; focus ((intro W hW; go_simp) <;> with_reducible rfl)
                    simp only [Act.put, List.setIfInBounds_toArray, List.set_cons_zero, List.set_cons_succ]
                    refine grow_take (i := 6) (oi := { dst := some 228, op := Op.load 3 (Operand.tmp 227), type := 3, pos := "law.go:101", after := #[{ on := 5, ground := Ground.data }], guard := none }) (v := ?_) rfl (by kernel_rfl) (by kernel_rfl) (by kernel_rfl) (by rfl) ?_ ?_; rotate_left; focus ((intro W hW; have fct := F.out W hW; go_simp) <;> with_reducible rfl)
                    simp only [Act.put, List.setIfInBounds_toArray, List.set_cons_zero, List.set_cons_succ]
                    refine grow_take (i := 7) (oi := { dst := some 229, op := Op.binOp BinOp.neq 3 (Operand.tmp 223) (Operand.tmp 228) 3, type := 4, pos := "law.go:101", after := #[{ on := 1, ground := Ground.data }, { on := 6, ground := Ground.data }], guard := none }) (v := ?_) rfl (by kernel_rfl) (by kernel_rfl) (by kernel_rfl) (by rfl) ?_ ?_; rotate_left; focus ((intro W hW; have fct := F.out W hW; go_simp) <;> with_reducible rfl)
                    simp only [Act.put, List.setIfInBounds_toArray, List.set_cons_zero, List.set_cons_succ]
                    refine grow_take (i := 8) (oi := { dst := some 230, op := Op.move (Operand.tmp 229), type := 4, pos := "law.go:101", after := #[{ on := 7, ground := Ground.data }], guard := none }) (v := ?_) rfl (by kernel_rfl) (by kernel_rfl) (by kernel_rfl) (by rfl) ?_ ?_; rotate_left; focus ((intro W hW; go_simp) <;> with_reducible rfl)
                    simp only [Act.put, List.setIfInBounds_toArray, List.set_cons_zero, List.set_cons_succ]
                    first | (refine grow_take (i := 9) (oi := { dst := some 231, op := Op.fieldAddr 35 (Operand.tmp 14) 1, type := 0, pos := "law.go:101", after := #[{ on := 8, ground := Ground.guard }], guard := some (8, false) }) (v := ?_) rfl (by kernel_rfl) (by kernel_rfl) (by kernel_rfl) (by rfl) ?_ ?_; rotate_left; focus ((intro W hW; go_simp) <;> with_reducible rfl)) | refine grow_skip (i := 9) (oi := { dst := some 231, op := Op.fieldAddr 35 (Operand.tmp 14) 1, type := 0, pos := "law.go:101", after := #[{ on := 8, ground := Ground.guard }], guard := some (8, false) }) rfl (by kernel_rfl) (by kernel_rfl) (by kernel_rfl) (by rfl) ?_ | fail "op 9"
                    simp only [Act.put, List.setIfInBounds_toArray, List.set_cons_zero, List.set_cons_succ]
                    first | (refine grow_take (i := 10) (oi := { dst := some 232, op := Op.load 27 (Operand.tmp 231), type := 27, pos := "law.go:101", after := #[{ on := 9, ground := Ground.data }, { on := 8, ground := Ground.guard }], guard := some (8, false) }) (v := ?_) rfl (by kernel_rfl) (by kernel_rfl) (by kernel_rfl) (by rfl) ?_ ?_; rotate_left; focus ((intro W hW; have fct := F.out W hW; go_simp) <;> with_reducible rfl)) | refine grow_skip (i := 10) (oi := { dst := some 232, op := Op.load 27 (Operand.tmp 231), type := 27, pos := "law.go:101", after := #[{ on := 9, ground := Ground.data }, { on := 8, ground := Ground.guard }], guard := some (8, false) }) rfl (by kernel_rfl) (by kernel_rfl) (by kernel_rfl) (by rfl) ?_ | fail "op 10"
                    simp only [Act.put, List.setIfInBounds_toArray, List.set_cons_zero, List.set_cons_succ]
                    first | (refine grow_take (i := 11) (oi := { dst := some 233, op := Op.convert 27 9 (Operand.tmp 232), type := 9, pos := "law.go:101", after := #[{ on := 10, ground := Ground.data }, { on := 8, ground := Ground.guard }], guard := some (8, false) }) (v := ?_) rfl (by kernel_rfl) (by kernel_rfl) (by kernel_rfl) (by rfl) ?_ ?_; rotate_left; focus ((intro W hW; have fct := F.out W hW; go_simp) <;> with_reducible rfl)) | refine grow_skip (i := 11) (oi := { dst := some 233, op := Op.convert 27 9 (Operand.tmp 232), type := 9, pos := "law.go:101", after := #[{ on := 10, ground := Ground.data }, { on := 8, ground := Ground.guard }], guard := some (8, false) }) rfl (by kernel_rfl) (by kernel_rfl) (by kernel_rfl) (by rfl) ?_ | fail "op 11"
                    simp only [Act.put, List.setIfInBounds_toArray, List.set_cons_zero, List.set_cons_succ]
                    first | (refine grow_take (i := 12) (oi := { dst := some 234, op := Op.move (Operand.tmp 4), type := 26, pos := "law.go:101", after := #[{ on := 8, ground := Ground.guard }], guard := some (8, false) }) (v := ?_) rfl (by kernel_rfl) (by kernel_rfl) (by kernel_rfl) (by rfl) ?_ ?_; rotate_left; focus ((intro W hW; go_simp) <;> with_reducible rfl)) | refine grow_skip (i := 12) (oi := { dst := some 234, op := Op.move (Operand.tmp 4), type := 26, pos := "law.go:101", after := #[{ on := 8, ground := Ground.guard }], guard := some (8, false) }) rfl (by kernel_rfl) (by kernel_rfl) (by kernel_rfl) (by rfl) ?_ | fail "op 12"
                    simp only [Act.put, List.setIfInBounds_toArray, List.set_cons_zero, List.set_cons_succ]
                    first | (refine grow_take (i := 13) (oi := { dst := some 235, op := Op.move (Operand.tmp 13), type := 3, pos := "law.go:101", after := #[{ on := 8, ground := Ground.guard }], guard := some (8, false) }) (v := ?_) rfl (by kernel_rfl) (by kernel_rfl) (by kernel_rfl) (by rfl) ?_ ?_; rotate_left; focus ((intro W hW; go_simp) <;> with_reducible rfl)) | refine grow_skip (i := 13) (oi := { dst := some 235, op := Op.move (Operand.tmp 13), type := 3, pos := "law.go:101", after := #[{ on := 8, ground := Ground.guard }], guard := some (8, false) }) rfl (by kernel_rfl) (by kernel_rfl) (by kernel_rfl) (by rfl) ?_ | fail "op 13"
                    simp only [Act.put, List.setIfInBounds_toArray, List.set_cons_zero, List.set_cons_succ]
                    first | (refine grow_take (i := 14) (oi := { dst := some 236, op := Op.indexAddr 26 (Operand.tmp 234) (Operand.tmp 235), type := 0, pos := "law.go:101", after := #[{ on := 12, ground := Ground.data }, { on := 13, ground := Ground.data }, { on := 8, ground := Ground.guard }], guard := some (8, false) }) (v := ?_) rfl (by kernel_rfl) (by kernel_rfl) (by kernel_rfl) (by rfl) ?_ ?_; rotate_left; focus ((intro W hW; have fct := F.out W hW; go_simp) <;> with_reducible rfl)) | refine grow_skip (i := 14) (oi := { dst := some 236, op := Op.indexAddr 26 (Operand.tmp 234) (Operand.tmp 235), type := 0, pos := "law.go:101", after := #[{ on := 12, ground := Ground.data }, { on := 13, ground := Ground.data }, { on := 8, ground := Ground.guard }], guard := some (8, false) }) rfl (by kernel_rfl) (by kernel_rfl) (by kernel_rfl) (by rfl) ?_ | fail "op 14"
                    simp only [Act.put, List.setIfInBounds_toArray, List.set_cons_zero, List.set_cons_succ]
                    first | (refine grow_take (i := 15) (oi := { dst := some 237, op := Op.fieldAddr 33 (Operand.tmp 236) 1, type := 0, pos := "law.go:101", after := #[{ on := 14, ground := Ground.data }, { on := 8, ground := Ground.guard }], guard := some (8, false) }) (v := ?_) rfl (by kernel_rfl) (by kernel_rfl) (by kernel_rfl) (by rfl) ?_ ?_; rotate_left; focus ((intro W hW; go_simp) <;> with_reducible rfl)) | refine grow_skip (i := 15) (oi := { dst := some 237, op := Op.fieldAddr 33 (Operand.tmp 236) 1, type := 0, pos := "law.go:101", after := #[{ on := 14, ground := Ground.data }, { on := 8, ground := Ground.guard }], guard := some (8, false) }) rfl (by kernel_rfl) (by kernel_rfl) (by kernel_rfl) (by rfl) ?_ | fail "op 15"
                    simp only [Act.put, List.setIfInBounds_toArray, List.set_cons_zero, List.set_cons_succ]
                    first | (refine grow_take (i := 16) (oi := { dst := some 238, op := Op.load 9 (Operand.tmp 237), type := 9, pos := "law.go:101", after := #[{ on := 15, ground := Ground.data }, { on := 8, ground := Ground.guard }], guard := some (8, false) }) (v := ?_) rfl (by kernel_rfl) (by kernel_rfl) (by kernel_rfl) (by rfl) ?_ ?_; rotate_left; focus ((intro W hW; have fct := F.out W hW; go_simp) <;> with_reducible rfl)) | refine grow_skip (i := 16) (oi := { dst := some 238, op := Op.load 9 (Operand.tmp 237), type := 9, pos := "law.go:101", after := #[{ on := 15, ground := Ground.data }, { on := 8, ground := Ground.guard }], guard := some (8, false) }) rfl (by kernel_rfl) (by kernel_rfl) (by kernel_rfl) (by rfl) ?_ | fail "op 16"
                    simp only [Act.put, List.setIfInBounds_toArray, List.set_cons_zero, List.set_cons_succ]
                    first | (refine grow_take (i := 17) (oi := { dst := some 239, op := Op.binOp BinOp.neq 9 (Operand.tmp 233) (Operand.tmp 238) 9, type := 4, pos := "law.go:101", after := #[{ on := 11, ground := Ground.data }, { on := 16, ground := Ground.data }, { on := 8, ground := Ground.guard }], guard := some (8, false) }) (v := ?_) rfl (by kernel_rfl) (by kernel_rfl) (by kernel_rfl) (by rfl) ?_ ?_; rotate_left; focus ((intro W hW; have fct := F.out W hW; go_simp) <;> with_reducible rfl)) | refine grow_skip (i := 17) (oi := { dst := some 239, op := Op.binOp BinOp.neq 9 (Operand.tmp 233) (Operand.tmp 238) 9, type := 4, pos := "law.go:101", after := #[{ on := 11, ground := Ground.data }, { on := 16, ground := Ground.data }, { on := 8, ground := Ground.guard }], guard := some (8, false) }) rfl (by kernel_rfl) (by kernel_rfl) (by kernel_rfl) (by rfl) ?_ | fail "op 17"
                    simp only [Act.put, List.setIfInBounds_toArray, List.set_cons_zero, List.set_cons_succ]
                    refine grow_take (i := 18) (oi := { dst := some 240, op := Op.pick (Operand.tmp 230) (Operand.const (Value.bool true)) (Operand.tmp 239), type := 4, pos := "law.go:101", after := #[{ on := 8, ground := Ground.data }, { on := 17, ground := Ground.data }], guard := none }) (v := ?_) rfl (by kernel_rfl) (by kernel_rfl) (by kernel_rfl) (by rfl) ?_ ?_; rotate_left; focus ((intro W hW; go_simp) <;> with_reducible rfl)
                    simp only [Act.put, List.setIfInBounds_toArray, List.set_cons_zero, List.set_cons_succ]
                    refine grow_done (by kernel_rfl) ?_ _
                    go_wp2
                    go_roundw
                    case rel => exact ⟨q + 1, by omega, by go_num, M6.out.drew⟩
                    case measure => simp [intOf]; omega
                  · have hn5 := P4.out.2.trans hnw fun _ _ => id
                    have HZ := Lib.hid (And.intro (HS.out.1.news hn5) (And.intro (own_chg HS.out.2.1 hn5 fun _ _ => id) HS.out.2.2))
                    clear hn5
                    go_wp2_with fail
                    go_roundw
                    case rel => exact ⟨k + 1, by omega, by go_num, v, fs, HZ.out.1, HN.out ▸ HZ.out.2.1, HZ.out.2.2.1, HZ.out.2.2.2⟩
                    case measure => simp [intOf]; omega
          · have hout : I < 0 ∨ (fs.length : Int) ≤ I := by omega
            by_cases hI0 : I < 0
            · go_upto_block 2 with fail
              generalize wo.alloc (.cells #[.int .u8 (kind.toNat : Int), .int .i64 to_, .slice A3 n3 c3, .int .i64 I, .int .i64 at_, .int .u8 (y.toNat : Int)] 29) = w3 at *
              generalize wo.heap.size = gx at *
              have hc0 := HB.out.2.2.1.cell 0
              have hc1 := HB.out.2.2.1.cell 1
              have hc2 := HB.out.2.2.1.cell 2
              have hc3 := HB.out.2.2.1.cell 3
              have hc4 := HB.out.2.2.1.cell 4
              have hc5 := HB.out.2.2.1.cell 5
              simp only [List.getElem?_toArray, List.getElem?_cons_zero, List.getElem?_cons_succ] at hc0 hc1 hc2 hc3 hc4 hc5
              go_cut [4, 45] (fun r _ wx => Both w wx b (k + 1) r)
              case first =>
                have hq : (kind.toNat : Int) % 4 = 0 ∨ (kind.toNat : Int) % 4 = 1 ∨ (kind.toNat : Int) % 4 = 2 ∨ (kind.toNat : Int) % 4 = 3 := by omega
                rcases hq with hq | hq | hq | hq
                · as_aux_lemma =>
                    have hq1 : ((kind.toNat : Int) % 4 == 0) = true := by simpa using hq
                    have C := Lib.hid (send_ok _ _ _ _ _ HB.out.1.at_ to_ A3 n3 c3 bs _ (HR.out _ HB.out.1.new) (by omega) (by omega))
                    go_wp2_with fail
                    refine C.out.mono ?_
                    rintro e w4 ⟨rfl, u, v4, h4, c4, _⟩
                    have s4 := HB.out.1.step h4 c4
                    have r4 := own_chg HB.out.2.1 c4 fun k hk => RowP.foot HB.out.2.1 HB.out.1.at_ hk
                    have bx4 := HB.out.2.2.1.chg c4 (HB.out.1.at_.away HB.out.2.2.1 (by decide) (by decide) (by decide))
                    have kb := run_str Try.underlying27 Try.underlying5 Try.underlying9 (HR.out w4 s4.new) c3
                    have hd1 := bx4.cell 1
                    have hd2 := bx4.cell 2
                    simp only [List.getElem?_toArray, List.getElem?_cons_zero, List.getElem?_cons_succ] at hd1 hd2
                    have H4 := Lib.hid (And.intro s4 r4)
                    have hgx := bx4.lt
                    have hlb := s4.at_.blk.lt
                    clear C h4 c4 s4 r4 bx4 hc0 hc1 hc2 hc3 hc4 hc5
                    go_wp2_with (at_builtin; refine stop ?_)
                    delta Stop
                    have m5 := (Chg.refl (fun _ => False) w4).alloc (.cells #[.int .i64 to_, .string ⟨bs.toArray⟩, .bool false] 33)
                    refine append_pl _ rfl _ _ rfl b _ fs rfl (own_chg H4.out.2 m5 fun _ _ => id) _ _ 1 1 [⟨to_, u, bs, false⟩] rfl (Reads.of_row (n := 1) (size := 3) (heap_alloc_new w4 _) (by simp)) (by omega) (by rw [World.size_alloc]; omega) ?_
                    intro r6 w6 o6 g6 a6
                    have s6 := (H4.out.1.news m5).beside (own_chg H4.out.2 m5 fun _ _ => id) g6
                    have HZ := Lib.hid (And.intro s6 o6)
                    clear o6 g6 a6 s6 m5
                    go_wp2_with fail
                    go_meet
                    exact ⟨v4, _, HZ.out.1, HZ.out.2, by rw [List.length_append, List.length_singleton]; omega, fun f hf => by
                      rcases List.mem_append.1 hf with h | h
                      · exact HB.out.2.2.2.1 f h
                      · rw [List.mem_singleton.1 h]
                        have := HB.out.2.2.2.2
                        show bs.length ≤ 200
                        omega⟩
                · as_aux_lemma =>
                    have hq0 : ((kind.toNat : Int) % 4 == 0) = false := by simp; omega
                    have hq1 : ((kind.toNat : Int) % 4 == 1) = true := by simpa using hq
                    have C := Lib.hid (take_none _ _ _ _ _ HB.out.1.at_ I hout)
                    go_wp2_with fail
                    refine C.out.mono ?_
                    rintro e w4 ⟨rfl, n4⟩
                    have m5 := (n4.trans ((Chg.refl (fun _ => False) w4).alloc (.cells #[.int .i64 0, .slice none 0 0] 35)) fun _ _ => id).drew
                    have HZ := Lib.hid (And.intro (HB.out.1.news m5) (own_chg HB.out.2.1 m5 fun _ _ => id))
                    have F := Lib.hid (fun W (_ : New (w4.alloc (.cells #[.int .i64 0, .slice none 0 0] 35)).drew W) => True.intro)
                    clear n4 m5
                    go_wp2_with fail
                    refine grow_start (fun _ => False) (by kernel_rfl) ?_
                    refine grow_take (i := 0) (oi := { dst := some 73, op := Op.move (Operand.tmp 10), type := 30, pos := "law.go:68", after := #[], guard := none }) (v := ?_) rfl (by kernel_rfl) (by kernel_rfl) (by kernel_rfl) (by rfl) ?_ ?_; rotate_left; focus ((intro W hW; go_simp) <;> with_reducible rfl)
                    simp only [Act.put, List.setIfInBounds_toArray, List.set_cons_zero, List.set_cons_succ]
                    refine grow_take (i := 1) (oi := { dst := some 74, op := Op.move (Operand.tmp 8), type := 30, pos := "law.go:68", after := #[], guard := none }) (v := ?_) rfl (by kernel_rfl) (by kernel_rfl) (by kernel_rfl) (by rfl) ?_ ?_; rotate_left; focus ((intro W hW; go_simp) <;> with_reducible rfl)
                    simp only [Act.put, List.setIfInBounds_toArray, List.set_cons_zero, List.set_cons_succ]
                    refine grow_take (i := 2) (oi := { dst := some 75, op := Op.binOp BinOp.neq 30 (Operand.tmp 73) (Operand.tmp 74) 30, type := 4, pos := "law.go:68", after := #[{ on := 0, ground := Ground.data }, { on := 1, ground := Ground.data }], guard := none }) (v := ?_) rfl (by kernel_rfl) (by kernel_rfl) (by kernel_rfl) (by rfl) ?_ ?_; rotate_left; focus ((intro W hW; have fct := F.out W hW; go_simp) <;> with_reducible rfl)
                    simp only [Act.put, List.setIfInBounds_toArray, List.set_cons_zero, List.set_cons_succ]
                    refine grow_take (i := 3) (oi := { dst := some 76, op := Op.move (Operand.tmp 75), type := 4, pos := "law.go:68", after := #[{ on := 2, ground := Ground.data }], guard := none }) (v := ?_) rfl (by kernel_rfl) (by kernel_rfl) (by kernel_rfl) (by rfl) ?_ ?_; rotate_left; focus ((intro W hW; go_simp) <;> with_reducible rfl)
                    simp only [Act.put, List.setIfInBounds_toArray, List.set_cons_zero, List.set_cons_succ]
                    first | (refine grow_take (i := 4) (oi := { dst := some 77, op := Op.move (Operand.tmp 7), type := 4, pos := "law.go:68", after := #[{ on := 3, ground := Ground.guard }], guard := some (3, false) }) (v := ?_) rfl (by kernel_rfl) (by kernel_rfl) (by kernel_rfl) (by rfl) ?_ ?_; rotate_left; focus ((intro W hW; go_simp) <;> with_reducible rfl)) | refine grow_skip (i := 4) (oi := { dst := some 77, op := Op.move (Operand.tmp 7), type := 4, pos := "law.go:68", after := #[{ on := 3, ground := Ground.guard }], guard := some (3, false) }) rfl (by kernel_rfl) (by kernel_rfl) (by kernel_rfl) (by rfl) ?_ | fail "op 4"
                    simp only [Act.put, List.setIfInBounds_toArray, List.set_cons_zero, List.set_cons_succ]
                    first | (refine grow_take (i := 5) (oi := { dst := some 78, op := Op.move (Operand.tmp 77), type := 4, pos := "law.go:68", after := #[{ on := 4, ground := Ground.data }, { on := 3, ground := Ground.chain }, { on := 3, ground := Ground.guard }], guard := some (3, false) }) (v := ?_) rfl (by kernel_rfl) (by kernel_rfl) (by kernel_rfl) (by rfl) ?_ ?_; rotate_left; focus ((intro W hW; go_simp) <;> with_reducible rfl)) | refine grow_skip (i := 5) (oi := { dst := some 78, op := Op.move (Operand.tmp 77), type := 4, pos := "law.go:68", after := #[{ on := 4, ground := Ground.data }, { on := 3, ground := Ground.chain }, { on := 3, ground := Ground.guard }], guard := some (3, false) }) rfl (by kernel_rfl) (by kernel_rfl) (by kernel_rfl) (by rfl) ?_ | fail "op 5"
                    simp only [Act.put, List.setIfInBounds_toArray, List.set_cons_zero, List.set_cons_succ]
                    first | (refine grow_take (i := 6) (oi := { dst := some 79, op := Op.fieldAddr 35 (Operand.tmp 9) 0, type := 0, pos := "law.go:68", after := #[{ on := 5, ground := Ground.guard }], guard := some (5, true) }) (v := ?_) rfl (by kernel_rfl) (by kernel_rfl) (by kernel_rfl) (by rfl) ?_ ?_; rotate_left; focus ((intro W hW; go_simp) <;> with_reducible rfl)) | refine grow_skip (i := 6) (oi := { dst := some 79, op := Op.fieldAddr 35 (Operand.tmp 9) 0, type := 0, pos := "law.go:68", after := #[{ on := 5, ground := Ground.guard }], guard := some (5, true) }) rfl (by kernel_rfl) (by kernel_rfl) (by kernel_rfl) (by rfl) ?_ | fail "op 6"
                    simp only [Act.put, List.setIfInBounds_toArray, List.set_cons_zero, List.set_cons_succ]
                    first | (refine grow_take (i := 7) (oi := { dst := some 80, op := Op.load 3 (Operand.tmp 79), type := 3, pos := "law.go:68", after := #[{ on := 6, ground := Ground.data }, { on := 5, ground := Ground.guard }], guard := some (5, true) }) (v := ?_) rfl (by kernel_rfl) (by kernel_rfl) (by kernel_rfl) (by rfl) ?_ ?_; rotate_left; focus ((intro W hW; have fct := F.out W hW; go_simp) <;> with_reducible rfl)) | refine grow_skip (i := 7) (oi := { dst := some 80, op := Op.load 3 (Operand.tmp 79), type := 3, pos := "law.go:68", after := #[{ on := 6, ground := Ground.data }, { on := 5, ground := Ground.guard }], guard := some (5, true) }) rfl (by kernel_rfl) (by kernel_rfl) (by kernel_rfl) (by rfl) ?_ | fail "op 7"
                    simp only [Act.put, List.setIfInBounds_toArray, List.set_cons_zero, List.set_cons_succ]
                    first | (refine grow_take (i := 8) (oi := { dst := some 81, op := Op.move (Operand.tmp 4), type := 26, pos := "law.go:68", after := #[{ on := 5, ground := Ground.guard }], guard := some (5, true) }) (v := ?_) rfl (by kernel_rfl) (by kernel_rfl) (by kernel_rfl) (by rfl) ?_ ?_; rotate_left; focus ((intro W hW; go_simp) <;> with_reducible rfl)) | refine grow_skip (i := 8) (oi := { dst := some 81, op := Op.move (Operand.tmp 4), type := 26, pos := "law.go:68", after := #[{ on := 5, ground := Ground.guard }], guard := some (5, true) }) rfl (by kernel_rfl) (by kernel_rfl) (by kernel_rfl) (by rfl) ?_ | fail "op 8"
                    simp only [Act.put, List.setIfInBounds_toArray, List.set_cons_zero, List.set_cons_succ]
                    first | (refine grow_take (i := 9) (oi := { dst := some 82, op := Op.fieldAddr 29 (Operand.tmp 6) 3, type := 0, pos := "law.go:68", after := #[{ on := 5, ground := Ground.guard }], guard := some (5, true) }) (v := ?_) rfl (by kernel_rfl) (by kernel_rfl) (by kernel_rfl) (by rfl) ?_ ?_; rotate_left; focus ((intro W hW; go_simp) <;> with_reducible rfl)) | refine grow_skip (i := 9) (oi := { dst := some 82, op := Op.fieldAddr 29 (Operand.tmp 6) 3, type := 0, pos := "law.go:68", after := #[{ on := 5, ground := Ground.guard }], guard := some (5, true) }) rfl (by kernel_rfl) (by kernel_rfl) (by kernel_rfl) (by rfl) ?_ | fail "op 9"
                    simp only [Act.put, List.setIfInBounds_toArray, List.set_cons_zero, List.set_cons_succ]
                    first | (refine grow_take (i := 10) (oi := { dst := some 83, op := Op.load 3 (Operand.tmp 82), type := 3, pos := "law.go:68", after := #[{ on := 9, ground := Ground.data }, { on := 5, ground := Ground.guard }], guard := some (5, true) }) (v := ?_) rfl (by kernel_rfl) (by kernel_rfl) (by kernel_rfl) (by rfl) ?_ ?_; rotate_left; focus ((intro W hW; have fct := F.out W hW; go_simp) <;> with_reducible rfl)) | refine grow_skip (i := 10) (oi := { dst := some 83, op := Op.load 3 (Operand.tmp 82), type := 3, pos := "law.go:68", after := #[{ on := 9, ground := Ground.data }, { on := 5, ground := Ground.guard }], guard := some (5, true) }) rfl (by kernel_rfl) (by kernel_rfl) (by kernel_rfl) (by rfl) ?_ | fail "op 10"
                    simp only [Act.put, List.setIfInBounds_toArray, List.set_cons_zero, List.set_cons_succ]
                    first | (refine grow_take (i := 11) (oi := { dst := some 84, op := Op.indexAddr 26 (Operand.tmp 81) (Operand.tmp 83), type := 0, pos := "law.go:68", after := #[{ on := 8, ground := Ground.data }, { on := 10, ground := Ground.data }, { on := 5, ground := Ground.guard }], guard := some (5, true) }) (v := ?_) rfl (by kernel_rfl) (by kernel_rfl) (by kernel_rfl) (by rfl) ?_ ?_; rotate_left; focus ((intro W hW; have fct := F.out W hW; go_simp) <;> with_reducible rfl)) | refine grow_skip (i := 11) (oi := { dst := some 84, op := Op.indexAddr 26 (Operand.tmp 81) (Operand.tmp 83), type := 0, pos := "law.go:68", after := #[{ on := 8, ground := Ground.data }, { on := 10, ground := Ground.data }, { on := 5, ground := Ground.guard }], guard := some (5, true) }) rfl (by kernel_rfl) (by kernel_rfl) (by kernel_rfl) (by rfl) ?_ | fail "op 11"
                    simp only [Act.put, List.setIfInBounds_toArray, List.set_cons_zero, List.set_cons_succ]
                    first | (refine grow_take (i := 12) (oi := { dst := some 85, op := Op.fieldAddr 33 (Operand.tmp 84) 0, type := 0, pos := "law.go:68", after := #[{ on := 11, ground := Ground.data }, { on := 5, ground := Ground.guard }], guard := some (5, true) }) (v := ?_) rfl (by kernel_rfl) (by kernel_rfl) (by kernel_rfl) (by rfl) ?_ ?_; rotate_left; focus ((intro W hW; go_simp) <;> with_reducible rfl)) | refine grow_skip (i := 12) (oi := { dst := some 85, op := Op.fieldAddr 33 (Operand.tmp 84) 0, type := 0, pos := "law.go:68", after := #[{ on := 11, ground := Ground.data }, { on := 5, ground := Ground.guard }], guard := some (5, true) }) rfl (by kernel_rfl) (by kernel_rfl) (by kernel_rfl) (by rfl) ?_ | fail "op 12"
                    simp only [Act.put, List.setIfInBounds_toArray, List.set_cons_zero, List.set_cons_succ]
                    first | (refine grow_take (i := 13) (oi := { dst := some 86, op := Op.load 3 (Operand.tmp 85), type := 3, pos := "law.go:68", after := #[{ on := 12, ground := Ground.data }, { on := 5, ground := Ground.guard }], guard := some (5, true) }) (v := ?_) rfl (by kernel_rfl) (by kernel_rfl) (by kernel_rfl) (by rfl) ?_ ?_; rotate_left; focus ((intro W hW; have fct := F.out W hW; go_simp) <;> with_reducible rfl)) | refine grow_skip (i := 13) (oi := { dst := some 86, op := Op.load 3 (Operand.tmp 85), type := 3, pos := "law.go:68", after := #[{ on := 12, ground := Ground.data }, { on := 5, ground := Ground.guard }], guard := some (5, true) }) rfl (by kernel_rfl) (by kernel_rfl) (by kernel_rfl) (by rfl) ?_ | fail "op 13"
                    simp only [Act.put, List.setIfInBounds_toArray, List.set_cons_zero, List.set_cons_succ]
                    first | (refine grow_take (i := 14) (oi := { dst := some 87, op := Op.binOp BinOp.neq 3 (Operand.tmp 80) (Operand.tmp 86) 3, type := 4, pos := "law.go:68", after := #[{ on := 7, ground := Ground.data }, { on := 13, ground := Ground.data }, { on := 5, ground := Ground.guard }], guard := some (5, true) }) (v := ?_) rfl (by kernel_rfl) (by kernel_rfl) (by kernel_rfl) (by rfl) ?_ ?_; rotate_left; focus ((intro W hW; have fct := F.out W hW; go_simp) <;> with_reducible rfl)) | refine grow_skip (i := 14) (oi := { dst := some 87, op := Op.binOp BinOp.neq 3 (Operand.tmp 80) (Operand.tmp 86) 3, type := 4, pos := "law.go:68", after := #[{ on := 7, ground := Ground.data }, { on := 13, ground := Ground.data }, { on := 5, ground := Ground.guard }], guard := some (5, true) }) rfl (by kernel_rfl) (by kernel_rfl) (by kernel_rfl) (by rfl) ?_ | fail "op 14"
                    simp only [Act.put, List.setIfInBounds_toArray, List.set_cons_zero, List.set_cons_succ]
                    first | (refine grow_take (i := 15) (oi := { dst := some 88, op := Op.move (Operand.tmp 87), type := 4, pos := "law.go:68", after := #[{ on := 14, ground := Ground.data }, { on := 5, ground := Ground.chain }, { on := 5, ground := Ground.guard }], guard := some (5, true) }) (v := ?_) rfl (by kernel_rfl) (by kernel_rfl) (by kernel_rfl) (by rfl) ?_ ?_; rotate_left; focus ((intro W hW; go_simp) <;> with_reducible rfl)) | refine grow_skip (i := 15) (oi := { dst := some 88, op := Op.move (Operand.tmp 87), type := 4, pos := "law.go:68", after := #[{ on := 14, ground := Ground.data }, { on := 5, ground := Ground.chain }, { on := 5, ground := Ground.guard }], guard := some (5, true) }) rfl (by kernel_rfl) (by kernel_rfl) (by kernel_rfl) (by rfl) ?_ | fail "op 15"
                    simp only [Act.put, List.setIfInBounds_toArray, List.set_cons_zero, List.set_cons_succ]
                    first | (refine grow_take (i := 16) (oi := { dst := some 89, op := Op.fieldAddr 35 (Operand.tmp 9) 1, type := 0, pos := "law.go:68", after := #[{ on := 15, ground := Ground.guard }], guard := some (15, false) }) (v := ?_) rfl (by kernel_rfl) (by kernel_rfl) (by kernel_rfl) (by rfl) ?_ ?_; rotate_left; focus ((intro W hW; go_simp) <;> with_reducible rfl)) | refine grow_skip (i := 16) (oi := { dst := some 89, op := Op.fieldAddr 35 (Operand.tmp 9) 1, type := 0, pos := "law.go:68", after := #[{ on := 15, ground := Ground.guard }], guard := some (15, false) }) rfl (by kernel_rfl) (by kernel_rfl) (by kernel_rfl) (by rfl) ?_ | fail "op 16"
                    simp only [Act.put, List.setIfInBounds_toArray, List.set_cons_zero, List.set_cons_succ]
                    first | (refine grow_take (i := 17) (oi := { dst := some 90, op := Op.load 27 (Operand.tmp 89), type := 27, pos := "law.go:68", after := #[{ on := 16, ground := Ground.data }, { on := 15, ground := Ground.guard }], guard := some (15, false) }) (v := ?_) rfl (by kernel_rfl) (by kernel_rfl) (by kernel_rfl) (by rfl) ?_ ?_; rotate_left; focus ((intro W hW; have fct := F.out W hW; go_simp) <;> with_reducible rfl)) | refine grow_skip (i := 17) (oi := { dst := some 90, op := Op.load 27 (Operand.tmp 89), type := 27, pos := "law.go:68", after := #[{ on := 16, ground := Ground.data }, { on := 15, ground := Ground.guard }], guard := some (15, false) }) rfl (by kernel_rfl) (by kernel_rfl) (by kernel_rfl) (by rfl) ?_ | fail "op 17"
                    simp only [Act.put, List.setIfInBounds_toArray, List.set_cons_zero, List.set_cons_succ]
                    first | (refine grow_take (i := 18) (oi := { dst := some 91, op := Op.convert 27 9 (Operand.tmp 90), type := 9, pos := "law.go:68", after := #[{ on := 17, ground := Ground.data }, { on := 15, ground := Ground.guard }], guard := some (15, false) }) (v := ?_) rfl (by kernel_rfl) (by kernel_rfl) (by kernel_rfl) (by rfl) ?_ ?_; rotate_left; focus ((intro W hW; have fct := F.out W hW; go_simp) <;> with_reducible rfl)) | refine grow_skip (i := 18) (oi := { dst := some 91, op := Op.convert 27 9 (Operand.tmp 90), type := 9, pos := "law.go:68", after := #[{ on := 17, ground := Ground.data }, { on := 15, ground := Ground.guard }], guard := some (15, false) }) rfl (by kernel_rfl) (by kernel_rfl) (by kernel_rfl) (by rfl) ?_ | fail "op 18"
                    simp only [Act.put, List.setIfInBounds_toArray, List.set_cons_zero, List.set_cons_succ]
                    first | (refine grow_take (i := 19) (oi := { dst := some 92, op := Op.move (Operand.tmp 4), type := 26, pos := "law.go:68", after := #[{ on := 15, ground := Ground.guard }], guard := some (15, false) }) (v := ?_) rfl (by kernel_rfl) (by kernel_rfl) (by kernel_rfl) (by rfl) ?_ ?_; rotate_left; focus ((intro W hW; go_simp) <;> with_reducible rfl)) | refine grow_skip (i := 19) (oi := { dst := some 92, op := Op.move (Operand.tmp 4), type := 26, pos := "law.go:68", after := #[{ on := 15, ground := Ground.guard }], guard := some (15, false) }) rfl (by kernel_rfl) (by kernel_rfl) (by kernel_rfl) (by rfl) ?_ | fail "op 19"
                    simp only [Act.put, List.setIfInBounds_toArray, List.set_cons_zero, List.set_cons_succ]
                    first | (refine grow_take (i := 20) (oi := { dst := some 93, op := Op.fieldAddr 29 (Operand.tmp 6) 3, type := 0, pos := "law.go:68", after := #[{ on := 15, ground := Ground.guard }], guard := some (15, false) }) (v := ?_) rfl (by kernel_rfl) (by kernel_rfl) (by kernel_rfl) (by rfl) ?_ ?_; rotate_left; focus ((intro W hW; go_simp) <;> with_reducible rfl)) | refine grow_skip (i := 20) (oi := { dst := some 93, op := Op.fieldAddr 29 (Operand.tmp 6) 3, type := 0, pos := "law.go:68", after := #[{ on := 15, ground := Ground.guard }], guard := some (15, false) }) rfl (by kernel_rfl) (by kernel_rfl) (by kernel_rfl) (by rfl) ?_ | fail "op 20"
                    simp only [Act.put, List.setIfInBounds_toArray, List.set_cons_zero, List.set_cons_succ]
                    first | (refine grow_take (i := 21) (oi := { dst := some 94, op := Op.load 3 (Operand.tmp 93), type := 3, pos := "law.go:68", after := #[{ on := 20, ground := Ground.data }, { on := 15, ground := Ground.guard }], guard := some (15, false) }) (v := ?_) rfl (by kernel_rfl) (by kernel_rfl) (by kernel_rfl) (by rfl) ?_ ?_; rotate_left; focus ((intro W hW; have fct := F.out W hW; go_simp) <;> with_reducible rfl)) | refine grow_skip (i := 21) (oi := { dst := some 94, op := Op.load 3 (Operand.tmp 93), type := 3, pos := "law.go:68", after := #[{ on := 20, ground := Ground.data }, { on := 15, ground := Ground.guard }], guard := some (15, false) }) rfl (by kernel_rfl) (by kernel_rfl) (by kernel_rfl) (by rfl) ?_ | fail "op 21"
                    simp only [Act.put, List.setIfInBounds_toArray, List.set_cons_zero, List.set_cons_succ]
                    first | (refine grow_take (i := 22) (oi := { dst := some 95, op := Op.indexAddr 26 (Operand.tmp 92) (Operand.tmp 94), type := 0, pos := "law.go:68", after := #[{ on := 19, ground := Ground.data }, { on := 21, ground := Ground.data }, { on := 15, ground := Ground.guard }], guard := some (15, false) }) (v := ?_) rfl (by kernel_rfl) (by kernel_rfl) (by kernel_rfl) (by rfl) ?_ ?_; rotate_left; focus ((intro W hW; have fct := F.out W hW; go_simp) <;> with_reducible rfl)) | refine grow_skip (i := 22) (oi := { dst := some 95, op := Op.indexAddr 26 (Operand.tmp 92) (Operand.tmp 94), type := 0, pos := "law.go:68", after := #[{ on := 19, ground := Ground.data }, { on := 21, ground := Ground.data }, { on := 15, ground := Ground.guard }], guard := some (15, false) }) rfl (by kernel_rfl) (by kernel_rfl) (by kernel_rfl) (by rfl) ?_ | fail "op 22"
                    simp only [Act.put, List.setIfInBounds_toArray, List.set_cons_zero, List.set_cons_succ]
                    first | (refine grow_take (i := 23) (oi := { dst := some 96, op := Op.fieldAddr 33 (Operand.tmp 95) 1, type := 0, pos := "law.go:68", after := #[{ on := 22, ground := Ground.data }, { on := 15, ground := Ground.guard }], guard := some (15, false) }) (v := ?_) rfl (by kernel_rfl) (by kernel_rfl) (by kernel_rfl) (by rfl) ?_ ?_; rotate_left; focus ((intro W hW; go_simp) <;> with_reducible rfl)) | refine grow_skip (i := 23) (oi := { dst := some 96, op := Op.fieldAddr 33 (Operand.tmp 95) 1, type := 0, pos := "law.go:68", after := #[{ on := 22, ground := Ground.data }, { on := 15, ground := Ground.guard }], guard := some (15, false) }) rfl (by kernel_rfl) (by kernel_rfl) (by kernel_rfl) (by rfl) ?_ | fail "op 23"
                    simp only [Act.put, List.setIfInBounds_toArray, List.set_cons_zero, List.set_cons_succ]
                    first | (refine grow_take (i := 24) (oi := { dst := some 97, op := Op.load 9 (Operand.tmp 96), type := 9, pos := "law.go:68", after := #[{ on := 23, ground := Ground.data }, { on := 15, ground := Ground.guard }], guard := some (15, false) }) (v := ?_) rfl (by kernel_rfl) (by kernel_rfl) (by kernel_rfl) (by rfl) ?_ ?_; rotate_left; focus ((intro W hW; have fct := F.out W hW; go_simp) <;> with_reducible rfl)) | refine grow_skip (i := 24) (oi := { dst := some 97, op := Op.load 9 (Operand.tmp 96), type := 9, pos := "law.go:68", after := #[{ on := 23, ground := Ground.data }, { on := 15, ground := Ground.guard }], guard := some (15, false) }) rfl (by kernel_rfl) (by kernel_rfl) (by kernel_rfl) (by rfl) ?_ | fail "op 24"
                    simp only [Act.put, List.setIfInBounds_toArray, List.set_cons_zero, List.set_cons_succ]
                    first | (refine grow_take (i := 25) (oi := { dst := some 98, op := Op.binOp BinOp.neq 9 (Operand.tmp 91) (Operand.tmp 97) 9, type := 4, pos := "law.go:68", after := #[{ on := 18, ground := Ground.data }, { on := 24, ground := Ground.data }, { on := 15, ground := Ground.guard }], guard := some (15, false) }) (v := ?_) rfl (by kernel_rfl) (by kernel_rfl) (by kernel_rfl) (by rfl) ?_ ?_; rotate_left; focus ((intro W hW; have fct := F.out W hW; go_simp) <;> with_reducible rfl)) | refine grow_skip (i := 25) (oi := { dst := some 98, op := Op.binOp BinOp.neq 9 (Operand.tmp 91) (Operand.tmp 97) 9, type := 4, pos := "law.go:68", after := #[{ on := 18, ground := Ground.data }, { on := 24, ground := Ground.data }, { on := 15, ground := Ground.guard }], guard := some (15, false) }) rfl (by kernel_rfl) (by kernel_rfl) (by kernel_rfl) (by rfl) ?_ | fail "op 25"
                    simp only [Act.put, List.setIfInBounds_toArray, List.set_cons_zero, List.set_cons_succ]
                    first | (refine grow_take (i := 26) (oi := { dst := some 99, op := Op.pick (Operand.tmp 88) (Operand.const (Value.bool true)) (Operand.tmp 98), type := 4, pos := "law.go:68", after := #[{ on := 15, ground := Ground.data }, { on := 25, ground := Ground.data }, { on := 5, ground := Ground.guard }], guard := some (5, true) }) (v := ?_) rfl (by kernel_rfl) (by kernel_rfl) (by kernel_rfl) (by rfl) ?_ ?_; rotate_left; focus ((intro W hW; go_simp) <;> with_reducible rfl)) | refine grow_skip (i := 26) (oi := { dst := some 99, op := Op.pick (Operand.tmp 88) (Operand.const (Value.bool true)) (Operand.tmp 98), type := 4, pos := "law.go:68", after := #[{ on := 15, ground := Ground.data }, { on := 25, ground := Ground.data }, { on := 5, ground := Ground.guard }], guard := some (5, true) }) rfl (by kernel_rfl) (by kernel_rfl) (by kernel_rfl) (by rfl) ?_ | fail "op 26"
                    simp only [Act.put, List.setIfInBounds_toArray, List.set_cons_zero, List.set_cons_succ]
                    first | (refine grow_take (i := 27) (oi := { dst := some 100, op := Op.pick (Operand.tmp 78) (Operand.tmp 99) (Operand.const (Value.bool false)), type := 4, pos := "law.go:68", after := #[{ on := 5, ground := Ground.data }, { on := 26, ground := Ground.data }, { on := 3, ground := Ground.guard }], guard := some (3, false) }) (v := ?_) rfl (by kernel_rfl) (by kernel_rfl) (by kernel_rfl) (by rfl) ?_ ?_; rotate_left; focus ((intro W hW; go_simp) <;> with_reducible rfl)) | refine grow_skip (i := 27) (oi := { dst := some 100, op := Op.pick (Operand.tmp 78) (Operand.tmp 99) (Operand.const (Value.bool false)), type := 4, pos := "law.go:68", after := #[{ on := 5, ground := Ground.data }, { on := 26, ground := Ground.data }, { on := 3, ground := Ground.guard }], guard := some (3, false) }) rfl (by kernel_rfl) (by kernel_rfl) (by kernel_rfl) (by rfl) ?_ | fail "op 27"
                    simp only [Act.put, List.setIfInBounds_toArray, List.set_cons_zero, List.set_cons_succ]
                    refine grow_take (i := 28) (oi := { dst := some 101, op := Op.pick (Operand.tmp 76) (Operand.const (Value.bool true)) (Operand.tmp 100), type := 4, pos := "law.go:68", after := #[{ on := 3, ground := Ground.data }, { on := 27, ground := Ground.data }], guard := none }) (v := ?_) rfl (by kernel_rfl) (by kernel_rfl) (by kernel_rfl) (by rfl) ?_ ?_; rotate_left; focus ((intro W hW; go_simp) <;> with_reducible rfl)
                    simp only [Act.put, List.setIfInBounds_toArray, List.set_cons_zero, List.set_cons_succ]
                    refine grow_done (by kernel_rfl) ?_ _
                    go_wp2_with fail
                    go_meet
                    exact ⟨v, fs, HZ.out.1, HZ.out.2, by omega, HB.out.2.2.2.1⟩
                · as_aux_lemma =>
                    have hq0 : ((kind.toNat : Int) % 4 == 0) = false := by simp; omega
                    have hq1 : ((kind.toNat : Int) % 4 == 1) = false := by simp; omega
                    have hq2 : ((kind.toNat : Int) % 4 == 2) = true := by simpa using hq
                    have C := Lib.hid (double_none _ _ _ _ _ HB.out.1.at_ I hout)
                    go_wp2_with fail
                    refine C.out.mono ?_
                    rintro e w4 ⟨rfl, rfl⟩
                    go_wp2_with fail
                    go_meet
                    exact ⟨v, fs, HB.out.1, HB.out.2.1, by omega, HB.out.2.2.2.1⟩
                · as_aux_lemma =>
                    have hq0 : ((kind.toNat : Int) % 4 == 0) = false := by simp; omega
                    have hq1 : ((kind.toNat : Int) % 4 == 1) = false := by simp; omega
                    have hq2 : ((kind.toNat : Int) % 4 == 2) = false := by simp; omega
                    have hq3 : ((kind.toNat : Int) % 4 == 3) = true := by simpa using hq
                    have C := Lib.hid (turn_none w3.drew b b v fs (HB.out.1.at_.new (Chg.refl (fun _ => False) w3).drew) I hout (.int .i64 at_) (.int .u8 (y.toNat : Int)))
                    have HZ := Lib.hid (show St w w3.drew b v fs ∧ RowP w3.drew b (.slice Ar fs.length cr) fs from ⟨HB.out.1.news (Chg.refl (fun _ => False) w3).drew, own_chg HB.out.2.1 (Chg.refl (fun _ => False) w3).drew fun _ _ => id⟩)
                    have hd3 : w3.drew.cell? ⟨gx, 3, none⟩ = some (.int .i64 I) := hc3
                    have hd4 : w3.drew.cell? ⟨gx, 4, none⟩ = some (.int .i64 at_) := hc4
                    have hd5 : w3.drew.cell? ⟨gx, 5, none⟩ = some (.int .u8 (y.toNat : Int)) := hc5
                    have F := Lib.hid (fun W (_ : New w3.drew W) => True.intro)
                    go_wp2_with fail
                    refine grow_start (fun _ => False) (by kernel_rfl) ?_
                    refine grow_take (i := 0) (oi := { dst := some 134, op := Op.move (Operand.tmp 7), type := 4, pos := "law.go:82", after := #[], guard := none }) (v := ?_) rfl (by kernel_rfl) (by kernel_rfl) (by kernel_rfl) (by rfl) ?_ ?_; rotate_left; focus ((intro W hW; go_simp) <;> with_reducible rfl)
                    simp only [Act.put, List.setIfInBounds_toArray, List.set_cons_zero, List.set_cons_succ]
                    refine grow_take (i := 1) (oi := { dst := some 135, op := Op.move (Operand.tmp 134), type := 4, pos := "law.go:82", after := #[{ on := 0, ground := Ground.data }], guard := none }) (v := ?_) rfl (by kernel_rfl) (by kernel_rfl) (by kernel_rfl) (by rfl) ?_ ?_; rotate_left; focus ((intro W hW; go_simp) <;> with_reducible rfl)
                    simp only [Act.put, List.setIfInBounds_toArray, List.set_cons_zero, List.set_cons_succ]
                    first | (refine grow_take (i := 2) (oi := { dst := some 136, op := Op.fieldAddr 29 (Operand.tmp 6) 4, type := 0, pos := "law.go:82", after := #[{ on := 1, ground := Ground.guard }], guard := some (1, true) }) (v := ?_) rfl (by kernel_rfl) (by kernel_rfl) (by kernel_rfl) (by rfl) ?_ ?_; rotate_left; focus ((intro W hW; go_simp) <;> with_reducible rfl)) | refine grow_skip (i := 2) (oi := { dst := some 136, op := Op.fieldAddr 29 (Operand.tmp 6) 4, type := 0, pos := "law.go:82", after := #[{ on := 1, ground := Ground.guard }], guard := some (1, true) }) rfl (by kernel_rfl) (by kernel_rfl) (by kernel_rfl) (by rfl) ?_ | fail "op 2"
                    simp only [Act.put, List.setIfInBounds_toArray, List.set_cons_zero, List.set_cons_succ]
                    first | (refine grow_take (i := 3) (oi := { dst := some 137, op := Op.load 3 (Operand.tmp 136), type := 3, pos := "law.go:82", after := #[{ on := 2, ground := Ground.data }, { on := 1, ground := Ground.guard }], guard := some (1, true) }) (v := ?_) rfl (by kernel_rfl) (by kernel_rfl) (by kernel_rfl) (by rfl) ?_ ?_; rotate_left; focus ((intro W hW; have fct := F.out W hW; go_simp) <;> with_reducible rfl)) | refine grow_skip (i := 3) (oi := { dst := some 137, op := Op.load 3 (Operand.tmp 136), type := 3, pos := "law.go:82", after := #[{ on := 2, ground := Ground.data }, { on := 1, ground := Ground.guard }], guard := some (1, true) }) rfl (by kernel_rfl) (by kernel_rfl) (by kernel_rfl) (by rfl) ?_ | fail "op 3"
                    simp only [Act.put, List.setIfInBounds_toArray, List.set_cons_zero, List.set_cons_succ]
                    first | (refine grow_take (i := 4) (oi := { dst := some 138, op := Op.binOp BinOp.lss 3 (Operand.tmp 137) (Operand.const (Value.int IntKind.i64 0)) 3, type := 4, pos := "law.go:82", after := #[{ on := 3, ground := Ground.data }, { on := 1, ground := Ground.guard }], guard := some (1, true) }) (v := ?_) rfl (by kernel_rfl) (by kernel_rfl) (by kernel_rfl) (by rfl) ?_ ?_; rotate_left; focus ((intro W hW; have fct := F.out W hW; go_simp) <;> with_reducible rfl)) | refine grow_skip (i := 4) (oi := { dst := some 138, op := Op.binOp BinOp.lss 3 (Operand.tmp 137) (Operand.const (Value.int IntKind.i64 0)) 3, type := 4, pos := "law.go:82", after := #[{ on := 3, ground := Ground.data }, { on := 1, ground := Ground.guard }], guard := some (1, true) }) rfl (by kernel_rfl) (by kernel_rfl) (by kernel_rfl) (by rfl) ?_ | fail "op 4"
                    simp only [Act.put, List.setIfInBounds_toArray, List.set_cons_zero, List.set_cons_succ]
                    first | (refine grow_take (i := 5) (oi := { dst := some 139, op := Op.move (Operand.tmp 138), type := 4, pos := "law.go:82", after := #[{ on := 4, ground := Ground.data }, { on := 1, ground := Ground.chain }, { on := 1, ground := Ground.guard }], guard := some (1, true) }) (v := ?_) rfl (by kernel_rfl) (by kernel_rfl) (by kernel_rfl) (by rfl) ?_ ?_; rotate_left; focus ((intro W hW; go_simp) <;> with_reducible rfl)) | refine grow_skip (i := 5) (oi := { dst := some 139, op := Op.move (Operand.tmp 138), type := 4, pos := "law.go:82", after := #[{ on := 4, ground := Ground.data }, { on := 1, ground := Ground.chain }, { on := 1, ground := Ground.guard }], guard := some (1, true) }) rfl (by kernel_rfl) (by kernel_rfl) (by kernel_rfl) (by rfl) ?_ | fail "op 5"
                    simp only [Act.put, List.setIfInBounds_toArray, List.set_cons_zero, List.set_cons_succ]
                    first | (refine grow_take (i := 6) (oi := { dst := some 140, op := Op.fieldAddr 29 (Operand.tmp 6) 4, type := 0, pos := "law.go:82", after := #[{ on := 5, ground := Ground.guard }], guard := some (5, false) }) (v := ?_) rfl (by kernel_rfl) (by kernel_rfl) (by kernel_rfl) (by rfl) ?_ ?_; rotate_left; focus ((intro W hW; go_simp) <;> with_reducible rfl)) | refine grow_skip (i := 6) (oi := { dst := some 140, op := Op.fieldAddr 29 (Operand.tmp 6) 4, type := 0, pos := "law.go:82", after := #[{ on := 5, ground := Ground.guard }], guard := some (5, false) }) rfl (by kernel_rfl) (by kernel_rfl) (by kernel_rfl) (by rfl) ?_ | fail "op 6"
                    simp only [Act.put, List.setIfInBounds_toArray, List.set_cons_zero, List.set_cons_succ]
                    first | (refine grow_take (i := 7) (oi := { dst := some 141, op := Op.load 3 (Operand.tmp 140), type := 3, pos := "law.go:82", after := #[{ on := 6, ground := Ground.data }, { on := 5, ground := Ground.guard }], guard := some (5, false) }) (v := ?_) rfl (by kernel_rfl) (by kernel_rfl) (by kernel_rfl) (by rfl) ?_ ?_; rotate_left; focus ((intro W hW; have fct := F.out W hW; go_simp) <;> with_reducible rfl)) | refine grow_skip (i := 7) (oi := { dst := some 141, op := Op.load 3 (Operand.tmp 140), type := 3, pos := "law.go:82", after := #[{ on := 6, ground := Ground.data }, { on := 5, ground := Ground.guard }], guard := some (5, false) }) rfl (by kernel_rfl) (by kernel_rfl) (by kernel_rfl) (by rfl) ?_ | fail "op 7"
                    simp only [Act.put, List.setIfInBounds_toArray, List.set_cons_zero, List.set_cons_succ]
                    first | (refine grow_take (i := 8) (oi := { dst := some 142, op := Op.move (Operand.tmp 4), type := 26, pos := "law.go:82", after := #[{ on := 5, ground := Ground.guard }], guard := some (5, false) }) (v := ?_) rfl (by kernel_rfl) (by kernel_rfl) (by kernel_rfl) (by rfl) ?_ ?_; rotate_left; focus ((intro W hW; go_simp) <;> with_reducible rfl)) | refine grow_skip (i := 8) (oi := { dst := some 142, op := Op.move (Operand.tmp 4), type := 26, pos := "law.go:82", after := #[{ on := 5, ground := Ground.guard }], guard := some (5, false) }) rfl (by kernel_rfl) (by kernel_rfl) (by kernel_rfl) (by rfl) ?_ | fail "op 8"
                    simp only [Act.put, List.setIfInBounds_toArray, List.set_cons_zero, List.set_cons_succ]
                    first | (refine grow_take (i := 9) (oi := { dst := some 143, op := Op.fieldAddr 29 (Operand.tmp 6) 3, type := 0, pos := "law.go:82", after := #[{ on := 5, ground := Ground.guard }], guard := some (5, false) }) (v := ?_) rfl (by kernel_rfl) (by kernel_rfl) (by kernel_rfl) (by rfl) ?_ ?_; rotate_left; focus ((intro W hW; go_simp) <;> with_reducible rfl)) | refine grow_skip (i := 9) (oi := { dst := some 143, op := Op.fieldAddr 29 (Operand.tmp 6) 3, type := 0, pos := "law.go:82", after := #[{ on := 5, ground := Ground.guard }], guard := some (5, false) }) rfl (by kernel_rfl) (by kernel_rfl) (by kernel_rfl) (by rfl) ?_ | fail "op 9"
                    simp only [Act.put, List.setIfInBounds_toArray, List.set_cons_zero, List.set_cons_succ]
                    first | (refine grow_take (i := 10) (oi := { dst := some 144, op := Op.load 3 (Operand.tmp 143), type := 3, pos := "law.go:82", after := #[{ on := 9, ground := Ground.data }, { on := 5, ground := Ground.guard }], guard := some (5, false) }) (v := ?_) rfl (by kernel_rfl) (by kernel_rfl) (by kernel_rfl) (by rfl) ?_ ?_; rotate_left; focus ((intro W hW; have fct := F.out W hW; go_simp) <;> with_reducible rfl)) | refine grow_skip (i := 10) (oi := { dst := some 144, op := Op.load 3 (Operand.tmp 143), type := 3, pos := "law.go:82", after := #[{ on := 9, ground := Ground.data }, { on := 5, ground := Ground.guard }], guard := some (5, false) }) rfl (by kernel_rfl) (by kernel_rfl) (by kernel_rfl) (by rfl) ?_ | fail "op 10"
                    simp only [Act.put, List.setIfInBounds_toArray, List.set_cons_zero, List.set_cons_succ]
                    first | (refine grow_take (i := 11) (oi := { dst := some 145, op := Op.indexAddr 26 (Operand.tmp 142) (Operand.tmp 144), type := 0, pos := "law.go:82", after := #[{ on := 8, ground := Ground.data }, { on := 10, ground := Ground.data }, { on := 5, ground := Ground.guard }], guard := some (5, false) }) (v := ?_) rfl (by kernel_rfl) (by kernel_rfl) (by kernel_rfl) (by rfl) ?_ ?_; rotate_left; focus ((intro W hW; have fct := F.out W hW; go_simp) <;> with_reducible rfl)) | refine grow_skip (i := 11) (oi := { dst := some 145, op := Op.indexAddr 26 (Operand.tmp 142) (Operand.tmp 144), type := 0, pos := "law.go:82", after := #[{ on := 8, ground := Ground.data }, { on := 10, ground := Ground.data }, { on := 5, ground := Ground.guard }], guard := some (5, false) }) rfl (by kernel_rfl) (by kernel_rfl) (by kernel_rfl) (by rfl) ?_ | fail "op 11"
                    simp only [Act.put, List.setIfInBounds_toArray, List.set_cons_zero, List.set_cons_succ]
                    first | (refine grow_take (i := 12) (oi := { dst := some 146, op := Op.fieldAddr 33 (Operand.tmp 145) 1, type := 0, pos := "law.go:82", after := #[{ on := 11, ground := Ground.data }, { on := 5, ground := Ground.guard }], guard := some (5, false) }) (v := ?_) rfl (by kernel_rfl) (by kernel_rfl) (by kernel_rfl) (by rfl) ?_ ?_; rotate_left; focus ((intro W hW; go_simp) <;> with_reducible rfl)) | refine grow_skip (i := 12) (oi := { dst := some 146, op := Op.fieldAddr 33 (Operand.tmp 145) 1, type := 0, pos := "law.go:82", after := #[{ on := 11, ground := Ground.data }, { on := 5, ground := Ground.guard }], guard := some (5, false) }) rfl (by kernel_rfl) (by kernel_rfl) (by kernel_rfl) (by rfl) ?_ | fail "op 12"
                    simp only [Act.put, List.setIfInBounds_toArray, List.set_cons_zero, List.set_cons_succ]
                    first | (refine grow_take (i := 13) (oi := { dst := some 147, op := Op.load 9 (Operand.tmp 146), type := 9, pos := "law.go:82", after := #[{ on := 12, ground := Ground.data }, { on := 5, ground := Ground.guard }], guard := some (5, false) }) (v := ?_) rfl (by kernel_rfl) (by kernel_rfl) (by kernel_rfl) (by rfl) ?_ ?_; rotate_left; focus ((intro W hW; have fct := F.out W hW; go_simp) <;> with_reducible rfl)) | refine grow_skip (i := 13) (oi := { dst := some 147, op := Op.load 9 (Operand.tmp 146), type := 9, pos := "law.go:82", after := #[{ on := 12, ground := Ground.data }, { on := 5, ground := Ground.guard }], guard := some (5, false) }) rfl (by kernel_rfl) (by kernel_rfl) (by kernel_rfl) (by rfl) ?_ | fail "op 13"
                    simp only [Act.put, List.setIfInBounds_toArray, List.set_cons_zero, List.set_cons_succ]
                    first | (refine grow_take (i := 14) (oi := { dst := some 148, op := Op.call { callee := Callee.builtin Builtin.len, args := #[Operand.tmp 147], argTypes := #[9] }, type := 3, pos := "law.go:82", after := #[{ on := 13, ground := Ground.data }, { on := 5, ground := Ground.guard }], guard := some (5, false) }) (v := ?_) rfl (by kernel_rfl) (by kernel_rfl) (by kernel_rfl) (by rfl) ?_ ?_; rotate_left; focus ((intro W hW; have fct := F.out W hW; go_simp) <;> with_reducible rfl)) | refine grow_skip (i := 14) (oi := { dst := some 148, op := Op.call { callee := Callee.builtin Builtin.len, args := #[Operand.tmp 147], argTypes := #[9] }, type := 3, pos := "law.go:82", after := #[{ on := 13, ground := Ground.data }, { on := 5, ground := Ground.guard }], guard := some (5, false) }) rfl (by kernel_rfl) (by kernel_rfl) (by kernel_rfl) (by rfl) ?_ | fail "op 14"
                    simp only [Act.put, List.setIfInBounds_toArray, List.set_cons_zero, List.set_cons_succ]
                    first | (refine grow_take (i := 15) (oi := { dst := some 149, op := Op.binOp BinOp.geq 3 (Operand.tmp 141) (Operand.tmp 148) 3, type := 4, pos := "law.go:82", after := #[{ on := 7, ground := Ground.data }, { on := 14, ground := Ground.data }, { on := 5, ground := Ground.guard }], guard := some (5, false) }) (v := ?_) rfl (by kernel_rfl) (by kernel_rfl) (by kernel_rfl) (by rfl) ?_ ?_; rotate_left; focus ((intro W hW; have fct := F.out W hW; go_simp) <;> with_reducible rfl)) | refine grow_skip (i := 15) (oi := { dst := some 149, op := Op.binOp BinOp.geq 3 (Operand.tmp 141) (Operand.tmp 148) 3, type := 4, pos := "law.go:82", after := #[{ on := 7, ground := Ground.data }, { on := 14, ground := Ground.data }, { on := 5, ground := Ground.guard }], guard := some (5, false) }) rfl (by kernel_rfl) (by kernel_rfl) (by kernel_rfl) (by rfl) ?_ | fail "op 15"
                    simp only [Act.put, List.setIfInBounds_toArray, List.set_cons_zero, List.set_cons_succ]
                    first | (refine grow_take (i := 16) (oi := { dst := some 150, op := Op.pick (Operand.tmp 139) (Operand.const (Value.bool true)) (Operand.tmp 149), type := 4, pos := "law.go:82", after := #[{ on := 5, ground := Ground.data }, { on := 15, ground := Ground.data }, { on := 1, ground := Ground.guard }], guard := some (1, true) }) (v := ?_) rfl (by kernel_rfl) (by kernel_rfl) (by kernel_rfl) (by rfl) ?_ ?_; rotate_left; focus ((intro W hW; go_simp) <;> with_reducible rfl)) | refine grow_skip (i := 16) (oi := { dst := some 150, op := Op.pick (Operand.tmp 139) (Operand.const (Value.bool true)) (Operand.tmp 149), type := 4, pos := "law.go:82", after := #[{ on := 5, ground := Ground.data }, { on := 15, ground := Ground.data }, { on := 1, ground := Ground.guard }], guard := some (1, true) }) rfl (by kernel_rfl) (by kernel_rfl) (by kernel_rfl) (by rfl) ?_ | fail "op 16"
                    simp only [Act.put, List.setIfInBounds_toArray, List.set_cons_zero, List.set_cons_succ]
                    refine grow_take (i := 17) (oi := { dst := some 151, op := Op.pick (Operand.tmp 135) (Operand.tmp 150) (Operand.const (Value.bool false)), type := 4, pos := "law.go:82", after := #[{ on := 1, ground := Ground.data }, { on := 16, ground := Ground.data }], guard := none }) (v := ?_) rfl (by kernel_rfl) (by kernel_rfl) (by kernel_rfl) (by rfl) ?_ ?_; rotate_left; focus ((intro W hW; go_simp) <;> with_reducible rfl)
                    simp only [Act.put, List.setIfInBounds_toArray, List.set_cons_zero, List.set_cons_succ]
                    refine grow_done (by kernel_rfl) ?_ _
                    go_wp2_with fail
                    refine C.out.mono ?_
                    rintro e w4 ⟨rfl, rfl⟩
                    go_wp2_with fail
                    go_meet
                    exact ⟨v, fs, HZ.out.1, HZ.out.2, by omega, HB.out.2.2.2.1⟩
              case rest =>
                as_aux_lemma =>
                  clear hc0 hc1 hc2 hc3 hc4 hc5 HB hld
                  obtain ⟨v, fs, hs, hrow, hfl, h200⟩ := hcut
                  obtain ⟨Ar, cr, hr⟩ := own_form hrow
                  subst hr
                  have C := Lib.hid (all_ _ _ _ _ _ hs.at_ (fun f hf => by have := h200 f hf; omega) (by omega))
                  have K := Lib.hid (fun W (hW : New wc W) => len _ _ _ _ _ (hs.news hW).at_)
                  have HS := Lib.hid (And.intro hs (And.intro hrow (And.intro hfl h200)))
                  obtain ⟨N, hN⟩ : ∃ N, fs.length = N := ⟨_, rfl⟩
                  rw [hN] at K
                  have hNb : N ≤ 101 := by omega
                  have HN := Lib.hid hN
                  clear hs hrow hfl h200 hN
                  go_wp2_with fail
                  refine C.out.mono ?_
                  rintro e w4 ⟨u4, rfl, p4, n4⟩
                  obtain ⟨A4, c4, hu4⟩ := p4.form
                  rw [show (told fs).length = N by simp [told, HN.out]] at hu4
                  subst hu4
                  rw [HN.out]
                  have KK := Lib.hid (K.out w4 n4)
                  have P4 := Lib.hid (And.intro p4 n4)
                  clear p4 n4 C K
                  go_wp2_with fail
                  refine KK.out.mono ?_
                  rintro e w5 ⟨rfl, rfl⟩
                  go_wp2_with fail
                  go_loopw [2, 13, 14, 217] (fun _ _ _ i wr => ∃ (q : Nat), q ≤ N ∧ i = .int .i64 q ∧ New w4 wr) (fun _ _ _ i _ => N - (intOf i).toNat)
                  case atStart => exact ⟨0, by omega, rfl, Chg.refl _ _⟩
                  case round =>
                    obtain ⟨q, hq, rfl, hnw⟩ := hrel
                    by_cases hlq : q < N
                    · obtain ⟨f, hf⟩ : ∃ f, fs[q]? = some f := ⟨_, List.getElem?_eq_getElem (by rw [HN.out]; exact hlq)⟩
                      obtain ⟨g4, c4', u4, hv4, ⟨Au, cu, rfl⟩, hall⟩ := P4.out.1.at_ (i := q) (p := (f.to_, f.b)) (by unfold told; rw [List.getElem?_map, hf]; rfl)
                      injection hv4 with hv1 hv2 hv3
                      subst hv1 hv3
                      clear hv2
                      obtain ⟨_, _, hld4, _⟩ := hall wr hnw
                      obtain ⟨gr, cr', hvr, _, _⟩ := World.ownsRow.form HS.out.2.1 (by rw [HN.out]; omega)
                      injection hvr with hv1 hv2 hv3
                      subst hv1 hv3
                      clear hv2
                      obtain ⟨e0, e1, _⟩ := plain_get hf
                      have x0 := World.ownsRow.cellAt HS.out.2.1 (q * 3) (by rw [HN.out]; omega)
                      have x1 := World.ownsRow.cellAt HS.out.2.1 (q * 3 + 1) (by rw [HN.out]; omega)
                      rw [e0] at x0
                      rw [e1] at x1
                      have hbx := Blk.new wr 35 #[.int .i64 f.to_, .slice Au f.b.length cu]
                      have m6 := (Chg.refl (fun _ => False) wr).alloc (.cells #[.int .i64 f.to_, .slice Au f.b.length cu] 35)
                      have F := Lib.hid (fun W (hW : New (wr.alloc (.cells #[.int .i64 f.to_, .slice Au f.b.length cu] 35)).drew W) => by
                        have hW1 := (Chg.refl (fun _ => False) (wr.alloc (.cells #[.int .i64 f.to_, .slice Au f.b.length cu] 35))).drew.trans hW fun _ _ => id
                        have hW4 := hnw.trans (m6.trans hW1 fun _ _ => id) fun _ _ => id
                        have hWc := P4.out.2.trans hW4 fun _ _ => id
                        have hb := hbx.chg hW1 id
                        obtain ⟨_, _, _, hs⟩ := hall W hW4
                        exact (show (W.cell? ⟨wr.heap.size, 0, none⟩ = some (.int .i64 f.to_) ∧ W.cell? ⟨wr.heap.size, 1, none⟩ = some (.slice Au f.b.length cu)) ∧ (convert 27 9 (.slice Au f.b.length cu)).run Try.prog W = .ok (.string ⟨f.b.toArray⟩) W ∧
                            W.cell? ⟨gr, q * 3, none⟩ = some (.int .i64 f.to_) ∧ W.cell? ⟨gr, q * 3 + 1, none⟩ = some (.string ⟨f.b.toArray⟩) from
                          ⟨⟨hb.cell 0, hb.cell 1⟩, hs, (hWc.cell (p := ⟨gr, _, none⟩) (block_lt_of_cell x0) id).trans x0, (hWc.cell (p := ⟨gr, _, none⟩) (block_lt_of_cell x1) id).trans x1⟩))
                      have M6 := Lib.hid (hnw.trans m6 fun _ _ => id)
                      have hlp : (q : Int) < N := by omega
                      clear hall e0 e1 x0 x1 hbx m6 hf
                      generalize f.b.length = L at *
                      go_wp2_with fail
                      refine grow_start (fun _ => False) (by kernel_rfl) ?_
                      refine grow_take (i := 0) (oi := { dst := some 222, op := Op.fieldAddr 35 (Operand.tmp 14) 0, type := 0, pos := "law.go:101", after := #[], guard := none }) (v := ?_) rfl (by kernel_rfl) (by kernel_rfl) (by kernel_rfl) (by rfl) ?_ ?_; rotate_left; focus ((intro W hW; go_simp) <;> with_reducible rfl)
                      simp only [Act.put, List.setIfInBounds_toArray, List.set_cons_zero, List.set_cons_succ]
                      refine grow_take (i := 1) (oi := { dst := some 223, op := Op.load 3 (Operand.tmp 222), type := 3, pos := "law.go:101", after := #[{ on := 0, ground := Ground.data }], guard := none }) (v := ?_) rfl (by kernel_rfl) (by kernel_rfl) (by kernel_rfl) (by rfl) ?_ ?_; rotate_left; focus ((intro W hW; have fct := F.out W hW; go_simp) <;> with_reducible rfl)
                      simp only [Act.put, List.setIfInBounds_toArray, List.set_cons_zero, List.set_cons_succ]
                      refine grow_take (i := 2) (oi := { dst := some 224, op := Op.move (Operand.tmp 4), type := 26, pos := "law.go:101", after := #[], guard := none }) (v := ?_) rfl (by kernel_rfl) (by kernel_rfl) (by kernel_rfl) (by rfl) ?_ ?_; rotate_left; focus ((intro W hW; go_simp) <;> with_reducible rfl)
                      simp only [Act.put, List.setIfInBounds_toArray, List.set_cons_zero, List.set_cons_succ]
                      refine grow_take (i := 3) (oi := { dst := some 225, op := Op.move (Operand.tmp 13), type := 3, pos := "law.go:101", after := #[], guard := none }) (v := ?_) rfl (by kernel_rfl) (by kernel_rfl) (by kernel_rfl) (by rfl) ?_ ?_; rotate_left; focus ((intro W hW; go_simp) <;> with_reducible rfl)
                      simp only [Act.put, List.setIfInBounds_toArray, List.set_cons_zero, List.set_cons_succ]
                      refine grow_take (i := 4) (oi := { dst := some 226, op := Op.indexAddr 26 (Operand.tmp 224) (Operand.tmp 225), type := 0, pos := "law.go:101", after := #[{ on := 2, ground := Ground.data }, { on := 3, ground := Ground.data }], guard := none }) (v := ?_) rfl (by kernel_rfl) (by kernel_rfl) (by kernel_rfl) (by rfl) ?_ ?_; rotate_left; focus ((intro W hW; have fct := F.out W hW; go_simp) <;> with_reducible rfl)
                      simp only [Act.put, List.setIfInBounds_toArray, List.set_cons_zero, List.set_cons_succ]
                      refine grow_take (i := 5) (oi := { dst := some 227, op := Op.fieldAddr 33 (Operand.tmp 226) 0, type := 0, pos := "law.go:101", after := #[{ on := 4, ground := Ground.data }], guard := none }) (v := ?_) rfl (by kernel_rfl) (by kernel_rfl) (by kernel_rfl) (by rfl) ?_ ?_; rotate_left; focus ((intro W hW; go_simp) <;> with_reducible rfl)
                      simp only [Act.put, List.setIfInBounds_toArray, List.set_cons_zero, List.set_cons_succ]
                      refine grow_take (i := 6) (oi := { dst := some 228, op := Op.load 3 (Operand.tmp 227), type := 3, pos := "law.go:101", after := #[{ on := 5, ground := Ground.data }], guard := none }) (v := ?_) rfl (by kernel_rfl) (by kernel_rfl) (by kernel_rfl) (by rfl) ?_ ?_; rotate_left; focus ((intro W hW; have fct := F.out W hW; go_simp) <;> with_reducible rfl)
                      simp only [Act.put, List.setIfInBounds_toArray, List.set_cons_zero, List.set_cons_succ]
                      refine grow_take (i := 7) (oi := { dst := some 229, op := Op.binOp BinOp.neq 3 (Operand.tmp 223) (Operand.tmp 228) 3, type := 4, pos := "law.go:101", after := #[{ on := 1, ground := Ground.data }, { on := 6, ground := Ground.data }], guard := none }) (v := ?_) rfl (by kernel_rfl) (by kernel_rfl) (by kernel_rfl) (by rfl) ?_ ?_; rotate_left; focus ((intro W hW; have fct := F.out W hW; go_simp) <;> with_reducible rfl)
                      simp only [Act.put, List.setIfInBounds_toArray, List.set_cons_zero, List.set_cons_succ]
                      refine grow_take (i := 8) (oi := { dst := some 230, op := Op.move (Operand.tmp 229), type := 4, pos := "law.go:101", after := #[{ on := 7, ground := Ground.data }], guard := none }) (v := ?_) rfl (by kernel_rfl) (by kernel_rfl) (by kernel_rfl) (by rfl) ?_ ?_; rotate_left; focus ((intro W hW; go_simp) <;> with_reducible rfl)
                      simp only [Act.put, List.setIfInBounds_toArray, List.set_cons_zero, List.set_cons_succ]
                      first | (refine grow_take (i := 9) (oi := { dst := some 231, op := Op.fieldAddr 35 (Operand.tmp 14) 1, type := 0, pos := "law.go:101", after := #[{ on := 8, ground := Ground.guard }], guard := some (8, false) }) (v := ?_) rfl (by kernel_rfl) (by kernel_rfl) (by kernel_rfl) (by rfl) ?_ ?_; rotate_left; focus ((intro W hW; go_simp) <;> with_reducible rfl)) | refine grow_skip (i := 9) (oi := { dst := some 231, op := Op.fieldAddr 35 (Operand.tmp 14) 1, type := 0, pos := "law.go:101", after := #[{ on := 8, ground := Ground.guard }], guard := some (8, false) }) rfl (by kernel_rfl) (by kernel_rfl) (by kernel_rfl) (by rfl) ?_ | fail "op 9"
                      simp only [Act.put, List.setIfInBounds_toArray, List.set_cons_zero, List.set_cons_succ]
                      first | (refine grow_take (i := 10) (oi := { dst := some 232, op := Op.load 27 (Operand.tmp 231), type := 27, pos := "law.go:101", after := #[{ on := 9, ground := Ground.data }, { on := 8, ground := Ground.guard }], guard := some (8, false) }) (v := ?_) rfl (by kernel_rfl) (by kernel_rfl) (by kernel_rfl) (by rfl) ?_ ?_; rotate_left; focus ((intro W hW; have fct := F.out W hW; go_simp) <;> with_reducible rfl)) | refine grow_skip (i := 10) (oi := { dst := some 232, op := Op.load 27 (Operand.tmp 231), type := 27, pos := "law.go:101", after := #[{ on := 9, ground := Ground.data }, { on := 8, ground := Ground.guard }], guard := some (8, false) }) rfl (by kernel_rfl) (by kernel_rfl) (by kernel_rfl) (by rfl) ?_ | fail "op 10"
                      simp only [Act.put, List.setIfInBounds_toArray, List.set_cons_zero, List.set_cons_succ]
                      first | (refine grow_take (i := 11) (oi := { dst := some 233, op := Op.convert 27 9 (Operand.tmp 232), type := 9, pos := "law.go:101", after := #[{ on := 10, ground := Ground.data }, { on := 8, ground := Ground.guard }], guard := some (8, false) }) (v := ?_) rfl (by kernel_rfl) (by kernel_rfl) (by kernel_rfl) (by rfl) ?_ ?_; rotate_left; focus ((intro W hW; have fct := F.out W hW; go_simp) <;> with_reducible rfl)) | refine grow_skip (i := 11) (oi := { dst := some 233, op := Op.convert 27 9 (Operand.tmp 232), type := 9, pos := "law.go:101", after := #[{ on := 10, ground := Ground.data }, { on := 8, ground := Ground.guard }], guard := some (8, false) }) rfl (by kernel_rfl) (by kernel_rfl) (by kernel_rfl) (by rfl) ?_ | fail "op 11"
                      simp only [Act.put, List.setIfInBounds_toArray, List.set_cons_zero, List.set_cons_succ]
                      first | (refine grow_take (i := 12) (oi := { dst := some 234, op := Op.move (Operand.tmp 4), type := 26, pos := "law.go:101", after := #[{ on := 8, ground := Ground.guard }], guard := some (8, false) }) (v := ?_) rfl (by kernel_rfl) (by kernel_rfl) (by kernel_rfl) (by rfl) ?_ ?_; rotate_left; focus ((intro W hW; go_simp) <;> with_reducible rfl)) | refine grow_skip (i := 12) (oi := { dst := some 234, op := Op.move (Operand.tmp 4), type := 26, pos := "law.go:101", after := #[{ on := 8, ground := Ground.guard }], guard := some (8, false) }) rfl (by kernel_rfl) (by kernel_rfl) (by kernel_rfl) (by rfl) ?_ | fail "op 12"
                      simp only [Act.put, List.setIfInBounds_toArray, List.set_cons_zero, List.set_cons_succ]
                      first | (refine grow_take (i := 13) (oi := { dst := some 235, op := Op.move (Operand.tmp 13), type := 3, pos := "law.go:101", after := #[{ on := 8, ground := Ground.guard }], guard := some (8, false) }) (v := ?_) rfl (by kernel_rfl) (by kernel_rfl) (by kernel_rfl) (by rfl) ?_ ?_; rotate_left; focus ((intro W hW; go_simp) <;> with_reducible rfl)) | refine grow_skip (i := 13) (oi := { dst := some 235, op := Op.move (Operand.tmp 13), type := 3, pos := "law.go:101", after := #[{ on := 8, ground := Ground.guard }], guard := some (8, false) }) rfl (by kernel_rfl) (by kernel_rfl) (by kernel_rfl) (by rfl) ?_ | fail "op 13"
                      simp only [Act.put, List.setIfInBounds_toArray, List.set_cons_zero, List.set_cons_succ]
                      first | (refine grow_take (i := 14) (oi := { dst := some 236, op := Op.indexAddr 26 (Operand.tmp 234) (Operand.tmp 235), type := 0, pos := "law.go:101", after := #[{ on := 12, ground := Ground.data }, { on := 13, ground := Ground.data }, { on := 8, ground := Ground.guard }], guard := some (8, false) }) (v := ?_) rfl (by kernel_rfl) (by kernel_rfl) (by kernel_rfl) (by rfl) ?_ ?_; rotate_left; focus ((intro W hW; have fct := F.out W hW; go_simp) <;> with_reducible rfl)) | refine grow_skip (i := 14) (oi := { dst := some 236, op := Op.indexAddr 26 (Operand.tmp 234) (Operand.tmp 235), type := 0, pos := "law.go:101", after := #[{ on := 12, ground := Ground.data }, { on := 13, ground := Ground.data }, { on := 8, ground := Ground.guard }], guard := some (8, false) }) rfl (by kernel_rfl) (by kernel_rfl) (by kernel_rfl) (by rfl) ?_ | fail "op 14"
                      simp only [Act.put, List.setIfInBounds_toArray, List.set_cons_zero, List.set_cons_succ]
                      first | (refine grow_take (i := 15) (oi := { dst := some 237, op := Op.fieldAddr 33 (Operand.tmp 236) 1, type := 0, pos := "law.go:101", after := #[{ on := 14, ground := Ground.data }, { on := 8, ground := Ground.guard }], guard := some (8, false) }) (v := ?_) rfl (by kernel_rfl) (by kernel_rfl) (by kernel_rfl) (by rfl) ?_ ?_; rotate_left; focus ((intro W hW; go_simp) <;> with_reducible rfl)) | refine grow_skip (i := 15) (oi := { dst := some 237, op := Op.fieldAddr 33 (Operand.tmp 236) 1, type := 0, pos := "law.go:101", after := #[{ on := 14, ground := Ground.data }, { on := 8, ground := Ground.guard }], guard := some (8, false) }) rfl (by kernel_rfl) (by kernel_rfl) (by kernel_rfl) (by rfl) ?_ | fail "op 15"
                      simp only [Act.put, List.setIfInBounds_toArray, List.set_cons_zero, List.set_cons_succ]
                      first | (refine grow_take (i := 16) (oi := { dst := some 238, op := Op.load 9 (Operand.tmp 237), type := 9, pos := "law.go:101", after := #[{ on := 15, ground := Ground.data }, { on := 8, ground := Ground.guard }], guard := some (8, false) }) (v := ?_) rfl (by kernel_rfl) (by kernel_rfl) (by kernel_rfl) (by rfl) ?_ ?_; rotate_left; focus ((intro W hW; have fct := F.out W hW; go_simp) <;> with_reducible rfl)) | refine grow_skip (i := 16) (oi := { dst := some 238, op := Op.load 9 (Operand.tmp 237), type := 9, pos := "law.go:101", after := #[{ on := 15, ground := Ground.data }, { on := 8, ground := Ground.guard }], guard := some (8, false) }) rfl (by kernel_rfl) (by kernel_rfl) (by kernel_rfl) (by rfl) ?_ | fail "op 16"
                      simp only [Act.put, List.setIfInBounds_toArray, List.set_cons_zero, List.set_cons_succ]
                      first | (refine grow_take (i := 17) (oi := { dst := some 239, op := Op.binOp BinOp.neq 9 (Operand.tmp 233) (Operand.tmp 238) 9, type := 4, pos := "law.go:101", after := #[{ on := 11, ground := Ground.data }, { on := 16, ground := Ground.data }, { on := 8, ground := Ground.guard }], guard := some (8, false) }) (v := ?_) rfl (by kernel_rfl) (by kernel_rfl) (by kernel_rfl) (by rfl) ?_ ?_; rotate_left; focus ((intro W hW; have fct := F.out W hW; go_simp) <;> with_reducible rfl)) | refine grow_skip (i := 17) (oi := { dst := some 239, op := Op.binOp BinOp.neq 9 (Operand.tmp 233) (Operand.tmp 238) 9, type := 4, pos := "law.go:101", after := #[{ on := 11, ground := Ground.data }, { on := 16, ground := Ground.data }, { on := 8, ground := Ground.guard }], guard := some (8, false) }) rfl (by kernel_rfl) (by kernel_rfl) (by kernel_rfl) (by rfl) ?_ | fail "op 17"
                      simp only [Act.put, List.setIfInBounds_toArray, List.set_cons_zero, List.set_cons_succ]
                      refine grow_take (i := 18) (oi := { dst := some 240, op := Op.pick (Operand.tmp 230) (Operand.const (Value.bool true)) (Operand.tmp 239), type := 4, pos := "law.go:101", after := #[{ on := 8, ground := Ground.data }, { on := 17, ground := Ground.data }], guard := none }) (v := ?_) rfl (by kernel_rfl) (by kernel_rfl) (by kernel_rfl) (by rfl) ?_ ?_; rotate_left; focus ((intro W hW; go_simp) <;> with_reducible rfl)
                      simp only [Act.put, List.setIfInBounds_toArray, List.set_cons_zero, List.set_cons_succ]
                      refine grow_done (by kernel_rfl) ?_ _
                      go_wp2
                      go_roundw
                      case rel => exact ⟨q + 1, by omega, by go_num, M6.out.drew⟩
                      case measure => simp [intOf]; omega
                    · have hn5 := P4.out.2.trans hnw fun _ _ => id
                      have HZ := Lib.hid (And.intro (HS.out.1.news hn5) (And.intro (own_chg HS.out.2.1 hn5 fun _ _ => id) HS.out.2.2))
                      clear hn5
                      go_wp2_with fail
                      go_roundw
                      case rel => exact ⟨k + 1, by omega, by go_num, v, fs, HZ.out.1, HN.out ▸ HZ.out.2.1, HZ.out.2.2.1, HZ.out.2.2.2⟩
                      case measure => simp [intOf]; omega
            · have hI1 : (fs.length : Int) ≤ I := by omega
              have hb1 : decide (0 ≤ I) = true := by simp; omega
              have hb2 : decide (I < (fs.length : Int)) = false := by simp; omega
              go_upto_block 2 with fail
              generalize wo.alloc (.cells #[.int .u8 (kind.toNat : Int), .int .i64 to_, .slice A3 n3 c3, .int .i64 I, .int .i64 at_, .int .u8 (y.toNat : Int)] 29) = w3 at *
              generalize wo.heap.size = gx at *
              have hc0 := HB.out.2.2.1.cell 0
              have hc1 := HB.out.2.2.1.cell 1
              have hc2 := HB.out.2.2.1.cell 2
              have hc3 := HB.out.2.2.1.cell 3
              have hc4 := HB.out.2.2.1.cell 4
              have hc5 := HB.out.2.2.1.cell 5
              simp only [List.getElem?_toArray, List.getElem?_cons_zero, List.getElem?_cons_succ] at hc0 hc1 hc2 hc3 hc4 hc5
              go_cut [4, 45] (fun r _ wx => Both w wx b (k + 1) r)
              case first =>
                have hq : (kind.toNat : Int) % 4 = 0 ∨ (kind.toNat : Int) % 4 = 1 ∨ (kind.toNat : Int) % 4 = 2 ∨ (kind.toNat : Int) % 4 = 3 := by omega
                rcases hq with hq | hq | hq | hq
                · as_aux_lemma =>
                    have hq1 : ((kind.toNat : Int) % 4 == 0) = true := by simpa using hq
                    have C := Lib.hid (send_ok _ _ _ _ _ HB.out.1.at_ to_ A3 n3 c3 bs _ (HR.out _ HB.out.1.new) (by omega) (by omega))
                    go_wp2_with fail
                    refine C.out.mono ?_
                    rintro e w4 ⟨rfl, u, v4, h4, c4, _⟩
                    have s4 := HB.out.1.step h4 c4
                    have r4 := own_chg HB.out.2.1 c4 fun k hk => RowP.foot HB.out.2.1 HB.out.1.at_ hk
                    have bx4 := HB.out.2.2.1.chg c4 (HB.out.1.at_.away HB.out.2.2.1 (by decide) (by decide) (by decide))
                    have kb := run_str Try.underlying27 Try.underlying5 Try.underlying9 (HR.out w4 s4.new) c3
                    have hd1 := bx4.cell 1
                    have hd2 := bx4.cell 2
                    simp only [List.getElem?_toArray, List.getElem?_cons_zero, List.getElem?_cons_succ] at hd1 hd2
                    have H4 := Lib.hid (And.intro s4 r4)
                    have hgx := bx4.lt
                    have hlb := s4.at_.blk.lt
                    clear C h4 c4 s4 r4 bx4 hc0 hc1 hc2 hc3 hc4 hc5
                    go_wp2_with (at_builtin; refine stop ?_)
                    delta Stop
                    have m5 := (Chg.refl (fun _ => False) w4).alloc (.cells #[.int .i64 to_, .string ⟨bs.toArray⟩, .bool false] 33)
                    refine append_pl _ rfl _ _ rfl b _ fs rfl (own_chg H4.out.2 m5 fun _ _ => id) _ _ 1 1 [⟨to_, u, bs, false⟩] rfl (Reads.of_row (n := 1) (size := 3) (heap_alloc_new w4 _) (by simp)) (by omega) (by rw [World.size_alloc]; omega) ?_
                    intro r6 w6 o6 g6 a6
                    have s6 := (H4.out.1.news m5).beside (own_chg H4.out.2 m5 fun _ _ => id) g6
                    have HZ := Lib.hid (And.intro s6 o6)
                    clear o6 g6 a6 s6 m5
                    go_wp2_with fail
                    go_meet
                    exact ⟨v4, _, HZ.out.1, HZ.out.2, by rw [List.length_append, List.length_singleton]; omega, fun f hf => by
                      rcases List.mem_append.1 hf with h | h
                      · exact HB.out.2.2.2.1 f h
                      · rw [List.mem_singleton.1 h]
                        have := HB.out.2.2.2.2
                        show bs.length ≤ 200
                        omega⟩
                · as_aux_lemma =>
                    have hq0 : ((kind.toNat : Int) % 4 == 0) = false := by simp; omega
                    have hq1 : ((kind.toNat : Int) % 4 == 1) = true := by simpa using hq
                    have C := Lib.hid (take_none _ _ _ _ _ HB.out.1.at_ I hout)
                    go_wp2_with fail
                    refine C.out.mono ?_
                    rintro e w4 ⟨rfl, n4⟩
                    have m5 := (n4.trans ((Chg.refl (fun _ => False) w4).alloc (.cells #[.int .i64 0, .slice none 0 0] 35)) fun _ _ => id).drew
                    have HZ := Lib.hid (And.intro (HB.out.1.news m5) (own_chg HB.out.2.1 m5 fun _ _ => id))
                    have F := Lib.hid (fun W (_ : New (w4.alloc (.cells #[.int .i64 0, .slice none 0 0] 35)).drew W) => True.intro)
                    clear n4 m5
                    go_wp2_with fail
                    refine grow_start (fun _ => False) (by kernel_rfl) ?_
                    refine grow_take (i := 0) (oi := { dst := some 73, op := Op.move (Operand.tmp 10), type := 30, pos := "law.go:68", after := #[], guard := none }) (v := ?_) rfl (by kernel_rfl) (by kernel_rfl) (by kernel_rfl) (by rfl) ?_ ?_; rotate_left; focus ((intro W hW; go_simp) <;> with_reducible rfl)
                    simp only [Act.put, List.setIfInBounds_toArray, List.set_cons_zero, List.set_cons_succ]
                    refine grow_take (i := 1) (oi := { dst := some 74, op := Op.move (Operand.tmp 8), type := 30, pos := "law.go:68", after := #[], guard := none }) (v := ?_) rfl (by kernel_rfl) (by kernel_rfl) (by kernel_rfl) (by rfl) ?_ ?_; rotate_left; focus ((intro W hW; go_simp) <;> with_reducible rfl)
                    simp only [Act.put, List.setIfInBounds_toArray, List.set_cons_zero, List.set_cons_succ]
                    refine grow_take (i := 2) (oi := { dst := some 75, op := Op.binOp BinOp.neq 30 (Operand.tmp 73) (Operand.tmp 74) 30, type := 4, pos := "law.go:68", after := #[{ on := 0, ground := Ground.data }, { on := 1, ground := Ground.data }], guard := none }) (v := ?_) rfl (by kernel_rfl) (by kernel_rfl) (by kernel_rfl) (by rfl) ?_ ?_; rotate_left; focus ((intro W hW; have fct := F.out W hW; go_simp) <;> with_reducible rfl)
                    simp only [Act.put, List.setIfInBounds_toArray, List.set_cons_zero, List.set_cons_succ]
                    refine grow_take (i := 3) (oi := { dst := some 76, op := Op.move (Operand.tmp 75), type := 4, pos := "law.go:68", after := #[{ on := 2, ground := Ground.data }], guard := none }) (v := ?_) rfl (by kernel_rfl) (by kernel_rfl) (by kernel_rfl) (by rfl) ?_ ?_; rotate_left; focus ((intro W hW; go_simp) <;> with_reducible rfl)
                    simp only [Act.put, List.setIfInBounds_toArray, List.set_cons_zero, List.set_cons_succ]
                    first | (refine grow_take (i := 4) (oi := { dst := some 77, op := Op.move (Operand.tmp 7), type := 4, pos := "law.go:68", after := #[{ on := 3, ground := Ground.guard }], guard := some (3, false) }) (v := ?_) rfl (by kernel_rfl) (by kernel_rfl) (by kernel_rfl) (by rfl) ?_ ?_; rotate_left; focus ((intro W hW; go_simp) <;> with_reducible rfl)) | refine grow_skip (i := 4) (oi := { dst := some 77, op := Op.move (Operand.tmp 7), type := 4, pos := "law.go:68", after := #[{ on := 3, ground := Ground.guard }], guard := some (3, false) }) rfl (by kernel_rfl) (by kernel_rfl) (by kernel_rfl) (by rfl) ?_ | fail "op 4"
                    simp only [Act.put, List.setIfInBounds_toArray, List.set_cons_zero, List.set_cons_succ]
                    first | (refine grow_take (i := 5) (oi := { dst := some 78, op := Op.move (Operand.tmp 77), type := 4, pos := "law.go:68", after := #[{ on := 4, ground := Ground.data }, { on := 3, ground := Ground.chain }, { on := 3, ground := Ground.guard }], guard := some (3, false) }) (v := ?_) rfl (by kernel_rfl) (by kernel_rfl) (by kernel_rfl) (by rfl) ?_ ?_; rotate_left; focus ((intro W hW; go_simp) <;> with_reducible rfl)) | refine grow_skip (i := 5) (oi := { dst := some 78, op := Op.move (Operand.tmp 77), type := 4, pos := "law.go:68", after := #[{ on := 4, ground := Ground.data }, { on := 3, ground := Ground.chain }, { on := 3, ground := Ground.guard }], guard := some (3, false) }) rfl (by kernel_rfl) (by kernel_rfl) (by kernel_rfl) (by rfl) ?_ | fail "op 5"
                    simp only [Act.put, List.setIfInBounds_toArray, List.set_cons_zero, List.set_cons_succ]
                    first | (refine grow_take (i := 6) (oi := { dst := some 79, op := Op.fieldAddr 35 (Operand.tmp 9) 0, type := 0, pos := "law.go:68", after := #[{ on := 5, ground := Ground.guard }], guard := some (5, true) }) (v := ?_) rfl (by kernel_rfl) (by kernel_rfl) (by kernel_rfl) (by rfl) ?_ ?_; rotate_left; focus ((intro W hW; go_simp) <;> with_reducible rfl)) | refine grow_skip (i := 6) (oi := { dst := some 79, op := Op.fieldAddr 35 (Operand.tmp 9) 0, type := 0, pos := "law.go:68", after := #[{ on := 5, ground := Ground.guard }], guard := some (5, true) }) rfl (by kernel_rfl) (by kernel_rfl) (by kernel_rfl) (by rfl) ?_ | fail "op 6"
                    simp only [Act.put, List.setIfInBounds_toArray, List.set_cons_zero, List.set_cons_succ]
                    first | (refine grow_take (i := 7) (oi := { dst := some 80, op := Op.load 3 (Operand.tmp 79), type := 3, pos := "law.go:68", after := #[{ on := 6, ground := Ground.data }, { on := 5, ground := Ground.guard }], guard := some (5, true) }) (v := ?_) rfl (by kernel_rfl) (by kernel_rfl) (by kernel_rfl) (by rfl) ?_ ?_; rotate_left; focus ((intro W hW; have fct := F.out W hW; go_simp) <;> with_reducible rfl)) | refine grow_skip (i := 7) (oi := { dst := some 80, op := Op.load 3 (Operand.tmp 79), type := 3, pos := "law.go:68", after := #[{ on := 6, ground := Ground.data }, { on := 5, ground := Ground.guard }], guard := some (5, true) }) rfl (by kernel_rfl) (by kernel_rfl) (by kernel_rfl) (by rfl) ?_ | fail "op 7"
                    simp only [Act.put, List.setIfInBounds_toArray, List.set_cons_zero, List.set_cons_succ]
                    first | (refine grow_take (i := 8) (oi := { dst := some 81, op := Op.move (Operand.tmp 4), type := 26, pos := "law.go:68", after := #[{ on := 5, ground := Ground.guard }], guard := some (5, true) }) (v := ?_) rfl (by kernel_rfl) (by kernel_rfl) (by kernel_rfl) (by rfl) ?_ ?_; rotate_left; focus ((intro W hW; go_simp) <;> with_reducible rfl)) | refine grow_skip (i := 8) (oi := { dst := some 81, op := Op.move (Operand.tmp 4), type := 26, pos := "law.go:68", after := #[{ on := 5, ground := Ground.guard }], guard := some (5, true) }) rfl (by kernel_rfl) (by kernel_rfl) (by kernel_rfl) (by rfl) ?_ | fail "op 8"
                    simp only [Act.put, List.setIfInBounds_toArray, List.set_cons_zero, List.set_cons_succ]
                    first | (refine grow_take (i := 9) (oi := { dst := some 82, op := Op.fieldAddr 29 (Operand.tmp 6) 3, type := 0, pos := "law.go:68", after := #[{ on := 5, ground := Ground.guard }], guard := some (5, true) }) (v := ?_) rfl (by kernel_rfl) (by kernel_rfl) (by kernel_rfl) (by rfl) ?_ ?_; rotate_left; focus ((intro W hW; go_simp) <;> with_reducible rfl)) | refine grow_skip (i := 9) (oi := { dst := some 82, op := Op.fieldAddr 29 (Operand.tmp 6) 3, type := 0, pos := "law.go:68", after := #[{ on := 5, ground := Ground.guard }], guard := some (5, true) }) rfl (by kernel_rfl) (by kernel_rfl) (by kernel_rfl) (by rfl) ?_ | fail "op 9"
                    simp only [Act.put, List.setIfInBounds_toArray, List.set_cons_zero, List.set_cons_succ]
                    first | (refine grow_take (i := 10) (oi := { dst := some 83, op := Op.load 3 (Operand.tmp 82), type := 3, pos := "law.go:68", after := #[{ on := 9, ground := Ground.data }, { on := 5, ground := Ground.guard }], guard := some (5, true) }) (v := ?_) rfl (by kernel_rfl) (by kernel_rfl) (by kernel_rfl) (by rfl) ?_ ?_; rotate_left; focus ((intro W hW; have fct := F.out W hW; go_simp) <;> with_reducible rfl)) | refine grow_skip (i := 10) (oi := { dst := some 83, op := Op.load 3 (Operand.tmp 82), type := 3, pos := "law.go:68", after := #[{ on := 9, ground := Ground.data }, { on := 5, ground := Ground.guard }], guard := some (5, true) }) rfl (by kernel_rfl) (by kernel_rfl) (by kernel_rfl) (by rfl) ?_ | fail "op 10"
                    simp only [Act.put, List.setIfInBounds_toArray, List.set_cons_zero, List.set_cons_succ]
                    first | (refine grow_take (i := 11) (oi := { dst := some 84, op := Op.indexAddr 26 (Operand.tmp 81) (Operand.tmp 83), type := 0, pos := "law.go:68", after := #[{ on := 8, ground := Ground.data }, { on := 10, ground := Ground.data }, { on := 5, ground := Ground.guard }], guard := some (5, true) }) (v := ?_) rfl (by kernel_rfl) (by kernel_rfl) (by kernel_rfl) (by rfl) ?_ ?_; rotate_left; focus ((intro W hW; have fct := F.out W hW; go_simp) <;> with_reducible rfl)) | refine grow_skip (i := 11) (oi := { dst := some 84, op := Op.indexAddr 26 (Operand.tmp 81) (Operand.tmp 83), type := 0, pos := "law.go:68", after := #[{ on := 8, ground := Ground.data }, { on := 10, ground := Ground.data }, { on := 5, ground := Ground.guard }], guard := some (5, true) }) rfl (by kernel_rfl) (by kernel_rfl) (by kernel_rfl) (by rfl) ?_ | fail "op 11"
                    simp only [Act.put, List.setIfInBounds_toArray, List.set_cons_zero, List.set_cons_succ]
                    first | (refine grow_take (i := 12) (oi := { dst := some 85, op := Op.fieldAddr 33 (Operand.tmp 84) 0, type := 0, pos := "law.go:68", after := #[{ on := 11, ground := Ground.data }, { on := 5, ground := Ground.guard }], guard := some (5, true) }) (v := ?_) rfl (by kernel_rfl) (by kernel_rfl) (by kernel_rfl) (by rfl) ?_ ?_; rotate_left; focus ((intro W hW; go_simp) <;> with_reducible rfl)) | refine grow_skip (i := 12) (oi := { dst := some 85, op := Op.fieldAddr 33 (Operand.tmp 84) 0, type := 0, pos := "law.go:68", after := #[{ on := 11, ground := Ground.data }, { on := 5, ground := Ground.guard }], guard := some (5, true) }) rfl (by kernel_rfl) (by kernel_rfl) (by kernel_rfl) (by rfl) ?_ | fail "op 12"
                    simp only [Act.put, List.setIfInBounds_toArray, List.set_cons_zero, List.set_cons_succ]
                    first | (refine grow_take (i := 13) (oi := { dst := some 86, op := Op.load 3 (Operand.tmp 85), type := 3, pos := "law.go:68", after := #[{ on := 12, ground := Ground.data }, { on := 5, ground := Ground.guard }], guard := some (5, true) }) (v := ?_) rfl (by kernel_rfl) (by kernel_rfl) (by kernel_rfl) (by rfl) ?_ ?_; rotate_left; focus ((intro W hW; have fct := F.out W hW; go_simp) <;> with_reducible rfl)) | refine grow_skip (i := 13) (oi := { dst := some 86, op := Op.load 3 (Operand.tmp 85), type := 3, pos := "law.go:68", after := #[{ on := 12, ground := Ground.data }, { on := 5, ground := Ground.guard }], guard := some (5, true) }) rfl (by kernel_rfl) (by kernel_rfl) (by kernel_rfl) (by rfl) ?_ | fail "op 13"
                    simp only [Act.put, List.setIfInBounds_toArray, List.set_cons_zero, List.set_cons_succ]
                    first | (refine grow_take (i := 14) (oi := { dst := some 87, op := Op.binOp BinOp.neq 3 (Operand.tmp 80) (Operand.tmp 86) 3, type := 4, pos := "law.go:68", after := #[{ on := 7, ground := Ground.data }, { on := 13, ground := Ground.data }, { on := 5, ground := Ground.guard }], guard := some (5, true) }) (v := ?_) rfl (by kernel_rfl) (by kernel_rfl) (by kernel_rfl) (by rfl) ?_ ?_; rotate_left; focus ((intro W hW; have fct := F.out W hW; go_simp) <;> with_reducible rfl)) | refine grow_skip (i := 14) (oi := { dst := some 87, op := Op.binOp BinOp.neq 3 (Operand.tmp 80) (Operand.tmp 86) 3, type := 4, pos := "law.go:68", after := #[{ on := 7, ground := Ground.data }, { on := 13, ground := Ground.data }, { on := 5, ground := Ground.guard }], guard := some (5, true) }) rfl (by kernel_rfl) (by kernel_rfl) (by kernel_rfl) (by rfl) ?_ | fail "op 14"
                    simp only [Act.put, List.setIfInBounds_toArray, List.set_cons_zero, List.set_cons_succ]
                    first | (refine grow_take (i := 15) (oi := { dst := some 88, op := Op.move (Operand.tmp 87), type := 4, pos := "law.go:68", after := #[{ on := 14, ground := Ground.data }, { on := 5, ground := Ground.chain }, { on := 5, ground := Ground.guard }], guard := some (5, true) }) (v := ?_) rfl (by kernel_rfl) (by kernel_rfl) (by kernel_rfl) (by rfl) ?_ ?_; rotate_left; focus ((intro W hW; go_simp) <;> with_reducible rfl)) | refine grow_skip (i := 15) (oi := { dst := some 88, op := Op.move (Operand.tmp 87), type := 4, pos := "law.go:68", after := #[{ on := 14, ground := Ground.data }, { on := 5, ground := Ground.chain }, { on := 5, ground := Ground.guard }], guard := some (5, true) }) rfl (by kernel_rfl) (by kernel_rfl) (by kernel_rfl) (by rfl) ?_ | fail "op 15"
                    simp only [Act.put, List.setIfInBounds_toArray, List.set_cons_zero, List.set_cons_succ]
                    first | (refine grow_take (i := 16) (oi := { dst := some 89, op := Op.fieldAddr 35 (Operand.tmp 9) 1, type := 0, pos := "law.go:68", after := #[{ on := 15, ground := Ground.guard }], guard := some (15, false) }) (v := ?_) rfl (by kernel_rfl) (by kernel_rfl) (by kernel_rfl) (by rfl) ?_ ?_; rotate_left; focus ((intro W hW; go_simp) <;> with_reducible rfl)) | refine grow_skip (i := 16) (oi := { dst := some 89, op := Op.fieldAddr 35 (Operand.tmp 9) 1, type := 0, pos := "law.go:68", after := #[{ on := 15, ground := Ground.guard }], guard := some (15, false) }) rfl (by kernel_rfl) (by kernel_rfl) (by kernel_rfl) (by rfl) ?_ | fail "op 16"
                    simp only [Act.put, List.setIfInBounds_toArray, List.set_cons_zero, List.set_cons_succ]
                    first | (refine grow_take (i := 17) (oi := { dst := some 90, op := Op.load 27 (Operand.tmp 89), type := 27, pos := "law.go:68", after := #[{ on := 16, ground := Ground.data }, { on := 15, ground := Ground.guard }], guard := some (15, false) }) (v := ?_) rfl (by kernel_rfl) (by kernel_rfl) (by kernel_rfl) (by rfl) ?_ ?_; rotate_left; focus ((intro W hW; have fct := F.out W hW; go_simp) <;> with_reducible rfl)) | refine grow_skip (i := 17) (oi := { dst := some 90, op := Op.load 27 (Operand.tmp 89), type := 27, pos := "law.go:68", after := #[{ on := 16, ground := Ground.data }, { on := 15, ground := Ground.guard }], guard := some (15, false) }) rfl (by kernel_rfl) (by kernel_rfl) (by kernel_rfl) (by rfl) ?_ | fail "op 17"
                    simp only [Act.put, List.setIfInBounds_toArray, List.set_cons_zero, List.set_cons_succ]
                    first | (refine grow_take (i := 18) (oi := { dst := some 91, op := Op.convert 27 9 (Operand.tmp 90), type := 9, pos := "law.go:68", after := #[{ on := 17, ground := Ground.data }, { on := 15, ground := Ground.guard }], guard := some (15, false) }) (v := ?_) rfl (by kernel_rfl) (by kernel_rfl) (by kernel_rfl) (by rfl) ?_ ?_; rotate_left; focus ((intro W hW; have fct := F.out W hW; go_simp) <;> with_reducible rfl)) | refine grow_skip (i := 18) (oi := { dst := some 91, op := Op.convert 27 9 (Operand.tmp 90), type := 9, pos := "law.go:68", after := #[{ on := 17, ground := Ground.data }, { on := 15, ground := Ground.guard }], guard := some (15, false) }) rfl (by kernel_rfl) (by kernel_rfl) (by kernel_rfl) (by rfl) ?_ | fail "op 18"
                    simp only [Act.put, List.setIfInBounds_toArray, List.set_cons_zero, List.set_cons_succ]
                    first | (refine grow_take (i := 19) (oi := { dst := some 92, op := Op.move (Operand.tmp 4), type := 26, pos := "law.go:68", after := #[{ on := 15, ground := Ground.guard }], guard := some (15, false) }) (v := ?_) rfl (by kernel_rfl) (by kernel_rfl) (by kernel_rfl) (by rfl) ?_ ?_; rotate_left; focus ((intro W hW; go_simp) <;> with_reducible rfl)) | refine grow_skip (i := 19) (oi := { dst := some 92, op := Op.move (Operand.tmp 4), type := 26, pos := "law.go:68", after := #[{ on := 15, ground := Ground.guard }], guard := some (15, false) }) rfl (by kernel_rfl) (by kernel_rfl) (by kernel_rfl) (by rfl) ?_ | fail "op 19"
                    simp only [Act.put, List.setIfInBounds_toArray, List.set_cons_zero, List.set_cons_succ]
                    first | (refine grow_take (i := 20) (oi := { dst := some 93, op := Op.fieldAddr 29 (Operand.tmp 6) 3, type := 0, pos := "law.go:68", after := #[{ on := 15, ground := Ground.guard }], guard := some (15, false) }) (v := ?_) rfl (by kernel_rfl) (by kernel_rfl) (by kernel_rfl) (by rfl) ?_ ?_; rotate_left; focus ((intro W hW; go_simp) <;> with_reducible rfl)) | refine grow_skip (i := 20) (oi := { dst := some 93, op := Op.fieldAddr 29 (Operand.tmp 6) 3, type := 0, pos := "law.go:68", after := #[{ on := 15, ground := Ground.guard }], guard := some (15, false) }) rfl (by kernel_rfl) (by kernel_rfl) (by kernel_rfl) (by rfl) ?_ | fail "op 20"
                    simp only [Act.put, List.setIfInBounds_toArray, List.set_cons_zero, List.set_cons_succ]
                    first | (refine grow_take (i := 21) (oi := { dst := some 94, op := Op.load 3 (Operand.tmp 93), type := 3, pos := "law.go:68", after := #[{ on := 20, ground := Ground.data }, { on := 15, ground := Ground.guard }], guard := some (15, false) }) (v := ?_) rfl (by kernel_rfl) (by kernel_rfl) (by kernel_rfl) (by rfl) ?_ ?_; rotate_left; focus ((intro W hW; have fct := F.out W hW; go_simp) <;> with_reducible rfl)) | refine grow_skip (i := 21) (oi := { dst := some 94, op := Op.load 3 (Operand.tmp 93), type := 3, pos := "law.go:68", after := #[{ on := 20, ground := Ground.data }, { on := 15, ground := Ground.guard }], guard := some (15, false) }) rfl (by kernel_rfl) (by kernel_rfl) (by kernel_rfl) (by rfl) ?_ | fail "op 21"
                    simp only [Act.put, List.setIfInBounds_toArray, List.set_cons_zero, List.set_cons_succ]
                    first | (refine grow_take (i := 22) (oi := { dst := some 95, op := Op.indexAddr 26 (Operand.tmp 92) (Operand.tmp 94), type := 0, pos := "law.go:68", after := #[{ on := 19, ground := Ground.data }, { on := 21, ground := Ground.data }, { on := 15, ground := Ground.guard }], guard := some (15, false) }) (v := ?_) rfl (by kernel_rfl) (by kernel_rfl) (by kernel_rfl) (by rfl) ?_ ?_; rotate_left; focus ((intro W hW; have fct := F.out W hW; go_simp) <;> with_reducible rfl)) | refine grow_skip (i := 22) (oi := { dst := some 95, op := Op.indexAddr 26 (Operand.tmp 92) (Operand.tmp 94), type := 0, pos := "law.go:68", after := #[{ on := 19, ground := Ground.data }, { on := 21, ground := Ground.data }, { on := 15, ground := Ground.guard }], guard := some (15, false) }) rfl (by kernel_rfl) (by kernel_rfl) (by kernel_rfl) (by rfl) ?_ | fail "op 22"
                    simp only [Act.put, List.setIfInBounds_toArray, List.set_cons_zero, List.set_cons_succ]
                    first | (refine grow_take (i := 23) (oi := { dst := some 96, op := Op.fieldAddr 33 (Operand.tmp 95) 1, type := 0, pos := "law.go:68", after := #[{ on := 22, ground := Ground.data }, { on := 15, ground := Ground.guard }], guard := some (15, false) }) (v := ?_) rfl (by kernel_rfl) (by kernel_rfl) (by kernel_rfl) (by rfl) ?_ ?_; rotate_left; focus ((intro W hW; go_simp) <;> with_reducible rfl)) | refine grow_skip (i := 23) (oi := { dst := some 96, op := Op.fieldAddr 33 (Operand.tmp 95) 1, type := 0, pos := "law.go:68", after := #[{ on := 22, ground := Ground.data }, { on := 15, ground := Ground.guard }], guard := some (15, false) }) rfl (by kernel_rfl) (by kernel_rfl) (by kernel_rfl) (by rfl) ?_ | fail "op 23"
                    simp only [Act.put, List.setIfInBounds_toArray, List.set_cons_zero, List.set_cons_succ]
                    first | (refine grow_take (i := 24) (oi := { dst := some 97, op := Op.load 9 (Operand.tmp 96), type := 9, pos := "law.go:68", after := #[{ on := 23, ground := Ground.data }, { on := 15, ground := Ground.guard }], guard := some (15, false) }) (v := ?_) rfl (by kernel_rfl) (by kernel_rfl) (by kernel_rfl) (by rfl) ?_ ?_; rotate_left; focus ((intro W hW; have fct := F.out W hW; go_simp) <;> with_reducible rfl)) | refine grow_skip (i := 24) (oi := { dst := some 97, op := Op.load 9 (Operand.tmp 96), type := 9, pos := "law.go:68", after := #[{ on := 23, ground := Ground.data }, { on := 15, ground := Ground.guard }], guard := some (15, false) }) rfl (by kernel_rfl) (by kernel_rfl) (by kernel_rfl) (by rfl) ?_ | fail "op 24"
                    simp only [Act.put, List.setIfInBounds_toArray, List.set_cons_zero, List.set_cons_succ]
                    first | (refine grow_take (i := 25) (oi := { dst := some 98, op := Op.binOp BinOp.neq 9 (Operand.tmp 91) (Operand.tmp 97) 9, type := 4, pos := "law.go:68", after := #[{ on := 18, ground := Ground.data }, { on := 24, ground := Ground.data }, { on := 15, ground := Ground.guard }], guard := some (15, false) }) (v := ?_) rfl (by kernel_rfl) (by kernel_rfl) (by kernel_rfl) (by rfl) ?_ ?_; rotate_left; focus ((intro W hW; have fct := F.out W hW; go_simp) <;> with_reducible rfl)) | refine grow_skip (i := 25) (oi := { dst := some 98, op := Op.binOp BinOp.neq 9 (Operand.tmp 91) (Operand.tmp 97) 9, type := 4, pos := "law.go:68", after := #[{ on := 18, ground := Ground.data }, { on := 24, ground := Ground.data }, { on := 15, ground := Ground.guard }], guard := some (15, false) }) rfl (by kernel_rfl) (by kernel_rfl) (by kernel_rfl) (by rfl) ?_ | fail "op 25"
                    simp only [Act.put, List.setIfInBounds_toArray, List.set_cons_zero, List.set_cons_succ]
                    first | (refine grow_take (i := 26) (oi := { dst := some 99, op := Op.pick (Operand.tmp 88) (Operand.const (Value.bool true)) (Operand.tmp 98), type := 4, pos := "law.go:68", after := #[{ on := 15, ground := Ground.data }, { on := 25, ground := Ground.data }, { on := 5, ground := Ground.guard }], guard := some (5, true) }) (v := ?_) rfl (by kernel_rfl) (by kernel_rfl) (by kernel_rfl) (by rfl) ?_ ?_; rotate_left; focus ((intro W hW; go_simp) <;> with_reducible rfl)) | refine grow_skip (i := 26) (oi := { dst := some 99, op := Op.pick (Operand.tmp 88) (Operand.const (Value.bool true)) (Operand.tmp 98), type := 4, pos := "law.go:68", after := #[{ on := 15, ground := Ground.data }, { on := 25, ground := Ground.data }, { on := 5, ground := Ground.guard }], guard := some (5, true) }) rfl (by kernel_rfl) (by kernel_rfl) (by kernel_rfl) (by rfl) ?_ | fail "op 26"
                    simp only [Act.put, List.setIfInBounds_toArray, List.set_cons_zero, List.set_cons_succ]
                    first | (refine grow_take (i := 27) (oi := { dst := some 100, op := Op.pick (Operand.tmp 78) (Operand.tmp 99) (Operand.const (Value.bool false)), type := 4, pos := "law.go:68", after := #[{ on := 5, ground := Ground.data }, { on := 26, ground := Ground.data }, { on := 3, ground := Ground.guard }], guard := some (3, false) }) (v := ?_) rfl (by kernel_rfl) (by kernel_rfl) (by kernel_rfl) (by rfl) ?_ ?_; rotate_left; focus ((intro W hW; go_simp) <;> with_reducible rfl)) | refine grow_skip (i := 27) (oi := { dst := some 100, op := Op.pick (Operand.tmp 78) (Operand.tmp 99) (Operand.const (Value.bool false)), type := 4, pos := "law.go:68", after := #[{ on := 5, ground := Ground.data }, { on := 26, ground := Ground.data }, { on := 3, ground := Ground.guard }], guard := some (3, false) }) rfl (by kernel_rfl) (by kernel_rfl) (by kernel_rfl) (by rfl) ?_ | fail "op 27"
                    simp only [Act.put, List.setIfInBounds_toArray, List.set_cons_zero, List.set_cons_succ]
                    refine grow_take (i := 28) (oi := { dst := some 101, op := Op.pick (Operand.tmp 76) (Operand.const (Value.bool true)) (Operand.tmp 100), type := 4, pos := "law.go:68", after := #[{ on := 3, ground := Ground.data }, { on := 27, ground := Ground.data }], guard := none }) (v := ?_) rfl (by kernel_rfl) (by kernel_rfl) (by kernel_rfl) (by rfl) ?_ ?_; rotate_left; focus ((intro W hW; go_simp) <;> with_reducible rfl)
                    simp only [Act.put, List.setIfInBounds_toArray, List.set_cons_zero, List.set_cons_succ]
                    refine grow_done (by kernel_rfl) ?_ _
                    go_wp2_with fail
                    go_meet
                    exact ⟨v, fs, HZ.out.1, HZ.out.2, by omega, HB.out.2.2.2.1⟩
                · as_aux_lemma =>
                    have hq0 : ((kind.toNat : Int) % 4 == 0) = false := by simp; omega
                    have hq1 : ((kind.toNat : Int) % 4 == 1) = false := by simp; omega
                    have hq2 : ((kind.toNat : Int) % 4 == 2) = true := by simpa using hq
                    have C := Lib.hid (double_none _ _ _ _ _ HB.out.1.at_ I hout)
                    go_wp2_with fail
                    refine C.out.mono ?_
                    rintro e w4 ⟨rfl, rfl⟩
                    go_wp2_with fail
                    go_meet
                    exact ⟨v, fs, HB.out.1, HB.out.2.1, by omega, HB.out.2.2.2.1⟩
                · as_aux_lemma =>
                    have hq0 : ((kind.toNat : Int) % 4 == 0) = false := by simp; omega
                    have hq1 : ((kind.toNat : Int) % 4 == 1) = false := by simp; omega
                    have hq2 : ((kind.toNat : Int) % 4 == 2) = false := by simp; omega
                    have hq3 : ((kind.toNat : Int) % 4 == 3) = true := by simpa using hq
                    have C := Lib.hid (turn_none w3.drew b b v fs (HB.out.1.at_.new (Chg.refl (fun _ => False) w3).drew) I hout (.int .i64 at_) (.int .u8 (y.toNat : Int)))
                    have HZ := Lib.hid (show St w w3.drew b v fs ∧ RowP w3.drew b (.slice Ar fs.length cr) fs from ⟨HB.out.1.news (Chg.refl (fun _ => False) w3).drew, own_chg HB.out.2.1 (Chg.refl (fun _ => False) w3).drew fun _ _ => id⟩)
                    have hd3 : w3.drew.cell? ⟨gx, 3, none⟩ = some (.int .i64 I) := hc3
                    have hd4 : w3.drew.cell? ⟨gx, 4, none⟩ = some (.int .i64 at_) := hc4
                    have hd5 : w3.drew.cell? ⟨gx, 5, none⟩ = some (.int .u8 (y.toNat : Int)) := hc5
                    have F := Lib.hid (fun W (_ : New w3.drew W) => True.intro)
                    go_wp2_with fail
                    refine grow_start (fun _ => False) (by kernel_rfl) ?_
                    refine grow_take (i := 0) (oi := { dst := some 134, op := Op.move (Operand.tmp 7), type := 4, pos := "law.go:82", after := #[], guard := none }) (v := ?_) rfl (by kernel_rfl) (by kernel_rfl) (by kernel_rfl) (by rfl) ?_ ?_; rotate_left; focus ((intro W hW; go_simp) <;> with_reducible rfl)
                    simp only [Act.put, List.setIfInBounds_toArray, List.set_cons_zero, List.set_cons_succ]
                    refine grow_take (i := 1) (oi := { dst := some 135, op := Op.move (Operand.tmp 134), type := 4, pos := "law.go:82", after := #[{ on := 0, ground := Ground.data }], guard := none }) (v := ?_) rfl (by kernel_rfl) (by kernel_rfl) (by kernel_rfl) (by rfl) ?_ ?_; rotate_left; focus ((intro W hW; go_simp) <;> with_reducible rfl)
                    simp only [Act.put, List.setIfInBounds_toArray, List.set_cons_zero, List.set_cons_succ]
                    first | (refine grow_take (i := 2) (oi := { dst := some 136, op := Op.fieldAddr 29 (Operand.tmp 6) 4, type := 0, pos := "law.go:82", after := #[{ on := 1, ground := Ground.guard }], guard := some (1, true) }) (v := ?_) rfl (by kernel_rfl) (by kernel_rfl) (by kernel_rfl) (by rfl) ?_ ?_; rotate_left; focus ((intro W hW; go_simp) <;> with_reducible rfl)) | refine grow_skip (i := 2) (oi := { dst := some 136, op := Op.fieldAddr 29 (Operand.tmp 6) 4, type := 0, pos := "law.go:82", after := #[{ on := 1, ground := Ground.guard }], guard := some (1, true) }) rfl (by kernel_rfl) (by kernel_rfl) (by kernel_rfl) (by rfl) ?_ | fail "op 2"
                    simp only [Act.put, List.setIfInBounds_toArray, List.set_cons_zero, List.set_cons_succ]
                    first | (refine grow_take (i := 3) (oi := { dst := some 137, op := Op.load 3 (Operand.tmp 136), type := 3, pos := "law.go:82", after := #[{ on := 2, ground := Ground.data }, { on := 1, ground := Ground.guard }], guard := some (1, true) }) (v := ?_) rfl (by kernel_rfl) (by kernel_rfl) (by kernel_rfl) (by rfl) ?_ ?_; rotate_left; focus ((intro W hW; have fct := F.out W hW; go_simp) <;> with_reducible rfl)) | refine grow_skip (i := 3) (oi := { dst := some 137, op := Op.load 3 (Operand.tmp 136), type := 3, pos := "law.go:82", after := #[{ on := 2, ground := Ground.data }, { on := 1, ground := Ground.guard }], guard := some (1, true) }) rfl (by kernel_rfl) (by kernel_rfl) (by kernel_rfl) (by rfl) ?_ | fail "op 3"
                    simp only [Act.put, List.setIfInBounds_toArray, List.set_cons_zero, List.set_cons_succ]
                    first | (refine grow_take (i := 4) (oi := { dst := some 138, op := Op.binOp BinOp.lss 3 (Operand.tmp 137) (Operand.const (Value.int IntKind.i64 0)) 3, type := 4, pos := "law.go:82", after := #[{ on := 3, ground := Ground.data }, { on := 1, ground := Ground.guard }], guard := some (1, true) }) (v := ?_) rfl (by kernel_rfl) (by kernel_rfl) (by kernel_rfl) (by rfl) ?_ ?_; rotate_left; focus ((intro W hW; have fct := F.out W hW; go_simp) <;> with_reducible rfl)) | refine grow_skip (i := 4) (oi := { dst := some 138, op := Op.binOp BinOp.lss 3 (Operand.tmp 137) (Operand.const (Value.int IntKind.i64 0)) 3, type := 4, pos := "law.go:82", after := #[{ on := 3, ground := Ground.data }, { on := 1, ground := Ground.guard }], guard := some (1, true) }) rfl (by kernel_rfl) (by kernel_rfl) (by kernel_rfl) (by rfl) ?_ | fail "op 4"
                    simp only [Act.put, List.setIfInBounds_toArray, List.set_cons_zero, List.set_cons_succ]
                    first | (refine grow_take (i := 5) (oi := { dst := some 139, op := Op.move (Operand.tmp 138), type := 4, pos := "law.go:82", after := #[{ on := 4, ground := Ground.data }, { on := 1, ground := Ground.chain }, { on := 1, ground := Ground.guard }], guard := some (1, true) }) (v := ?_) rfl (by kernel_rfl) (by kernel_rfl) (by kernel_rfl) (by rfl) ?_ ?_; rotate_left; focus ((intro W hW; go_simp) <;> with_reducible rfl)) | refine grow_skip (i := 5) (oi := { dst := some 139, op := Op.move (Operand.tmp 138), type := 4, pos := "law.go:82", after := #[{ on := 4, ground := Ground.data }, { on := 1, ground := Ground.chain }, { on := 1, ground := Ground.guard }], guard := some (1, true) }) rfl (by kernel_rfl) (by kernel_rfl) (by kernel_rfl) (by rfl) ?_ | fail "op 5"
                    simp only [Act.put, List.setIfInBounds_toArray, List.set_cons_zero, List.set_cons_succ]
                    first | (refine grow_take (i := 6) (oi := { dst := some 140, op := Op.fieldAddr 29 (Operand.tmp 6) 4, type := 0, pos := "law.go:82", after := #[{ on := 5, ground := Ground.guard }], guard := some (5, false) }) (v := ?_) rfl (by kernel_rfl) (by kernel_rfl) (by kernel_rfl) (by rfl) ?_ ?_; rotate_left; focus ((intro W hW; go_simp) <;> with_reducible rfl)) | refine grow_skip (i := 6) (oi := { dst := some 140, op := Op.fieldAddr 29 (Operand.tmp 6) 4, type := 0, pos := "law.go:82", after := #[{ on := 5, ground := Ground.guard }], guard := some (5, false) }) rfl (by kernel_rfl) (by kernel_rfl) (by kernel_rfl) (by rfl) ?_ | fail "op 6"
                    simp only [Act.put, List.setIfInBounds_toArray, List.set_cons_zero, List.set_cons_succ]
                    first | (refine grow_take (i := 7) (oi := { dst := some 141, op := Op.load 3 (Operand.tmp 140), type := 3, pos := "law.go:82", after := #[{ on := 6, ground := Ground.data }, { on := 5, ground := Ground.guard }], guard := some (5, false) }) (v := ?_) rfl (by kernel_rfl) (by kernel_rfl) (by kernel_rfl) (by rfl) ?_ ?_; rotate_left; focus ((intro W hW; have fct := F.out W hW; go_simp) <;> with_reducible rfl)) | refine grow_skip (i := 7) (oi := { dst := some 141, op := Op.load 3 (Operand.tmp 140), type := 3, pos := "law.go:82", after := #[{ on := 6, ground := Ground.data }, { on := 5, ground := Ground.guard }], guard := some (5, false) }) rfl (by kernel_rfl) (by kernel_rfl) (by kernel_rfl) (by rfl) ?_ | fail "op 7"
                    simp only [Act.put, List.setIfInBounds_toArray, List.set_cons_zero, List.set_cons_succ]
                    first | (refine grow_take (i := 8) (oi := { dst := some 142, op := Op.move (Operand.tmp 4), type := 26, pos := "law.go:82", after := #[{ on := 5, ground := Ground.guard }], guard := some (5, false) }) (v := ?_) rfl (by kernel_rfl) (by kernel_rfl) (by kernel_rfl) (by rfl) ?_ ?_; rotate_left; focus ((intro W hW; go_simp) <;> with_reducible rfl)) | refine grow_skip (i := 8) (oi := { dst := some 142, op := Op.move (Operand.tmp 4), type := 26, pos := "law.go:82", after := #[{ on := 5, ground := Ground.guard }], guard := some (5, false) }) rfl (by kernel_rfl) (by kernel_rfl) (by kernel_rfl) (by rfl) ?_ | fail "op 8"
                    simp only [Act.put, List.setIfInBounds_toArray, List.set_cons_zero, List.set_cons_succ]
                    first | (refine grow_take (i := 9) (oi := { dst := some 143, op := Op.fieldAddr 29 (Operand.tmp 6) 3, type := 0, pos := "law.go:82", after := #[{ on := 5, ground := Ground.guard }], guard := some (5, false) }) (v := ?_) rfl (by kernel_rfl) (by kernel_rfl) (by kernel_rfl) (by rfl) ?_ ?_; rotate_left; focus ((intro W hW; go_simp) <;> with_reducible rfl)) | refine grow_skip (i := 9) (oi := { dst := some 143, op := Op.fieldAddr 29 (Operand.tmp 6) 3, type := 0, pos := "law.go:82", after := #[{ on := 5, ground := Ground.guard }], guard := some (5, false) }) rfl (by kernel_rfl) (by kernel_rfl) (by kernel_rfl) (by rfl) ?_ | fail "op 9"
                    simp only [Act.put, List.setIfInBounds_toArray, List.set_cons_zero, List.set_cons_succ]
                    first | (refine grow_take (i := 10) (oi := { dst := some 144, op := Op.load 3 (Operand.tmp 143), type := 3, pos := "law.go:82", after := #[{ on := 9, ground := Ground.data }, { on := 5, ground := Ground.guard }], guard := some (5, false) }) (v := ?_) rfl (by kernel_rfl) (by kernel_rfl) (by kernel_rfl) (by rfl) ?_ ?_; rotate_left; focus ((intro W hW; have fct := F.out W hW; go_simp) <;> with_reducible rfl)) | refine grow_skip (i := 10) (oi := { dst := some 144, op := Op.load 3 (Operand.tmp 143), type := 3, pos := "law.go:82", after := #[{ on := 9, ground := Ground.data }, { on := 5, ground := Ground.guard }], guard := some (5, false) }) rfl (by kernel_rfl) (by kernel_rfl) (by kernel_rfl) (by rfl) ?_ | fail "op 10"
                    simp only [Act.put, List.setIfInBounds_toArray, List.set_cons_zero, List.set_cons_succ]
                    first | (refine grow_take (i := 11) (oi := { dst := some 145, op := Op.indexAddr 26 (Operand.tmp 142) (Operand.tmp 144), type := 0, pos := "law.go:82", after := #[{ on := 8, ground := Ground.data }, { on := 10, ground := Ground.data }, { on := 5, ground := Ground.guard }], guard := some (5, false) }) (v := ?_) rfl (by kernel_rfl) (by kernel_rfl) (by kernel_rfl) (by rfl) ?_ ?_; rotate_left; focus ((intro W hW; have fct := F.out W hW; go_simp) <;> with_reducible rfl)) | refine grow_skip (i := 11) (oi := { dst := some 145, op := Op.indexAddr 26 (Operand.tmp 142) (Operand.tmp 144), type := 0, pos := "law.go:82", after := #[{ on := 8, ground := Ground.data }, { on := 10, ground := Ground.data }, { on := 5, ground := Ground.guard }], guard := some (5, false) }) rfl (by kernel_rfl) (by kernel_rfl) (by kernel_rfl) (by rfl) ?_ | fail "op 11"
                    simp only [Act.put, List.setIfInBounds_toArray, List.set_cons_zero, List.set_cons_succ]
                    first | (refine grow_take (i := 12) (oi := { dst := some 146, op := Op.fieldAddr 33 (Operand.tmp 145) 1, type := 0, pos := "law.go:82", after := #[{ on := 11, ground := Ground.data }, { on := 5, ground := Ground.guard }], guard := some (5, false) }) (v := ?_) rfl (by kernel_rfl) (by kernel_rfl) (by kernel_rfl) (by rfl) ?_ ?_; rotate_left; focus ((intro W hW; go_simp) <;> with_reducible rfl)) | refine grow_skip (i := 12) (oi := { dst := some 146, op := Op.fieldAddr 33 (Operand.tmp 145) 1, type := 0, pos := "law.go:82", after := #[{ on := 11, ground := Ground.data }, { on := 5, ground := Ground.guard }], guard := some (5, false) }) rfl (by kernel_rfl) (by kernel_rfl) (by kernel_rfl) (by rfl) ?_ | fail "op 12"
                    simp only [Act.put, List.setIfInBounds_toArray, List.set_cons_zero, List.set_cons_succ]
                    first | (refine grow_take (i := 13) (oi := { dst := some 147, op := Op.load 9 (Operand.tmp 146), type := 9, pos := "law.go:82", after := #[{ on := 12, ground := Ground.data }, { on := 5, ground := Ground.guard }], guard := some (5, false) }) (v := ?_) rfl (by kernel_rfl) (by kernel_rfl) (by kernel_rfl) (by rfl) ?_ ?_; rotate_left; focus ((intro W hW; have fct := F.out W hW; go_simp) <;> with_reducible rfl)) | refine grow_skip (i := 13) (oi := { dst := some 147, op := Op.load 9 (Operand.tmp 146), type := 9, pos := "law.go:82", after := #[{ on := 12, ground := Ground.data }, { on := 5, ground := Ground.guard }], guard := some (5, false) }) rfl (by kernel_rfl) (by kernel_rfl) (by kernel_rfl) (by rfl) ?_ | fail "op 13"
                    simp only [Act.put, List.setIfInBounds_toArray, List.set_cons_zero, List.set_cons_succ]
                    first | (refine grow_take (i := 14) (oi := { dst := some 148, op := Op.call { callee := Callee.builtin Builtin.len, args := #[Operand.tmp 147], argTypes := #[9] }, type := 3, pos := "law.go:82", after := #[{ on := 13, ground := Ground.data }, { on := 5, ground := Ground.guard }], guard := some (5, false) }) (v := ?_) rfl (by kernel_rfl) (by kernel_rfl) (by kernel_rfl) (by rfl) ?_ ?_; rotate_left; focus ((intro W hW; have fct := F.out W hW; go_simp) <;> with_reducible rfl)) | refine grow_skip (i := 14) (oi := { dst := some 148, op := Op.call { callee := Callee.builtin Builtin.len, args := #[Operand.tmp 147], argTypes := #[9] }, type := 3, pos := "law.go:82", after := #[{ on := 13, ground := Ground.data }, { on := 5, ground := Ground.guard }], guard := some (5, false) }) rfl (by kernel_rfl) (by kernel_rfl) (by kernel_rfl) (by rfl) ?_ | fail "op 14"
                    simp only [Act.put, List.setIfInBounds_toArray, List.set_cons_zero, List.set_cons_succ]
                    first | (refine grow_take (i := 15) (oi := { dst := some 149, op := Op.binOp BinOp.geq 3 (Operand.tmp 141) (Operand.tmp 148) 3, type := 4, pos := "law.go:82", after := #[{ on := 7, ground := Ground.data }, { on := 14, ground := Ground.data }, { on := 5, ground := Ground.guard }], guard := some (5, false) }) (v := ?_) rfl (by kernel_rfl) (by kernel_rfl) (by kernel_rfl) (by rfl) ?_ ?_; rotate_left; focus ((intro W hW; have fct := F.out W hW; go_simp) <;> with_reducible rfl)) | refine grow_skip (i := 15) (oi := { dst := some 149, op := Op.binOp BinOp.geq 3 (Operand.tmp 141) (Operand.tmp 148) 3, type := 4, pos := "law.go:82", after := #[{ on := 7, ground := Ground.data }, { on := 14, ground := Ground.data }, { on := 5, ground := Ground.guard }], guard := some (5, false) }) rfl (by kernel_rfl) (by kernel_rfl) (by kernel_rfl) (by rfl) ?_ | fail "op 15"
                    simp only [Act.put, List.setIfInBounds_toArray, List.set_cons_zero, List.set_cons_succ]
                    first | (refine grow_take (i := 16) (oi := { dst := some 150, op := Op.pick (Operand.tmp 139) (Operand.const (Value.bool true)) (Operand.tmp 149), type := 4, pos := "law.go:82", after := #[{ on := 5, ground := Ground.data }, { on := 15, ground := Ground.data }, { on := 1, ground := Ground.guard }], guard := some (1, true) }) (v := ?_) rfl (by kernel_rfl) (by kernel_rfl) (by kernel_rfl) (by rfl) ?_ ?_; rotate_left; focus ((intro W hW; go_simp) <;> with_reducible rfl)) | refine grow_skip (i := 16) (oi := { dst := some 150, op := Op.pick (Operand.tmp 139) (Operand.const (Value.bool true)) (Operand.tmp 149), type := 4, pos := "law.go:82", after := #[{ on := 5, ground := Ground.data }, { on := 15, ground := Ground.data }, { on := 1, ground := Ground.guard }], guard := some (1, true) }) rfl (by kernel_rfl) (by kernel_rfl) (by kernel_rfl) (by rfl) ?_ | fail "op 16"
                    simp only [Act.put, List.setIfInBounds_toArray, List.set_cons_zero, List.set_cons_succ]
                    refine grow_take (i := 17) (oi := { dst := some 151, op := Op.pick (Operand.tmp 135) (Operand.tmp 150) (Operand.const (Value.bool false)), type := 4, pos := "law.go:82", after := #[{ on := 1, ground := Ground.data }, { on := 16, ground := Ground.data }], guard := none }) (v := ?_) rfl (by kernel_rfl) (by kernel_rfl) (by kernel_rfl) (by rfl) ?_ ?_; rotate_left; focus ((intro W hW; go_simp) <;> with_reducible rfl)
                    simp only [Act.put, List.setIfInBounds_toArray, List.set_cons_zero, List.set_cons_succ]
                    refine grow_done (by kernel_rfl) ?_ _
                    go_wp2_with fail
                    refine C.out.mono ?_
                    rintro e w4 ⟨rfl, rfl⟩
                    go_wp2_with fail
                    go_meet
                    exact ⟨v, fs, HZ.out.1, HZ.out.2, by omega, HB.out.2.2.2.1⟩
              case rest =>
                as_aux_lemma =>
                  clear hc0 hc1 hc2 hc3 hc4 hc5 HB hld
                  obtain ⟨v, fs, hs, hrow, hfl, h200⟩ := hcut
                  obtain ⟨Ar, cr, hr⟩ := own_form hrow
                  subst hr
                  have C := Lib.hid (all_ _ _ _ _ _ hs.at_ (fun f hf => by have := h200 f hf; omega) (by omega))
                  have K := Lib.hid (fun W (hW : New wc W) => len _ _ _ _ _ (hs.news hW).at_)
                  have HS := Lib.hid (And.intro hs (And.intro hrow (And.intro hfl h200)))
                  obtain ⟨N, hN⟩ : ∃ N, fs.length = N := ⟨_, rfl⟩
                  rw [hN] at K
                  have hNb : N ≤ 101 := by omega
                  have HN := Lib.hid hN
                  clear hs hrow hfl h200 hN
                  go_wp2_with fail
                  refine C.out.mono ?_
                  rintro e w4 ⟨u4, rfl, p4, n4⟩
                  obtain ⟨A4, c4, hu4⟩ := p4.form
                  rw [show (told fs).length = N by simp [told, HN.out]] at hu4
                  subst hu4
                  rw [HN.out]
                  have KK := Lib.hid (K.out w4 n4)
                  have P4 := Lib.hid (And.intro p4 n4)
                  clear p4 n4 C K
                  go_wp2_with fail
                  refine KK.out.mono ?_
                  rintro e w5 ⟨rfl, rfl⟩
                  go_wp2_with fail
                  go_loopw [2, 13, 14, 217] (fun _ _ _ i wr => ∃ (q : Nat), q ≤ N ∧ i = .int .i64 q ∧ New w4 wr) (fun _ _ _ i _ => N - (intOf i).toNat)
                  case atStart => exact ⟨0, by omega, rfl, Chg.refl _ _⟩
                  case round =>
                    obtain ⟨q, hq, rfl, hnw⟩ := hrel
                    by_cases hlq : q < N
                    · obtain ⟨f, hf⟩ : ∃ f, fs[q]? = some f := ⟨_, List.getElem?_eq_getElem (by rw [HN.out]; exact hlq)⟩
                      obtain ⟨g4, c4', u4, hv4, ⟨Au, cu, rfl⟩, hall⟩ := P4.out.1.at_ (i := q) (p := (f.to_, f.b)) (by unfold told; rw [List.getElem?_map, hf]; rfl)
                      injection hv4 with hv1 hv2 hv3
                      subst hv1 hv3
                      clear hv2
                      obtain ⟨_, _, hld4, _⟩ := hall wr hnw
                      obtain ⟨gr, cr', hvr, _, _⟩ := World.ownsRow.form HS.out.2.1 (by rw [HN.out]; omega)
                      injection hvr with hv1 hv2 hv3
                      subst hv1 hv3
                      clear hv2
                      obtain ⟨e0, e1, _⟩ := plain_get hf
                      have x0 := World.ownsRow.cellAt HS.out.2.1 (q * 3) (by rw [HN.out]; omega)
                      have x1 := World.ownsRow.cellAt HS.out.2.1 (q * 3 + 1) (by rw [HN.out]; omega)
                      rw [e0] at x0
                      rw [e1] at x1
                      have hbx := Blk.new wr 35 #[.int .i64 f.to_, .slice Au f.b.length cu]
                      have m6 := (Chg.refl (fun _ => False) wr).alloc (.cells #[.int .i64 f.to_, .slice Au f.b.length cu] 35)
                      have F := Lib.hid (fun W (hW : New (wr.alloc (.cells #[.int .i64 f.to_, .slice Au f.b.length cu] 35)).drew W) => by
                        have hW1 := (Chg.refl (fun _ => False) (wr.alloc (.cells #[.int .i64 f.to_, .slice Au f.b.length cu] 35))).drew.trans hW fun _ _ => id
                        have hW4 := hnw.trans (m6.trans hW1 fun _ _ => id) fun _ _ => id
                        have hWc := P4.out.2.trans hW4 fun _ _ => id
                        have hb := hbx.chg hW1 id
                        obtain ⟨_, _, _, hs⟩ := hall W hW4
                        exact (show (W.cell? ⟨wr.heap.size, 0, none⟩ = some (.int .i64 f.to_) ∧ W.cell? ⟨wr.heap.size, 1, none⟩ = some (.slice Au f.b.length cu)) ∧ (convert 27 9 (.slice Au f.b.length cu)).run Try.prog W = .ok (.string ⟨f.b.toArray⟩) W ∧
                            W.cell? ⟨gr, q * 3, none⟩ = some (.int .i64 f.to_) ∧ W.cell? ⟨gr, q * 3 + 1, none⟩ = some (.string ⟨f.b.toArray⟩) from
                          ⟨⟨hb.cell 0, hb.cell 1⟩, hs, (hWc.cell (p := ⟨gr, _, none⟩) (block_lt_of_cell x0) id).trans x0, (hWc.cell (p := ⟨gr, _, none⟩) (block_lt_of_cell x1) id).trans x1⟩))
                      have M6 := Lib.hid (hnw.trans m6 fun _ _ => id)
                      have hlp : (q : Int) < N := by omega
                      clear hall e0 e1 x0 x1 hbx m6 hf
                      generalize f.b.length = L at *
                      go_wp2_with fail
                      refine grow_start (fun _ => False) (by kernel_rfl) ?_
                      refine grow_take (i := 0) (oi := { dst := some 222, op := Op.fieldAddr 35 (Operand.tmp 14) 0, type := 0, pos := "law.go:101", after := #[], guard := none }) (v := ?_) rfl (by kernel_rfl) (by kernel_rfl) (by kernel_rfl) (by rfl) ?_ ?_; rotate_left; focus ((intro W hW; go_simp) <;> with_reducible rfl)
                      simp only [Act.put, List.setIfInBounds_toArray, List.set_cons_zero, List.set_cons_succ]
                      refine grow_take (i := 1) (oi := { dst := some 223, op := Op.load 3 (Operand.tmp 222), type := 3, pos := "law.go:101", after := #[{ on := 0, ground := Ground.data }], guard := none }) (v := ?_) rfl (by kernel_rfl) (by kernel_rfl) (by kernel_rfl) (by rfl) ?_ ?_; rotate_left; focus ((intro W hW; have fct := F.out W hW; go_simp) <;> with_reducible rfl)
                      simp only [Act.put, List.setIfInBounds_toArray, List.set_cons_zero, List.set_cons_succ]
                      refine grow_take (i := 2) (oi := { dst := some 224, op := Op.move (Operand.tmp 4), type := 26, pos := "law.go:101", after := #[], guard := none }) (v := ?_) rfl (by kernel_rfl) (by kernel_rfl) (by kernel_rfl) (by rfl) ?_ ?_; rotate_left; focus ((intro W hW; go_simp) <;> with_reducible rfl)
                      simp only [Act.put, List.setIfInBounds_toArray, List.set_cons_zero, List.set_cons_succ]
                      refine grow_take (i := 3) (oi := { dst := some 225, op := Op.move (Operand.tmp 13), type := 3, pos := "law.go:101", after := #[], guard := none }) (v := ?_) rfl (by kernel_rfl) (by kernel_rfl) (by kernel_rfl) (by rfl) ?_ ?_; rotate_left; focus ((intro W hW; go_simp) <;> with_reducible rfl)
                      simp only [Act.put, List.setIfInBounds_toArray, List.set_cons_zero, List.set_cons_succ]
                      refine grow_take (i := 4) (oi := { dst := some 226, op := Op.indexAddr 26 (Operand.tmp 224) (Operand.tmp 225), type := 0, pos := "law.go:101", after := #[{ on := 2, ground := Ground.data }, { on := 3, ground := Ground.data }], guard := none }) (v := ?_) rfl (by kernel_rfl) (by kernel_rfl) (by kernel_rfl) (by rfl) ?_ ?_; rotate_left; focus ((intro W hW; have fct := F.out W hW; go_simp) <;> with_reducible rfl)
                      simp only [Act.put, List.setIfInBounds_toArray, List.set_cons_zero, List.set_cons_succ]
                      refine grow_take (i := 5) (oi := { dst := some 227, op := Op.fieldAddr 33 (Operand.tmp 226) 0, type := 0, pos := "law.go:101", after := #[{ on := 4, ground := Ground.data }], guard := none }) (v := ?_) rfl (by kernel_rfl) (by kernel_rfl) (by kernel_rfl) (by rfl) ?_ ?_; rotate_left; focus ((intro W hW; go_simp) <;> with_reducible rfl)
                      simp only [Act.put, List.setIfInBounds_toArray, List.set_cons_zero, List.set_cons_succ]
                      refine grow_take (i := 6) (oi := { dst := some 228, op := Op.load 3 (Operand.tmp 227), type := 3, pos := "law.go:101", after := #[{ on := 5, ground := Ground.data }], guard := none }) (v := ?_) rfl (by kernel_rfl) (by kernel_rfl) (by kernel_rfl) (by rfl) ?_ ?_; rotate_left; focus ((intro W hW; have fct := F.out W hW; go_simp) <;> with_reducible rfl)
                      simp only [Act.put, List.setIfInBounds_toArray, List.set_cons_zero, List.set_cons_succ]
                      refine grow_take (i := 7) (oi := { dst := some 229, op := Op.binOp BinOp.neq 3 (Operand.tmp 223) (Operand.tmp 228) 3, type := 4, pos := "law.go:101", after := #[{ on := 1, ground := Ground.data }, { on := 6, ground := Ground.data }], guard := none }) (v := ?_) rfl (by kernel_rfl) (by kernel_rfl) (by kernel_rfl) (by rfl) ?_ ?_; rotate_left; focus ((intro W hW; have fct := F.out W hW; go_simp) <;> with_reducible rfl)
                      simp only [Act.put, List.setIfInBounds_toArray, List.set_cons_zero, List.set_cons_succ]
                      refine grow_take (i := 8) (oi := { dst := some 230, op := Op.move (Operand.tmp 229), type := 4, pos := "law.go:101", after := #[{ on := 7, ground := Ground.data }], guard := none }) (v := ?_) rfl (by kernel_rfl) (by kernel_rfl) (by kernel_rfl) (by rfl) ?_ ?_; rotate_left; focus ((intro W hW; go_simp) <;> with_reducible rfl)
                      simp only [Act.put, List.setIfInBounds_toArray, List.set_cons_zero, List.set_cons_succ]
                      first | (refine grow_take (i := 9) (oi := { dst := some 231, op := Op.fieldAddr 35 (Operand.tmp 14) 1, type := 0, pos := "law.go:101", after := #[{ on := 8, ground := Ground.guard }], guard := some (8, false) }) (v := ?_) rfl (by kernel_rfl) (by kernel_rfl) (by kernel_rfl) (by rfl) ?_ ?_; rotate_left; focus ((intro W hW; go_simp) <;> with_reducible rfl)) | refine grow_skip (i := 9) (oi := { dst := some 231, op := Op.fieldAddr 35 (Operand.tmp 14) 1, type := 0, pos := "law.go:101", after := #[{ on := 8, ground := Ground.guard }], guard := some (8, false) }) rfl (by kernel_rfl) (by kernel_rfl) (by kernel_rfl) (by rfl) ?_ | fail "op 9"
                      simp only [Act.put, List.setIfInBounds_toArray, List.set_cons_zero, List.set_cons_succ]
                      first | (refine grow_take (i := 10) (oi := { dst := some 232, op := Op.load 27 (Operand.tmp 231), type := 27, pos := "law.go:101", after := #[{ on := 9, ground := Ground.data }, { on := 8, ground := Ground.guard }], guard := some (8, false) }) (v := ?_) rfl (by kernel_rfl) (by kernel_rfl) (by kernel_rfl) (by rfl) ?_ ?_; rotate_left; focus ((intro W hW; have fct := F.out W hW; go_simp) <;> with_reducible rfl)) | refine grow_skip (i := 10) (oi := { dst := some 232, op := Op.load 27 (Operand.tmp 231), type := 27, pos := "law.go:101", after := #[{ on := 9, ground := Ground.data }, { on := 8, ground := Ground.guard }], guard := some (8, false) }) rfl (by kernel_rfl) (by kernel_rfl) (by kernel_rfl) (by rfl) ?_ | fail "op 10"
                      simp only [Act.put, List.setIfInBounds_toArray, List.set_cons_zero, List.set_cons_succ]
                      first | (refine grow_take (i := 11) (oi := { dst := some 233, op := Op.convert 27 9 (Operand.tmp 232), type := 9, pos := "law.go:101", after := #[{ on := 10, ground := Ground.data }, { on := 8, ground := Ground.guard }], guard := some (8, false) }) (v := ?_) rfl (by kernel_rfl) (by kernel_rfl) (by kernel_rfl) (by rfl) ?_ ?_; rotate_left; focus ((intro W hW; have fct := F.out W hW; go_simp) <;> with_reducible rfl)) | refine grow_skip (i := 11) (oi := { dst := some 233, op := Op.convert 27 9 (Operand.tmp 232), type := 9, pos := "law.go:101", after := #[{ on := 10, ground := Ground.data }, { on := 8, ground := Ground.guard }], guard := some (8, false) }) rfl (by kernel_rfl) (by kernel_rfl) (by kernel_rfl) (by rfl) ?_ | fail "op 11"
                      simp only [Act.put, List.setIfInBounds_toArray, List.set_cons_zero, List.set_cons_succ]
                      first | (refine grow_take (i := 12) (oi := { dst := some 234, op := Op.move (Operand.tmp 4), type := 26, pos := "law.go:101", after := #[{ on := 8, ground := Ground.guard }], guard := some (8, false) }) (v := ?_) rfl (by kernel_rfl) (by kernel_rfl) (by kernel_rfl) (by rfl) ?_ ?_; rotate_left; focus ((intro W hW; go_simp) <;> with_reducible rfl)) | refine grow_skip (i := 12) (oi := { dst := some 234, op := Op.move (Operand.tmp 4), type := 26, pos := "law.go:101", after := #[{ on := 8, ground := Ground.guard }], guard := some (8, false) }) rfl (by kernel_rfl) (by kernel_rfl) (by kernel_rfl) (by rfl) ?_ | fail "op 12"
                      simp only [Act.put, List.setIfInBounds_toArray, List.set_cons_zero, List.set_cons_succ]
                      first | (refine grow_take (i := 13) (oi := { dst := some 235, op := Op.move (Operand.tmp 13), type := 3, pos := "law.go:101", after := #[{ on := 8, ground := Ground.guard }], guard := some (8, false) }) (v := ?_) rfl (by kernel_rfl) (by kernel_rfl) (by kernel_rfl) (by rfl) ?_ ?_; rotate_left; focus ((intro W hW; go_simp) <;> with_reducible rfl)) | refine grow_skip (i := 13) (oi := { dst := some 235, op := Op.move (Operand.tmp 13), type := 3, pos := "law.go:101", after := #[{ on := 8, ground := Ground.guard }], guard := some (8, false) }) rfl (by kernel_rfl) (by kernel_rfl) (by kernel_rfl) (by rfl) ?_ | fail "op 13"
                      simp only [Act.put, List.setIfInBounds_toArray, List.set_cons_zero, List.set_cons_succ]
                      first | (refine grow_take (i := 14) (oi := { dst := some 236, op := Op.indexAddr 26 (Operand.tmp 234) (Operand.tmp 235), type := 0, pos := "law.go:101", after := #[{ on := 12, ground := Ground.data }, { on := 13, ground := Ground.data }, { on := 8, ground := Ground.guard }], guard := some (8, false) }) (v := ?_) rfl (by kernel_rfl) (by kernel_rfl) (by kernel_rfl) (by rfl) ?_ ?_; rotate_left; focus ((intro W hW; have fct := F.out W hW; go_simp) <;> with_reducible rfl)) | refine grow_skip (i := 14) (oi := { dst := some 236, op := Op.indexAddr 26 (Operand.tmp 234) (Operand.tmp 235), type := 0, pos := "law.go:101", after := #[{ on := 12, ground := Ground.data }, { on := 13, ground := Ground.data }, { on := 8, ground := Ground.guard }], guard := some (8, false) }) rfl (by kernel_rfl) (by kernel_rfl) (by kernel_rfl) (by rfl) ?_ | fail "op 14"
                      simp only [Act.put, List.setIfInBounds_toArray, List.set_cons_zero, List.set_cons_succ]
                      first | (refine grow_take (i := 15) (oi := { dst := some 237, op := Op.fieldAddr 33 (Operand.tmp 236) 1, type := 0, pos := "law.go:101", after := #[{ on := 14, ground := Ground.data }, { on := 8, ground := Ground.guard }], guard := some (8, false) }) (v := ?_) rfl (by kernel_rfl) (by kernel_rfl) (by kernel_rfl) (by rfl) ?_ ?_; rotate_left; focus ((intro W hW; go_simp) <;> with_reducible rfl)) | refine grow_skip (i := 15) (oi := { dst := some 237, op := Op.fieldAddr 33 (Operand.tmp 236) 1, type := 0, pos := "law.go:101", after := #[{ on := 14, ground := Ground.data }, { on := 8, ground := Ground.guard }], guard := some (8, false) }) rfl (by kernel_rfl) (by kernel_rfl) (by kernel_rfl) (by rfl) ?_ | fail "op 15"
                      simp only [Act.put, List.setIfInBounds_toArray, List.set_cons_zero, List.set_cons_succ]
                      first | (refine grow_take (i := 16) (oi := { dst := some 238, op := Op.load 9 (Operand.tmp 237), type := 9, pos := "law.go:101", after := #[{ on := 15, ground := Ground.data }, { on := 8, ground := Ground.guard }], guard := some (8, false) }) (v := ?_) rfl (by kernel_rfl) (by kernel_rfl) (by kernel_rfl) (by rfl) ?_ ?_; rotate_left; focus ((intro W hW; have fct := F.out W hW; go_simp) <;> with_reducible rfl)) | refine grow_skip (i := 16) (oi := { dst := some 238, op := Op.load 9 (Operand.tmp 237), type := 9, pos := "law.go:101", after := #[{ on := 15, ground := Ground.data }, { on := 8, ground := Ground.guard }], guard := some (8, false) }) rfl (by kernel_rfl) (by kernel_rfl) (by kernel_rfl) (by rfl) ?_ | fail "op 16"
                      simp only [Act.put, List.setIfInBounds_toArray, List.set_cons_zero, List.set_cons_succ]
                      first | (refine grow_take (i := 17) (oi := { dst := some 239, op := Op.binOp BinOp.neq 9 (Operand.tmp 233) (Operand.tmp 238) 9, type := 4, pos := "law.go:101", after := #[{ on := 11, ground := Ground.data }, { on := 16, ground := Ground.data }, { on := 8, ground := Ground.guard }], guard := some (8, false) }) (v := ?_) rfl (by kernel_rfl) (by kernel_rfl) (by kernel_rfl) (by rfl) ?_ ?_; rotate_left; focus ((intro W hW; have fct := F.out W hW; go_simp) <;> with_reducible rfl)) | refine grow_skip (i := 17) (oi := { dst := some 239, op := Op.binOp BinOp.neq 9 (Operand.tmp 233) (Operand.tmp 238) 9, type := 4, pos := "law.go:101", after := #[{ on := 11, ground := Ground.data }, { on := 16, ground := Ground.data }, { on := 8, ground := Ground.guard }], guard := some (8, false) }) rfl (by kernel_rfl) (by kernel_rfl) (by kernel_rfl) (by rfl) ?_ | fail "op 17"
                      simp only [Act.put, List.setIfInBounds_toArray, List.set_cons_zero, List.set_cons_succ]
                      refine grow_take (i := 18) (oi := { dst := some 240, op := Op.pick (Operand.tmp 230) (Operand.const (Value.bool true)) (Operand.tmp 239), type := 4, pos := "law.go:101", after := #[{ on := 8, ground := Ground.data }, { on := 17, ground := Ground.data }], guard := none }) (v := ?_) rfl (by kernel_rfl) (by kernel_rfl) (by kernel_rfl) (by rfl) ?_ ?_; rotate_left; focus ((intro W hW; go_simp) <;> with_reducible rfl)
                      simp only [Act.put, List.setIfInBounds_toArray, List.set_cons_zero, List.set_cons_succ]
                      refine grow_done (by kernel_rfl) ?_ _
                      go_wp2
                      go_roundw
                      case rel => exact ⟨q + 1, by omega, by go_num, M6.out.drew⟩
                      case measure => simp [intOf]; omega
                    · have hn5 := P4.out.2.trans hnw fun _ _ => id
                      have HZ := Lib.hid (And.intro (HS.out.1.news hn5) (And.intro (own_chg HS.out.2.1 hn5 fun _ _ => id) HS.out.2.2))
                      clear hn5
                      go_wp2_with fail
                      go_roundw
                      case rel => exact ⟨k + 1, by omega, by go_num, v, fs, HZ.out.1, HN.out ▸ HZ.out.2.1, HZ.out.2.2.1, HZ.out.2.2.2⟩
                      case measure => simp [intOf]; omega
      · obtain rfl : k = n := by omega
        have HNW := Lib.hid hs.new
        clear hs hrow h200
        go_wp2_with fail
        go_ret
        exact ⟨rfl, HNW.out⟩
theorem plays_args {H : Type} {enc : TypeId × Value → H} {W : World} {base : Nat} {args : Array Value} {ds : List (DataW H)} {ps : List MemPlace}
    (hval : ∀ (j : Nat) t v, Try.f3.params[j]? = some t → args[j]? = some v → Value.okWide Try.prog W .any base t v)
    (hw : ∀ (j : Nat) t d, Try.f3.params.toList[j]? = some t → ds[j]? = some d → ∀ n ∈ d.weights Try.prog t, n ≤ reachBytes)
    (hA : DataW.TrodAll enc Try.prog W 0 (fun _ => true) true Try.f3.params.toList args.toList ds ps) :
    Calls Try.prog 3 args W fun e w' => LawEnd W e w' := by
  rw [Try.params3] at hA hval hw
  obtain ⟨v0, d0, rfl, rfl, h0⟩ := trodAll_one hA
  have o0 := hval 0 _ v0 rfl rfl
  have q0 := hw 0 _ d0 rfl rfl
  obtain ⟨A, n, c, rfl, hn, ha⟩ := open_acts (cells_slice Try.underlying22 o0) q0 h0
  exact plays W A n c hn ha
end Net

namespace lawNetPlays
theorem own : ownKnob Try.prog.godebug = none := by kernel_rfl
theorem laidOut : laidOutB Try.prog = true := by kernel_rfl
theorem reads : ∀ t ∈ Try.f3.params.toList, Try.prog.readableRec t = true ∧ t < Try.prog.types.size := by
  have h : (Try.f3.params.toList.all fun t => Try.prog.readableRec t && decide (t < Try.prog.types.size)) = true := by kernel_rfl
  intro t ht
  have := List.all_eq_true.1 h t ht
  simpa using this
theorem spec {H : Type} (ds : List (DataW H)) (h : ds.length = 1) : Rows.netPlaysSpec.fn H ds = { results := [.lit (.bool true)], args := ds } := by
  match ds, h with
  | [d1], _ => rfl
theorem trodAll_len {H : Type} {enc : TypeId × Value → H} {P : Program} {w : World} {base : Nat} {sp : Nat → Bool} {held : Bool} : ∀ (ts : List TypeId) (vs : List Value) (ds : List (DataW H)) (ps : List MemPlace),
    DataW.TrodAll enc P w base sp held ts vs ds ps → ds.length = ts.length
  | [], _, _, _, h => by
    obtain ⟨_, rfl, _⟩ := trodAll_nil h
    rfl
  | _ :: ts, _, _, _, h => by
    obtain ⟨_, vs, _, ds, _, _, _, rfl, _, _, hr⟩ := trodAll_cons h
    simp [trodAll_len ts vs ds _ hr]
theorem contract (H : Type) (enc : TypeId × Value → H) (W : World) (base : Nat) (args : Array Value) (ds gs : List (DataW H)) (before : List MemPlace)
    (hval : ∀ (j : Nat) t v, Try.f3.params[j]? = some t → args[j]? = some v → Value.okWide Try.prog W .any base t v)
    (hW : DataW.Whole enc Try.prog Try.f3.params.toList Rows.netPlaysSpec.vars false W args.toList ds gs before)
    (hz : (DataW.weightsEach Try.prog (Try.f3.params.toList ++ Rows.netPlaysSpec.plain.varTypes Try.prog) (ds ++ gs)).all (· ≤ reachBytes) = true) :
    Calls Try.prog 3 args W fun e W' => ∃ v, e = .returned v ∧ Rows.netPlaysSpec.post enc Try.prog Try.f3 false true false false W args v W' := by
  obtain ⟨p, q, hA, hV, _⟩ := id hW
  have hlen : ds.length = 1 := (trodAll_len _ _ _ _ hA).trans (by kernel_rfl)
  have hV1 : DataW.TrodVars enc Try.prog W (fun _ => true) [] gs q := hV
  obtain ⟨rfl, rfl⟩ := trodVars_none hV1
  have hw : ∀ (j : Nat) t d, Try.f3.params.toList[j]? = some t → ds[j]? = some d → ∀ n ∈ d.weights Try.prog t, n ≤ reachBytes := by
    intro j t d ht hd n hn
    rw [List.append_nil] at hz
    have hlt : j < Try.f3.params.toList.length := (List.getElem?_eq_some_iff.1 ht).1
    have := List.all_eq_true.1 hz n (DataW.weights_mem_each (by rw [List.getElem?_append_left hlt]; exact ht) hd n hn)
    simpa using this
  refine (Net.plays_args hval hw hA).mono fun e W' ⟨he, hn⟩ => ?_
  exact ⟨_, he, law_post laidOut (tb := 4) rfl Try.underlying4 reads rfl hW (spec ds hlen) hn.below⟩
set_option maxRecDepth 100000 in
theorem lifted (os : Os) (started : os.Started) (H : Type) (enc : TypeId × Value → H) :
    ReturnsInHanded {} Try.checked os 3 .any (Rows.netPlaysSpec.pre6 enc Try.prog Try.f3 Rows.netPlaysRow.domain false) (Rows.netPlaysSpec.post enc Try.prog Try.f3 false true false false) := by
  refine returnsInHanded_of_change_sized (C := Try.checked) own started (by kernel_rfl) Try.func3
    (ChangeSpec.witness6 (enc := enc) (C := Try.checked) (s := Rows.netPlaysSpec) false ⟨#[], #[.slice none 0 0], []⟩ 60 (by kernel_rfl) (by kernel_rfl) (by kernel_rfl) (by kernel_rfl)) ?_
  intro W base args ds gs before hval hW _ hz _
  exact contract H enc W base args ds gs before hval hW hz
theorem proved : Rows.NetPlaysSaid :=
  OpenClaim.holds_of_wide 3 Try.f3 rfl rfl rfl rfl rfl rfl rfl ⟨rfl, rfl, rfl, rfl, rfl⟩ rfl rfl rfl rfl rfl (by kernel_rfl) Try.func3 (by kernel_rfl)
    (of_decide_eq_true (by kernel_rfl)) (by unfold Func.isWrapper; first | (rw [if_pos (by decide +kernel)]; kernel_rfl) | (rw [if_neg (by decide +kernel)]; exact ⟨rfl, rfl⟩))
    (fun os started H enc _ => lifted os started H enc)
end lawNetPlays
end Go.Proofs.Ytbagiehocgaoiaa

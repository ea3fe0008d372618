/-
  hedgerowlaw11.JournalTwice returns true for every input: recovered once more, a journal is as it was (no condition).
-/
import Derived.Test.YthgpphedpegbgaaJournalLaw
namespace Go.Proofs.Ythgpphedpegbgaa
open Go.ChangeShapes Go.WideShapes Go.RowKit Go.Deep
namespace Journal
open Go.Proofs.Ythgpphedpegbgaa.Frame (Part Parts PartsL Part.chg Part.new)
open Go.Proofs.Ythgpphedpegbgaa.Disk (Dsk At Post Foot ptr)
attribute [local go_sem ↓] loadOnly0
theorem few_of {rs : List Rec} (h : (catR rs).length ≤ 1000) : few rs := by
  have key : ∀ rs : List Rec, rs.length ≤ (catR rs).length ∧ ∀ r ∈ rs, r.2.length ≤ (catR rs).length := by
    intro rs
    induction rs with
    | nil => exact ⟨Nat.le_refl _, fun r hr => by cases hr⟩
    | cons r rs ih =>
      have e : (catR (r :: rs)).length = (r.2.length + 9) + (catR rs).length := by
        rw [show r :: rs = [r] ++ rs from rfl, catR_append, List.length_append, catR_one, Frame.frameL_length]
        simp
      refine ⟨by rw [e, List.length_cons]; omega, fun q hq => ?_⟩
      rcases List.mem_cons.1 hq with h | h
      · rw [e, h]; omega
      · have := ih.2 q h
        omega
  obtain ⟨h1, h2⟩ := key rs
  exact ⟨by omega, fun r hr => by have := h2 r hr; omega⟩
/-- element i of records, read: its kind, its bytes as a string -/
theorem RecsR.at_ {w : World} {A : Option Addr} {n c : Nat} {rs : List Rec} (h : RecsR w (.slice A n c) rs) {i : Nat} {r : Rec} (hi : rs[i]? = some r) : ∃ ad u, A = some ad ∧ ∀ W, New w W → W.cell? (ad.add (i * 2)) = some (.int .u8 (r.1.toNat : Int)) ∧
    W.cell? (ad.add (i * 2 + 1)) = some u ∧ (convert 36 9 u).run Try.prog W = .ok (.string ⟨r.2.toArray⟩) W := by
  obtain ⟨A', c', hv, _, hr⟩ := h.ex
  injection hv with h1 h2 h3
  subst h1
  obtain ⟨ad, A3, c3, rfl, _, hall⟩ := hr i r hi
  refine ⟨ad, .slice A3 r.2.length c3, rfl, fun W hW => ?_⟩
  obtain ⟨_, a1, a2, a3⟩ := hall W hW
  exact ⟨a1, a2, run_str Try.underlying36 Try.underlying5 Try.underlying9 a3 c3⟩
set_option maxHeartbeats 20000000 in
set_option maxRecDepth 100000 in
theorem twice (w : World) (A B : Option Addr) (n c m q : Nat) (l k : List UInt8) (hl : Reads w (fun b => b < w.heap.size) 1 A n (u8s l)) (hk : Reads w (fun b => b < w.heap.size) 1 B m (u8s k)) (hn : n ≤ 140737488351232) (hm : m ≤ 140737488351232) :
    Calls Try.prog 5 #[.slice A n c, .slice B m q] w fun e w' => LawEnd w e w' := by
  by_cases hbig : 500 < (n : Int) + m
  · clear hl hk
    go_enter Try.func5, Try.ntmps5
    go_wp2_with fail
    refine (fixed _).mono ?_
    rintro e w1 ⟨rfl, n1⟩
    go_wp2
    go_ret
    exact ⟨rfl, n1⟩
  · have hll := hl.u8len
    have hkl := hk.u8len
    have HL := Lib.hid hl
    have HK := Lib.hid hk
    have HLL := Lib.hid (And.intro hll hkl)
    clear hl hk hll hkl
    go_enter Try.func5, Try.ntmps5
    go_wp2_with fail
    refine (fixed _).mono ?_
    rintro e w1 ⟨rfl, n1⟩
    go_wp2_with fail
    refine (Disk.new_ _).mono ?_
    rintro e w2 ⟨rfl, h2, n2⟩
    have hs1 := n1.size
    have n12 := n1.trans n2 fun _ _ => id
    have C := Disk.reset _ _ _ _ _ h2 A n c l _ (HL.out.chg' n12 (fun _ _ => id) (by omega)) (by omega)
    rw [show Disk.resetE n = 0 by unfold Disk.resetE; rw [if_neg (by omega)], show Disk.resetF Disk.fresh l = ⟨l, n⟩ by unfold Disk.resetF; rw [HLL.out.1, if_neg (by omega)]] at C
    have C := Lib.hid C
    have H2 := Lib.hid h2
    have N12 := Lib.hid n12
    clear h2 n1 n2 n12
    generalize w1.heap.size = b at *
    go_wp2_with fail
    refine C.out.mono ?_
    rintro e w3 ⟨rfl, v3, h3, c3, _⟩
    have n3 : New w w3 := N12.out.trans c3 fun k hk e => by
      rcases e with e | e
      · omega
      · cases e
    have C := Disk.write _ _ _ _ _ h3 B m q k _ (HK.out.chg' n3 (fun _ _ => id) (by omega)) (by omega)
    rw [show Disk.writeF ⟨l, n⟩ k = ⟨l ++ k, n⟩ by unfold Disk.writeF; simp only; rw [HLL.out.1, HLL.out.2, if_neg (by omega)], show Disk.writeE ⟨l, n⟩ m = 0 by unfold Disk.writeE; simp only; rw [HLL.out.1, if_neg (by omega)]] at C
    have C := Lib.hid C
    have H3 := Lib.hid h3
    have N3 := Lib.hid n3
    clear h3 c3 n3
    go_wp2_with fail
    refine C.out.mono ?_
    rintro e w4 ⟨rfl, v4, h4, c4, _⟩
    have up4 := fun g (hg : v4.ownBlock = some g) => (own_lt h4.own hg).1
    have hv3 := fun g (hg : v3.ownBlock = some g) => (own_lt H3.out.own hg).1
    have n4 : New w w4 := N3.out.trans c4 fun k hk e => by
      rcases e with e | e
      · omega
      · have := hv3 k e; omega
    have hb4 := h4.blk.lt
    obtain ⟨⟨rs, en, er⟩, hR⟩ : ∃ R, readF (l ++ k) = R := ⟨_, rfl⟩
    have hagain := read_again (l ++ k)
    obtain ⟨hri, hel, _⟩ := read_inv (l ++ k)
    rw [hR] at hagain hri hel
    simp only at hagain hri hel
    have hlen : (l ++ k).length = n + m := by rw [List.length_append, HLL.out.1, HLL.out.2]
    rw [hlen] at hel
    have hen : (catR rs).length = en := by rw [← hri, List.length_take, hlen]; omega
    have hfew : few rs := few_of (by omega)
    clear C c4
    by_cases hbad : er ≠ 0 ∧ en < n
    · have C := recover_bad _ _ _ _ _ h4 (by show (readF (l ++ k)).2.2 ≠ 0; rw [hR]; exact hbad.1) (by show (readF (l ++ k)).2.1 < n; rw [hR]; exact hbad.2)
      simp only [hR] at C
      have C := Lib.hid C
      have heb : (er != 0) = true := by simpa using hbad.1
      have N4 := Lib.hid n4
      clear h4 n4 hR hri hagain hlen hen hfew
      go_wp2_with fail
      refine C.out.mono ?_
      rintro e w5 ⟨rfl, n5⟩
      have N5 := Lib.hid (N4.out.trans n5 fun _ _ => id)
      clear n5
      go_wp2
      go_ret
      exact ⟨rfl, N5.out⟩
    · have C := recover2 _ _ _ _ _ h4 hb4 (by show (readF (l ++ k)).2.2 = 0 ∨ n ≤ (readF (l ++ k)).2.1; rw [hR]; show er = 0 ∨ n ≤ en; omega)
      simp only [hR] at C
      rw [hri] at C hagain
      have C := Lib.hid C
      have hv4 := fun g (hg : v4.ownBlock = some g) => (own_lt h4.own hg).2
      have N4 := Lib.hid n4
      have H4 := Lib.hid (And.intro up4 hv4)
      have HAG := Lib.hid hagain
      have HEN := Lib.hid hen
      clear h4 n4 hR hri hagain hlen up4 hv4 hv3 hbad
      go_wp2_with fail
      refine C.out.mono ?_
      rintro e w5 ⟨u, wA, rfl, nA, rA, v5, t5, c5, f5⟩
      have sA := nA.size
      have n5 : New w w5 := (N4.out.trans nA fun _ _ => id).trans c5 fun k hk e => by
        rcases e with e | e
        · omega
        · have := H4.out.1 k e; omega
      have hb5 := t5.blk.lt
      have g5 : Chg (fun k => k < w4.heap.size ∨ wA.heap.size ≤ k) wA w5 := c5.mono fun k _ e => .inl (by
        rcases e with e | e
        · omega
        · exact H4.out.2 k e)
      obtain ⟨Au, cu, hu, _, _⟩ := rA.toR.ex
      subst hu
      have C := Disk.bytes _ _ _ _ _ t5
      have C := Lib.hid C
      have T5 := Lib.hid (And.intro t5 f5)
      have G5 := Lib.hid (And.intro n5 g5)
      have RA := Lib.hid rA
      clear nA rA t5 c5 f5 n5 g5
      obtain ⟨nr, hnr⟩ : ∃ nr, rs.length = nr := ⟨_, rfl⟩
      have HNR := Lib.hid hnr
      have hnrb : nr ≤ 1000 := by
        have := hfew.1
        omega
      rw [hnr] at RA
      go_wp2_with fail
      refine C.out.mono ?_
      rintro e w6 ⟨x6, rfl, o6, n6⟩
      obtain ⟨A6, c6, rfl, _, _, _, _⟩ := OwnB.form o6
      have t6 := T5.out.1.new n6
      have C := recover2 _ _ _ _ _ t6 t6.blk.lt (.inl (by show (readF (catR rs)).2.2 = 0; rw [HAG.out]))
      simp only [HAG.out] at C
      rw [show (catR rs).take en = catR rs from List.take_of_length_le (Nat.le_of_eq HEN.out)] at C
      have C := Lib.hid C
      rw [show (Dsk.mk (catR rs) en).b.length = en from HEN.out]
      have N6 := Lib.hid (And.intro n6 t6)
      clear o6 n6 t6
      go_wp2_with fail
      refine C.out.mono ?_
      rintro e w7 ⟨u2, wB, rfl, nB, rB, v7, t7, c7, f7⟩
      have g7 : Chg (fun k => k < w4.heap.size ∨ wA.heap.size ≤ k) wA w7 := ((G5.out.2.trans N6.out.1 fun _ _ => False.elim).trans nB fun _ _ => False.elim).trans c7 fun k _ e => by
        rcases e with e | e
        · exact .inl (by omega)
        · rcases T5.out.2 k e with h | h
          · exact .inl (H4.out.2 k h)
          · exact .inr h
      have n7 : New w w7 := ((G5.out.1.trans N6.out.1 fun _ _ => id).trans nB fun _ _ => id).trans c7 fun k hk e => by
        rcases e with e | e
        · omega
        · have := (own_lt N6.out.2.own e).1; omega
      have rA7 := RA.out.chg g7 fun k hk => hk
      have rB7 : Recs w7 w6.heap.size u2 rs := rB.chg c7 fun k e => .inl (by
        rcases e with e | e
        · have := N6.out.1.size; omega
        · exact (own_lt N6.out.2.own e).2)
      obtain ⟨Au2, cu2, hu2, _, _⟩ := rB7.toR.ex
      rw [HNR.out] at hu2
      subst hu2
      have C := Lib.hid (Disk.bytes _ _ _ _ _ t7)
      have T7 := Lib.hid t7
      have N7 := Lib.hid (And.intro n7 (And.intro rA7 rB7))
      clear nB rB t7 c7 f7 g7 n7 rA7 rB7
      go_wp2_with fail
      refine C.out.mono ?_
      rintro e w8 ⟨x8, rfl, o8, n8⟩
      obtain ⟨A8, c8, rfl, _, _, _, _⟩ := OwnB.form o8
      rw [show (Dsk.mk (catR rs) en).b.length = en from HEN.out]
      have C := Lib.hid (Disk.synced _ _ _ _ _ (T7.out.new n8))
      have N8 := Lib.hid n8
      clear o8 n8
      go_wp2_with fail
      refine C.out.mono ?_
      rintro e w9 ⟨rfl, rfl⟩
      have C := Lib.hid (size _ _ _ ((N7.out.2.1.new N8.out).toR) hfew)
      rw [HEN.out] at C
      go_wp2_with fail
      refine C.out.mono ?_
      rintro e w10 ⟨rfl, n10⟩
      have nn := (N7.out.1.trans N8.out fun _ _ => id).trans n10 fun _ _ => id
      have R1 := Lib.hid ((N7.out.2.1.new N8.out).new n10).toR
      have R2 := Lib.hid ((N7.out.2.2.new N8.out).new n10).toR
      have NN := Lib.hid nn
      clear n10 nn
      go_wp2_with fail
      go_loopw [4, 11, 75] (fun _ _ i wr => ∃ (j : Nat), j ≤ nr ∧ i = .int .i64 j ∧ New w10 wr) (fun _ _ i _ => nr - (intOf i).toNat)
      case atStart => exact ⟨0, by omega, rfl, Chg.refl _ _⟩
      case round =>
        obtain ⟨j, hj, rfl, hnw⟩ := hrel
        by_cases hlt : j < nr
        · obtain ⟨r, hr⟩ : ∃ r, rs[j]? = some r := ⟨_, List.getElem?_eq_getElem (by rw [HNR.out]; exact hlt)⟩
          obtain ⟨a1, u1, rfl, f1⟩ := R1.out.at_ hr
          obtain ⟨a2, u2, rfl, f2⟩ := R2.out.at_ hr
          obtain ⟨kind, data⟩ := r
          simp only at f1 f2
          obtain ⟨X1, hX1⟩ : ∃ X, a1.add (j * 2) = X := ⟨_, rfl⟩
          obtain ⟨X2, hX2⟩ : ∃ X, a2.add (j * 2) = X := ⟨_, rfl⟩
          have f1 : ∀ W, New w10 W → W.cell? X1 = some (.int .u8 (kind.toNat : Int)) ∧ W.cell? ⟨X1.block, X1.off + 1, none⟩ = some u1 ∧ (convert 36 9 u1).run Try.prog W = .ok (.string ⟨data.toArray⟩) W := fun W hW => by
            obtain ⟨b1, b2, b3⟩ := f1 W hW
            rw [hX1] at b1
            rw [← add_of_add, hX1] at b2
            exact ⟨b1, b2, b3⟩
          have f2 : ∀ W, New w10 W → W.cell? X2 = some (.int .u8 (kind.toNat : Int)) ∧ W.cell? ⟨X2.block, X2.off + 1, none⟩ = some u2 ∧ (convert 36 9 u2).run Try.prog W = .ok (.string ⟨data.toArray⟩) W := fun W hW => by
            obtain ⟨b1, b2, b3⟩ := f2 W hW
            rw [hX2] at b1
            rw [← add_of_add, hX2] at b2
            exact ⟨b1, b2, b3⟩
          have F := Lib.hid (fun W (hW : New wr.drew W) => And.intro (And.intro hX1 hX2) <| And.intro (f1 W ((hnw.drew).trans hW fun _ _ => id)) (f2 W ((hnw.drew).trans hW fun _ _ => id)))
          have hltp : (j : Int) < nr := by omega
          clear f1 f2 hr hX1 hX2
          go_wp2
          refine grow_start (fun _ => False) (by kernel_rfl) ?_
          refine grow_take (i := 0) (oi := { dst := some 78, op := Op.move (Operand.tmp 6), type := 22, pos := "law.go:184", after := #[], guard := none }) (v := ?_) rfl (by kernel_rfl) (by kernel_rfl) (by kernel_rfl) (by rfl) ?_ ?_; rotate_left; focus ((intro W hW; go_simp) <;> with_reducible rfl)
          simp only [Act.put, List.setIfInBounds_toArray, List.set_cons_zero, List.set_cons_succ]
          refine grow_take (i := 1) (oi := { dst := some 79, op := Op.move (Operand.tmp 11), type := 3, pos := "law.go:184", after := #[], guard := none }) (v := ?_) rfl (by kernel_rfl) (by kernel_rfl) (by kernel_rfl) (by rfl) ?_ ?_; rotate_left; focus ((intro W hW; go_simp) <;> with_reducible rfl)
          simp only [Act.put, List.setIfInBounds_toArray, List.set_cons_zero, List.set_cons_succ]
          refine grow_take (i := 2) (oi := { dst := some 80, op := Op.indexAddr 22 (Operand.tmp 78) (Operand.tmp 79), type := 0, pos := "law.go:184", after := #[{ on := 0, ground := Ground.data }, { on := 1, ground := Ground.data }], guard := none }) (v := ?_) rfl (by kernel_rfl) (by kernel_rfl) (by kernel_rfl) (by rfl) ?_ ?_; rotate_left; focus ((intro W hW; have fct := F.out W hW; go_simp) <;> with_reducible rfl)
          simp only [Act.put, List.setIfInBounds_toArray, List.set_cons_zero, List.set_cons_succ]
          refine grow_take (i := 3) (oi := { dst := some 81, op := Op.fieldAddr 39 (Operand.tmp 80) 0, type := 0, pos := "law.go:184", after := #[{ on := 2, ground := Ground.data }], guard := none }) (v := ?_) rfl (by kernel_rfl) (by kernel_rfl) (by kernel_rfl) (by rfl) ?_ ?_; rotate_left; focus ((intro W hW; go_simp) <;> with_reducible rfl)
          simp only [Act.put, List.setIfInBounds_toArray, List.set_cons_zero, List.set_cons_succ]
          refine grow_take (i := 4) (oi := { dst := some 82, op := Op.load 5 (Operand.tmp 81), type := 5, pos := "law.go:184", after := #[{ on := 3, ground := Ground.data }], guard := none }) (v := ?_) rfl (by kernel_rfl) (by kernel_rfl) (by kernel_rfl) (by rfl) ?_ ?_; rotate_left; focus ((intro W hW; have fct := F.out W hW; go_simp) <;> with_reducible rfl)
          simp only [Act.put, List.setIfInBounds_toArray, List.set_cons_zero, List.set_cons_succ]
          refine grow_take (i := 5) (oi := { dst := some 83, op := Op.move (Operand.tmp 9), type := 22, pos := "law.go:184", after := #[], guard := none }) (v := ?_) rfl (by kernel_rfl) (by kernel_rfl) (by kernel_rfl) (by rfl) ?_ ?_; rotate_left; focus ((intro W hW; go_simp) <;> with_reducible rfl)
          simp only [Act.put, List.setIfInBounds_toArray, List.set_cons_zero, List.set_cons_succ]
          refine grow_take (i := 6) (oi := { dst := some 84, op := Op.move (Operand.tmp 11), type := 3, pos := "law.go:184", after := #[], guard := none }) (v := ?_) rfl (by kernel_rfl) (by kernel_rfl) (by kernel_rfl) (by rfl) ?_ ?_; rotate_left; focus ((intro W hW; go_simp) <;> with_reducible rfl)
          simp only [Act.put, List.setIfInBounds_toArray, List.set_cons_zero, List.set_cons_succ]
          refine grow_take (i := 7) (oi := { dst := some 85, op := Op.indexAddr 22 (Operand.tmp 83) (Operand.tmp 84), type := 0, pos := "law.go:184", after := #[{ on := 5, ground := Ground.data }, { on := 6, ground := Ground.data }], guard := none }) (v := ?_) rfl (by kernel_rfl) (by kernel_rfl) (by kernel_rfl) (by rfl) ?_ ?_; rotate_left; focus ((intro W hW; have fct := F.out W hW; go_simp) <;> with_reducible rfl)
          simp only [Act.put, List.setIfInBounds_toArray, List.set_cons_zero, List.set_cons_succ]
          refine grow_take (i := 8) (oi := { dst := some 86, op := Op.fieldAddr 39 (Operand.tmp 85) 0, type := 0, pos := "law.go:184", after := #[{ on := 7, ground := Ground.data }], guard := none }) (v := ?_) rfl (by kernel_rfl) (by kernel_rfl) (by kernel_rfl) (by rfl) ?_ ?_; rotate_left; focus ((intro W hW; go_simp) <;> with_reducible rfl)
          simp only [Act.put, List.setIfInBounds_toArray, List.set_cons_zero, List.set_cons_succ]
          refine grow_take (i := 9) (oi := { dst := some 87, op := Op.load 5 (Operand.tmp 86), type := 5, pos := "law.go:184", after := #[{ on := 8, ground := Ground.data }], guard := none }) (v := ?_) rfl (by kernel_rfl) (by kernel_rfl) (by kernel_rfl) (by rfl) ?_ ?_; rotate_left; focus ((intro W hW; have fct := F.out W hW; go_simp) <;> with_reducible rfl)
          simp only [Act.put, List.setIfInBounds_toArray, List.set_cons_zero, List.set_cons_succ]
          refine grow_take (i := 10) (oi := { dst := some 88, op := Op.binOp BinOp.neq 5 (Operand.tmp 82) (Operand.tmp 87) 5, type := 4, pos := "law.go:184", after := #[{ on := 4, ground := Ground.data }, { on := 9, ground := Ground.data }], guard := none }) (v := ?_) rfl (by kernel_rfl) (by kernel_rfl) (by kernel_rfl) (by rfl) ?_ ?_; rotate_left; focus ((intro W hW; have fct := F.out W hW; go_simp) <;> with_reducible rfl)
          simp only [Act.put, List.setIfInBounds_toArray, List.set_cons_zero, List.set_cons_succ]
          refine grow_take (i := 11) (oi := { dst := some 89, op := Op.move (Operand.tmp 88), type := 4, pos := "law.go:184", after := #[{ on := 10, ground := Ground.data }], guard := none }) (v := ?_) rfl (by kernel_rfl) (by kernel_rfl) (by kernel_rfl) (by rfl) ?_ ?_; rotate_left; focus ((intro W hW; go_simp) <;> with_reducible rfl)
          simp only [Act.put, List.setIfInBounds_toArray, List.set_cons_zero, List.set_cons_succ]
          first | (refine grow_take (i := 12) (oi := { dst := some 90, op := Op.move (Operand.tmp 6), type := 22, pos := "law.go:184", after := #[{ on := 11, ground := Ground.guard }], guard := some (11, false) }) (v := ?_) rfl (by kernel_rfl) (by kernel_rfl) (by kernel_rfl) (by rfl) ?_ ?_; rotate_left; focus ((intro W hW; go_simp) <;> with_reducible rfl)) | refine grow_skip (i := 12) (oi := { dst := some 90, op := Op.move (Operand.tmp 6), type := 22, pos := "law.go:184", after := #[{ on := 11, ground := Ground.guard }], guard := some (11, false) }) rfl (by kernel_rfl) (by kernel_rfl) (by kernel_rfl) (by rfl) ?_ | fail "op 12"
          simp only [Act.put, List.setIfInBounds_toArray, List.set_cons_zero, List.set_cons_succ]
          first | (refine grow_take (i := 13) (oi := { dst := some 91, op := Op.move (Operand.tmp 11), type := 3, pos := "law.go:184", after := #[{ on := 11, ground := Ground.guard }], guard := some (11, false) }) (v := ?_) rfl (by kernel_rfl) (by kernel_rfl) (by kernel_rfl) (by rfl) ?_ ?_; rotate_left; focus ((intro W hW; go_simp) <;> with_reducible rfl)) | refine grow_skip (i := 13) (oi := { dst := some 91, op := Op.move (Operand.tmp 11), type := 3, pos := "law.go:184", after := #[{ on := 11, ground := Ground.guard }], guard := some (11, false) }) rfl (by kernel_rfl) (by kernel_rfl) (by kernel_rfl) (by rfl) ?_ | fail "op 13"
          simp only [Act.put, List.setIfInBounds_toArray, List.set_cons_zero, List.set_cons_succ]
          first | (refine grow_take (i := 14) (oi := { dst := some 92, op := Op.indexAddr 22 (Operand.tmp 90) (Operand.tmp 91), type := 0, pos := "law.go:184", after := #[{ on := 12, ground := Ground.data }, { on := 13, ground := Ground.data }, { on := 11, ground := Ground.guard }], guard := some (11, false) }) (v := ?_) rfl (by kernel_rfl) (by kernel_rfl) (by kernel_rfl) (by rfl) ?_ ?_; rotate_left; focus ((intro W hW; have fct := F.out W hW; go_simp) <;> with_reducible rfl)) | refine grow_skip (i := 14) (oi := { dst := some 92, op := Op.indexAddr 22 (Operand.tmp 90) (Operand.tmp 91), type := 0, pos := "law.go:184", after := #[{ on := 12, ground := Ground.data }, { on := 13, ground := Ground.data }, { on := 11, ground := Ground.guard }], guard := some (11, false) }) rfl (by kernel_rfl) (by kernel_rfl) (by kernel_rfl) (by rfl) ?_ | fail "op 14"
          simp only [Act.put, List.setIfInBounds_toArray, List.set_cons_zero, List.set_cons_succ]
          first | (refine grow_take (i := 15) (oi := { dst := some 93, op := Op.fieldAddr 39 (Operand.tmp 92) 1, type := 0, pos := "law.go:184", after := #[{ on := 14, ground := Ground.data }, { on := 11, ground := Ground.guard }], guard := some (11, false) }) (v := ?_) rfl (by kernel_rfl) (by kernel_rfl) (by kernel_rfl) (by rfl) ?_ ?_; rotate_left; focus ((intro W hW; go_simp) <;> with_reducible rfl)) | refine grow_skip (i := 15) (oi := { dst := some 93, op := Op.fieldAddr 39 (Operand.tmp 92) 1, type := 0, pos := "law.go:184", after := #[{ on := 14, ground := Ground.data }, { on := 11, ground := Ground.guard }], guard := some (11, false) }) rfl (by kernel_rfl) (by kernel_rfl) (by kernel_rfl) (by rfl) ?_ | fail "op 15"
          simp only [Act.put, List.setIfInBounds_toArray, List.set_cons_zero, List.set_cons_succ]
          first | (refine grow_take (i := 16) (oi := { dst := some 94, op := Op.load 36 (Operand.tmp 93), type := 36, pos := "law.go:184", after := #[{ on := 15, ground := Ground.data }, { on := 11, ground := Ground.guard }], guard := some (11, false) }) (v := ?_) rfl (by kernel_rfl) (by kernel_rfl) (by kernel_rfl) (by rfl) ?_ ?_; rotate_left; focus ((intro W hW; have fct := F.out W hW; go_simp) <;> with_reducible rfl)) | refine grow_skip (i := 16) (oi := { dst := some 94, op := Op.load 36 (Operand.tmp 93), type := 36, pos := "law.go:184", after := #[{ on := 15, ground := Ground.data }, { on := 11, ground := Ground.guard }], guard := some (11, false) }) rfl (by kernel_rfl) (by kernel_rfl) (by kernel_rfl) (by rfl) ?_ | fail "op 16"
          simp only [Act.put, List.setIfInBounds_toArray, List.set_cons_zero, List.set_cons_succ]
          first | (refine grow_take (i := 17) (oi := { dst := some 95, op := Op.convert 36 9 (Operand.tmp 94), type := 9, pos := "law.go:184", after := #[{ on := 16, ground := Ground.data }, { on := 11, ground := Ground.guard }], guard := some (11, false) }) (v := ?_) rfl (by kernel_rfl) (by kernel_rfl) (by kernel_rfl) (by rfl) ?_ ?_; rotate_left; focus ((intro W hW; have fct := F.out W hW; go_simp) <;> with_reducible rfl)) | refine grow_skip (i := 17) (oi := { dst := some 95, op := Op.convert 36 9 (Operand.tmp 94), type := 9, pos := "law.go:184", after := #[{ on := 16, ground := Ground.data }, { on := 11, ground := Ground.guard }], guard := some (11, false) }) rfl (by kernel_rfl) (by kernel_rfl) (by kernel_rfl) (by rfl) ?_ | fail "op 17"
          simp only [Act.put, List.setIfInBounds_toArray, List.set_cons_zero, List.set_cons_succ]
          first | (refine grow_take (i := 18) (oi := { dst := some 96, op := Op.move (Operand.tmp 9), type := 22, pos := "law.go:184", after := #[{ on := 11, ground := Ground.guard }], guard := some (11, false) }) (v := ?_) rfl (by kernel_rfl) (by kernel_rfl) (by kernel_rfl) (by rfl) ?_ ?_; rotate_left; focus ((intro W hW; go_simp) <;> with_reducible rfl)) | refine grow_skip (i := 18) (oi := { dst := some 96, op := Op.move (Operand.tmp 9), type := 22, pos := "law.go:184", after := #[{ on := 11, ground := Ground.guard }], guard := some (11, false) }) rfl (by kernel_rfl) (by kernel_rfl) (by kernel_rfl) (by rfl) ?_ | fail "op 18"
          simp only [Act.put, List.setIfInBounds_toArray, List.set_cons_zero, List.set_cons_succ]
          first | (refine grow_take (i := 19) (oi := { dst := some 97, op := Op.move (Operand.tmp 11), type := 3, pos := "law.go:184", after := #[{ on := 11, ground := Ground.guard }], guard := some (11, false) }) (v := ?_) rfl (by kernel_rfl) (by kernel_rfl) (by kernel_rfl) (by rfl) ?_ ?_; rotate_left; focus ((intro W hW; go_simp) <;> with_reducible rfl)) | refine grow_skip (i := 19) (oi := { dst := some 97, op := Op.move (Operand.tmp 11), type := 3, pos := "law.go:184", after := #[{ on := 11, ground := Ground.guard }], guard := some (11, false) }) rfl (by kernel_rfl) (by kernel_rfl) (by kernel_rfl) (by rfl) ?_ | fail "op 19"
          simp only [Act.put, List.setIfInBounds_toArray, List.set_cons_zero, List.set_cons_succ]
          first | (refine grow_take (i := 20) (oi := { dst := some 98, op := Op.indexAddr 22 (Operand.tmp 96) (Operand.tmp 97), type := 0, pos := "law.go:184", after := #[{ on := 18, ground := Ground.data }, { on := 19, ground := Ground.data }, { on := 11, ground := Ground.guard }], guard := some (11, false) }) (v := ?_) rfl (by kernel_rfl) (by kernel_rfl) (by kernel_rfl) (by rfl) ?_ ?_; rotate_left; focus ((intro W hW; have fct := F.out W hW; go_simp) <;> with_reducible rfl)) | refine grow_skip (i := 20) (oi := { dst := some 98, op := Op.indexAddr 22 (Operand.tmp 96) (Operand.tmp 97), type := 0, pos := "law.go:184", after := #[{ on := 18, ground := Ground.data }, { on := 19, ground := Ground.data }, { on := 11, ground := Ground.guard }], guard := some (11, false) }) rfl (by kernel_rfl) (by kernel_rfl) (by kernel_rfl) (by rfl) ?_ | fail "op 20"
          simp only [Act.put, List.setIfInBounds_toArray, List.set_cons_zero, List.set_cons_succ]
          first | (refine grow_take (i := 21) (oi := { dst := some 99, op := Op.fieldAddr 39 (Operand.tmp 98) 1, type := 0, pos := "law.go:184", after := #[{ on := 20, ground := Ground.data }, { on := 11, ground := Ground.guard }], guard := some (11, false) }) (v := ?_) rfl (by kernel_rfl) (by kernel_rfl) (by kernel_rfl) (by rfl) ?_ ?_; rotate_left; focus ((intro W hW; go_simp) <;> with_reducible rfl)) | refine grow_skip (i := 21) (oi := { dst := some 99, op := Op.fieldAddr 39 (Operand.tmp 98) 1, type := 0, pos := "law.go:184", after := #[{ on := 20, ground := Ground.data }, { on := 11, ground := Ground.guard }], guard := some (11, false) }) rfl (by kernel_rfl) (by kernel_rfl) (by kernel_rfl) (by rfl) ?_ | fail "op 21"
          simp only [Act.put, List.setIfInBounds_toArray, List.set_cons_zero, List.set_cons_succ]
          first | (refine grow_take (i := 22) (oi := { dst := some 100, op := Op.load 36 (Operand.tmp 99), type := 36, pos := "law.go:184", after := #[{ on := 21, ground := Ground.data }, { on := 11, ground := Ground.guard }], guard := some (11, false) }) (v := ?_) rfl (by kernel_rfl) (by kernel_rfl) (by kernel_rfl) (by rfl) ?_ ?_; rotate_left; focus ((intro W hW; have fct := F.out W hW; go_simp) <;> with_reducible rfl)) | refine grow_skip (i := 22) (oi := { dst := some 100, op := Op.load 36 (Operand.tmp 99), type := 36, pos := "law.go:184", after := #[{ on := 21, ground := Ground.data }, { on := 11, ground := Ground.guard }], guard := some (11, false) }) rfl (by kernel_rfl) (by kernel_rfl) (by kernel_rfl) (by rfl) ?_ | fail "op 22"
          simp only [Act.put, List.setIfInBounds_toArray, List.set_cons_zero, List.set_cons_succ]
          first | (refine grow_take (i := 23) (oi := { dst := some 101, op := Op.convert 36 9 (Operand.tmp 100), type := 9, pos := "law.go:184", after := #[{ on := 22, ground := Ground.data }, { on := 11, ground := Ground.guard }], guard := some (11, false) }) (v := ?_) rfl (by kernel_rfl) (by kernel_rfl) (by kernel_rfl) (by rfl) ?_ ?_; rotate_left; focus ((intro W hW; have fct := F.out W hW; go_simp) <;> with_reducible rfl)) | refine grow_skip (i := 23) (oi := { dst := some 101, op := Op.convert 36 9 (Operand.tmp 100), type := 9, pos := "law.go:184", after := #[{ on := 22, ground := Ground.data }, { on := 11, ground := Ground.guard }], guard := some (11, false) }) rfl (by kernel_rfl) (by kernel_rfl) (by kernel_rfl) (by rfl) ?_ | fail "op 23"
          simp only [Act.put, List.setIfInBounds_toArray, List.set_cons_zero, List.set_cons_succ]
          first | (refine grow_take (i := 24) (oi := { dst := some 102, op := Op.binOp BinOp.neq 9 (Operand.tmp 95) (Operand.tmp 101) 9, type := 4, pos := "law.go:184", after := #[{ on := 17, ground := Ground.data }, { on := 23, ground := Ground.data }, { on := 11, ground := Ground.guard }], guard := some (11, false) }) (v := ?_) rfl (by kernel_rfl) (by kernel_rfl) (by kernel_rfl) (by rfl) ?_ ?_; rotate_left; focus ((intro W hW; have fct := F.out W hW; go_simp) <;> with_reducible rfl)) | refine grow_skip (i := 24) (oi := { dst := some 102, op := Op.binOp BinOp.neq 9 (Operand.tmp 95) (Operand.tmp 101) 9, type := 4, pos := "law.go:184", after := #[{ on := 17, ground := Ground.data }, { on := 23, ground := Ground.data }, { on := 11, ground := Ground.guard }], guard := some (11, false) }) rfl (by kernel_rfl) (by kernel_rfl) (by kernel_rfl) (by rfl) ?_ | fail "op 24"
          simp only [Act.put, List.setIfInBounds_toArray, List.set_cons_zero, List.set_cons_succ]
          refine grow_take (i := 25) (oi := { dst := some 103, op := Op.pick (Operand.tmp 89) (Operand.const (Value.bool true)) (Operand.tmp 102), type := 4, pos := "law.go:184", after := #[{ on := 11, ground := Ground.data }, { on := 24, ground := Ground.data }], guard := none }) (v := ?_) rfl (by kernel_rfl) (by kernel_rfl) (by kernel_rfl) (by rfl) ?_ ?_; rotate_left; focus ((intro W hW; go_simp) <;> with_reducible rfl)
          simp only [Act.put, List.setIfInBounds_toArray, List.set_cons_zero, List.set_cons_succ]
          refine grow_done (by kernel_rfl) ?_ _
          go_wp2
          go_roundw
          case rel => exact ⟨j + 1, by omega, by go_num, hnw.drew⟩
          case measure => simp [intOf]; omega
        · go_wp2
          go_ret
          exact ⟨rfl, NN.out.trans hnw fun _ _ => id⟩
theorem twice_args {H : Type} {enc : TypeId × Value → H} {W : World} {base : Nat} {args : Array Value} {ds : List (DataW H)} {ps : List MemPlace}
    (hval : ∀ (j : Nat) t v, Try.f5.params[j]? = some t → args[j]? = some v → Value.okWide Try.prog W .any base t v)
    (hw : ∀ (j : Nat) t d, Try.f5.params.toList[j]? = some t → ds[j]? = some d → ∀ n ∈ d.weights Try.prog t, n ≤ reachBytes)
    (hA : DataW.TrodAll enc Try.prog W 0 (fun _ => true) true Try.f5.params.toList args.toList ds ps) :
    Calls Try.prog 5 args W fun e w' => LawEnd W e w' := by
  rw [Try.params5] at hA hval hw
  obtain ⟨v0, v1, d0, d1, p0, p1, rfl, rfl, rfl, h0, h1⟩ := trodAll_two hA
  have o0 := hval 0 _ v0 rfl rfl
  have q0 := hw 0 _ d0 rfl rfl
  have o1 := hval 1 _ v1 rfl rfl
  have q1 := hw 1 _ d1 rfl rfl
  obtain ⟨A, n, c, xs, rfl, _, hnc, hc, hl⟩ := open_u8s Try.underlying36 Try.underlying5 (by kernel_rfl) (by kernel_rfl) (cells_slice Try.underlying36 o0) q0 h0
  obtain ⟨B, m, q, ys, rfl, _, hmq, hq, hk⟩ := open_u8s Try.underlying36 Try.underlying5 (by kernel_rfl) (by kernel_rfl) (cells_slice Try.underlying36 o1) q1 h1
  exact twice W A B n c m q xs ys hl hk (by omega) (by omega)
end Journal

namespace lawJournalTwice
theorem own : ownKnob Try.prog.godebug = none := by kernel_rfl
theorem laidOut : laidOutB Try.prog = true := by kernel_rfl
theorem reads : ∀ t ∈ Try.f5.params.toList, Try.prog.readableRec t = true ∧ t < Try.prog.types.size := by
  have h : (Try.f5.params.toList.all fun t => Try.prog.readableRec t && decide (t < Try.prog.types.size)) = true := by kernel_rfl
  intro t ht
  have := List.all_eq_true.1 h t ht
  simpa using this
theorem spec {H : Type} (ds : List (DataW H)) (h : ds.length = 2) : Rows.journalTwiceSpec.fn H ds = { results := [.lit (.bool true)], args := ds } := by
  match ds, h with
  | [d1, d2], _ => rfl
theorem trodAll_len {H : Type} {enc : TypeId × Value → H} {P : Program} {w : World} {base : Nat} {sp : Nat → Bool} {held : Bool} : ∀ (ts : List TypeId) (vs : List Value) (ds : List (DataW H)) (ps : List MemPlace),
    DataW.TrodAll enc P w base sp held ts vs ds ps → ds.length = ts.length
  | [], _, _, _, h => by
    obtain ⟨_, rfl, _⟩ := trodAll_nil h
    rfl
  | _ :: ts, _, _, _, h => by
    obtain ⟨_, vs, _, ds, _, _, _, rfl, _, _, hr⟩ := trodAll_cons h
    simp [trodAll_len ts vs ds _ hr]
theorem contract (H : Type) (enc : TypeId × Value → H) (W : World) (base : Nat) (args : Array Value) (ds gs : List (DataW H)) (before : List MemPlace)
    (hval : ∀ (j : Nat) t v, Try.f5.params[j]? = some t → args[j]? = some v → Value.okWide Try.prog W .any base t v)
    (hW : DataW.Whole enc Try.prog Try.f5.params.toList Rows.journalTwiceSpec.vars false W args.toList ds gs before)
    (hz : (DataW.weightsEach Try.prog (Try.f5.params.toList ++ Rows.journalTwiceSpec.plain.varTypes Try.prog) (ds ++ gs)).all (· ≤ reachBytes) = true) :
    Calls Try.prog 5 args W fun e W' => ∃ v, e = .returned v ∧ Rows.journalTwiceSpec.post enc Try.prog Try.f5 false true false false W args v W' := by
  obtain ⟨p, q, hA, hV, _⟩ := id hW
  have hlen : ds.length = 2 := (trodAll_len _ _ _ _ hA).trans (by kernel_rfl)
  have hV1 : DataW.TrodVars enc Try.prog W (fun _ => true) [] gs q := hV
  obtain ⟨rfl, rfl⟩ := trodVars_none hV1
  have hw : ∀ (j : Nat) t d, Try.f5.params.toList[j]? = some t → ds[j]? = some d → ∀ n ∈ d.weights Try.prog t, n ≤ reachBytes := by
    intro j t d ht hd n hn
    rw [List.append_nil] at hz
    have hlt : j < Try.f5.params.toList.length := (List.getElem?_eq_some_iff.1 ht).1
    have := List.all_eq_true.1 hz n (DataW.weights_mem_each (by rw [List.getElem?_append_left hlt]; exact ht) hd n hn)
    simpa using this
  refine (Journal.twice_args hval hw hA).mono fun e W' ⟨he, hn⟩ => ?_
  exact ⟨_, he, law_post laidOut (tb := 4) rfl Try.underlying4 reads rfl hW (spec ds hlen) hn.below⟩
set_option maxRecDepth 100000 in
theorem lifted (os : Os) (started : os.Started) (H : Type) (enc : TypeId × Value → H) :
    ReturnsInHanded {} Try.checked os 5 .any (Rows.journalTwiceSpec.pre6 enc Try.prog Try.f5 Rows.journalTwiceRow.domain false) (Rows.journalTwiceSpec.post enc Try.prog Try.f5 false true false false) := by
  refine returnsInHanded_of_change_sized (C := Try.checked) own started (by kernel_rfl) Try.func5
    (ChangeSpec.witness6 (enc := enc) (C := Try.checked) (s := Rows.journalTwiceSpec) false ⟨#[], #[.slice none 0 0, .slice none 0 0], []⟩ 60 (by kernel_rfl) (by kernel_rfl) (by kernel_rfl) (by kernel_rfl)) ?_
  intro W base args ds gs before hval hW _ hz _
  exact contract H enc W base args ds gs before hval hW hz
theorem proved : Rows.JournalTwiceSaid :=
  OpenClaim.holds_of_wide 5 Try.f5 rfl rfl rfl rfl rfl rfl rfl ⟨rfl, rfl, rfl, rfl, rfl⟩ rfl rfl rfl rfl rfl (by kernel_rfl) Try.func5 (by kernel_rfl)
    (of_decide_eq_true (by kernel_rfl)) (by unfold Func.isWrapper; first | (rw [if_pos (by decide +kernel)]; kernel_rfl) | (rw [if_neg (by decide +kernel)]; exact ⟨rfl, rfl⟩))
    (fun os started H enc _ => lifted os started H enc)
end lawJournalTwice
end Go.Proofs.Ythgpphedpegbgaa

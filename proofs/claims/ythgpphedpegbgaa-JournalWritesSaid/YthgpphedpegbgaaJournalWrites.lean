/-
  hedgerowlaw11.JournalWrites returns true for every input: records that are written are read, and have the document's bytes (no condition).
-/
import Derived.Test.YthgpphedpegbgaaJournalLaid
namespace Go.Proofs.Ythgpphedpegbgaa
open Go.ChangeShapes Go.WideShapes Go.RowKit Go.Deep
namespace Journal
open Go.Proofs.Ythgpphedpegbgaa.Frame (Part Parts PartsL PartsR Part.chg Part.new)
open Go.Proofs.Ythgpphedpegbgaa.Disk (Dsk At Post Foot ptr)
attribute [local go_sem ↓] loadOnly0
theorem wp_append_u8 (w : World) {o : Oper} {a : Act} {K : Act → World → Prop} {Q : Exit → Act → World → Prop} (s x : Operand)
    (ho : o.op = .call { callee := .builtin .append, args := #[s, x], argTypes := #[36, 36] })
    (base : Nat) (v : Value) (l : List UInt8) (hs : a.eval s = v) (hown : OwnB w base v l)
    (F : Nat → Prop) (A : Option Addr) (m c : Nat) (k : List UInt8) (hx : a.eval x = .slice A m c) (hr : Reads w F 1 A m (u8s k))
    (hb : l.length + m ≤ 1099511627776) (hbase : base ≤ w.heap.size)
    (h : ∀ v' w', OwnB w' base v' (l ++ k) → w.grownBy w' v.ownBlock → (v'.ownBlock = v.ownBlock ∨ v'.ownBlock = some w.heap.size) → K (a.put o.dst v') w') : o.wp Try.prog a w K Q := by
  obtain ⟨i, hi, hz0, hz1, hz2⟩ := info_parts u8info
  refine wp_append_any w s x _ ho base _ i _ 1 1 Try.underlying36 hi hz0 hz1 hz2 rfl (by omega) v l.length (u8s l) hs hown F A m c (u8s k) hx hr (u8s_one k) (by simp only [maxLen]; omega) (by omega) hbase ?_
  intro v' w' ho' hg hat
  refine h v' w' ?_ hg hat
  have hk := hr.u8len
  unfold OwnB
  rw [u8s_append, List.length_append, hk]
  exact ho'
theorem RecsR.rec_ {w : World} {A : Option Addr} {n c : Nat} {rs : List Rec} (h : RecsR w (.slice A n c) rs) {i : Nat} {r : Rec} (hi : rs[i]? = some r) : RecAt w A i r := by
  obtain ⟨A', c', hv, _, hr⟩ := h.ex
  injection hv with h1 h2 h3
  subst h1
  exact hr i r hi
set_option maxHeartbeats 8000000 in
theorem same_ (w : World) (v u : Value) (rs : List Rec) (h : RecsR w v rs) (hu : PartsR w u (rs.map pay)) (hf : few rs) :
    Calls Try.prog 14 #[v, u] w fun e w' => e = .returned (.bool true) ∧ New w w' := by
  obtain ⟨A, c, rfl, hnc, _⟩ := id h.ex
  obtain ⟨B, d, rfl⟩ := hu.form
  rw [List.length_map] at hu ⊢
  obtain ⟨n, hn⟩ : ∃ n, rs.length = n := ⟨_, rfl⟩
  have hn1 := hf.1
  rw [hn] at h hu hnc hn1 ⊢
  have HN := Lib.hid hn
  have HR := Lib.hid h
  have HU := Lib.hid hu
  have HF := Lib.hid hf
  clear h hu hn hf
  go_enter Try.func14, Try.ntmps14
  go_wp2_with fail
  go_loopw [4, 5, 6, 14] (fun _ _ _ i wr => ∃ (q : Nat), q ≤ n ∧ i = .int .i64 q ∧ New w wr) (fun _ _ _ i _ => n - (intOf i).toNat)
  case atStart => exact ⟨0, by omega, rfl, Chg.refl _ _⟩
  case round =>
    obtain ⟨q, hq, rfl, hnw⟩ := hrel
    by_cases hlt : q < n
    · obtain ⟨r, hr⟩ : ∃ r, rs[q]? = some r := ⟨_, List.getElem?_eq_getElem (by rw [HN.out]; omega)⟩
      have hrl := HF.out.2 r (List.mem_of_getElem? hr)
      obtain ⟨a1, A3, c3, rfl, hl3, hall⟩ := HR.out.rec_ hr
      obtain ⟨a2, u2, rfl, f2⟩ := HU.out.at_ (i := q) (by rw [List.length_map, HN.out]; exact hlt)
      rw [show (rs.map pay).getD q [] = r.1 :: r.2 by rw [List.getD_eq_getElem?_getD, List.getElem?_map, hr]; rfl] at f2
      obtain ⟨kind, data⟩ := r
      simp only at f2 hl3 hall hrl
      have hld := (hall wr hnw).1
      have hbx := Blk.new wr 39 #[.int .u8 (kind.toNat : Int), .slice A3 data.length c3]
      have m1 := hnw.alloc (.cells #[.int .u8 (kind.toNat : Int), .slice A3 data.length c3] 39)
      obtain ⟨X2, hX2⟩ : ∃ X, a2.add q = X := ⟨_, rfl⟩
      obtain ⟨wb, hwb⟩ : ∃ wb, wr.alloc (.cells #[.int .u8 (kind.toNat : Int), .slice A3 data.length c3] 39) = wb := ⟨_, rfl⟩
      have hbs : wb.heap.size = wr.heap.size + 1 := by rw [← hwb, World.size_alloc]
      have mwb : New w wb := hwb ▸ m1
      have hsw := mwb.size
      have F := Lib.hid (fun W (hW : Chg (fun g => wb.heap.size ≤ g) wb.drew W) => by
        have hW1 : Chg (fun g => wb.heap.size ≤ g) wb W := (Chg.refl _ wb).drew.trans hW fun _ _ => id
        have hW6 := mwb.trans hW1 fun i hi h => by omega
        obtain ⟨b1, b2⟩ := f2 W hW6
        rw [hX2] at b1
        have hb := (hwb ▸ hbx : Blk wb wr.heap.size 39 #[.int .u8 (kind.toNat : Int), .slice A3 data.length c3]).chg hW1 (by omega)
        exact (show (W.cell? ⟨wr.heap.size, 0, none⟩ = some (.int .u8 (kind.toNat : Int)) ∧ W.cell? ⟨wr.heap.size, 1, none⟩ = some (.slice A3 data.length c3)) ∧
          a2.add q = X2 ∧ W.cell? X2 = some u2 ∧ (convert 36 9 u2).run Try.prog W = .ok (.string ⟨(kind :: data).toArray⟩) W from ⟨⟨hb.cell 0, hb.cell 1⟩, hX2, b1, b2⟩))
      have HD := Lib.hid (fun W hW => (hall W hW).2.2.2)
      have M1 := Lib.hid mwb
      have HWB := Lib.hid hwb
      have HBS := Lib.hid hbs
      have hltp : (q : Int) < n := by omega
      clear f2 hall hr hX2 hbx m1 hwb hbs
      obtain ⟨n3, hn3⟩ : ∃ n3, data.length = n3 := ⟨_, rfl⟩
      rw [hn3] at hrl hl3 hld F HD HWB
      clear hn3
      go_wp2_with fail
      rw [HWB.out]
      refine grow_start (fun g => wb.heap.size ≤ g) (by kernel_rfl) ?_
      refine grow_take (i := 0) (oi := { dst := some 19, op := Op.fieldAddr 39 (Operand.tmp 6) 0, type := 0, pos := "law.go:36", after := #[], guard := none }) (v := ?_) rfl (by kernel_rfl) (by kernel_rfl) (by kernel_rfl) (by rfl) ?_ ?_; rotate_left; focus ((intro W hW; go_simp) <;> with_reducible rfl)
      simp only [Act.put, List.setIfInBounds_toArray, List.set_cons_zero, List.set_cons_succ]
      refine grow_take (i := 1) (oi := { dst := some 20, op := Op.load 5 (Operand.tmp 19), type := 5, pos := "law.go:36", after := #[{ on := 0, ground := Ground.data }], guard := none }) (v := ?_) rfl (by kernel_rfl) (by kernel_rfl) (by kernel_rfl) (by rfl) ?_ ?_; rotate_left; focus ((intro W hW; have fct := F.out W hW; go_simp) <;> with_reducible rfl)
      simp only [Act.put, List.setIfInBounds_toArray, List.set_cons_zero, List.set_cons_succ]
      refine grow_take (i := 3) (oi := { dst := some 22, op := Op.fieldAddr 39 (Operand.tmp 6) 1, type := 0, pos := "law.go:36", after := #[], guard := none }) (v := ?_) rfl (by kernel_rfl) (by kernel_rfl) (by kernel_rfl) (by rfl) ?_ ?_; rotate_left; focus ((intro W hW; go_simp) <;> with_reducible rfl)
      simp only [Act.put, List.setIfInBounds_toArray, List.set_cons_zero, List.set_cons_succ]
      refine grow_take (i := 4) (oi := { dst := some 23, op := Op.load 36 (Operand.tmp 22), type := 36, pos := "law.go:36", after := #[{ on := 3, ground := Ground.data }], guard := none }) (v := ?_) rfl (by kernel_rfl) (by kernel_rfl) (by kernel_rfl) (by rfl) ?_ ?_; rotate_left; focus ((intro W hW; have fct := F.out W hW; go_simp) <;> with_reducible rfl)
      simp only [Act.put, List.setIfInBounds_toArray, List.set_cons_zero, List.set_cons_succ]
      refine grow_take (i := 7) (oi := { dst := some 26, op := Op.move (Operand.tmp 1), type := 37, pos := "law.go:36", after := #[], guard := none }) (v := ?_) rfl (by kernel_rfl) (by kernel_rfl) (by kernel_rfl) (by rfl) ?_ ?_; rotate_left; focus ((intro W hW; go_simp) <;> with_reducible rfl)
      simp only [Act.put, List.setIfInBounds_toArray, List.set_cons_zero, List.set_cons_succ]
      refine grow_take (i := 8) (oi := { dst := some 27, op := Op.move (Operand.tmp 5), type := 3, pos := "law.go:36", after := #[], guard := none }) (v := ?_) rfl (by kernel_rfl) (by kernel_rfl) (by kernel_rfl) (by rfl) ?_ ?_; rotate_left; focus ((intro W hW; go_simp) <;> with_reducible rfl)
      simp only [Act.put, List.setIfInBounds_toArray, List.set_cons_zero, List.set_cons_succ]
      refine grow_take (i := 9) (oi := { dst := some 28, op := Op.indexAddr 37 (Operand.tmp 26) (Operand.tmp 27), type := 0, pos := "law.go:36", after := #[{ on := 7, ground := Ground.data }, { on := 8, ground := Ground.data }], guard := none }) (v := ?_) rfl (by kernel_rfl) (by kernel_rfl) (by kernel_rfl) (by rfl) ?_ ?_; rotate_left; focus ((intro W hW; have fct := F.out W hW; go_simp) <;> with_reducible rfl)
      simp only [Act.put, List.setIfInBounds_toArray, List.set_cons_zero, List.set_cons_succ]
      refine grow_take (i := 10) (oi := { dst := some 29, op := Op.load 36 (Operand.tmp 28), type := 36, pos := "law.go:36", after := #[{ on := 9, ground := Ground.data }], guard := none }) (v := ?_) rfl (by kernel_rfl) (by kernel_rfl) (by kernel_rfl) (by rfl) ?_ ?_; rotate_left; focus ((intro W hW; have fct := F.out W hW; go_simp) <;> with_reducible rfl)
      simp only [Act.put, List.setIfInBounds_toArray, List.set_cons_zero, List.set_cons_succ]
      refine grow_take (i := 11) (oi := { dst := some 30, op := Op.convert 36 9 (Operand.tmp 29), type := 9, pos := "law.go:36", after := #[{ on := 10, ground := Ground.data }], guard := none }) (v := ?_) rfl (by kernel_rfl) (by kernel_rfl) (by kernel_rfl) (by rfl) ?_ ?_; rotate_left; focus ((intro W hW; have fct := F.out W hW; go_simp) <;> with_reducible rfl)
      simp only [Act.put, List.setIfInBounds_toArray, List.set_cons_zero, List.set_cons_succ]
      refine grow_next (i := 2) (oi := { dst := some 21, op := Op.buildSlice 36 1 #[(0, Operand.tmp 20)], type := 36, pos := "law.go:36", after := #[{ on := 1, ground := Ground.data }], guard := none }) (by kernel_rfl) rfl (by rfl) (fun K hK => ?_)
      go_simp
      refine hK _ _ ((Chg.refl _ _).alloc _) ?_
      clear hK K
      try simp only [Act.put, List.setIfInBounds_toArray, List.set_cons_zero, List.set_cons_succ]
      have m2 := ((Chg.refl (fun _ => False) wb).drew).alloc (.cells #[.int .u8 (kind.toNat : Int)] 5)
      have o2 : OwnB (wb.drew.alloc (.cells #[.int .u8 (kind.toNat : Int)] 5)) wb.heap.size (.slice (some ⟨wb.heap.size, 0, none⟩) 1 1) [kind] := OwnB.lit (w := wb.drew) (base := wb.heap.size) [kind] (Nat.le_refl _) (by simp [maxLen])
      have s2 := m2.size
      refine grow_next (i := 5) (oi := { dst := some 24, op := Op.call { callee := Callee.builtin Builtin.append, args := #[Operand.tmp 21, Operand.tmp 23], argTypes := #[36, 36] }, type := 36, pos := "law.go:36", after := #[{ on := 2, ground := Ground.data }, { on := 4, ground := Ground.data }], guard := none }) (by kernel_rfl) rfl (by rfl) (fun K hK => ?_)
      refine wp_append_u8 _ (.tmp 21) (.tmp 23) rfl wb.heap.size _ [kind] (by rfl) o2 _ A3 n3 c3 data (by rfl) (HD.out _ (M1.out.trans m2 fun _ _ => id)) (by simp; omega) s2 ?_
      intro v6 w6 o6 g6 a6
      refine hK _ _ ((Chg.refl _ _).grown g6 fun g e _ => (own_lt o2 e).1) ?_
      clear hK K
      try simp only [Act.put, List.setIfInBounds_toArray, List.set_cons_zero, List.set_cons_succ]
      have n6 : New wb w6 := m2.grown g6 fun g e hlt => by have := (own_lt o2 e).1; omega
      refine wpAnyH_sub (S' := New w6) (fun W hW => hW.mono fun _ _ => False.elim) _ _ _ _ ?_
      have F6 := Lib.hid (fun W (hW : New w6 W) => And.intro (own_str o6 hW) (F.out W (((((Chg.refl (fun g => wb.heap.size ≤ g) wb.drew).alloc (.cells #[.int .u8 (kind.toNat : Int)] 5)).grown g6 (fun g e _ => (own_lt o2 e).1)).trans hW (fun _ _ => False.elim)))))
      clear o6 g6 a6
      refine grow_take (i := 6) (oi := { dst := some 25, op := Op.convert 36 9 (Operand.tmp 24), type := 9, pos := "law.go:36", after := #[{ on := 5, ground := Ground.data }], guard := none }) (v := ?_) rfl (by kernel_rfl) (by kernel_rfl) (by kernel_rfl) (by rfl) ?_ ?_; rotate_left; focus ((intro W hW; have fct := F6.out W hW; go_simp) <;> with_reducible rfl)
      simp only [Act.put, List.setIfInBounds_toArray, List.set_cons_zero, List.set_cons_succ]
      refine grow_take (i := 12) (oi := { dst := some 31, op := Op.binOp BinOp.neq 9 (Operand.tmp 25) (Operand.tmp 30) 9, type := 4, pos := "law.go:36", after := #[{ on := 6, ground := Ground.data }, { on := 11, ground := Ground.data }], guard := none }) (v := ?_) rfl (by kernel_rfl) (by kernel_rfl) (by kernel_rfl) (by rfl) ?_ ?_; rotate_left; focus ((intro W hW; have fct := F6.out W hW; go_simp) <;> with_reducible rfl)
      simp only [Act.put, List.setIfInBounds_toArray, List.set_cons_zero, List.set_cons_succ]
      refine grow_done (by kernel_rfl) ?_ _
      have N6 := Lib.hid (M1.out.trans n6 fun _ _ => id)
      clear n6 m2 o2
      go_wp2
      go_roundw
      case rel => exact ⟨q + 1, by omega, by go_num, N6.out⟩
      case measure => simp [intOf]; omega
    · go_wp2
      go_ret
      exact ⟨rfl, hnw⟩
theorem _root_.Go.Proofs.Ythgpphedpegbgaa.Frame.PartsL.lt {lo : Nat} {w : World} {base : Nat} {v : Value} {ps : List (List UInt8)} (h : PartsL lo w base v ps) {g : Nat} (hg : v.ownBlock = some g) : base ≤ g ∧ g < w.heap.size := by
  obtain ⟨vs, ho, _⟩ := h.ex
  exact own_lt ho hg
theorem _root_.Go.Proofs.Ythgpphedpegbgaa.Frame.PartsL.own_ne_u8 {lo : Nat} {w : World} {base base' : Nat} {v v' : Value} {ps : List (List UInt8)} {l : List UInt8} (h : PartsL lo w base v ps) (h' : OwnB w base' v' l) {g : Nat} (hg : v.ownBlock = some g) : v'.ownBlock ≠ some g := by
  obtain ⟨vs, ho, _⟩ := h.ex
  exact own_own ho h' (by decide) hg
set_option maxHeartbeats 20000000 in
set_option maxRecDepth 100000 in
theorem writes (w : World) (v u : Value) (rl rm : List Rec) (h : RecsR w v rl) (hm : RecsR w u rm) (hn : rl.length ≤ 140737488351232) (hn2 : rm.length ≤ 140737488351232) :
    Calls Try.prog 4 #[v, u] w fun e w' => LawEnd w e w' := by
  obtain ⟨A1, c1, hv, _, _⟩ := id h.ex
  obtain ⟨A2, c2, hu, _, _⟩ := id hm.ex
  obtain ⟨L1, hL1⟩ : ∃ L1, rl.length = L1 := ⟨_, rfl⟩
  obtain ⟨L2, hL2⟩ : ∃ L2, rm.length = L2 := ⟨_, rfl⟩
  rw [hL1] at hv
  rw [hL2] at hu
  subst hv hu
  have H0 := Lib.hid (And.intro h hm)
  have HV := Lib.hid (And.intro hL1 hL2)
  clear h hm hL1 hL2
  go_enter Try.func4, Try.ntmps4
  go_wp2_with fail
  refine (fixed _).mono ?_
  rintro e w1 ⟨rfl, n1⟩
  have N1 := Lib.hid n1
  clear n1
  go_wp2_with fail
  refine (few_ w1 _ rl (H0.out.1.new N1.out) hn).mono ?_
  rintro e w2 ⟨ok, rfl, hok, n2⟩
  have N2 := Lib.hid (N1.out.trans n2 fun _ _ => id)
  have HOK := Lib.hid hok
  clear N1 n2 hok
  cases ok with
  | false =>
    go_wp2_with fail
    go_ret
    exact ⟨rfl, N2.out⟩
  | true =>
    go_wp2_with fail
    refine (few_ w2 _ rm (H0.out.2.new N2.out) hn2).mono ?_
    rintro e w3 ⟨ok, rfl, hok, n3⟩
    have N3 := Lib.hid (N2.out.trans n3 fun _ _ => id)
    have HOK2 := Lib.hid hok
    clear N2 n3 hok
    cases ok with
    | false =>
      go_wp2_with fail
      go_ret
      exact ⟨rfl, N3.out⟩
    | true =>
      have HFL := Lib.hid (show few100 rl by first | exact HOK.out rfl | exact HOK.out trivial)
      have HFM := Lib.hid (show few100 rm by first | exact HOK2.out rfl | exact HOK2.out trivial)
      have C := laid w3 _ rl 0 (H0.out.1.new N3.out) HFL.out (by omega)
      rw [Int.natCast_zero] at C
      have C := Lib.hid C
      clear HOK HOK2
      go_wp2_with fail
      refine C.out.mono ?_
      rintro e w4 ⟨b, vd, ve, rfl, h4, _, n4⟩
      have hs3 := N3.out.size
      have n4' := N3.out.trans n4 fun _ _ => id
      have hbx := Blk.new w4 22 #[.slice A1 L1 c1, .slice A2 L2 c2]
      have h5 := h4.new ((Chg.refl (fun _ => False) w4).alloc (.cells #[.slice A1 L1 c1, .slice A2 L2 c2] 22))
      have n5 := n4'.alloc (.cells #[.slice A1 L1 c1, .slice A2 L2 c2] 22)
      obtain ⟨s0, hs0⟩ : ∃ s0, endR rl (min 0 rl.length) = s0 := ⟨_, rfl⟩
      rw [hs0] at h5
      have H5 := Lib.hid (And.intro h5 (And.intro hbx n5))
      clear h4 n4 n4' hbx h5 n5 hs0 C
      obtain ⟨lo, hlo⟩ : ∃ lo, w3.heap.size = lo := ⟨_, rfl⟩
      rw [hlo] at H5 hs3
      clear hlo
      go_wp2_with fail
      go_loopw [4, 8, 9, 10, 12, 13, 14, 15, 35] (fun _ _ _ _ _ _ _ _ i wr => ∃ (k s : Nat) (vd : Value), k ≤ 2 ∧ i = .int .i64 k ∧ At wr lo b vd ⟨catR (if k = 0 then rl else rm), s⟩ ∧ Blk wr w4.heap.size 22 #[.slice A1 L1 c1, .slice A2 L2 c2] ∧ New w wr) (fun _ _ _ _ _ _ _ _ i _ => 2 - (intOf i).toNat)
      case atStart => exact ⟨0, s0, vd, by omega, rfl, H5.out.1, H5.out.2.1, H5.out.2.2⟩
      case round =>
        obtain ⟨k, s, vd, hk, rfl, hat, hbx, hnw⟩ := hrel
        generalize wr = wo at *
        clear H5
        by_cases hlt : k < 2
        · obtain ⟨rk, vk, hck, hRk, hfk, hdk⟩ : ∃ rk vk, (#[.slice A1 L1 c1, .slice A2 L2 c2] : Array Value)[k]? = some vk ∧ RecsR w vk rk ∧ few100 rk ∧ (if k = 0 then rl else rm) = rk := by
            match k, hlt with
            | 0, _ => exact ⟨rl, _, rfl, H0.out.1, HFL.out, rfl⟩
            | 1, _ => exact ⟨rm, _, rfl, H0.out.2, HFM.out, rfl⟩
          rw [hdk] at hat
          have hcell := (hbx.cell k).trans hck
          obtain ⟨A, c, rfl, hnc, _⟩ := id hRk.ex
          obtain ⟨n, hn⟩ : ∃ n, rk.length = n := ⟨_, rfl⟩
          have hn20 := hfk.1
          rw [hn] at hRk hnc hn20 hck hcell
          have HN := Lib.hid hn
          have HR := Lib.hid hRk
          have HF := Lib.hid hfk
          have HAT := Lib.hid (And.intro hat (And.intro hbx hnw))
          have hltp : (k : Int) < 2 := by omega
          clear hn hck hRk hfk hdk hat hbx hnw
          go_wp2_with fail
          go_loopw [9, 10, 12, 13, 41] (fun vw0 vp0 _ _ i w2 => ∃ (q : Nat) (vw vp : Value), vw = vw0 ∧ vp = vp0 ∧ q ≤ n ∧ i = .int .i64 q ∧ OwnB w2 wo.heap.size vw (catR (rk.take q)) ∧ PartsL wo.heap.size w2 wo.heap.size vp ((rk.take q).map pay) ∧ New wo w2) (fun _ _ _ _ i _ => n - (intOf i).toNat)
          case atStart => exact ⟨0, _, _, rfl, rfl, by omega, rfl, OwnB.nil, PartsL.nil _ _ _, Chg.refl _ _⟩
          case round =>
            obtain ⟨q, vw, vp, rfl, rfl, hq, rfl, hw, hp, hnr⟩ := hrel
            have hnww := HAT.out.2.2.trans hnr fun _ _ => id
            have hswr := hnr.size
            have hcl := few_len (few_take HF.out.few q)
            have hpl : ((rk.take q).map pay).length ≤ 20 := by rw [List.length_map, List.length_take]; omega
            by_cases hltq : q < n
            · obtain ⟨r, hr⟩ : ∃ r, rk[q]? = some r := ⟨_, List.getElem?_eq_getElem (by rw [HN.out]; omega)⟩
              have hrl := HF.out.2 r (List.mem_of_getElem? hr)
              obtain ⟨ad, A3, c3, rfl, hl3, hall⟩ := HR.out.rec_ hr
              have HT := Lib.hid (take_one hr)
              obtain ⟨kind, data⟩ := r
              simp only at hl3 hall hrl
              have hld := (hall wr hnww).1
              have m1 := (Chg.refl (fun _ => False) wr).alloc (.cells #[.int .u8 (kind.toNat : Int), .slice A3 data.length c3] 39)
              have m2 := m1.alloc (.cells #[.int .u8 (kind.toNat : Int)] 5)
              have ho := OwnB.lit (w := wr.alloc (.cells #[.int .u8 (kind.toNat : Int), .slice A3 data.length c3] 39)) (base := wr.heap.size) [kind] (by simp) (by simp [maxLen])
              rw [World.size_alloc] at ho
              have HO := Lib.hid (show OwnB ((wr.alloc (.cells #[.int .u8 (kind.toNat : Int), .slice A3 data.length c3] 39)).alloc (.cells #[.int .u8 (kind.toNat : Int)] 5)) wr.heap.size (.slice (some ⟨wr.heap.size + 1, 0, none⟩) 1 1) [kind] from ho)
              have HRD := Lib.hid (fun W hW => (hall W hW).2.2.2)
              have M2 := Lib.hid m2
              have HW := Lib.hid (And.intro hw (And.intro hp hnr))
              have HNW := Lib.hid hnww
              have HWP := Lib.hid (fun g (hg : vp.ownBlock = some g) => (hp.lt hg).2)
              have HC := Lib.hid (And.intro hcl hpl)
              clear hr hall m1 m2 ho hw hp hnr hnww hcl hpl
              obtain ⟨n3, hn3⟩ : ∃ n3, data.length = n3 := ⟨_, rfl⟩
              rw [hn3] at hl3 hrl hld HO HRD M2
              have HN3 := Lib.hid hn3
              clear hn3
              go_wp2_with (at_builtin; refine stop ?_)
              delta Stop
              refine append_u8 _ rfl _ _ rfl wr.heap.size _ [kind] rfl HO.out _ A3 n3 c3 data rfl (HRD.out _ (HNW.out.trans M2.out fun _ _ => id)) (by simp; omega) (by simp; omega) ?_
              intro vx w5 ox gx ax
              have m5 : New wr w5 := M2.out.grown gx fun g e hlt => by
                have := (own_lt HO.out e).1
                omega
              have s5 := m5.size
              have hw5 := own_chg HW.out.1 m5 fun _ _ => id
              have hp5 := HW.out.2.1.new m5
              obtain ⟨Ax, cx, hvx, hcx, _, _, hrx⟩ := OwnB.form (show OwnB w5 wr.heap.size vx (kind :: data) from ox)
              have hxl : (kind :: data).length = n3 + 1 := by rw [List.length_cons, HN3.out]
              have hpw := fun g (hg : vp.ownBlock = some g) => hp5.own_ne_u8 hw5 hg
              have hpx := fun g (hg : vp.ownBlock = some g) => hp5.own_ne_u8 (show OwnB w5 wr.heap.size vx (kind :: data) from ox) hg
              rw [hxl] at hvx hcx hrx
              subst hvx
              have hu5 : Part (w5.alloc (.cells #[.slice Ax (n3 + 1) cx] 36)) (fun b => wr.heap.size ≤ b ∧ b < w5.heap.size ∧ (Value.slice Ax (n3 + 1) cx).ownBlock = some b) (.slice Ax (n3 + 1) cx) (kind :: data) :=
                ⟨Ax, cx, by rw [hxl], by rw [hxl]; exact hcx, by rw [hxl]; exact hrx.chg' ((Chg.refl (fun _ => False) w5).alloc _) (fun _ _ => id) (by omega)⟩
              have H5 := Lib.hid (And.intro hw5 (And.intro hp5 (And.intro hu5 (And.intro hrx m5))))
              have HPW := Lib.hid (And.intro hpw hpx)
              have HXL := Lib.hid hxl
              clear ox gx ax m5 hw5 hp5 hrx hpw hpx hu5 hxl
              go_wp2_with (at_builtin; refine stop ?_)
              delta Stop
              refine Frame.append_part _ rfl _ _ rfl wo.heap.size vp ((rk.take q).map pay) rfl (H5.out.2.1.new ((Chg.refl (fun _ => False) w5).alloc _)) _ (kind :: data) _ H5.out.2.2.1 (fun g hg => ⟨by omega, by rw [World.size_alloc]; omega, fun e => HPW.out.2 g e hg.2.2⟩) _ 1 rfl (Reads.of_row (n := 1) (size := 1) (heap_alloc_new w5 _) (by simp)) (by have := HC.out.2; omega) (by rw [World.size_alloc]; omega) ?_
              intro vp6 w6 op6 g6 a6
              have c6 : Chg (fun g => vp.ownBlock = some g) w5 w6 := ((Chg.refl (fun g => vp.ownBlock = some g) w5).alloc _).grown g6 fun g e _ => e
              have hw6 := own_chg H5.out.1 c6 fun g hg e => HPW.out.1 g e hg
              have hx6 := H5.out.2.2.2.1.chg' c6 (fun g hg e => HPW.out.2 g e hg.2.2) (by omega)
              have n6 := HW.out.2.2.trans (H5.out.2.2.2.2) fun _ _ => id
              have n6 := n6.trans c6 fun g hg e => by have := (HW.out.2.1.lt e).1; omega
              have s6 := c6.size
              have ecat : catR (rk.take (q + 1)) = catR (rk.take q) ++ Frame.frameL (kind :: data) := by rw [HT.out, catR_append, catR_one]
              have emap : (rk.take (q + 1)).map pay = (rk.take q).map pay ++ [kind :: data] := by rw [HT.out, List.map_append]; rfl
              obtain ⟨Aw, cw, hvw, _, _, _, hrw⟩ := OwnB.form hw6
              obtain ⟨L, hL⟩ : ∃ L, (catR (rk.take q)).length = L := ⟨_, rfl⟩
              rw [hL] at hvw hrw
              have hLb : L ≤ 1009000 := by have := HC.out.1; omega
              subst hvw
              have C := Lib.hid (Frame.ref_put w6 _ _ Aw Ax L cw (n3 + 1) cx (catR (rk.take q)) (kind :: data) hrw hx6 (fun g hg => hg.2.1) (fun g hg => by omega) (by omega))
              have H6 := Lib.hid (And.intro op6 n6)
              have HE := Lib.hid (And.intro ecat emap)
              clear op6 g6 a6 c6 hw6 hx6 n6 ecat emap hrw hL
              go_wp2_with fail
              refine C.out.mono ?_
              rintro e w7 ⟨vw7, rfl, hw7, n7⟩
              have hp7 := H6.out.1.new n7
              have n7' := H6.out.2.trans n7 fun _ _ => id
              rw [← HE.out.1] at hw7
              rw [← HE.out.2] at hp7
              have H7 := Lib.hid (And.intro (own_mono hw7 (Nat.le_trans hswr (by omega) : wo.heap.size ≤ w6.heap.size)) (And.intro hp7 n7'))
              clear hw7 hp7 n7 n7'
              go_wp2_with fail
              go_roundw
              case rel => exact ⟨q + 1, vw7, vp6, rfl, rfl, by omega, by go_num, H7.out.1, H7.out.2.1, H7.out.2.2⟩
              case measure => simp [intOf]; omega
            · obtain rfl : q = n := by omega
              have htk : rk.take q = rk := List.take_of_length_le (by rw [HN.out]; omega)
              rw [htk] at hw hp hcl
              have hrd := read_cat HF.out.small
              have C := readD _ _ _ _ _ (HAT.out.1.new hnr)
              simp only [hrd] at C
              have C := Lib.hid C
              obtain ⟨L, hL⟩ : ∃ L, (catR rk).length = L := ⟨_, rfl⟩
              obtain ⟨Aw, cw, hvw, _, _, _, _⟩ := OwnB.form hw
              rw [hL] at hvw hcl
              subst hvw
              obtain ⟨Ap, cp, hvp⟩ := hp.form
              rw [List.length_map, HN.out] at hvp
              subst hvp
              have HL := Lib.hid hL
              have HW := Lib.hid (And.intro hw (And.intro hp.toR (And.intro (HAT.out.1.new hnr) (And.intro (HAT.out.2.1.chg hnr id) hnww))))
              clear hw hp hnr hnww htk hrd hL hpl
              go_wp2_with fail
              refine C.out.mono ?_
              rintro e w8 ⟨ug, rfl, hg, n8⟩
              obtain ⟨Ag, cg, hug, _, _⟩ := hg.toR.ex
              rw [HN.out] at hug
              subst hug
              have d8 := (Chg.refl (fun _ => False) w8).drew
              have n8d := n8.trans d8 fun _ _ => id
              have CS := Lib.hid (same_ w8.drew _ _ rk (hg.toR.new d8) (HW.out.2.1.new n8d) HF.out.few)
              have F := Lib.hid (fun W (hW : New w8.drew W) => own_str HW.out.1 (n8d.trans hW fun _ _ => id))
              have N8 := Lib.hid n8d
              clear hg n8 d8 n8d C
              go_wp2_with fail
              refine grow_start (fun _ => False) (by kernel_rfl) ?_
              refine grow_take (i := 0) (oi := { dst := some 64, op := Op.move (Operand.tmp 15), type := 31, pos := "law.go:153", after := #[], guard := none }) (v := ?_) rfl (by kernel_rfl) (by kernel_rfl) (by kernel_rfl) (by rfl) ?_ ?_; rotate_left; focus ((intro W hW; go_simp) <;> with_reducible rfl)
              simp only [Act.put, List.setIfInBounds_toArray, List.set_cons_zero, List.set_cons_succ]
              refine grow_take (i := 1) (oi := { dst := some 65, op := Op.binOp BinOp.neq 31 (Operand.tmp 64) (Operand.const (Value.int IntKind.i64 0)) 31, type := 4, pos := "law.go:153", after := #[{ on := 0, ground := Ground.data }], guard := none }) (v := ?_) rfl (by kernel_rfl) (by kernel_rfl) (by kernel_rfl) (by rfl) ?_ ?_; rotate_left; focus ((intro W hW; have fct := F.out W hW; go_simp) <;> with_reducible rfl)
              simp only [Act.put, List.setIfInBounds_toArray, List.set_cons_zero, List.set_cons_succ]
              refine grow_take (i := 2) (oi := { dst := some 66, op := Op.move (Operand.tmp 65), type := 4, pos := "law.go:153", after := #[{ on := 1, ground := Ground.data }], guard := none }) (v := ?_) rfl (by kernel_rfl) (by kernel_rfl) (by kernel_rfl) (by rfl) ?_ ?_; rotate_left; focus ((intro W hW; go_simp) <;> with_reducible rfl)
              simp only [Act.put, List.setIfInBounds_toArray, List.set_cons_zero, List.set_cons_succ]
              first | (refine grow_take (i := 3) (oi := { dst := some 67, op := Op.move (Operand.tmp 14), type := 22, pos := "law.go:153", after := #[{ on := 2, ground := Ground.guard }], guard := some (2, false) }) (v := ?_) rfl (by kernel_rfl) (by kernel_rfl) (by kernel_rfl) (by rfl) ?_ ?_; rotate_left; focus ((intro W hW; go_simp) <;> with_reducible rfl)) | refine grow_skip (i := 3) (oi := { dst := some 67, op := Op.move (Operand.tmp 14), type := 22, pos := "law.go:153", after := #[{ on := 2, ground := Ground.guard }], guard := some (2, false) }) rfl (by kernel_rfl) (by kernel_rfl) (by kernel_rfl) (by rfl) ?_ | fail "op 3"
              simp only [Act.put, List.setIfInBounds_toArray, List.set_cons_zero, List.set_cons_succ]
              first | (refine grow_take (i := 4) (oi := { dst := some 68, op := Op.move (Operand.tmp 10), type := 37, pos := "law.go:153", after := #[{ on := 2, ground := Ground.guard }], guard := some (2, false) }) (v := ?_) rfl (by kernel_rfl) (by kernel_rfl) (by kernel_rfl) (by rfl) ?_ ?_; rotate_left; focus ((intro W hW; go_simp) <;> with_reducible rfl)) | refine grow_skip (i := 4) (oi := { dst := some 68, op := Op.move (Operand.tmp 10), type := 37, pos := "law.go:153", after := #[{ on := 2, ground := Ground.guard }], guard := some (2, false) }) rfl (by kernel_rfl) (by kernel_rfl) (by kernel_rfl) (by rfl) ?_ | fail "op 4"
              simp only [Act.put, List.setIfInBounds_toArray, List.set_cons_zero, List.set_cons_succ]
              refine grow_next (i := 5) (oi := { dst := some 69, op := Op.call { callee := Callee.value (Operand.func 14), args := #[Operand.tmp 67, Operand.tmp 68], argTypes := #[22, 37] }, type := 4, pos := "law.go:153", after := #[{ on := 3, ground := Ground.data }, { on := 4, ground := Ground.data }, { on := 2, ground := Ground.chain }, { on := 2, ground := Ground.guard }], guard := some (2, false) }) (by kernel_rfl) rfl (by rfl) (fun K hK => ?_)
              go_simp
              refine CS.out.mono ?_
              rintro e w9 ⟨rfl, n9⟩
              refine hK _ _ n9 ?_
              clear hK K
              try simp only [Act.put, List.setIfInBounds_toArray, List.set_cons_zero, List.set_cons_succ]
              have F9 := Lib.hid (fun W (hW : New w9 W) => F.out W (n9.trans hW fun _ _ => id))
              have N9 := Lib.hid (N8.out.trans n9 fun _ _ => id)
              have CB := Lib.hid (Disk.bytes _ _ _ _ _ (HW.out.2.2.1.new N9.out))
              clear n9
              first | (refine grow_take (i := 6) (oi := { dst := some 70, op := Op.unOp UnOp.not 4 (Operand.tmp 69), type := 4, pos := "law.go:153", after := #[{ on := 5, ground := Ground.data }, { on := 2, ground := Ground.guard }], guard := some (2, false) }) (v := ?_) rfl (by kernel_rfl) (by kernel_rfl) (by kernel_rfl) (by rfl) ?_ ?_; rotate_left; focus ((intro W hW; have fct := F9.out W hW; go_simp) <;> with_reducible rfl)) | refine grow_skip (i := 6) (oi := { dst := some 70, op := Op.unOp UnOp.not 4 (Operand.tmp 69), type := 4, pos := "law.go:153", after := #[{ on := 5, ground := Ground.data }, { on := 2, ground := Ground.guard }], guard := some (2, false) }) rfl (by kernel_rfl) (by kernel_rfl) (by kernel_rfl) (by rfl) ?_ | fail "op 6"
              simp only [Act.put, List.setIfInBounds_toArray, List.set_cons_zero, List.set_cons_succ]
              refine grow_take (i := 7) (oi := { dst := some 71, op := Op.pick (Operand.tmp 66) (Operand.const (Value.bool true)) (Operand.tmp 70), type := 4, pos := "law.go:153", after := #[{ on := 2, ground := Ground.data }, { on := 6, ground := Ground.data }], guard := none }) (v := ?_) rfl (by kernel_rfl) (by kernel_rfl) (by kernel_rfl) (by rfl) ?_ ?_; rotate_left; focus ((intro W hW; go_simp) <;> with_reducible rfl)
              simp only [Act.put, List.setIfInBounds_toArray, List.set_cons_zero, List.set_cons_succ]
              refine grow_take (i := 8) (oi := { dst := some 72, op := Op.move (Operand.tmp 71), type := 4, pos := "law.go:153", after := #[{ on := 7, ground := Ground.data }, { on := 5, ground := Ground.chain }], guard := none }) (v := ?_) rfl (by kernel_rfl) (by kernel_rfl) (by kernel_rfl) (by rfl) ?_ ?_; rotate_left; focus ((intro W hW; go_simp) <;> with_reducible rfl)
              simp only [Act.put, List.setIfInBounds_toArray, List.set_cons_zero, List.set_cons_succ]
              first | (refine grow_take (i := 9) (oi := { dst := some 73, op := Op.move (Operand.tmp 5), type := 26, pos := "law.go:153", after := #[{ on := 8, ground := Ground.guard }], guard := some (8, false) }) (v := ?_) rfl (by kernel_rfl) (by kernel_rfl) (by kernel_rfl) (by rfl) ?_ ?_; rotate_left; focus ((intro W hW; go_simp) <;> with_reducible rfl)) | refine grow_skip (i := 9) (oi := { dst := some 73, op := Op.move (Operand.tmp 5), type := 26, pos := "law.go:153", after := #[{ on := 8, ground := Ground.guard }], guard := some (8, false) }) rfl (by kernel_rfl) (by kernel_rfl) (by kernel_rfl) (by rfl) ?_ | fail "op 9"
              simp only [Act.put, List.setIfInBounds_toArray, List.set_cons_zero, List.set_cons_succ]
              first | (refine grow_take (i := 12) (oi := { dst := some 76, op := Op.move (Operand.tmp 9), type := 36, pos := "law.go:153", after := #[{ on := 8, ground := Ground.guard }], guard := some (8, false) }) (v := ?_) rfl (by kernel_rfl) (by kernel_rfl) (by kernel_rfl) (by rfl) ?_ ?_; rotate_left; focus ((intro W hW; go_simp) <;> with_reducible rfl)) | refine grow_skip (i := 12) (oi := { dst := some 76, op := Op.move (Operand.tmp 9), type := 36, pos := "law.go:153", after := #[{ on := 8, ground := Ground.guard }], guard := some (8, false) }) rfl (by kernel_rfl) (by kernel_rfl) (by kernel_rfl) (by rfl) ?_ | fail "op 12"
              simp only [Act.put, List.setIfInBounds_toArray, List.set_cons_zero, List.set_cons_succ]
              first | (refine grow_take (i := 13) (oi := { dst := some 77, op := Op.convert 36 9 (Operand.tmp 76), type := 9, pos := "law.go:153", after := #[{ on := 12, ground := Ground.data }, { on := 8, ground := Ground.guard }], guard := some (8, false) }) (v := ?_) rfl (by kernel_rfl) (by kernel_rfl) (by kernel_rfl) (by rfl) ?_ ?_; rotate_left; focus ((intro W hW; have fct := F9.out W hW; go_simp) <;> with_reducible rfl)) | refine grow_skip (i := 13) (oi := { dst := some 77, op := Op.convert 36 9 (Operand.tmp 76), type := 9, pos := "law.go:153", after := #[{ on := 12, ground := Ground.data }, { on := 8, ground := Ground.guard }], guard := some (8, false) }) rfl (by kernel_rfl) (by kernel_rfl) (by kernel_rfl) (by rfl) ?_ | fail "op 13"
              simp only [Act.put, List.setIfInBounds_toArray, List.set_cons_zero, List.set_cons_succ]
              refine grow_next (i := 10) (oi := { dst := some 74, op := Op.call { callee := Callee.value (Operand.func 15), args := #[Operand.tmp 73], argTypes := #[26] }, type := 36, pos := "law.go:153", after := #[{ on := 9, ground := Ground.data }, { on := 8, ground := Ground.chain }, { on := 8, ground := Ground.guard }], guard := some (8, false) }) (by kernel_rfl) rfl (by rfl) (fun K hK => ?_)
              go_simp
              refine CB.out.mono ?_
              rintro e w10 ⟨u10, rfl, o10, n10⟩
              refine hK _ _ n10 ?_
              clear hK K
              try simp only [Act.put, List.setIfInBounds_toArray, List.set_cons_zero, List.set_cons_succ]
              have F10 := Lib.hid (fun W (hW : New w10 W) => And.intro (own_str o10 hW) (F9.out W (n10.trans hW fun _ _ => id)))
              have N10 := Lib.hid (N9.out.trans n10 fun _ _ => id)
              have CZ := size w10 _ rk ((HR.out.new HW.out.2.2.2.2).new N10.out) HF.out.few
              rw [HL.out] at CZ
              have CZ := Lib.hid CZ
              clear o10 n10
              first | (refine grow_take (i := 11) (oi := { dst := some 75, op := Op.convert 36 9 (Operand.tmp 74), type := 9, pos := "law.go:153", after := #[{ on := 10, ground := Ground.data }, { on := 8, ground := Ground.guard }], guard := some (8, false) }) (v := ?_) rfl (by kernel_rfl) (by kernel_rfl) (by kernel_rfl) (by rfl) ?_ ?_; rotate_left; focus ((intro W hW; have fct := F10.out W hW; go_simp) <;> with_reducible rfl)) | refine grow_skip (i := 11) (oi := { dst := some 75, op := Op.convert 36 9 (Operand.tmp 74), type := 9, pos := "law.go:153", after := #[{ on := 10, ground := Ground.data }, { on := 8, ground := Ground.guard }], guard := some (8, false) }) rfl (by kernel_rfl) (by kernel_rfl) (by kernel_rfl) (by rfl) ?_ | fail "op 11"
              simp only [Act.put, List.setIfInBounds_toArray, List.set_cons_zero, List.set_cons_succ]
              first | (refine grow_take (i := 14) (oi := { dst := some 78, op := Op.binOp BinOp.neq 9 (Operand.tmp 75) (Operand.tmp 77) 9, type := 4, pos := "law.go:153", after := #[{ on := 11, ground := Ground.data }, { on := 13, ground := Ground.data }, { on := 8, ground := Ground.guard }], guard := some (8, false) }) (v := ?_) rfl (by kernel_rfl) (by kernel_rfl) (by kernel_rfl) (by rfl) ?_ ?_; rotate_left; focus ((intro W hW; have fct := F10.out W hW; go_simp) <;> with_reducible rfl)) | refine grow_skip (i := 14) (oi := { dst := some 78, op := Op.binOp BinOp.neq 9 (Operand.tmp 75) (Operand.tmp 77) 9, type := 4, pos := "law.go:153", after := #[{ on := 11, ground := Ground.data }, { on := 13, ground := Ground.data }, { on := 8, ground := Ground.guard }], guard := some (8, false) }) rfl (by kernel_rfl) (by kernel_rfl) (by kernel_rfl) (by rfl) ?_ | fail "op 14"
              simp only [Act.put, List.setIfInBounds_toArray, List.set_cons_zero, List.set_cons_succ]
              refine grow_take (i := 15) (oi := { dst := some 79, op := Op.pick (Operand.tmp 72) (Operand.const (Value.bool true)) (Operand.tmp 78), type := 4, pos := "law.go:153", after := #[{ on := 8, ground := Ground.data }, { on := 14, ground := Ground.data }], guard := none }) (v := ?_) rfl (by kernel_rfl) (by kernel_rfl) (by kernel_rfl) (by rfl) ?_ ?_; rotate_left; focus ((intro W hW; go_simp) <;> with_reducible rfl)
              simp only [Act.put, List.setIfInBounds_toArray, List.set_cons_zero, List.set_cons_succ]
              refine grow_take (i := 16) (oi := { dst := some 80, op := Op.move (Operand.tmp 79), type := 4, pos := "law.go:153", after := #[{ on := 15, ground := Ground.data }, { on := 10, ground := Ground.chain }], guard := none }) (v := ?_) rfl (by kernel_rfl) (by kernel_rfl) (by kernel_rfl) (by rfl) ?_ ?_; rotate_left; focus ((intro W hW; go_simp) <;> with_reducible rfl)
              simp only [Act.put, List.setIfInBounds_toArray, List.set_cons_zero, List.set_cons_succ]
              first | (refine grow_take (i := 17) (oi := { dst := some 81, op := Op.move (Operand.tmp 8), type := 22, pos := "law.go:153", after := #[{ on := 16, ground := Ground.guard }], guard := some (16, false) }) (v := ?_) rfl (by kernel_rfl) (by kernel_rfl) (by kernel_rfl) (by rfl) ?_ ?_; rotate_left; focus ((intro W hW; go_simp) <;> with_reducible rfl)) | refine grow_skip (i := 17) (oi := { dst := some 81, op := Op.move (Operand.tmp 8), type := 22, pos := "law.go:153", after := #[{ on := 16, ground := Ground.guard }], guard := some (16, false) }) rfl (by kernel_rfl) (by kernel_rfl) (by kernel_rfl) (by rfl) ?_ | fail "op 17"
              simp only [Act.put, List.setIfInBounds_toArray, List.set_cons_zero, List.set_cons_succ]
              first | (refine grow_take (i := 19) (oi := { dst := some 83, op := Op.move (Operand.tmp 9), type := 36, pos := "law.go:153", after := #[{ on := 16, ground := Ground.guard }], guard := some (16, false) }) (v := ?_) rfl (by kernel_rfl) (by kernel_rfl) (by kernel_rfl) (by rfl) ?_ ?_; rotate_left; focus ((intro W hW; go_simp) <;> with_reducible rfl)) | refine grow_skip (i := 19) (oi := { dst := some 83, op := Op.move (Operand.tmp 9), type := 36, pos := "law.go:153", after := #[{ on := 16, ground := Ground.guard }], guard := some (16, false) }) rfl (by kernel_rfl) (by kernel_rfl) (by kernel_rfl) (by rfl) ?_ | fail "op 19"
              simp only [Act.put, List.setIfInBounds_toArray, List.set_cons_zero, List.set_cons_succ]
              first | (refine grow_take (i := 20) (oi := { dst := some 84, op := Op.call { callee := Callee.builtin Builtin.len, args := #[Operand.tmp 83], argTypes := #[36] }, type := 3, pos := "law.go:153", after := #[{ on := 19, ground := Ground.data }, { on := 16, ground := Ground.guard }], guard := some (16, false) }) (v := ?_) rfl (by kernel_rfl) (by kernel_rfl) (by kernel_rfl) (by rfl) ?_ ?_; rotate_left; focus ((intro W hW; have fct := F10.out W hW; go_simp) <;> with_reducible rfl)) | refine grow_skip (i := 20) (oi := { dst := some 84, op := Op.call { callee := Callee.builtin Builtin.len, args := #[Operand.tmp 83], argTypes := #[36] }, type := 3, pos := "law.go:153", after := #[{ on := 19, ground := Ground.data }, { on := 16, ground := Ground.guard }], guard := some (16, false) }) rfl (by kernel_rfl) (by kernel_rfl) (by kernel_rfl) (by rfl) ?_ | fail "op 20"
              simp only [Act.put, List.setIfInBounds_toArray, List.set_cons_zero, List.set_cons_succ]
              refine grow_next (i := 18) (oi := { dst := some 82, op := Op.call { callee := Callee.value (Operand.func 16), args := #[Operand.tmp 81], argTypes := #[22] }, type := 3, pos := "law.go:153", after := #[{ on := 17, ground := Ground.data }, { on := 16, ground := Ground.chain }, { on := 16, ground := Ground.guard }], guard := some (16, false) }) (by kernel_rfl) rfl (by rfl) (fun K hK => ?_)
              go_simp
              refine CZ.out.mono ?_
              rintro e w11 ⟨rfl, n11⟩
              refine hK _ _ n11 ?_
              clear hK K
              try simp only [Act.put, List.setIfInBounds_toArray, List.set_cons_zero, List.set_cons_succ]
              have N11 := Lib.hid (N10.out.trans n11 fun _ _ => id)
              have F11 := Lib.hid (fun W (_ : New w11 W) => True.intro)
              clear n11
              first | (refine grow_take (i := 21) (oi := { dst := some 85, op := Op.binOp BinOp.neq 3 (Operand.tmp 82) (Operand.tmp 84) 3, type := 4, pos := "law.go:153", after := #[{ on := 18, ground := Ground.data }, { on := 20, ground := Ground.data }, { on := 16, ground := Ground.guard }], guard := some (16, false) }) (v := ?_) rfl (by kernel_rfl) (by kernel_rfl) (by kernel_rfl) (by rfl) ?_ ?_; rotate_left; focus ((intro W hW; have fct := F11.out W hW; go_simp) <;> with_reducible rfl)) | refine grow_skip (i := 21) (oi := { dst := some 85, op := Op.binOp BinOp.neq 3 (Operand.tmp 82) (Operand.tmp 84) 3, type := 4, pos := "law.go:153", after := #[{ on := 18, ground := Ground.data }, { on := 20, ground := Ground.data }, { on := 16, ground := Ground.guard }], guard := some (16, false) }) rfl (by kernel_rfl) (by kernel_rfl) (by kernel_rfl) (by rfl) ?_ | fail "op 21"
              simp only [Act.put, List.setIfInBounds_toArray, List.set_cons_zero, List.set_cons_succ]
              refine grow_take (i := 22) (oi := { dst := some 86, op := Op.pick (Operand.tmp 80) (Operand.const (Value.bool true)) (Operand.tmp 85), type := 4, pos := "law.go:153", after := #[{ on := 16, ground := Ground.data }, { on := 21, ground := Ground.data }], guard := none }) (v := ?_) rfl (by kernel_rfl) (by kernel_rfl) (by kernel_rfl) (by rfl) ?_ ?_; rotate_left; focus ((intro W hW; go_simp) <;> with_reducible rfl)
              simp only [Act.put, List.setIfInBounds_toArray, List.set_cons_zero, List.set_cons_succ]
              refine grow_done (by kernel_rfl) ?_ _
              have n11 := HW.out.2.2.2.2.trans N11.out fun _ _ => id
              have CR := Lib.hid (rewrite _ _ _ _ _ (HW.out.2.2.1.new N11.out) _ rm (H0.out.2.new n11) HFM.out.few)
              have H11 := Lib.hid (And.intro (HW.out.2.2.1.new N11.out) (And.intro (HW.out.2.2.2.1.chg N11.out id) n11))
              clear n11
              go_wp2_with fail
              refine CR.out.mono ?_
              rintro e w12 ⟨rfl, v12, h12, c12, _⟩
              have b12 := H11.out.2.1.chg c12 fun e => by
                rcases e with e | e
                · exact H11.out.2.1.ne_ H11.out.1.blk (by decide) e
                · exact own_ne H11.out.1.own H11.out.2.1 (by decide) e
              have n12 := H11.out.2.2.trans c12 fun g hg e => by have := up_foot H11.out.1 e; omega
              have H12 := Lib.hid (And.intro h12 (And.intro b12 n12))
              clear h12 b12 n12 c12
              go_wp2_with fail
              go_roundw
              case rel => exact ⟨k + 1, _, v12, by omega, by go_num, H12.out.1, H12.out.2.1, H12.out.2.2⟩
              case measure => simp [intOf]; omega
        · obtain rfl : k = 2 := by omega
          have HNW := Lib.hid hnw
          clear hat hbx hnw
          go_wp2_with fail
          go_ret
          exact ⟨rfl, HNW.out⟩
theorem writes_args {H : Type} {enc : TypeId × Value → H} {W : World} {base : Nat} {args : Array Value} {ds : List (DataW H)} {ps : List MemPlace}
    (hval : ∀ (j : Nat) t v, Try.f4.params[j]? = some t → args[j]? = some v → Value.okWide Try.prog W .any base t v)
    (hw : ∀ (j : Nat) t d, Try.f4.params.toList[j]? = some t → ds[j]? = some d → ∀ n ∈ d.weights Try.prog t, n ≤ reachBytes)
    (hA : DataW.TrodAll enc Try.prog W 0 (fun _ => true) true Try.f4.params.toList args.toList ds ps) :
    Calls Try.prog 4 args W fun e w' => LawEnd W e w' := by
  rw [Try.params4] at hA hval hw
  obtain ⟨v0, v1, d0, d1, p0, p1, rfl, rfl, rfl, h0, h1⟩ := trodAll_two hA
  have o0 := hval 0 _ v0 rfl rfl
  have q0 := hw 0 _ d0 rfl rfl
  have o1 := hval 1 _ v1 rfl rfl
  have q1 := hw 1 _ d1 rfl rfl
  obtain ⟨rl, hr, hn⟩ := open_recs (cells_slice Try.underlying22 o0) q0 h0
  obtain ⟨rm, hr2, hn2⟩ := open_recs (cells_slice Try.underlying22 o1) q1 h1
  exact writes W _ _ rl rm hr hr2 hn hn2
end Journal

namespace lawJournalWrites
theorem own : ownKnob Try.prog.godebug = none := by kernel_rfl
theorem laidOut : laidOutB Try.prog = true := by kernel_rfl
theorem reads : ∀ t ∈ Try.f4.params.toList, Try.prog.readableRec t = true ∧ t < Try.prog.types.size := by
  have h : (Try.f4.params.toList.all fun t => Try.prog.readableRec t && decide (t < Try.prog.types.size)) = true := by kernel_rfl
  intro t ht
  have := List.all_eq_true.1 h t ht
  simpa using this
theorem spec {H : Type} (ds : List (DataW H)) (h : ds.length = 2) : Rows.journalWritesSpec.fn H ds = { results := [.lit (.bool true)], args := ds } := by
  match ds, h with
  | [d1, d2], _ => rfl
theorem trodAll_len {H : Type} {enc : TypeId × Value → H} {P : Program} {w : World} {base : Nat} {sp : Nat → Bool} {held : Bool} : ∀ (ts : List TypeId) (vs : List Value) (ds : List (DataW H)) (ps : List MemPlace),
    DataW.TrodAll enc P w base sp held ts vs ds ps → ds.length = ts.length
  | [], _, _, _, h => by
    obtain ⟨_, rfl, _⟩ := trodAll_nil h
    rfl
  | _ :: ts, _, _, _, h => by
    obtain ⟨_, vs, _, ds, _, _, _, rfl, _, _, hr⟩ := trodAll_cons h
    simp [trodAll_len ts vs ds _ hr]
theorem contract (H : Type) (enc : TypeId × Value → H) (W : World) (base : Nat) (args : Array Value) (ds gs : List (DataW H)) (before : List MemPlace)
    (hval : ∀ (j : Nat) t v, Try.f4.params[j]? = some t → args[j]? = some v → Value.okWide Try.prog W .any base t v)
    (hW : DataW.Whole enc Try.prog Try.f4.params.toList Rows.journalWritesSpec.vars false W args.toList ds gs before)
    (hz : (DataW.weightsEach Try.prog (Try.f4.params.toList ++ Rows.journalWritesSpec.plain.varTypes Try.prog) (ds ++ gs)).all (· ≤ reachBytes) = true) :
    Calls Try.prog 4 args W fun e W' => ∃ v, e = .returned v ∧ Rows.journalWritesSpec.post enc Try.prog Try.f4 false true false false W args v W' := by
  obtain ⟨p, q, hA, hV, _⟩ := id hW
  have hlen : ds.length = 2 := (trodAll_len _ _ _ _ hA).trans (by kernel_rfl)
  have hV1 : DataW.TrodVars enc Try.prog W (fun _ => true) [] gs q := hV
  obtain ⟨rfl, rfl⟩ := trodVars_none hV1
  have hw : ∀ (j : Nat) t d, Try.f4.params.toList[j]? = some t → ds[j]? = some d → ∀ n ∈ d.weights Try.prog t, n ≤ reachBytes := by
    intro j t d ht hd n hn
    rw [List.append_nil] at hz
    have hlt : j < Try.f4.params.toList.length := (List.getElem?_eq_some_iff.1 ht).1
    have := List.all_eq_true.1 hz n (DataW.weights_mem_each (by rw [List.getElem?_append_left hlt]; exact ht) hd n hn)
    simpa using this
  refine (Journal.writes_args hval hw hA).mono fun e W' ⟨he, hn⟩ => ?_
  exact ⟨_, he, law_post laidOut (tb := 4) rfl Try.underlying4 reads rfl hW (spec ds hlen) hn.below⟩
set_option maxRecDepth 100000 in
theorem lifted (os : Os) (started : os.Started) (H : Type) (enc : TypeId × Value → H) :
    ReturnsInHanded {} Try.checked os 4 .any (Rows.journalWritesSpec.pre6 enc Try.prog Try.f4 Rows.journalWritesRow.domain false) (Rows.journalWritesSpec.post enc Try.prog Try.f4 false true false false) := by
  refine returnsInHanded_of_change_sized (C := Try.checked) own started (by kernel_rfl) Try.func4
    (ChangeSpec.witness6 (enc := enc) (C := Try.checked) (s := Rows.journalWritesSpec) false ⟨#[], #[.slice none 0 0, .slice none 0 0], []⟩ 60 (by kernel_rfl) (by kernel_rfl) (by kernel_rfl) (by kernel_rfl)) ?_
  intro W base args ds gs before hval hW _ hz _
  exact contract H enc W base args ds gs before hval hW hz
theorem proved : Rows.JournalWritesSaid :=
  OpenClaim.holds_of_wide 4 Try.f4 rfl rfl rfl rfl rfl rfl rfl ⟨rfl, rfl, rfl, rfl, rfl⟩ rfl rfl rfl rfl rfl (by kernel_rfl) Try.func4 (by kernel_rfl)
    (of_decide_eq_true (by kernel_rfl)) (by unfold Func.isWrapper; first | (rw [if_pos (by decide +kernel)]; kernel_rfl) | (rw [if_neg (by decide +kernel)]; exact ⟨rfl, rfl⟩))
    (fun os started H enc _ => lifted os started H enc)
end lawJournalWrites
end Go.Proofs.Ythgpphedpegbgaa

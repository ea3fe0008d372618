/-
  hedgerowlaw38.MerkleOrder returns true for every input: in whatever order keys come the root is the same; of like keys and sums nothing is unlike (no condition).
-/
import Derived.Test.YtoddgakhiaokaaaMerkleRight
import Derived.Test.YtoddgakhiaokaaaKeysI
namespace Go.Proofs.Ytoddgakhiaokaaa
open Go.ChangeShapes Go.WideShapes Go.RowKit Go.Maps Go.Deep
namespace Merkle
theorem loadOnly0 (p : Value) : Instr.loadAt 29 p = LoadRowV 29 p := rfl
attribute [local go_sem ↓] loadOnly0
theorem diff_same {T U : Lv} (h : sumAt T 0 0 = sumAt U 0 0) : diffF T U = ([], 1) := by
  have hu : unlike T U 0 [0] = [] := by simp [unlike, h]
  unfold diffF
  rw [diffGo, hu, spread_nil, diffGo_nil]
  rfl
theorem later_succ (a : Int × Nat) {r : List (Int × Nat)} {p : Nat} {b : Int × Nat} (h : r[p]? = some b) : laterB a (r.take (p + 1)) = (laterB a (r.take p) || (decide (b.1 = a.1) && decide (b.2 ≠ 0))) := by
  rw [List.take_add_one, h, laterB, List.any_append]
  simp [laterB]
theorem Two.mono {w W : World} {B b2 n k : Nat} {g1 g2 : Nat → Nat} {T U : Lv} (h : Two w W B b2 g1 g2 n T U) (hk : n ≤ k) : Two w W B b2 g1 g2 k T U := ⟨h.a.mono hk, h.b.mono hk, h.new, h.lo, h.lt, h.apart⟩
theorem put_drop (L : Int → Option Int) (x : Int) (s : Nat) (y : Int) : upd (putL L (x, s)) x none y = if y = x then none else L y := by
  unfold upd
  split
  · rfl
  · rename_i h
    unfold putL
    split
    · rw [upd, if_neg h]
    · rfl
def AX (w : World) (A : Option Addr) (l : List (Int × Nat)) : Prop := ∀ k a, l[k]? = some a → ActAt w A k a.1 a.2
set_option pp.deepTerms true in
set_option maxHeartbeats 8000000 in
set_option maxRecDepth 100000 in
theorem order (w : World) (A A' : Option Addr) (n0 c0 n1 c1 : Nat) (hc0 : n0 ≤ c0) (hb0 : c0 ≤ 140737488351232) (hb1 : n1 ≤ 140737488351232) (l m : List (Int × Nat)) (hl : l.length = n0) (hm : m.length = n1) (ax : AX w A l) (am : AX w A' m) :
    Calls Try.prog 5 #[.slice A n0 c0, .slice A' n1 c1] w fun e w' => LawEnd w e w' := by
  have HX := Lib.hid (And.intro ax (And.intro am (And.intro hl hm)))
  clear ax am hl hm
  by_cases hbig : 60 < (n0 : Int)
  · go_enter Try.func5, Try.ntmps5
    go_wp2_with fail
    refine (fixed _).mono ?_
    rintro e w1 ⟨rfl, n1⟩
    go_wp2
    go_ret
    exact ⟨rfl, n1⟩
  have hd0 : decide (60 < (n0 : Int)) = false := by simp; omega
  by_cases hbig1 : 60 < (n1 : Int)
  · go_enter Try.func5, Try.ntmps5
    go_wp2_with fail
    refine (fixed _).mono ?_
    rintro e w1 ⟨rfl, n1⟩
    go_wp2
    go_ret
    exact ⟨rfl, n1⟩
  have hd1 : decide (60 < (n1 : Int)) = false := by simp; omega
  go_enter Try.func5, Try.ntmps5
  go_wp2_with fail
  refine (fixed _).mono ?_
  rintro e w1 ⟨rfl, k1⟩
  go_wp2_with fail
  refine (new_ _).mono ?_
  rintro e w2 ⟨g1, rfl, t1, k2⟩
  go_wp2_with fail
  refine (new_ _).mono ?_
  rintro e w3 ⟨g2, rfl, t2, k3⟩
  have hn1 := k1.size
  have hb1 := t1.blk.lt
  have st : Two w w3 w1.heap.size w2.heap.size g1 g2 0 nilT nilT := ⟨t1.new k3, t2, (k1.trans k2 fun _ _ => id).trans k3 fun _ _ => id, hn1, hb1, foot_lt t1⟩
  clear k1 k2 k3 t1 t2 hn1 hb1
  obtain ⟨B, hB⟩ : ∃ B, w1.heap.size = B := ⟨_, rfl⟩
  obtain ⟨b2, hb2⟩ : ∃ b2, w2.heap.size = b2 := ⟨_, rfl⟩
  rw [hB, hb2] at st
  rw [hB, hb2]
  clear hB hb2 hd0 hd1
  go_wp2_with fail
  go_loopw [8, 35] (fun _ iv wr => ∃ (i : Nat) (T : Lv), i ≤ n0 ∧ iv = .int .i64 i ∧ Right T ∧ T 4 = (l.take i).foldl putL noL ∧ Two w wr B b2 g1 g2 (5 * i) T nilT) (fun _ iv _ => n0 - (intOf iv).toNat)
  case atStart => exact ⟨0, nilT, by omega, rfl, right_nil, rfl, st⟩
  case round =>
    clear st
    obtain ⟨i, T, hi, rfl, rt, ht4, st⟩ := hrel
    by_cases hlt : i < n0
    · obtain ⟨a, ha⟩ : ∃ a, l[i]? = some a := ⟨_, List.getElem?_eq_getElem (by have := HX.out.2.2.1; omega)⟩
      obtain ⟨⟨hx1, hx2⟩, hs, ad, rfl, hload, _⟩ := HX.out.1 i a ha
      have hfold : (l.take (i + 1)).foldl putL noL = putL ((l.take i).foldl putL noL) a := by rw [List.take_add_one, ha]; simp
      obtain ⟨x, s⟩ := a
      have hld := hload wr st.new
      have m1 := (Chg.refl (fun _ => False) wr).alloc (.cells #[.int .i64 x, .int .u32 (s : Int)] 29)
      have hbx := Blk.new wr 29 #[.int .i64 x, .int .u32 (s : Int)]
      have st1 := st.news m1
      have C := Lib.hid (put_any _ _ _ _ _ _ st1.a x s hs (by omega))
      have c0 := hbx.cell 0
      have c1 := hbx.cell 1
      simp only [List.getElem?_toArray, List.getElem?_cons_zero, List.getElem?_cons_succ] at c0 c1
      have S := Lib.hid (And.intro st1 (And.intro (putS_right rt x s) (hfold ▸ ht4 ▸ putS_leaf T x s)))
      clear hload st m1 hbx st1 hfold rt ht4 ha
      go_wp2_with fail
      refine C.out.mono ?_
      rintro e w4 ⟨r, rfl, h4, c4⟩
      have st4 := Lib.hid (S.out.1.one h4 c4)
      clear C c0 c1 h4 c4 hld
      go_wp2_with fail
      go_roundw
      case rel => exact ⟨i + 1, putS T x s, by omega, by go_num, S.out.2.1, S.out.2.2, st4.out⟩
      case measure => simp [intOf]; omega
    · obtain rfl : i = n0 := by omega
      rw [List.take_of_length_le (by have := HX.out.2.2.1; omega)] at ht4
      have H1 := Lib.hid (And.intro rt (And.intro ht4 st))
      clear rt ht4 st
      go_wp2_with fail
      go_loopw [9, 10, 12] (fun iv _ _ wr => ∃ (j : Nat) (U : Lv), j ≤ i ∧ iv = .int .i64 ((j : Int) - 1) ∧ Right U ∧ U 4 = (l.drop j).foldl putL noL ∧ Two w wr B b2 g1 g2 (5 * i + 5 * (i - j)) T U) (fun iv _ _ _ => (intOf iv + 1).toNat)
      case atStart => exact ⟨i, nilT, by omega, by go_num, right_nil, by rw [List.drop_of_length_le (by have := HX.out.2.2.1; omega)]; rfl, by rw [Nat.sub_self]; exact H1.out.2.2⟩
      case round =>
        obtain ⟨j, U, hj, rfl, ru, hu4, st⟩ := hrel
        by_cases hlt : 0 < j
        · obtain ⟨q, rfl⟩ : ∃ q, j = q + 1 := ⟨j - 1, by omega⟩
          rw [show (((q + 1 : Nat) : Int) - 1) = (q : Int) by omega]
          obtain ⟨a, ha⟩ : ∃ a, l[q]? = some a := ⟨_, List.getElem?_eq_getElem (by have := HX.out.2.2.1; omega)⟩
          obtain ⟨⟨hx1, hx2⟩, hs, ad, rfl, _, hcell⟩ := HX.out.1 q a ha
          have hback : (l.drop q).foldl putL noL = if laterB a (l.drop (q + 1)) then (l.drop (q + 1)).foldl putL noL else putL ((l.drop (q + 1)).foldl putL noL) a := by
            rw [← fold_back]
            congr 1
            rw [List.drop_eq_getElem_cons (by have := HX.out.2.2.1; omega)]
            congr 1
            exact (List.getElem?_eq_some_iff.1 ha).2
          obtain ⟨ti, hti⟩ := Option.map_eq_some_iff.1 (show (Try.prog.info? 29).map (·.size) = some 2 by kernel_rfl)
          have hsl := run_slice_from (P := Try.prog) Try.underlying22 hti.1 (some ad) i c0 (q + 1) (by omega)
          rw [hti.2, show ((q + 1 : Nat) : Int) = (q : Int) + 1 by omega] at hsl
          obtain ⟨A2, hA2⟩ : ∃ A2, (if c0 = q + 1 then some ad else (some ad).map (·.add ((q + 1) * 2))) = A2 := ⟨_, rfl⟩
          rw [hA2] at hsl
          have H2 := Lib.hid (And.intro ru (And.intro hu4 (And.intro st (And.intro hback hA2))))
          have hqi : (q : Int) < i := by omega
          have HC := Lib.hid (And.intro hcell ha)
          clear ru hu4 st hback hA2 hti hcell ha
          go_wp2_with fail
          go_loopw [10, 12, 58] (fun fv _ pv wp => ∃ p : Nat, p ≤ i - (q + 1) ∧ pv = .int .i64 p ∧ fv = .bool (laterB a ((l.drop (q + 1)).take p)) ∧ New wr wp) (fun _ _ pv _ => i - (q + 1) - (intOf pv).toNat)
          case atStart => exact ⟨0, by omega, rfl, rfl, Chg.refl _ _⟩
          case round =>
            obtain ⟨p, hp, rfl, rfl, np⟩ := hrel
            generalize wr = wp at *
            by_cases hlt : p < i - (q + 1)
            · obtain rfl : A2 = some (ad.add ((q + 1) * 2)) := by rw [← H2.out.2.2.2.2, if_neg (by omega), Option.map_some]
              obtain ⟨b, hb⟩ : ∃ b, (l.drop (q + 1))[p]? = some b := ⟨_, List.getElem?_eq_getElem (by rw [List.length_drop]; have := HX.out.2.2.1; omega)⟩
              have hb' : l[q + 1 + p]? = some b := by rw [← hb, List.getElem?_drop]
              obtain ⟨_, hs', ad', had, hload, _⟩ := HX.out.1 _ b hb'
              injection had with had
              subst had
              have nw := H2.out.2.2.1.new.trans np fun _ _ => id
              have hld := hload wp nw
              rw [show ad.add ((q + 1 + p) * 2) = (ad.add ((q + 1) * 2)).add (p * 2) by rw [add_of_add]; congr 1; omega] at hld
              have hsuc := later_succ a hb
              obtain ⟨bx, bs⟩ := b
              obtain ⟨z, hz⟩ : ∃ z : Int, (bs : Int) = z := ⟨_, rfl⟩
              simp only [hz] at hld
              have hbz : decide (bs ≠ 0) = decide (z ≠ 0) := decide_eq_decide.2 (by omega)
              simp only [hbz] at hsuc
              have m1 := (Chg.refl (fun _ => False) wp).alloc (.cells #[.int .i64 bx, .int .u32 z] 29)
              have hbx := Blk.new wp 29 #[.int .i64 bx, .int .u32 z]
              have c0' := hbx.cell 0
              have c1' := hbx.cell 1
              simp only [List.getElem?_toArray, List.getElem?_cons_zero, List.getElem?_cons_succ] at c0' c1'
              have ka := (HC.out.1 _ (nw.trans m1 fun _ _ => id)).1
              have HN := Lib.hid (And.intro (np.trans m1 fun _ _ => id) hsuc)
              have hpi : (p : Int) < i - (q + 1) := by omega
              have hpi2 : p < i - (q + 1) := by omega
              clear np nw m1 hbx hload hsuc hb hb'
              obtain ⟨f, hf⟩ : ∃ f, laterB a ((l.drop (q + 1)).take p) = f := ⟨_, rfl⟩
              have HF := Lib.hid hf
              rw [hf]
              clear hf
              obtain ⟨ax, hax⟩ : ∃ ax, a.1 = ax := ⟨_, rfl⟩
              rw [hax] at ka HN
              have HAX := Lib.hid hax
              clear hax hz hbz hx1 hx2
              cases f
              · by_cases he : bx = ax
                · have e1 : (bx == ax) = true := by simpa using he
                  have e2 : decide (bx = ax) = true := by simpa using he
                  by_cases h0 : z = 0
                  · have z1 : (z != 0) = false := by simpa using h0
                    have z2 : decide (z = 0) = true := by simpa using h0
                    have HE := Lib.hid (And.intro e2 z2)
                    clear he h0
                    go_wp2_with fail
                    go_quiet (fail)
                    go_wp2_with fail
                    go_roundw
                    case rel => exact ⟨p + 1, by omega, by go_num, by rw [HN.out.2, HF.out]; first | rfl | simp [HE.out.1, HE.out.2], HN.out.1.drewN _⟩
                    case measure => simp [intOf]; omega
                  · have z1 : (z != 0) = true := by simpa using h0
                    have z2 : decide (z = 0) = false := by simpa using h0
                    have HE := Lib.hid (And.intro e2 z2)
                    clear he h0
                    go_wp2_with fail
                    go_quiet (fail)
                    go_wp2_with fail
                    go_roundw
                    case rel => exact ⟨p + 1, by omega, by go_num, by rw [HN.out.2, HF.out]; first | rfl | simp [HE.out.1, HE.out.2], HN.out.1.drewN _⟩
                    case measure => simp [intOf]; omega
                · have e1 : (bx == ax) = false := by simpa using he
                  have e2 : decide (bx = ax) = false := by simpa using he
                  have HE := Lib.hid e2
                  clear he
                  go_wp2_with fail
                  go_quiet (fail)
                  go_wp2_with fail
                  go_roundw
                  case rel => exact ⟨p + 1, by omega, by go_num, by rw [HN.out.2, HF.out]; first | rfl | simp [HE.out], HN.out.1.drewN _⟩
                  case measure => simp [intOf]; omega
              · go_wp2_with fail
                go_quiet (fail)
                go_wp2_with fail
                go_roundw
                case rel => exact ⟨p + 1, by omega, by go_num, by rw [HN.out.2, HF.out]; first | rfl | simp, HN.out.1.drewN _⟩
                case measure => simp [intOf]; omega
            · obtain rfl : p = i - (q + 1) := by omega
              rw [List.take_of_length_le (by rw [List.length_drop]; have := HX.out.2.2.1; omega)]
              have HN := Lib.hid np
              clear np
              generalize wp = w5 at *
              obtain ⟨f, hf⟩ : ∃ f, laterB a (l.drop (q + 1)) = f := ⟨_, rfl⟩
              rw [hf]
              have hback := H2.out.2.2.2.1
              rw [hf] at hback
              have st5 := H2.out.2.2.1.news HN.out
              have H5 := Lib.hid (And.intro hback st5)
              clear hf hback st5
              cases f
              · have C := Lib.hid (put_any _ _ _ _ _ _ ((H5.out.2.news (Chg.refl _ w5).drew).b) a.1 a.2 hs (by omega))
                have F := Lib.hid (fun W (hW : Chg (Foot g2) w5.drew W) => by
                  have := HC.out.1 W ((H5.out.2.new.drew).trans hW fun g hg e => by
                    obtain ⟨l, hl, rfl⟩ := e
                    have := H5.out.2.b.low.2 l hl
                    have := H5.out.2.lo
                    have := H5.out.2.lt
                    omega)
                  exact And.intro this.1 (show W.cell? ⟨(ad.add (q * 2)).block, (ad.add (q * 2)).off + 1, none⟩ = some (.int .u32 (a.2 : Int)) from this.2))
                go_wp2_with fail
                refine grow_start (Foot g2) (by kernel_rfl) ?_
                refine grow_take (i := 0) (oi := { dst := some 81, op := Op.move (Operand.tmp 6), type := 26, pos := "law.go:107", after := #[], guard := none }) (v := ?_) rfl (by kernel_rfl) (by kernel_rfl) (by kernel_rfl) (by rfl) ?_ ?_; rotate_left; focus ((intro W hW; go_simp) <;> with_reducible rfl)
                simp only [Act.put, List.setIfInBounds_toArray, List.set_cons_zero, List.set_cons_succ]
                refine grow_take (i := 1) (oi := { dst := some 82, op := Op.move (Operand.tmp 0), type := 22, pos := "law.go:107", after := #[], guard := none }) (v := ?_) rfl (by kernel_rfl) (by kernel_rfl) (by kernel_rfl) (by rfl) ?_ ?_; rotate_left; focus ((intro W hW; go_simp) <;> with_reducible rfl)
                simp only [Act.put, List.setIfInBounds_toArray, List.set_cons_zero, List.set_cons_succ]
                refine grow_take (i := 2) (oi := { dst := some 83, op := Op.move (Operand.tmp 9), type := 3, pos := "law.go:107", after := #[], guard := none }) (v := ?_) rfl (by kernel_rfl) (by kernel_rfl) (by kernel_rfl) (by rfl) ?_ ?_; rotate_left; focus ((intro W hW; go_simp) <;> with_reducible rfl)
                simp only [Act.put, List.setIfInBounds_toArray, List.set_cons_zero, List.set_cons_succ]
                refine grow_take (i := 3) (oi := { dst := some 84, op := Op.indexAddr 22 (Operand.tmp 82) (Operand.tmp 83), type := 0, pos := "law.go:107", after := #[{ on := 1, ground := Ground.data }, { on := 2, ground := Ground.data }], guard := none }) (v := ?_) rfl (by kernel_rfl) (by kernel_rfl) (by kernel_rfl) (by rfl) ?_ ?_; rotate_left; focus ((intro W hW; have fct := F.out W hW; go_simp) <;> with_reducible rfl)
                simp only [Act.put, List.setIfInBounds_toArray, List.set_cons_zero, List.set_cons_succ]
                refine grow_take (i := 4) (oi := { dst := some 85, op := Op.fieldAddr 29 (Operand.tmp 84) 0, type := 0, pos := "law.go:107", after := #[{ on := 3, ground := Ground.data }], guard := none }) (v := ?_) rfl (by kernel_rfl) (by kernel_rfl) (by kernel_rfl) (by rfl) ?_ ?_; rotate_left; focus ((intro W hW; go_simp) <;> with_reducible rfl)
                simp only [Act.put, List.setIfInBounds_toArray, List.set_cons_zero, List.set_cons_succ]
                refine grow_take (i := 5) (oi := { dst := some 86, op := Op.load 3 (Operand.tmp 85), type := 3, pos := "law.go:107", after := #[{ on := 4, ground := Ground.data }], guard := none }) (v := ?_) rfl (by kernel_rfl) (by kernel_rfl) (by kernel_rfl) (by rfl) ?_ ?_; rotate_left; focus ((intro W hW; have fct := F.out W hW; go_simp) <;> with_reducible rfl)
                simp only [Act.put, List.setIfInBounds_toArray, List.set_cons_zero, List.set_cons_succ]
                refine grow_take (i := 6) (oi := { dst := some 87, op := Op.move (Operand.tmp 0), type := 22, pos := "law.go:107", after := #[], guard := none }) (v := ?_) rfl (by kernel_rfl) (by kernel_rfl) (by kernel_rfl) (by rfl) ?_ ?_; rotate_left; focus ((intro W hW; go_simp) <;> with_reducible rfl)
                simp only [Act.put, List.setIfInBounds_toArray, List.set_cons_zero, List.set_cons_succ]
                refine grow_take (i := 7) (oi := { dst := some 88, op := Op.move (Operand.tmp 9), type := 3, pos := "law.go:107", after := #[], guard := none }) (v := ?_) rfl (by kernel_rfl) (by kernel_rfl) (by kernel_rfl) (by rfl) ?_ ?_; rotate_left; focus ((intro W hW; go_simp) <;> with_reducible rfl)
                simp only [Act.put, List.setIfInBounds_toArray, List.set_cons_zero, List.set_cons_succ]
                refine grow_take (i := 8) (oi := { dst := some 89, op := Op.indexAddr 22 (Operand.tmp 87) (Operand.tmp 88), type := 0, pos := "law.go:107", after := #[{ on := 6, ground := Ground.data }, { on := 7, ground := Ground.data }], guard := none }) (v := ?_) rfl (by kernel_rfl) (by kernel_rfl) (by kernel_rfl) (by rfl) ?_ ?_; rotate_left; focus ((intro W hW; have fct := F.out W hW; go_simp) <;> with_reducible rfl)
                simp only [Act.put, List.setIfInBounds_toArray, List.set_cons_zero, List.set_cons_succ]
                refine grow_take (i := 9) (oi := { dst := some 90, op := Op.fieldAddr 29 (Operand.tmp 89) 1, type := 0, pos := "law.go:107", after := #[{ on := 8, ground := Ground.data }], guard := none }) (v := ?_) rfl (by kernel_rfl) (by kernel_rfl) (by kernel_rfl) (by rfl) ?_ ?_; rotate_left; focus ((intro W hW; go_simp) <;> with_reducible rfl)
                simp only [Act.put, List.setIfInBounds_toArray, List.set_cons_zero, List.set_cons_succ]
                refine grow_take (i := 10) (oi := { dst := some 91, op := Op.load 24 (Operand.tmp 90), type := 24, pos := "law.go:107", after := #[{ on := 9, ground := Ground.data }], guard := none }) (v := ?_) rfl (by kernel_rfl) (by kernel_rfl) (by kernel_rfl) (by rfl) ?_ ?_; rotate_left; focus ((intro W hW; have fct := F.out W hW; go_simp) <;> with_reducible rfl)
                simp only [Act.put, List.setIfInBounds_toArray, List.set_cons_zero, List.set_cons_succ]
                refine grow_next (i := 11) (oi := { dst := some 92, op := Op.call { callee := Callee.value (Operand.func 9), args := #[Operand.tmp 81, Operand.tmp 86, Operand.tmp 91], argTypes := #[26, 3, 24] }, type := 30, pos := "law.go:107", after := #[{ on := 0, ground := Ground.data }, { on := 5, ground := Ground.data }, { on := 10, ground := Ground.data }], guard := none }) (by kernel_rfl) rfl (by rfl) (fun K hK => ?_)
                go_simp
                refine C.out.mono ?_
                rintro e w6 ⟨r6, rfl, h6, c6⟩
                refine hK _ _ c6 ?_
                clear hK K
                try simp only [Act.put, List.setIfInBounds_toArray, List.set_cons_zero, List.set_cons_succ]
                have st6 := Lib.hid ((H5.out.2.news (Chg.refl _ w5).drew).two h6 c6)
                refine grow_done (by kernel_rfl) ?_ _
                go_wp2_with fail
                go_roundw
                case rel => exact ⟨q, putS U a.1 a.2, by omega, by go_num, putS_right H2.out.1 _ _, by rw [H5.out.1, if_neg (by simp), putS_leaf, H2.out.2.1], st6.out.mono (by omega)⟩
                case measure => simp [intOf]
              · go_wp2_with fail
                go_roundw
                case rel => exact ⟨q, U, by omega, by go_num, H2.out.1, by rw [H5.out.1, if_pos rfl]; exact H2.out.2.1, H5.out.2.mono (by omega)⟩
                case measure => simp [intOf]
        · obtain rfl : j = 0 := by omega
          rw [List.drop_zero] at hu4
          have h4 : T 4 = U 4 := by rw [H1.out.2.1, hu4]
          have hsum := right_sum H1.out.1 ru h4 (l := 0) (by omega) 0
          have CD := diff wr (ptr B) (ptr b2) T U st.a.is st.b.is
          rw [diff_same hsum] at CD
          have CD := Lib.hid CD
          have H3 := Lib.hid (And.intro ru (And.intro h4 (And.intro st hsum)))
          rw [show (((0 : Nat) : Int) - 1) = -1 by omega]
          clear ru hu4 st h4 hsum
          go_wp2_with fail
          refine CD.out.mono ?_
          rintro e w6 ⟨v6, rfl, o6, n6⟩
          obtain ⟨A6, c6, rfl⟩ : ∃ A' c', v6 = .slice A' 0 c' := by
            rcases o6.2 with ⟨rfl, h0⟩ | ⟨g, cap, cur, rfl, _⟩
            · exact ⟨none, 0, rfl⟩
            · exact ⟨_, cap, rfl⟩
          have st6 := H3.out.2.2.1.news n6
          have C1 := root _ _ _ _ _ _ st6.a
          have C2 := root _ _ _ _ _ _ st6.b
          rw [H3.out.2.2.2] at C1
          obtain ⟨X, hX⟩ : ∃ X, sumAt U 0 0 = X := ⟨_, rfl⟩
          rw [hX] at C1 C2
          have C1 := Lib.hid C1
          have C2 := Lib.hid C2
          have H6 := Lib.hid st6
          clear st6 hX o6 n6 CD
          go_wp2_with fail
          refine C1.out.mono ?_
          rintro e w6' ⟨rfl, rfl⟩
          go_wp2_with fail
          refine C2.out.mono ?_
          rintro e w6' ⟨rfl, rfl⟩
          clear C1 C2
          go_wp2_with fail
          obtain ⟨K, hK⟩ : ∃ K, 5 * i + 5 * (i - 0) = K := ⟨_, rfl⟩
          have hK6 : K ≤ 600 := by omega
          rw [hK] at H6
          clear hK
          go_loopw [16, 115] (fun _ jv wr => ∃ (j : Nat) (T' : Lv), j ≤ n1 ∧ jv = .int .i64 j ∧ Right T' ∧ (∀ y, T' 4 y = U 4 y ∨ T' 4 y = none) ∧ Two w wr B b2 g1 g2 (K + 10 * j) T' U) (fun _ jv _ => n1 - (intOf jv).toNat)
          case atStart => exact ⟨0, T, by omega, rfl, H1.out.1, fun y => .inl (by rw [H3.out.2.1]), H6.out⟩
          case round =>
            clear H6
            obtain ⟨j, T', hj, rfl, rt', hsub, st⟩ := hrel
            generalize wr = wo at *
            by_cases hlt : j < n1
            · obtain ⟨a, ha⟩ : ∃ a, m[j]? = some a := ⟨_, List.getElem?_eq_getElem (by have := HX.out.2.2.2; omega)⟩
              obtain ⟨⟨hx1, hx2⟩, hs, ad, rfl, hload, _⟩ := HX.out.2.1 j a ha
              obtain ⟨x, s⟩ := a
              have hld := hload wo st.new
              have m1 := (Chg.refl (fun _ => False) wo).alloc (.cells #[.int .i64 x, .int .u32 (s : Int)] 29)
              have hbx := Blk.new wo 29 #[.int .i64 x, .int .u32 (s : Int)]
              have st1 := st.news m1
              have C := Lib.hid (put_any _ _ _ _ _ _ st1.a x s hs (by omega))
              have rt1 := putS_right rt' x s
              have c0 := hbx.cell 0
              have c1 := hbx.cell 1
              simp only [List.getElem?_toArray, List.getElem?_cons_zero, List.getElem?_cons_succ] at c0 c1
              have hfl := foot_lt st.a
              have S := Lib.hid (And.intro st1 (And.intro rt1 (And.intro hbx (And.intro hsub hfl))))
              clear hload st m1 hbx st1 rt' ha hsub rt1 hfl
              go_wp2_with fail
              refine C.out.mono ?_
              rintro e w7 ⟨r, rfl, h7, c7⟩
              have st7 := S.out.1.one h7 c7
              have c0 := (S.out.2.2.1.chg c7 (fun ⟨l, hl, e⟩ => by have := S.out.2.2.2.2 l hl; omega)).cell 0
              simp only [List.getElem?_toArray, List.getElem?_cons_zero] at c0
              have CD := Lib.hid (drop_any _ _ _ _ _ _ st7.a S.out.2.1 x hx1 hx2 (by omega))
              have S7 := Lib.hid st7
              clear C c1 h7 c7 hld st7
              go_wp2_with fail
              refine CD.out.mono ?_
              rintro e w8 ⟨rfl, h8, c8⟩
              have st8 := Lib.hid (S7.out.one h8 c8)
              clear CD c0 h8 c8
              go_wp2_with fail
              go_roundw
              case rel =>
                refine ⟨j + 1, dropS (putS T' x s) x, by omega, by go_num, dropS_right S.out.2.1 x, fun y => ?_, st8.out.mono (by omega)⟩
                rw [dropS_leaf S.out.2.1, putS_leaf, put_drop]
                split
                · exact .inr rfl
                · exact S.out.2.2.2.1 y
              case measure => simp [intOf]; omega
            · obtain rfl : j = n1 := by omega
              have CK := Lib.hid (keys _ _ _ _ _ _ st.b (by omega))
              have H7 := Lib.hid (And.intro rt' (And.intro hsub st))
              clear rt' hsub st
              go_wp2_with fail
              refine CK.out.mono ?_
              rintro e w9 ⟨v9, ks, rfl, o9, _, hmem, hkl, n9⟩
              have hfl := foot_lt H7.out.2.2.a
              have st9 := H7.out.2.2.news n9
              obtain ⟨N, hN⟩ : ∃ N, ks.length = N := ⟨_, rfl⟩
              have hNb : N ≤ 1300 := by omega
              have ho := o9
              unfold OwnI at ho
              rw [hN] at ho
              obtain ⟨A9, c9, rfl⟩ : ∃ A' c', v9 = .slice A' N c' := by
                rcases ho.2 with ⟨rfl, h0⟩ | ⟨g, cap, cur, rfl, _⟩
                · exact ⟨none, 0, by rw [h0]⟩
                · exact ⟨_, cap, rfl⟩
              have H9 := Lib.hid (And.intro st9 (And.intro ho (And.intro hmem (And.intro hfl hN))))
              clear st9 ho o9 hmem hfl n9 hN CK
              go_wp2_with fail
              go_loopw [18, 19, 133] (fun _ _ pv wr => ∃ (p : Nat) (T'' : Lv), p ≤ N ∧ pv = .int .i64 p ∧ Right T'' ∧ (∀ y, T'' 4 y = U 4 y ∨ (T'' 4 y = none ∧ y ∉ ks.take p)) ∧ Two w wr B b2 g1 g2 (K + 10 * j + 5 * p) T'' U ∧ wr.ownsRow wo.heap.size 3 1 (.slice A9 N c9) N (ints ks)) (fun _ _ pv _ => N - (intOf pv).toNat)
              case atStart => exact ⟨0, T', by omega, rfl, H7.out.1, fun y => (H7.out.2.1 y).imp id fun h => ⟨h, by simp⟩, H9.out.1, H9.out.2.1⟩
              case round =>
                obtain ⟨p, T'', hp, rfl, rt'', hsub, st, ho⟩ := hrel
                by_cases hlt : p < N
                · obtain ⟨x, hx⟩ : ∃ x, ks[p]? = some x := ⟨_, List.getElem?_eq_getElem (by have := H9.out.2.2.2.2; omega)⟩
                  obtain ⟨g, c', hvv, _, _⟩ := World.ownsRow.form ho (by omega)
                  injection hvv with h1 h2 h3
                  subst h1 h3
                  clear h2
                  have hc := World.ownsRow.cellAt ho p (by omega)
                  rw [ints_get, hx] at hc
                  have hc : wr.cell? ⟨g, p, none⟩ = some (.int .i64 x) := hc
                  have hxm := (H9.out.2.2.1 x).1 (List.mem_of_getElem? hx)
                  obtain ⟨c, hcU⟩ : ∃ c, U 4 x = some c := Option.isSome_iff_exists.1 hxm.2
                  obtain ⟨hx0, hx1, hc0'⟩ := H3.out.1.leaf x c hcU
                  have hck := st.b.kind (l := 4) (by omega) hcU
                  obtain ⟨y, rfl⟩ := Int.eq_ofNat_of_zero_le hx0
                  obtain ⟨s, rfl⟩ := Int.eq_ofNat_of_zero_le hck.1
                  have CN := node _ _ _ _ _ _ st.b 4 (by omega) y (by simp; omega)
                  rw [show sumAt U 4 (y : Int) = (s : Int) by unfold sumAt; rw [hcU]; rfl] at CN
                  have CN := Lib.hid (show Calls Try.prog 10 #[ptr b2, .int .i64 4, .int .i64 (y : Int)] wr fun e w' => e = .returned (.tuple #[.int .u32 (s : Int), .bool true]) ∧ wr = w' from CN)
                  have CP := Lib.hid (put_any _ _ _ _ _ _ st.a (y : Int) s (by omega) (by omega))
                  have hpN : (p : Int) < N := by omega
                  have htk : ks.take (p + 1) = ks.take p ++ [(y : Int)] := by rw [List.take_add_one, hx]; rfl
                  have HS := Lib.hid (And.intro rt'' (And.intro hsub (And.intro st (And.intro ho (And.intro htk (And.intro hcU (And.intro hx0 (And.intro hx1 hc0'))))))))
                  clear rt'' hsub st ho htk hcU hxm hx hck
                  go_wp2_with fail
                  refine CN.out.mono ?_
                  rintro e w10 ⟨rfl, rfl⟩
                  go_wp2_with fail
                  refine CP.out.mono ?_
                  rintro e w11 ⟨r, rfl, h11, c11⟩
                  have st11 := HS.out.2.2.1.one h11 c11
                  have ho11 := own_chg HS.out.2.2.2.1 c11 (fun k hk ⟨l, hl, e⟩ => by
                    have := (own_lt HS.out.2.2.2.1 hk).1
                    have := H9.out.2.2.2.1 l hl
                    omega)
                  have H11 := Lib.hid (And.intro st11 ho11)
                  clear st11 ho11 h11 c11 CN CP hc
                  go_wp2_with fail
                  go_roundw
                  case rel =>
                    refine ⟨p + 1, putS T'' (y : Int) s, by omega, by go_num, putS_right HS.out.1 _ _, fun z => ?_, H11.out.1.mono (by omega), H11.out.2⟩
                    rw [putS_leaf, HS.out.2.2.2.2.1]
                    have hp := HS.out.2.2.2.2.2
                    unfold putL
                    rw [if_pos ⟨hp.2.1, hp.2.2.1, by omega⟩, upd]
                    by_cases ez : z = (y : Int)
                    · rw [if_pos ez, ez, hp.1]
                      exact .inl rfl
                    · rw [if_neg ez]
                      refine (HS.out.2.1 z).imp id fun h => ⟨h.1, ?_⟩
                      rw [List.mem_append]
                      intro e
                      rcases e with e | e
                      · exact h.2 e
                      · exact ez (by simpa using e)
                  case measure => simp [intOf]; omega
                · obtain rfl : p = N := by omega
                  have h4 : T'' 4 = U 4 := by
                    funext y
                    rcases hsub y with h | ⟨h, hn⟩
                    · exact h
                    · rw [List.take_of_length_le (by have := H9.out.2.2.2.2; omega)] at hn
                      cases hy : U 4 y with
                      | none => exact h
                      | some c =>
                        have := H3.out.1.leaf y c hy
                        exact absurd ((H9.out.2.2.1 y).2 ⟨inI64 (by omega) (by omega), by rw [hy]; rfl⟩) hn
                  have hsum := right_sum rt'' H3.out.1 h4 (l := 0) (by omega) 0
                  have C1 := root _ _ _ _ _ _ st.a
                  have C2 := root _ _ _ _ _ _ st.b
                  rw [hsum] at C1
                  obtain ⟨Y, hY⟩ : ∃ Y, sumAt U 0 0 = Y := ⟨_, rfl⟩
                  rw [hY] at C1 C2
                  have C1 := Lib.hid C1
                  have C2 := Lib.hid C2
                  have HZ := Lib.hid st.new
                  clear st hY hsum h4 rt'' hsub ho
                  go_wp2_with fail
                  refine C1.out.mono ?_
                  rintro e w12 ⟨rfl, rfl⟩
                  go_wp2_with fail
                  refine C2.out.mono ?_
                  rintro e w12 ⟨rfl, rfl⟩
                  go_wp2_with fail
                  go_ret
                  exact ⟨rfl, HZ.out⟩
theorem order_args {H : Type} {enc : TypeId × Value → H} {W : World} {base : Nat} {args : Array Value} {ds : List (DataW H)} {ps : List MemPlace}
    (hval : ∀ (j : Nat) t v, Try.f5.params[j]? = some t → args[j]? = some v → Value.okWide Try.prog W .any base t v)
    (hw : ∀ (j : Nat) t d, Try.f5.params.toList[j]? = some t → ds[j]? = some d → ∀ n ∈ d.weights Try.prog t, n ≤ reachBytes)
    (hA : DataW.TrodAll enc Try.prog W 0 (fun _ => true) true Try.f5.params.toList args.toList ds ps) :
    Calls Try.prog 5 args W fun e w' => LawEnd W e w' := by
  rw [Try.params5] at hA hval hw
  obtain ⟨v0, v1, d0, d1, p0, p1, rfl, rfl, rfl, h0, h1⟩ := trodAll_two hA
  have o0 := hval 0 _ v0 rfl rfl
  have q0 := hw 0 _ d0 rfl rfl
  have o1 := hval 1 _ v1 rfl rfl
  have q1 := hw 1 _ d1 rfl rfl
  obtain ⟨A, n0, c0, rfl, hn0, hc0, hact0⟩ := open_acts (cells_slice Try.underlying22 o0) q0 h0
  obtain ⟨A', n1, c1, rfl, hn1, hc1, hact1⟩ := open_acts (cells_slice Try.underlying22 o1) q1 h1
  obtain ⟨l, hl, ax⟩ := choose_acts hact0
  obtain ⟨m, hm, am⟩ := choose_acts hact1
  exact order W A A' n0 c0 n1 c1 hn0 hc0 (by omega) l m hl hm ax am
end Merkle

namespace lawMerkleOrder
theorem own : ownKnob Try.prog.godebug = none := by kernel_rfl
theorem laidOut : laidOutB Try.prog = true := by kernel_rfl
theorem reads : ∀ t ∈ Try.f5.params.toList, Try.prog.readableRec t = true ∧ t < Try.prog.types.size := by
  have h : (Try.f5.params.toList.all fun t => Try.prog.readableRec t && decide (t < Try.prog.types.size)) = true := by kernel_rfl
  intro t ht
  have := List.all_eq_true.1 h t ht
  simpa using this
theorem spec {H : Type} (ds : List (DataW H)) (h : ds.length = 2) : Rows.merkleOrderSpec.fn H ds = { results := [.lit (.bool true)], args := ds } := by
  match ds, h with
  | [d1, d2], _ => rfl
theorem trodAll_len {H : Type} {enc : TypeId × Value → H} {P : Program} {w : World} {base : Nat} {sp : Nat → Bool} {held : Bool} : ∀ (ts : List TypeId) (vs : List Value) (ds : List (DataW H)) (ps : List MemPlace),
    DataW.TrodAll enc P w base sp held ts vs ds ps → ds.length = ts.length
  | [], _, _, _, h => by
    obtain ⟨_, rfl, _⟩ := trodAll_nil h
    rfl
  | _ :: ts, _, _, _, h => by
    obtain ⟨_, vs, _, ds, _, _, _, rfl, _, _, hr⟩ := trodAll_cons h
    simp [trodAll_len ts vs ds _ hr]
theorem contract (H : Type) (enc : TypeId × Value → H) (W : World) (base : Nat) (args : Array Value) (ds gs : List (DataW H)) (before : List MemPlace)
    (hval : ∀ (j : Nat) t v, Try.f5.params[j]? = some t → args[j]? = some v → Value.okWide Try.prog W .any base t v)
    (hW : DataW.Whole enc Try.prog Try.f5.params.toList Rows.merkleOrderSpec.vars false W args.toList ds gs before)
    (hz : (DataW.weightsEach Try.prog (Try.f5.params.toList ++ Rows.merkleOrderSpec.plain.varTypes Try.prog) (ds ++ gs)).all (· ≤ reachBytes) = true) :
    Calls Try.prog 5 args W fun e W' => ∃ v, e = .returned v ∧ Rows.merkleOrderSpec.post enc Try.prog Try.f5 false true false false W args v W' := by
  obtain ⟨p, q, hA, hV, _⟩ := id hW
  have hlen : ds.length = 2 := (trodAll_len _ _ _ _ hA).trans (by kernel_rfl)
  have hV1 : DataW.TrodVars enc Try.prog W (fun _ => true) [] gs q := hV
  obtain ⟨rfl, rfl⟩ := trodVars_none hV1
  have hw : ∀ (j : Nat) t d, Try.f5.params.toList[j]? = some t → ds[j]? = some d → ∀ n ∈ d.weights Try.prog t, n ≤ reachBytes := by
    intro j t d ht hd n hn
    rw [List.append_nil] at hz
    have hlt : j < Try.f5.params.toList.length := (List.getElem?_eq_some_iff.1 ht).1
    have := List.all_eq_true.1 hz n (DataW.weights_mem_each (by rw [List.getElem?_append_left hlt]; exact ht) hd n hn)
    simpa using this
  refine (Merkle.order_args hval hw hA).mono fun e W' ⟨he, hn⟩ => ?_
  exact ⟨_, he, law_post laidOut (tb := 4) rfl Try.underlying4 reads rfl hW (spec ds hlen) hn.below⟩
set_option maxRecDepth 100000 in
theorem lifted (os : Os) (started : os.Started) (H : Type) (enc : TypeId × Value → H) :
    ReturnsInHanded {} Try.checked os 5 .any (Rows.merkleOrderSpec.pre6 enc Try.prog Try.f5 Rows.merkleOrderRow.domain false) (Rows.merkleOrderSpec.post enc Try.prog Try.f5 false true false false) := by
  refine returnsInHanded_of_change_sized (C := Try.checked) own started (by kernel_rfl) Try.func5
    (ChangeSpec.witness6 (enc := enc) (C := Try.checked) (s := Rows.merkleOrderSpec) false ⟨#[], #[.slice none 0 0, .slice none 0 0], []⟩ 60 (by kernel_rfl) (by kernel_rfl) (by kernel_rfl) (by kernel_rfl)) ?_
  intro W base args ds gs before hval hW _ hz _
  exact contract H enc W base args ds gs before hval hW hz
theorem proved : Rows.MerkleOrderSaid :=
  OpenClaim.holds_of_wide 5 Try.f5 rfl rfl rfl rfl rfl rfl rfl ⟨rfl, rfl, rfl, rfl, rfl⟩ rfl rfl rfl rfl rfl (by kernel_rfl) Try.func5 (by kernel_rfl)
    (of_decide_eq_true (by kernel_rfl)) (by unfold Func.isWrapper; first | (rw [if_pos (by decide +kernel)]; kernel_rfl) | (rw [if_neg (by decide +kernel)]; exact ⟨rfl, rfl⟩))
    (fun os started H enc _ => lifted os started H enc)
end lawMerkleOrder
end Go.Proofs.Ytoddgakhiaokaaa

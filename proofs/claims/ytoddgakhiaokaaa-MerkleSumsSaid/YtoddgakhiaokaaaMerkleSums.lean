/-
  hedgerowlaw38.MerkleSums returns true for every input: whatever keys come and go, each node's sum, and all keys, are what is reckoned of these alone (no condition).
-/
import Derived.Test.YtoddgakhiaokaaaMerkleNode
import Derived.Deep.CutBlock
import Derived.Deep.DeepCutAuto
namespace Go.Proofs.Ytoddgakhiaokaaa
open Go.ChangeShapes Go.WideShapes Go.RowKit Go.Maps Go.Deep
namespace Merkle
theorem loadOnly0 (p : Value) : Instr.loadAt 29 p = LoadRowV 29 p := rfl
attribute [local go_sem ↓] loadOnly0
theorem form_ints {w : World} {base : Nat} {v : Value} {l : List Int} (h : OwnI w base v l) : ∃ A c, v = .slice A l.length c := by
  rcases h.2 with ⟨rfl, h0⟩ | ⟨g, cap, cur, rfl, _⟩
  · exact ⟨none, 0, by rw [h0]⟩
  · exact ⟨_, cap, rfl⟩
def AX (w : World) (A : Option Addr) (l : List (Int × Nat)) : Prop := ∀ k a, l[k]? = some a → ActAt w A k a.1 a.2
set_option maxHeartbeats 40000000 in
set_option maxRecDepth 1000000 in
theorem sums (w : World) (A : Option Addr) (n0 c0 : Nat) (hb0 : n0 ≤ 140737488351232) (l : List (Int × Nat)) (hl : l.length = n0) (ax : AX w A l) (lv atv : Int) (hv1 : -9223372036854775808 ≤ lv) (hv2 : lv ≤ 9223372036854775807) (ha1 : -9223372036854775808 ≤ atv) (ha2 : atv ≤ 9223372036854775807) :
    Calls Try.prog 4 #[.slice A n0 c0, .int .i64 lv, .int .i64 atv] w fun e w' => LawEnd w e w' := by
  have HX := Lib.hid (And.intro ax hl)
  clear ax hl
  by_cases hbig : 30 < (n0 : Int)
  · go_enter Try.func4, Try.ntmps4
    go_wp2_with fail
    refine (fixed _).mono ?_
    rintro e w1 ⟨rfl, n1⟩
    go_wp2
    go_ret
    exact ⟨rfl, n1⟩
  have hd0 : decide (30 < (n0 : Int)) = false := by simp; omega
  have hmm := @run_makeMap Try.prog
  go_enter Try.func4, Try.ntmps4
  go_wp2_with fail
  refine (fixed _).mono ?_
  rintro e w1 ⟨rfl, k1⟩
  go_wp2_with fail
  refine (new_ _).mono ?_
  rintro e w2 ⟨g1, rfl, t1, k2⟩
  obtain ⟨B, hB⟩ : ∃ B, w1.heap.size = B := ⟨_, rfl⟩
  rw [hB] at t1 ⊢
  obtain ⟨gm, hgm⟩ : ∃ gm, w2.heap.size = gm := ⟨_, rfl⟩
  have m3 := (Chg.refl (fun _ => False) w2).alloc (.map #[] 0)
  have st : SS w (w2.alloc (.map #[] 0)) B g1 0 nilT gm 0 :=
    ⟨t1.new m3, by rw [← hgm]; exact MapAt.made w2, right_nil, (k1.trans k2 fun _ _ => id).trans m3 fun _ _ => id, by have := k1.size; omega, by have := k1.size; have := k2.size; omega, by have := t1.blk.lt; omega, fun l hl => by have := foot_lt t1 l hl; omega⟩
  clear k1 k2 t1 m3 hd0
  have HST := Lib.hid st
  clear st
  go_wp2_with fail
  go_loopw [10, 11, 12, 13, 31] (fun _ _ _ _ iv wr => ∃ (i : Nat) (T : Lv), i ≤ n0 ∧ iv = .int .i64 i ∧ SS w wr B g1 (5 * i) T gm i) (fun _ _ _ _ iv _ => n0 - (intOf iv).toNat)
  case atStart => exact ⟨0, nilT, by omega, rfl, HST.out⟩
  case round =>
    clear HST
    obtain ⟨i, T, hi, rfl, st⟩ := hrel
    by_cases hlt : i < n0
    · obtain ⟨a, ha⟩ : ∃ a, l[i]? = some a := ⟨_, List.getElem?_eq_getElem (by have := HX.out.2; omega)⟩
      obtain ⟨⟨hx1, hx2⟩, hs, ad, rfl, hload, _⟩ := HX.out.1 i a ha
      obtain ⟨x, s⟩ := a
      have hld := hload wr st.new
      obtain ⟨z, hz⟩ : ∃ z : Int, (s : Int) = z := ⟨_, rfl⟩
      simp only [hz] at hld
      have m1 := (Chg.refl (fun _ => False) wr).alloc (.cells #[.int .i64 x, .int .u32 z] 29)
      have hbx := Blk.new wr 29 #[.int .i64 x, .int .u32 z]
      have st1 := st.news m1
      have hfl := foot_lt st.a
      have c0' := hbx.cell 0
      have c1' := hbx.cell 1
      simp only [List.getElem?_toArray, List.getElem?_cons_zero, List.getElem?_cons_succ] at c0' c1'
      have hxb : -9223372036854775808 ≤ x ∧ x ≤ 9223372036854775807 := ⟨hx1, hx2⟩
      have hin64 : inKind .i64 x := inI64 hx1 hx2
      by_cases h0 : z = 0
      · have z1 : (z == 0) = true := by simpa using h0
        have hlk := st1.m.look_ok Try.underlying39 Try.underlying3 Try.underlying24 zero_u32 hin64
        have C := drop_any _ _ _ _ _ _ st1.a st1.r x hx1 hx2 (by omega)
        obtain ⟨q, hq⟩ : ∃ q, (T 4 x).isSome = q := ⟨_, rfl⟩
        rw [hq] at hlk C
        have C := Lib.hid C
        have S := Lib.hid (And.intro st1 (And.intro hbx (And.intro hfl hin64)))
        clear hload st m1 hbx st1 hfl ha hz h0 hq hin64 hs
        go_wp2_with fail
        refine C.out.mono ?_
        rintro e w4 ⟨rfl, h4, c4⟩
        have hm4 := S.out.1.map c4
        obtain ⟨w5, hdel, hm5, hc5⟩ := hm4.drop Try.underlying39 Try.underlying3 (x := x) S.out.2.2.2
        rw [← dropS_leaf S.out.1.r x] at hm5
        have S5 := Lib.hid (S.out.1.both h4 c4 hm5 (dropS_right S.out.1.r x) hc5)
        have c04 := (S.out.2.1.chg c4 (fun ⟨l, hl, e⟩ => by have := S.out.2.2.1 l hl; omega)).cell 0
        simp only [List.getElem?_toArray, List.getElem?_cons_zero] at c04
        clear hm4 hm5 hc5 h4 c4 C c0' c1' hld hlk
        cases q
        all_goals
          go_wp2_with fail
          go_roundw
          case rel => exact ⟨i + 1, dropS T x, by omega, by go_num, ⟨S5.out.a, S5.out.m.mono (by omega), S5.out.r, S5.out.new, S5.out.lo, S5.out.lg, S5.out.ne, S5.out.apart⟩⟩
          case measure => simp [intOf]; omega
      · have z1 : (z == 0) = false := by simpa using h0
        by_cases hin : 0 ≤ x ∧ x < 65536
        · obtain ⟨y, rfl⟩ := Int.eq_ofNat_of_zero_le hin.1
          have hp : putS T (y : Int) s = putF ns T (y : Int) (s : Int) := by unfold putS; rw [if_pos ⟨by omega, by omega, by omega⟩]
          have C := put_ok _ _ _ _ _ _ st1.a y s (by omega) (by omega) hs (by omega)
          rw [← hp, hz] at C
          have C := Lib.hid C
          have hy : (y : Int) < 65536 := by omega
          have S := Lib.hid (And.intro st1 (And.intro hbx (And.intro hfl (And.intro hin64 (And.intro hs hz)))))
          clear hload st m1 hbx st1 hfl ha h0 hin64 hz hp
          go_wp2_with fail
          refine C.out.mono ?_
          rintro e w4 ⟨rfl, h4, c4⟩
          have hm4 := S.out.1.map c4
          obtain ⟨w5, hst, hm5, hc5⟩ := hm4.store Try.underlying39 Try.underlying3 Try.underlying24 (by omega) (x := (y : Int)) (c := z) S.out.2.2.2.1 (by rw [← S.out.2.2.2.2.2]; have := S.out.2.2.2.2.1; exact inU32 (by omega) (by omega))
          have hl5 : upd (T 4) (y : Int) (some z) = putS T (y : Int) s 4 := by
            rw [putS_leaf, putL, if_pos ⟨by omega, by omega, fun e => by have := S.out.2.2.2.2.2; simp at z1; simp at e; omega⟩, ← S.out.2.2.2.2.2]
          rw [hl5] at hm5
          have S5 := Lib.hid (S.out.1.both h4 c4 hm5 (putS_right S.out.1.r _ s) hc5)
          have b4 := S.out.2.1.chg c4 (fun ⟨l, hl, e⟩ => by have := S.out.2.2.1 l hl; omega)
          have c04 := b4.cell 0
          have c14 := b4.cell 1
          simp only [List.getElem?_toArray, List.getElem?_cons_zero, List.getElem?_cons_succ] at c04 c14
          clear hm4 hm5 hc5 h4 c4 C c0' c1' hld hl5 b4
          go_wp2_with fail
          go_roundw
          case rel => exact ⟨i + 1, putS T (y : Int) s, by omega, by go_num, S5.out⟩
          case measure => simp [intOf]; omega
        · have C := Lib.hid (put_out (wr.alloc (.cells #[.int .i64 x, .int .u32 z] 29)) B x z (by omega))
          have S := Lib.hid st1
          clear hload st m1 hbx st1 hfl ha h0 hin64 hz hs
          by_cases hx0 : 0 ≤ x
          · have d1 : decide (0 ≤ x) = true := by simpa using hx0
            have d2 : decide (x < 65536) = false := by simp; omega
            clear hin hx0
            go_wp2_with fail
            refine C.out.mono ?_
            rintro e w4 ⟨rfl, rfl⟩
            go_wp2_with fail
            go_roundw
            case rel => exact ⟨i + 1, T, by omega, by go_num, ⟨S.out.a.mono (by omega), S.out.m.mono (by omega), S.out.r, S.out.new, S.out.lo, S.out.lg, S.out.ne, S.out.apart⟩⟩
            case measure => simp [intOf]; omega
          · have d1 : decide (0 ≤ x) = false := by simpa using hx0
            clear hin hx0
            go_wp2_with fail
            refine C.out.mono ?_
            rintro e w4 ⟨rfl, rfl⟩
            go_wp2_with fail
            go_roundw
            case rel => exact ⟨i + 1, T, by omega, by go_num, ⟨S.out.a.mono (by omega), S.out.m.mono (by omega), S.out.r, S.out.new, S.out.lo, S.out.lg, S.out.ne, S.out.apart⟩⟩
            case measure => simp [intOf]; omega
    · obtain rfl : i = n0 := by omega
      obtain ⟨n, hn⟩ : ∃ n, 5 * i = n := ⟨_, rfl⟩
      rw [hn] at st
      have hn6 : n ≤ 600 := by omega
      clear hn
      have CN := node_any _ _ _ _ _ st.a lv atv
      have CS := fun (h : inR lv atv = true) (W : World) (hW : New wr W) => lsum_any W gm i T (st.m.chg hW id) st.r lv atv h
      have hz := fun (h : inR lv atv = false) => inR_false (T := T) h
      obtain ⟨Z, hZ⟩ : ∃ Z, valR T lv atv = Z := ⟨_, rfl⟩
      rw [hZ] at CN
      simp only [hZ] at CS hz
      obtain ⟨q, hq⟩ : ∃ q, inR lv atv = q := ⟨_, rfl⟩
      rw [hq] at CN
      simp only [hq] at CS hz
      have CN := Lib.hid CN
      have HC := Lib.hid (And.intro CS hz)
      have HS := Lib.hid st
      clear st CS hz hZ
      go_wp2_with fail
      refine CN.out.mono ?_
      rintro e w5 ⟨rfl, rfl⟩
      clear CN
      go_upto_region 22 with fail
      go_cut [16] from 85 (fun v wx => v = .bool q ∧ wx = wr)
      case first =>
        by_cases hl0 : lv < 0
        · have e0 : decide (0 ≤ lv) = false := by simp; omega
          have : q = false := by rw [← hq, inR, e0]; rfl
          subst this
          clear hl0 hq
          go_wp2_with fail
          go_meet
          exact ⟨rfl, rfl⟩
        by_cases hl4 : 4 < lv
        · have e0 : decide (0 ≤ lv) = true := by simp; omega
          have e1 : decide (lv ≤ 4) = false := by simp; omega
          have : q = false := by rw [← hq, inR, e0, e1]; rfl
          subst this
          clear hl0 hl4 hq
          go_wp2_with fail
          go_meet
          exact ⟨rfl, rfl⟩
        by_cases hat : atv < 0
        · have e0 : decide (0 ≤ lv) = true := by simp; omega
          have e1 : decide (lv ≤ 4) = true := by simp; omega
          have e2 : decide (0 ≤ atv) = false := by simp; omega
          have : q = false := by rw [← hq, inR, e0, e1, e2]; rfl
          subst this
          clear hl0 hl4 hat hq
          go_wp2_with fail
          go_meet
          exact ⟨rfl, rfl⟩
        have h5 : lv = 0 ∨ lv = 1 ∨ lv = 2 ∨ lv = 3 ∨ lv = 4 := by omega
        rcases h5 with rfl | rfl | rfl | rfl | rfl
        · have hpw : wrap64 (2 ^ (4 * max (min (0 : Int) 4) 0).toNat) = 1 := by decide +kernel
          have hpw4 : wrap64 (2 ^ (4 * max (0 : Int) 0).toNat) = 1 := by decide +kernel
          have hqe : inR 0 atv = decide (atv < 1) := by
            have e2 : decide (0 ≤ atv) = true := by simp; omega
            first | (simp [inR, e2]; done) | (simp [inR, e2]; omega)
          rw [hq] at hqe
          have e2 : decide (0 ≤ atv) = true := by simp; omega
          clear hl0 hl4 hat hq
          subst hqe
          go_wp2_with fail
          go_meet
          exact ⟨rfl, rfl⟩
        · have hpw : wrap64 (2 ^ (4 * max (min (1 : Int) 4) 0).toNat) = 16 := by decide +kernel
          have hpw4 : wrap64 (2 ^ (4 * max (1 : Int) 0).toNat) = 16 := by decide +kernel
          have hqe : inR 1 atv = decide (atv < 16) := by
            have e2 : decide (0 ≤ atv) = true := by simp; omega
            first | (simp [inR, e2]; done) | (simp [inR, e2]; omega)
          rw [hq] at hqe
          have e2 : decide (0 ≤ atv) = true := by simp; omega
          clear hl0 hl4 hat hq
          subst hqe
          go_wp2_with fail
          go_meet
          exact ⟨rfl, rfl⟩
        · have hpw : wrap64 (2 ^ (4 * max (min (2 : Int) 4) 0).toNat) = 256 := by decide +kernel
          have hpw4 : wrap64 (2 ^ (4 * max (2 : Int) 0).toNat) = 256 := by decide +kernel
          have hqe : inR 2 atv = decide (atv < 256) := by
            have e2 : decide (0 ≤ atv) = true := by simp; omega
            first | (simp [inR, e2]; done) | (simp [inR, e2]; omega)
          rw [hq] at hqe
          have e2 : decide (0 ≤ atv) = true := by simp; omega
          clear hl0 hl4 hat hq
          subst hqe
          go_wp2_with fail
          go_meet
          exact ⟨rfl, rfl⟩
        · have hpw : wrap64 (2 ^ (4 * max (min (3 : Int) 4) 0).toNat) = 4096 := by decide +kernel
          have hpw4 : wrap64 (2 ^ (4 * max (3 : Int) 0).toNat) = 4096 := by decide +kernel
          have hqe : inR 3 atv = decide (atv < 4096) := by
            have e2 : decide (0 ≤ atv) = true := by simp; omega
            first | (simp [inR, e2]; done) | (simp [inR, e2]; omega)
          rw [hq] at hqe
          have e2 : decide (0 ≤ atv) = true := by simp; omega
          clear hl0 hl4 hat hq
          subst hqe
          go_wp2_with fail
          go_meet
          exact ⟨rfl, rfl⟩
        · have hpw : wrap64 (2 ^ (4 * max (min (4 : Int) 4) 0).toNat) = 65536 := by decide +kernel
          have hpw4 : wrap64 (2 ^ (4 * max (4 : Int) 0).toNat) = 65536 := by decide +kernel
          have hqe : inR 4 atv = decide (atv < 65536) := by
            have e2 : decide (0 ≤ atv) = true := by simp; omega
            first | (simp [inR, e2]; done) | (simp [inR, e2]; omega)
          rw [hq] at hqe
          have e2 : decide (0 ≤ atv) = true := by simp; omega
          clear hl0 hl4 hat hq
          subst hqe
          go_wp2_with fail
          go_meet
          exact ⟨rfl, rfl⟩
      case rest =>
        obtain ⟨rfl, rfl⟩ := hcut
        clear hq
        cases q
        · have hz := HC.out.2 rfl
          subst hz
          have CR := root _ _ _ _ _ _ HS.out.a
          have C0 := lsum0 _ _ _ _ HS.out.m HS.out.r 0 (by omega)
          rw [show ((0 : Nat) : Int) = 0 from rfl] at C0
          obtain ⟨Y, hY⟩ : ∃ Y, sumAt T 0 0 = Y := ⟨_, rfl⟩
          rw [hY] at CR C0
          have CR := Lib.hid CR
          have C0 := Lib.hid C0
          clear hY
          go_wp2_with fail
          refine CR.out.mono ?_
          rintro e w9 ⟨rfl, rfl⟩
          go_wp2_with fail
          refine C0.out.mono ?_
          rintro e w9 ⟨rfl, n9⟩
          have H9 := Lib.hid (HS.out.news n9)
          clear n9 CR C0 HS
          have CK := Lib.hid (keys _ _ _ _ _ _ H9.out.a (by omega))
          go_wp2_with fail
          refine CK.out.mono ?_
          rintro e w10 ⟨v10, ks, rfl, o10, hup, hmem, hkl, n10⟩
          have h10 := H9.out.news n10
          obtain ⟨A10, c10, rfl⟩ := form_ints o10
          have hlen := fun ty => MapAt.len h10.m Try.underlying3 Try.underlying24 Try.underlying39 zero_u32 ks (hup.imp fun h => by omega) hmem ty
          obtain ⟨N, hN⟩ : ∃ N, ks.length = N := ⟨_, rfl⟩
          have hNb : N ≤ 600 := by omega
          unfold OwnI at o10
          rw [hN] at o10 hlen ⊢
          have H10 := Lib.hid (And.intro h10 (And.intro o10 (And.intro hup (And.intro hmem hN))))
          clear h10 o10 hup hmem hN n10 CK H9
          go_wp2_with fail
          go_loopw [18, 19, 20, 21, 138] (fun _ _ _ _ jv wr => ∃ j : Nat, j ≤ N ∧ jv = .int .i64 j ∧ wr = w10) (fun _ _ _ _ jv _ => N - (intOf jv).toNat)
          case atStart => exact ⟨0, by omega, rfl, rfl⟩
          case round =>
            obtain ⟨j, hj, rfl, rfl⟩ := hrel
            by_cases hlt : j < N
            · obtain ⟨x, hx⟩ : ∃ x, ks[j]? = some x := ⟨_, List.getElem?_eq_getElem (by have := H10.out.2.2.2.2; omega)⟩
              obtain ⟨g, c', hvv, _, _⟩ := World.ownsRow.form H10.out.2.1 (by omega)
              injection hvv with h1 h2 h3
              subst h1 h3
              clear h2
              have hc := World.ownsRow.cellAt H10.out.2.1 j (by omega)
              rw [ints_get, hx] at hc
              have hc : wr.cell? ⟨g, j, none⟩ = some (.int .i64 x) := hc
              have hxm := (H10.out.2.2.2.1 x).1 (List.mem_of_getElem? hx)
              have hlk := H10.out.1.m.look_ok Try.underlying39 Try.underlying3 Try.underlying24 zero_u32 hxm.1
              rw [hxm.2] at hlk
              have hjN : (j : Int) < N := by omega
              rcases Nat.eq_zero_or_pos j with h0 | h0
              · subst h0
                clear hxm
                go_wp2_with fail
                go_roundw
                case rel => exact ⟨0 + 1, by omega, by go_num, by first | rfl | trivial⟩
                case measure => simp [intOf]; omega
              · obtain ⟨r, rfl⟩ : ∃ r, j = r + 1 := ⟨j - 1, by omega⟩
                obtain ⟨z, hz⟩ : ∃ z, ks[r]? = some z := ⟨_, List.getElem?_eq_getElem (by have := H10.out.2.2.2.2; omega)⟩
                have hcz := World.ownsRow.cellAt H10.out.2.1 r (by omega)
                rw [ints_get, hz] at hcz
                have hcz : wr.cell? ⟨g, r, none⟩ = some (.int .i64 z) := hcz
                have hzx : z < x := by
                  have := List.pairwise_iff_getElem.1 H10.out.2.2.1 r (r + 1) (by have := H10.out.2.2.2.2; omega) (by have := H10.out.2.2.2.2; omega) (by omega)
                  rw [(List.getElem?_eq_some_iff.1 hz).2, (List.getElem?_eq_some_iff.1 hx).2] at this
                  exact this
                have hd1 : decide (x ≤ z) = false := by simp; omega
                have hr1 : ((r + 1 : Nat) : Int) - 1 = (r : Int) := by omega
                have hr0 : decide ((0 : Int) < ((r + 1 : Nat) : Int)) = true := by simp <;> omega
                have hrb : (r : Int) < N := by omega
                clear hxm hzx
                go_wp2_with fail
                go_roundw
                case rel => exact ⟨r + 1 + 1, by omega, by go_num, by first | rfl | trivial⟩
                case measure => simp [intOf]; omega
            · obtain rfl : j = N := by omega
              go_wp2_with fail
              go_ret
              exact ⟨rfl, H10.out.1.new⟩
        · have CS := Lib.hid (HC.out.1 rfl wc (Chg.refl _ _))
          have H5 := Lib.hid HS.out
          go_wp2_with fail
          refine CS.out.mono ?_
          rintro e w6 ⟨rfl, n6⟩
          have HS := Lib.hid (H5.out.news n6)
          clear CS n6 H5
          have CR := root _ _ _ _ _ _ HS.out.a
          have C0 := lsum0 _ _ _ _ HS.out.m HS.out.r 0 (by omega)
          rw [show ((0 : Nat) : Int) = 0 from rfl] at C0
          obtain ⟨Y, hY⟩ : ∃ Y, sumAt T 0 0 = Y := ⟨_, rfl⟩
          rw [hY] at CR C0
          have CR := Lib.hid CR
          have C0 := Lib.hid C0
          clear hY
          go_wp2_with fail
          refine CR.out.mono ?_
          rintro e w9 ⟨rfl, rfl⟩
          go_wp2_with fail
          refine C0.out.mono ?_
          rintro e w9 ⟨rfl, n9⟩
          have H9 := Lib.hid (HS.out.news n9)
          clear n9 CR C0 HS
          have CK := Lib.hid (keys _ _ _ _ _ _ H9.out.a (by omega))
          go_wp2_with fail
          refine CK.out.mono ?_
          rintro e w10 ⟨v10, ks, rfl, o10, hup, hmem, hkl, n10⟩
          have h10 := H9.out.news n10
          obtain ⟨A10, c10, rfl⟩ := form_ints o10
          have hlen := fun ty => MapAt.len h10.m Try.underlying3 Try.underlying24 Try.underlying39 zero_u32 ks (hup.imp fun h => by omega) hmem ty
          obtain ⟨N, hN⟩ : ∃ N, ks.length = N := ⟨_, rfl⟩
          have hNb : N ≤ 600 := by omega
          unfold OwnI at o10
          rw [hN] at o10 hlen ⊢
          have H10 := Lib.hid (And.intro h10 (And.intro o10 (And.intro hup (And.intro hmem hN))))
          clear h10 o10 hup hmem hN n10 CK H9
          go_wp2_with fail
          go_loopw [18, 19, 20, 21, 138] (fun _ _ _ _ jv wr => ∃ j : Nat, j ≤ N ∧ jv = .int .i64 j ∧ wr = w10) (fun _ _ _ _ jv _ => N - (intOf jv).toNat)
          case atStart => exact ⟨0, by omega, rfl, rfl⟩
          case round =>
            obtain ⟨j, hj, rfl, rfl⟩ := hrel
            by_cases hlt : j < N
            · obtain ⟨x, hx⟩ : ∃ x, ks[j]? = some x := ⟨_, List.getElem?_eq_getElem (by have := H10.out.2.2.2.2; omega)⟩
              obtain ⟨g, c', hvv, _, _⟩ := World.ownsRow.form H10.out.2.1 (by omega)
              injection hvv with h1 h2 h3
              subst h1 h3
              clear h2
              have hc := World.ownsRow.cellAt H10.out.2.1 j (by omega)
              rw [ints_get, hx] at hc
              have hc : wr.cell? ⟨g, j, none⟩ = some (.int .i64 x) := hc
              have hxm := (H10.out.2.2.2.1 x).1 (List.mem_of_getElem? hx)
              have hlk := H10.out.1.m.look_ok Try.underlying39 Try.underlying3 Try.underlying24 zero_u32 hxm.1
              rw [hxm.2] at hlk
              have hjN : (j : Int) < N := by omega
              rcases Nat.eq_zero_or_pos j with h0 | h0
              · subst h0
                clear hxm
                go_wp2_with fail
                go_roundw
                case rel => exact ⟨0 + 1, by omega, by go_num, by first | rfl | trivial⟩
                case measure => simp [intOf]; omega
              · obtain ⟨r, rfl⟩ : ∃ r, j = r + 1 := ⟨j - 1, by omega⟩
                obtain ⟨z, hz⟩ : ∃ z, ks[r]? = some z := ⟨_, List.getElem?_eq_getElem (by have := H10.out.2.2.2.2; omega)⟩
                have hcz := World.ownsRow.cellAt H10.out.2.1 r (by omega)
                rw [ints_get, hz] at hcz
                have hcz : wr.cell? ⟨g, r, none⟩ = some (.int .i64 z) := hcz
                have hzx : z < x := by
                  have := List.pairwise_iff_getElem.1 H10.out.2.2.1 r (r + 1) (by have := H10.out.2.2.2.2; omega) (by have := H10.out.2.2.2.2; omega) (by omega)
                  rw [(List.getElem?_eq_some_iff.1 hz).2, (List.getElem?_eq_some_iff.1 hx).2] at this
                  exact this
                have hd1 : decide (x ≤ z) = false := by simp; omega
                have hr1 : ((r + 1 : Nat) : Int) - 1 = (r : Int) := by omega
                have hr0 : decide ((0 : Int) < ((r + 1 : Nat) : Int)) = true := by simp <;> omega
                have hrb : (r : Int) < N := by omega
                clear hxm hzx
                go_wp2_with fail
                go_roundw
                case rel => exact ⟨r + 1 + 1, by omega, by go_num, by first | rfl | trivial⟩
                case measure => simp [intOf]; omega
            · obtain rfl : j = N := by omega
              go_wp2_with fail
              go_ret
              exact ⟨rfl, H10.out.1.new⟩
theorem sums_args {H : Type} {enc : TypeId × Value → H} {W : World} {base : Nat} {args : Array Value} {ds : List (DataW H)} {ps : List MemPlace}
    (hval : ∀ (j : Nat) t v, Try.f4.params[j]? = some t → args[j]? = some v → Value.okWide Try.prog W .any base t v)
    (hw : ∀ (j : Nat) t d, Try.f4.params.toList[j]? = some t → ds[j]? = some d → ∀ n ∈ d.weights Try.prog t, n ≤ reachBytes)
    (hA : DataW.TrodAll enc Try.prog W 0 (fun _ => true) true Try.f4.params.toList args.toList ds ps) :
    Calls Try.prog 4 args W fun e w' => LawEnd W e w' := by
  rw [Try.params4] at hA hval hw
  obtain ⟨v0, v1, v2, d0, d1, d2, p0, p1, p2, rfl, rfl, rfl, h0, h1, h2⟩ := trodAll_three hA
  have o0 := hval 0 _ v0 rfl rfl
  have q0 := hw 0 _ d0 rfl rfl
  have o1 := hval 1 _ v1 rfl rfl
  have q1 := hw 1 _ d1 rfl rfl
  have o2 := hval 2 _ v2 rfl rfl
  have q2 := hw 2 _ d2 rfl rfl
  obtain ⟨A, n0, c0, rfl, hn0, hc0, hact0⟩ := open_acts (cells_slice Try.underlying22 o0) q0 h0
  obtain ⟨lv, rfl, hv1, hv2⟩ := open_i64 Try.underlying3 o1 h1
  obtain ⟨atv, rfl, ha1, ha2⟩ := open_i64 Try.underlying3 o2 h2
  obtain ⟨l, hl, ax⟩ := choose_acts hact0
  exact sums W A n0 c0 (by omega) l hl ax lv atv hv1 hv2 ha1 ha2
end Merkle

namespace lawMerkleSums
theorem own : ownKnob Try.prog.godebug = none := by kernel_rfl
theorem laidOut : laidOutB Try.prog = true := by kernel_rfl
theorem reads : ∀ t ∈ Try.f4.params.toList, Try.prog.readableRec t = true ∧ t < Try.prog.types.size := by
  have h : (Try.f4.params.toList.all fun t => Try.prog.readableRec t && decide (t < Try.prog.types.size)) = true := by kernel_rfl
  intro t ht
  have := List.all_eq_true.1 h t ht
  simpa using this
theorem spec {H : Type} (ds : List (DataW H)) (h : ds.length = 3) : Rows.merkleSumsSpec.fn H ds = { results := [.lit (.bool true)], args := ds } := by
  match ds, h with
  | [d1, d2, d3], _ => rfl
theorem trodAll_len {H : Type} {enc : TypeId × Value → H} {P : Program} {w : World} {base : Nat} {sp : Nat → Bool} {held : Bool} : ∀ (ts : List TypeId) (vs : List Value) (ds : List (DataW H)) (ps : List MemPlace),
    DataW.TrodAll enc P w base sp held ts vs ds ps → ds.length = ts.length
  | [], _, _, _, h => by
    obtain ⟨_, rfl, _⟩ := trodAll_nil h
    rfl
  | _ :: ts, _, _, _, h => by
    obtain ⟨_, vs, _, ds, _, _, _, rfl, _, _, hr⟩ := trodAll_cons h
    simp [trodAll_len ts vs ds _ hr]
theorem contract (H : Type) (enc : TypeId × Value → H) (W : World) (base : Nat) (args : Array Value) (ds gs : List (DataW H)) (before : List MemPlace)
    (hval : ∀ (j : Nat) t v, Try.f4.params[j]? = some t → args[j]? = some v → Value.okWide Try.prog W .any base t v)
    (hW : DataW.Whole enc Try.prog Try.f4.params.toList Rows.merkleSumsSpec.vars false W args.toList ds gs before)
    (hz : (DataW.weightsEach Try.prog (Try.f4.params.toList ++ Rows.merkleSumsSpec.plain.varTypes Try.prog) (ds ++ gs)).all (· ≤ reachBytes) = true) :
    Calls Try.prog 4 args W fun e W' => ∃ v, e = .returned v ∧ Rows.merkleSumsSpec.post enc Try.prog Try.f4 false true false false W args v W' := by
  obtain ⟨p, q, hA, hV, _⟩ := id hW
  have hlen : ds.length = 3 := (trodAll_len _ _ _ _ hA).trans (by kernel_rfl)
  have hV1 : DataW.TrodVars enc Try.prog W (fun _ => true) [] gs q := hV
  obtain ⟨rfl, rfl⟩ := trodVars_none hV1
  have hw : ∀ (j : Nat) t d, Try.f4.params.toList[j]? = some t → ds[j]? = some d → ∀ n ∈ d.weights Try.prog t, n ≤ reachBytes := by
    intro j t d ht hd n hn
    rw [List.append_nil] at hz
    have hlt : j < Try.f4.params.toList.length := (List.getElem?_eq_some_iff.1 ht).1
    have := List.all_eq_true.1 hz n (DataW.weights_mem_each (by rw [List.getElem?_append_left hlt]; exact ht) hd n hn)
    simpa using this
  refine (Merkle.sums_args hval hw hA).mono fun e W' ⟨he, hn⟩ => ?_
  exact ⟨_, he, law_post laidOut (tb := 4) rfl Try.underlying4 reads rfl hW (spec ds hlen) hn.below⟩
set_option maxRecDepth 100000 in
theorem lifted (os : Os) (started : os.Started) (H : Type) (enc : TypeId × Value → H) :
    ReturnsInHanded {} Try.checked os 4 .any (Rows.merkleSumsSpec.pre6 enc Try.prog Try.f4 Rows.merkleSumsRow.domain false) (Rows.merkleSumsSpec.post enc Try.prog Try.f4 false true false false) := by
  refine returnsInHanded_of_change_sized (C := Try.checked) own started (by kernel_rfl) Try.func4
    (ChangeSpec.witness6 (enc := enc) (C := Try.checked) (s := Rows.merkleSumsSpec) false ⟨#[], #[.slice none 0 0, .int .i64 0, .int .i64 0], []⟩ 60 (by kernel_rfl) (by kernel_rfl) (by kernel_rfl) (by kernel_rfl)) ?_
  intro W base args ds gs before hval hW _ hz _
  exact contract H enc W base args ds gs before hval hW hz
theorem proved : Rows.MerkleSumsSaid :=
  OpenClaim.holds_of_wide 4 Try.f4 rfl rfl rfl rfl rfl rfl rfl ⟨rfl, rfl, rfl, rfl, rfl⟩ rfl rfl rfl rfl rfl (by kernel_rfl) Try.func4 (by kernel_rfl)
    (of_decide_eq_true (by kernel_rfl)) (by unfold Func.isWrapper; first | (rw [if_pos (by decide +kernel)]; kernel_rfl) | (rw [if_neg (by decide +kernel)]; exact ⟨rfl, rfl⟩))
    (fun os started H enc _ => lifted os started H enc)
end lawMerkleSums
end Go.Proofs.Ytoddgakhiaokaaa

/-
  hedgerowlaw38.MerkleOne returns true for every input: trees that are unlike in one key tell just this one (no condition).
-/
import Derived.Test.YtoddgakhiaokaaaMerkleArgs
namespace Go.Proofs.Ytoddgakhiaokaaa
open Go.ChangeShapes Go.WideShapes Go.RowKit Go.Maps Go.Deep
namespace Merkle
theorem loadOnly0 (p : Value) : Instr.loadAt 29 p = LoadRowV 29 p := rfl
attribute [local go_sem ↓] loadOnly0
set_option maxHeartbeats 8000000 in
set_option maxRecDepth 100000 in
theorem one (w : World) (A : Option Addr) (n0 c : Nat) (hn : n0 ≤ 140737488351232) (hact : ∀ k, k < n0 → ∃ x s, ActAt w A k x s) (key a b : Nat) (hk : key < 65536) (ha : a < 4294967296) (hb : b < 4294967296) :
    Calls Try.prog 3 #[.slice A n0 c, .int .u16 (key : Int), .int .u32 (a : Int), .int .u32 (b : Int)] w fun e w' => LawEnd w e w' := by
  have HACT := Lib.hid hact
  clear hact
  by_cases hout : 60 < n0 ∨ a = b ∨ a = 0 ∨ b = 0
  · by_cases hbig : 60 < (n0 : Int)
    · go_enter Try.func3, Try.ntmps3
      go_wp2_with fail
      refine (fixed _).mono ?_
      rintro e w1 ⟨rfl, n1⟩
      go_wp2
      go_ret
      exact ⟨rfl, n1⟩
    · by_cases hab : a = b
      · subst hab
        go_enter Try.func3, Try.ntmps3
        go_wp2_with fail
        refine (fixed _).mono ?_
        rintro e w1 ⟨rfl, n1⟩
        go_wp2
        go_ret
        exact ⟨rfl, n1⟩
      · by_cases h0 : a = 0
        · subst h0
          have hab' : ((0 : Int) == (b : Int)) = false := by simp <;> omega
          go_enter Try.func3, Try.ntmps3
          go_wp2_with fail
          refine (fixed _).mono ?_
          rintro e w1 ⟨rfl, n1⟩
          go_wp2
          go_ret
          exact ⟨rfl, n1⟩
        · obtain rfl : b = 0 := by omega
          have hab' : ((a : Int) == 0) = false := by simp <;> omega
          go_enter Try.func3, Try.ntmps3
          go_wp2_with fail
          refine (fixed _).mono ?_
          rintro e w1 ⟨rfl, n1⟩
          go_wp2
          go_ret
          exact ⟨rfl, n1⟩
  · have hbig : decide (60 < (n0 : Int)) = false := by simp <;> omega
    have hab : ((a : Int) == (b : Int)) = false := by simp <;> omega
    have ha0 : ((a : Int) == 0) = false := by simp <;> omega
    have hb0 : ((b : Int) == 0) = false := by simp <;> omega
    have HO := Lib.hid hout
    clear hout
    go_enter Try.func3, Try.ntmps3
    go_wp2_with fail
    refine (fixed _).mono ?_
    rintro e w1 ⟨rfl, n1⟩
    go_wp2_with fail
    refine (new_ _).mono ?_
    rintro e w2 ⟨g1, rfl, t1, n2⟩
    go_wp2_with fail
    refine (new_ _).mono ?_
    rintro e w3 ⟨g2, rfl, t2, n3⟩
    have hn1 := n1.size
    have hb1 := t1.blk.lt
    have st : Two w w3 w1.heap.size w2.heap.size g1 g2 0 nilT nilT := ⟨t1.new n3, t2, (n1.trans n2 fun _ _ => id).trans n3 fun _ _ => id, hn1, hb1, foot_lt t1⟩
    clear n1 n2 n3 t1 t2 hn1 hb1
    obtain ⟨B, hB⟩ : ∃ B, w1.heap.size = B := ⟨_, rfl⟩
    obtain ⟨b2, hb2⟩ : ∃ b2, w2.heap.size = b2 := ⟨_, rfl⟩
    rw [hB, hb2] at st
    rw [hB, hb2]
    clear hB hb2
    go_wp2_with fail
    go_loopw [12, 45] (fun _ iv wr => ∃ (i : Nat) (T : Lv), i ≤ n0 ∧ iv = .int .i64 i ∧ Two w wr B b2 g1 g2 (10 * i) T T) (fun _ iv _ => n0 - (intOf iv).toNat)
    case atStart => exact ⟨0, nilT, by omega, rfl, st⟩
    case round =>
      clear st
      obtain ⟨i, T, hi, rfl, st⟩ := hrel
      by_cases hlt : i < n0
      · obtain ⟨x, s, ⟨hx1, hx2⟩, hs, ad, rfl, hload⟩ := HACT.out i hlt
        have hld := hload wr st.new
        have m1 := (Chg.refl (fun _ => False) wr).alloc (.cells #[.int .i64 x, .int .u32 (s : Int)] 29)
        have hbx := Blk.new wr 29 #[.int .i64 x, .int .u32 (s : Int)]
        have st1 := st.news m1
        have C := Lib.hid (put_any _ _ _ _ _ _ st1.a x s hs (by have := HO.out; omega))
        have S := Lib.hid (And.intro st1 hbx)
        have c0 := hbx.cell 0
        have c1 := hbx.cell 1
        simp only [List.getElem?_toArray, List.getElem?_cons_zero, List.getElem?_cons_succ] at c0 c1
        have HF := Lib.hid (foot_lt st.a)
        clear hload st m1 hbx st1
        go_wp2_with fail
        refine C.out.mono ?_
        rintro e w4 ⟨r, rfl, h4, c4⟩
        have st4 := S.out.1.one h4 c4
        have hbx4 := S.out.2.chg c4 (fun ⟨l, hl, e⟩ => by have := HF.out l hl; omega)
        clear C c0 c1 h4 c4 hld
        have C := Lib.hid (put_any _ _ _ _ _ _ st4.b x s hs (by have := HO.out; omega))
        have S4 := Lib.hid st4
        have c0 := hbx4.cell 0
        have c1 := hbx4.cell 1
        simp only [List.getElem?_toArray, List.getElem?_cons_zero, List.getElem?_cons_succ] at c0 c1
        clear st4 hbx4 S HF
        go_wp2_with fail
        refine C.out.mono ?_
        rintro e w5 ⟨r5, rfl, h5, c5⟩
        have H5 := Lib.hid (S4.out.two h5 c5)
        clear C c0 c1 h5 c5
        go_wp2_with fail
        go_roundw
        case rel => exact ⟨i + 1, putS T x s, by omega, by go_num, by rw [show 10 * (i + 1) = 10 * i + 5 + 5 by omega]; exact H5.out⟩
        case measure => simp [intOf]; omega
      · obtain rfl : i = n0 := by omega
        have hkw : IntKind.i64.wrap (key : Int) = (key : Int) := IntWalk.i64_in _ (by omega)
        have C := Lib.hid (put_ok wr B B _ g1 T st.a key a hk (fun e => HO.out (.inr (.inr (.inl e)))) ha (by have := HO.out; omega))
        have S := Lib.hid st
        clear st
        go_wp2_with fail
        refine C.out.mono ?_
        rintro e w4 ⟨rfl, h4, c4⟩
        have st4 := S.out.one h4 c4
        clear C S h4 c4
        have C := Lib.hid (put_ok w4 b2 b2 _ g2 T st4.b key b hk (fun e => HO.out (.inr (.inr (.inr e)))) hb (by have := HO.out; omega))
        have S := Lib.hid st4
        clear st4
        go_wp2_with fail
        refine C.out.mono ?_
        rintro e w5 ⟨rfl, h5, c5⟩
        have st5 := S.out.two h5 c5
        clear C S h5 c5
        have hpath := put_path ns T (key : Int) (a : Int) (b : Int)
        have hpath2 := put_path ns T (key : Int) (b : Int) (a : Int)
        have hlf : sumAt (putF ns T key a) 4 key ≠ sumAt (putF ns T key b) 4 key := by
          unfold sumAt
          rw [put_leaf, put_leaf]
          have := HO.out
          simp
          omega
        have hd := diff_path (key := (key : Int)) (by omega) (by omega) hpath hlf
        have hd2 := diff_path (key := (key : Int)) (by omega) (by omega) hpath2 hlf.symm
        obtain ⟨n, hn2⟩ : ∃ n, 10 * i + 5 + 5 = n := ⟨_, rfl⟩
        rw [hn2] at st5
        generalize putF ns T key a = T2 at *
        generalize putF ns T key b = U2 at *
        rw [chain_comm U2 T2, ← upto_chain] at hd2
        rw [← upto_chain] at hd
        have HD := Lib.hid (And.intro hd hd2)
        clear hpath hpath2 hlf hd hd2 hn2
        go_wp2_with fail
        go_loopw [13, 14, 15, 16, 17, 18, 72] (fun fv _ _ _ _ _ kv wr => ∃ k : Nat, k ≤ 4 ∧ kv = .int .i64 k ∧ fv = .bool (upto T2 U2 (key : Int) k) ∧ Two w wr B b2 g1 g2 n T2 U2) (fun _ _ _ _ _ _ kv _ => 4 - (intOf kv).toNat)
        case atStart => exact ⟨0, by omega, rfl, rfl, st5⟩
        case round =>
          clear st5
          obtain ⟨k, hk4, rfl, rfl, h2⟩ := hrel
          by_cases hlt : k < 4
          · have hup := upto_succ T2 U2 (key : Int) k
            obtain ⟨q, hq⟩ : ∃ q, upto T2 U2 (key : Int) k = q := ⟨_, rfl⟩
            rw [hq] at hup ⊢
            clear hq
            have hk : k = 0 ∨ k = 1 ∨ k = 2 ∨ k = 3 := by omega
            rcases hk with rfl | rfl | rfl | rfl
            ·         have hX : above (key : Int) 0 = ((key / 65536 : Nat) : Int) := by rw [above_nat]
                      have hlv : key / 65536 < 16 ^ 0 := by simp <;> omega
                      have C1 := node wr B B n g1 T2 h2.a 0 (by omega) (key / 65536) hlv
                      have C2 := node wr b2 b2 n g2 U2 h2.b 0 (by omega) (key / 65536) hlv
                      rw [hX] at hup
                      generalize sumAt T2 0 ((key / 65536 : Nat) : Int) = X at *
                      generalize sumAt U2 0 ((key / 65536 : Nat) : Int) = Y at *
                      have hdiv : (key : Int) / 65536 = ((key / 65536 : Nat) : Int) := rfl
                      obtain ⟨kd, hkd⟩ : ∃ kd, key / 65536 = kd := ⟨_, rfl⟩
                      rw [hkd] at C1 C2 hdiv
                      have C1 := Lib.hid (show Calls Try.prog 10 #[ptr B, .int .i64 0, .int .i64 (kd : Int)] wr fun e w' => e = .returned (.tuple #[.int .u32 X, .bool true]) ∧ wr = w' from C1)
                      have C2 := Lib.hid (show Calls Try.prog 10 #[ptr b2, .int .i64 0, .int .i64 (kd : Int)] wr fun e w' => e = .returned (.tuple #[.int .u32 Y, .bool true]) ∧ wr = w' from C2)
                      have HS := Lib.hid (And.intro h2 hup)
                      clear h2 hup hX hlv hkd
                      go_wp2_with fail
                      refine C1.out.mono ?_
                      rintro e w5 ⟨rfl, rfl⟩
                      go_wp2_with fail
                      refine C2.out.mono ?_
                      rintro e w5 ⟨rfl, rfl⟩
                      by_cases hxy : X = Y
                      · subst hxy
                        cases q
                        all_goals
                          go_wp2_with fail
                          go_roundw
                          case rel => exact ⟨0 + 1, by omega, by first | rfl | go_num, by rw [HS.out.2]; simp, HS.out.1⟩
                          case measure => simp [intOf]
                      · have hx1 : (X == Y) = false := by simp <;> omega
                        have hx2 : decide (X = Y) = false := by simp <;> omega
                        cases q
                        all_goals
                          go_wp2_with fail
                          go_roundw
                          case rel => exact ⟨0 + 1, by omega, by first | rfl | go_num, by rw [HS.out.2]; first | rfl | (simp; omega) | simp, HS.out.1⟩
                          case measure => simp [intOf]
            ·         have hX : above (key : Int) 1 = ((key / 4096 : Nat) : Int) := by rw [above_nat]
                      have hlv : key / 4096 < 16 ^ 1 := by simp <;> omega
                      have C1 := node wr B B n g1 T2 h2.a 1 (by omega) (key / 4096) hlv
                      have C2 := node wr b2 b2 n g2 U2 h2.b 1 (by omega) (key / 4096) hlv
                      rw [hX] at hup
                      generalize sumAt T2 1 ((key / 4096 : Nat) : Int) = X at *
                      generalize sumAt U2 1 ((key / 4096 : Nat) : Int) = Y at *
                      have hdiv : (key : Int) / 4096 = ((key / 4096 : Nat) : Int) := rfl
                      obtain ⟨kd, hkd⟩ : ∃ kd, key / 4096 = kd := ⟨_, rfl⟩
                      rw [hkd] at C1 C2 hdiv
                      have C1 := Lib.hid (show Calls Try.prog 10 #[ptr B, .int .i64 1, .int .i64 (kd : Int)] wr fun e w' => e = .returned (.tuple #[.int .u32 X, .bool true]) ∧ wr = w' from C1)
                      have C2 := Lib.hid (show Calls Try.prog 10 #[ptr b2, .int .i64 1, .int .i64 (kd : Int)] wr fun e w' => e = .returned (.tuple #[.int .u32 Y, .bool true]) ∧ wr = w' from C2)
                      have HS := Lib.hid (And.intro h2 hup)
                      clear h2 hup hX hlv hkd
                      go_wp2_with fail
                      refine C1.out.mono ?_
                      rintro e w5 ⟨rfl, rfl⟩
                      go_wp2_with fail
                      refine C2.out.mono ?_
                      rintro e w5 ⟨rfl, rfl⟩
                      by_cases hxy : X = Y
                      · subst hxy
                        cases q
                        all_goals
                          go_wp2_with fail
                          go_roundw
                          case rel => exact ⟨1 + 1, by omega, by first | rfl | go_num, by rw [HS.out.2]; simp, HS.out.1⟩
                          case measure => simp [intOf]
                      · have hx1 : (X == Y) = false := by simp <;> omega
                        have hx2 : decide (X = Y) = false := by simp <;> omega
                        cases q
                        all_goals
                          go_wp2_with fail
                          go_roundw
                          case rel => exact ⟨1 + 1, by omega, by first | rfl | go_num, by rw [HS.out.2]; first | rfl | (simp; omega) | simp, HS.out.1⟩
                          case measure => simp [intOf]
            ·         have hX : above (key : Int) 2 = ((key / 256 : Nat) : Int) := by rw [above_nat]
                      have hlv : key / 256 < 16 ^ 2 := by simp <;> omega
                      have C1 := node wr B B n g1 T2 h2.a 2 (by omega) (key / 256) hlv
                      have C2 := node wr b2 b2 n g2 U2 h2.b 2 (by omega) (key / 256) hlv
                      rw [hX] at hup
                      generalize sumAt T2 2 ((key / 256 : Nat) : Int) = X at *
                      generalize sumAt U2 2 ((key / 256 : Nat) : Int) = Y at *
                      have hdiv : (key : Int) / 256 = ((key / 256 : Nat) : Int) := rfl
                      obtain ⟨kd, hkd⟩ : ∃ kd, key / 256 = kd := ⟨_, rfl⟩
                      rw [hkd] at C1 C2 hdiv
                      have C1 := Lib.hid (show Calls Try.prog 10 #[ptr B, .int .i64 2, .int .i64 (kd : Int)] wr fun e w' => e = .returned (.tuple #[.int .u32 X, .bool true]) ∧ wr = w' from C1)
                      have C2 := Lib.hid (show Calls Try.prog 10 #[ptr b2, .int .i64 2, .int .i64 (kd : Int)] wr fun e w' => e = .returned (.tuple #[.int .u32 Y, .bool true]) ∧ wr = w' from C2)
                      have HS := Lib.hid (And.intro h2 hup)
                      clear h2 hup hX hlv hkd
                      go_wp2_with fail
                      refine C1.out.mono ?_
                      rintro e w5 ⟨rfl, rfl⟩
                      go_wp2_with fail
                      refine C2.out.mono ?_
                      rintro e w5 ⟨rfl, rfl⟩
                      by_cases hxy : X = Y
                      · subst hxy
                        cases q
                        all_goals
                          go_wp2_with fail
                          go_roundw
                          case rel => exact ⟨2 + 1, by omega, by first | rfl | go_num, by rw [HS.out.2]; simp, HS.out.1⟩
                          case measure => simp [intOf]
                      · have hx1 : (X == Y) = false := by simp <;> omega
                        have hx2 : decide (X = Y) = false := by simp <;> omega
                        cases q
                        all_goals
                          go_wp2_with fail
                          go_roundw
                          case rel => exact ⟨2 + 1, by omega, by first | rfl | go_num, by rw [HS.out.2]; first | rfl | (simp; omega) | simp, HS.out.1⟩
                          case measure => simp [intOf]
            ·         have hX : above (key : Int) 3 = ((key / 16 : Nat) : Int) := by rw [above_nat]
                      have hlv : key / 16 < 16 ^ 3 := by simp <;> omega
                      have C1 := node wr B B n g1 T2 h2.a 3 (by omega) (key / 16) hlv
                      have C2 := node wr b2 b2 n g2 U2 h2.b 3 (by omega) (key / 16) hlv
                      rw [hX] at hup
                      generalize sumAt T2 3 ((key / 16 : Nat) : Int) = X at *
                      generalize sumAt U2 3 ((key / 16 : Nat) : Int) = Y at *
                      have hdiv : (key : Int) / 16 = ((key / 16 : Nat) : Int) := rfl
                      obtain ⟨kd, hkd⟩ : ∃ kd, key / 16 = kd := ⟨_, rfl⟩
                      rw [hkd] at C1 C2 hdiv
                      have C1 := Lib.hid (show Calls Try.prog 10 #[ptr B, .int .i64 3, .int .i64 (kd : Int)] wr fun e w' => e = .returned (.tuple #[.int .u32 X, .bool true]) ∧ wr = w' from C1)
                      have C2 := Lib.hid (show Calls Try.prog 10 #[ptr b2, .int .i64 3, .int .i64 (kd : Int)] wr fun e w' => e = .returned (.tuple #[.int .u32 Y, .bool true]) ∧ wr = w' from C2)
                      have HS := Lib.hid (And.intro h2 hup)
                      clear h2 hup hX hlv hkd
                      go_wp2_with fail
                      refine C1.out.mono ?_
                      rintro e w5 ⟨rfl, rfl⟩
                      go_wp2_with fail
                      refine C2.out.mono ?_
                      rintro e w5 ⟨rfl, rfl⟩
                      by_cases hxy : X = Y
                      · subst hxy
                        cases q
                        all_goals
                          go_wp2_with fail
                          go_roundw
                          case rel => exact ⟨3 + 1, by omega, by first | rfl | go_num, by rw [HS.out.2]; simp, HS.out.1⟩
                          case measure => simp [intOf]
                      · have hx1 : (X == Y) = false := by simp <;> omega
                        have hx2 : decide (X = Y) = false := by simp <;> omega
                        cases q
                        all_goals
                          go_wp2_with fail
                          go_roundw
                          case rel => exact ⟨3 + 1, by omega, by first | rfl | go_num, by rw [HS.out.2]; first | rfl | (simp; omega) | simp, HS.out.1⟩
                          case measure => simp [intOf]
          · obtain rfl : k = 4 := by omega
            obtain ⟨q, hq⟩ : ∃ q, upto T2 U2 (key : Int) 4 = q := ⟨_, rfl⟩
            have hD := HD.out
            rw [hq] at hD ⊢
            have C := diff wr (ptr B) (ptr b2) T2 U2 h2.a.is h2.b.is
            have S := Lib.hid h2
            clear hq h2
            cases q
            · have hd := hD.1.2 rfl
              rw [hd.1] at C
              obtain ⟨L, hL⟩ : ∃ L, (diffF T2 U2).2 = L := ⟨_, rfl⟩
              rw [hL] at C hd
              have C := Lib.hid C
              have hLi : (L : Int) < 65 := by omega
              clear hD hd hL
              go_wp2_with fail
              refine C.out.mono ?_
              rintro e w6 ⟨v6, rfl, o6, n6⟩
              obtain ⟨A6, c6, rfl⟩ : ∃ A' c', v6 = .slice A' 0 c' := by
                rcases o6.2 with ⟨rfl, h0⟩ | ⟨g, cap, cur, rfl, _⟩
                · exact ⟨none, 0, rfl⟩
                · exact ⟨_, cap, rfl⟩
              have N := Lib.hid (S.out.new.trans n6 fun _ _ => id)
              clear o6 n6 C
              go_wp2_with fail
              go_ret
              exact ⟨rfl, N.out⟩
            · have hd1 := hD.1.1 rfl
              have hd2 := hD.2.1 rfl
              rw [hd1] at C
              have C := Lib.hid C
              have H2 := Lib.hid hd2
              clear hD hd1 hd2
              go_wp2_with fail
              refine C.out.mono ?_
              rintro e w6 ⟨v6, rfl, o6, n6⟩
              obtain ⟨g6, c6, rfl, _, _⟩ := World.ownsRow.form o6 (by simp)
              have k6 : w6.cell? ⟨g6, 0, none⟩ = some (.int .i64 (key : Int)) := World.ownsRow.cellAt o6 0 (by simp)
              have st6 := S.out.news n6
              have C2 := diff w6 (ptr b2) (ptr B) U2 T2 st6.b.is st6.a.is
              rw [H2.out] at C2
              have C2 := Lib.hid C2
              have S6 := Lib.hid (And.intro st6 k6)
              clear st6 k6 o6 n6 C
              go_wp2_with fail
              refine C2.out.mono ?_
              rintro e w7 ⟨v7, rfl, o7, n7⟩
              obtain ⟨g7, c7, rfl, _, _⟩ := World.ownsRow.form o7 (by simp)
              have k7 : w7.drew.cell? ⟨g7, 0, none⟩ = some (.int .i64 (key : Int)) := World.ownsRow.cellAt o7 0 (by simp)
              have k6 : w7.drew.cell? ⟨g6, 0, none⟩ = some (.int .i64 (key : Int)) := (n7.cell (p := ⟨g6, 0, none⟩) (block_lt_of_cell S6.out.2) id).trans S6.out.2
              have N := Lib.hid (S6.out.1.new.trans n7 fun _ _ => id)
              clear o7 n7 C2
              go_wp2_with fail
              refine wp_region_quiet1 (by kernel_rfl) (by kernel_rfl) ?_
              repeat still_step
              refine wpStill_nil ?_
              go_wp2_with fail
              go_ret
              exact ⟨rfl, N.out.drew⟩
theorem one_args {H : Type} {enc : TypeId × Value → H} {W : World} {base : Nat} {args : Array Value} {ds : List (DataW H)} {ps : List MemPlace}
    (hval : ∀ (j : Nat) t v, Try.f3.params[j]? = some t → args[j]? = some v → Value.okWide Try.prog W .any base t v)
    (hw : ∀ (j : Nat) t d, Try.f3.params.toList[j]? = some t → ds[j]? = some d → ∀ n ∈ d.weights Try.prog t, n ≤ reachBytes)
    (hA : DataW.TrodAll enc Try.prog W 0 (fun _ => true) true Try.f3.params.toList args.toList ds ps) :
    Calls Try.prog 3 args W fun e w' => LawEnd W e w' := by
  rw [Try.params3] at hA hval hw
  obtain ⟨v0, v1, v2, v3, d0, d1, d2, d3, p0, p1, p2, p3, rfl, rfl, rfl, h0, h1, h2, h3⟩ := trodAll_four hA
  have o0 := hval 0 _ v0 rfl rfl
  have q0 := hw 0 _ d0 rfl rfl
  have o1 := hval 1 _ v1 rfl rfl
  have q1 := hw 1 _ d1 rfl rfl
  have o2 := hval 2 _ v2 rfl rfl
  have q2 := hw 2 _ d2 rfl rfl
  have o3 := hval 3 _ v3 rfl rfl
  have q3 := hw 3 _ d3 rfl rfl
  obtain ⟨A, n, c, rfl, hn, hact⟩ := open_acts (cells_slice Try.underlying22 o0) q0 h0
  obtain ⟨key, rfl, hk⟩ := open_u16 Try.underlying23 o1 h1
  obtain ⟨a, rfl, ha⟩ := open_u32 Try.underlying24 o2 h2
  obtain ⟨b, rfl, hb⟩ := open_u32 Try.underlying24 o3 h3
  exact one W A n c hn hact key a b hk ha hb
end Merkle

namespace lawMerkleOne
theorem own : ownKnob Try.prog.godebug = none := by kernel_rfl
theorem laidOut : laidOutB Try.prog = true := by kernel_rfl
theorem reads : ∀ t ∈ Try.f3.params.toList, Try.prog.readableRec t = true ∧ t < Try.prog.types.size := by
  have h : (Try.f3.params.toList.all fun t => Try.prog.readableRec t && decide (t < Try.prog.types.size)) = true := by kernel_rfl
  intro t ht
  have := List.all_eq_true.1 h t ht
  simpa using this
theorem spec {H : Type} (ds : List (DataW H)) (h : ds.length = 4) : Rows.merkleOneSpec.fn H ds = { results := [.lit (.bool true)], args := ds } := by
  match ds, h with
  | [d1, d2, d3, d4], _ => rfl
theorem trodAll_len {H : Type} {enc : TypeId × Value → H} {P : Program} {w : World} {base : Nat} {sp : Nat → Bool} {held : Bool} : ∀ (ts : List TypeId) (vs : List Value) (ds : List (DataW H)) (ps : List MemPlace),
    DataW.TrodAll enc P w base sp held ts vs ds ps → ds.length = ts.length
  | [], _, _, _, h => by
    obtain ⟨_, rfl, _⟩ := trodAll_nil h
    rfl
  | _ :: ts, _, _, _, h => by
    obtain ⟨_, vs, _, ds, _, _, _, rfl, _, _, hr⟩ := trodAll_cons h
    simp [trodAll_len ts vs ds _ hr]
theorem contract (H : Type) (enc : TypeId × Value → H) (W : World) (base : Nat) (args : Array Value) (ds gs : List (DataW H)) (before : List MemPlace)
    (hval : ∀ (j : Nat) t v, Try.f3.params[j]? = some t → args[j]? = some v → Value.okWide Try.prog W .any base t v)
    (hW : DataW.Whole enc Try.prog Try.f3.params.toList Rows.merkleOneSpec.vars false W args.toList ds gs before)
    (hz : (DataW.weightsEach Try.prog (Try.f3.params.toList ++ Rows.merkleOneSpec.plain.varTypes Try.prog) (ds ++ gs)).all (· ≤ reachBytes) = true) :
    Calls Try.prog 3 args W fun e W' => ∃ v, e = .returned v ∧ Rows.merkleOneSpec.post enc Try.prog Try.f3 false true false false W args v W' := by
  obtain ⟨p, q, hA, hV, _⟩ := id hW
  have hlen : ds.length = 4 := (trodAll_len _ _ _ _ hA).trans (by kernel_rfl)
  have hV1 : DataW.TrodVars enc Try.prog W (fun _ => true) [] gs q := hV
  obtain ⟨rfl, rfl⟩ := trodVars_none hV1
  have hw : ∀ (j : Nat) t d, Try.f3.params.toList[j]? = some t → ds[j]? = some d → ∀ n ∈ d.weights Try.prog t, n ≤ reachBytes := by
    intro j t d ht hd n hn
    rw [List.append_nil] at hz
    have hlt : j < Try.f3.params.toList.length := (List.getElem?_eq_some_iff.1 ht).1
    have := List.all_eq_true.1 hz n (DataW.weights_mem_each (by rw [List.getElem?_append_left hlt]; exact ht) hd n hn)
    simpa using this
  refine (Merkle.one_args hval hw hA).mono fun e W' ⟨he, hn⟩ => ?_
  exact ⟨_, he, law_post laidOut (tb := 4) rfl Try.underlying4 reads rfl hW (spec ds hlen) hn.below⟩
set_option maxRecDepth 100000 in
theorem lifted (os : Os) (started : os.Started) (H : Type) (enc : TypeId × Value → H) :
    ReturnsInHanded {} Try.checked os 3 .any (Rows.merkleOneSpec.pre6 enc Try.prog Try.f3 Rows.merkleOneRow.domain false) (Rows.merkleOneSpec.post enc Try.prog Try.f3 false true false false) := by
  refine returnsInHanded_of_change_sized (C := Try.checked) own started (by kernel_rfl) Try.func3
    (ChangeSpec.witness6 (enc := enc) (C := Try.checked) (s := Rows.merkleOneSpec) false ⟨#[], #[.slice none 0 0, .int .u16 0, .int .u32 0, .int .u32 0], []⟩ 60 (by kernel_rfl) (by kernel_rfl) (by kernel_rfl) (by kernel_rfl)) ?_
  intro W base args ds gs before hval hW _ hz _
  exact contract H enc W base args ds gs before hval hW hz
theorem proved : Rows.MerkleOneSaid :=
  OpenClaim.holds_of_wide 3 Try.f3 rfl rfl rfl rfl rfl rfl rfl ⟨rfl, rfl, rfl, rfl, rfl⟩ rfl rfl rfl rfl rfl (by kernel_rfl) Try.func3 (by kernel_rfl)
    (of_decide_eq_true (by kernel_rfl)) (by unfold Func.isWrapper; first | (rw [if_pos (by decide +kernel)]; kernel_rfl) | (rw [if_neg (by decide +kernel)]; exact ⟨rfl, rfl⟩))
    (fun os started H enc _ => lifted os started H enc)
end lawMerkleOne
end Go.Proofs.Ytoddgakhiaokaaa

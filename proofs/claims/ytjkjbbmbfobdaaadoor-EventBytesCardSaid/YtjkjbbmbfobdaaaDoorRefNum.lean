/-
  The document's numbers and texts as bytes (no condition beyond the sizes).
-/
import Derived.Test.YtjkjbbmbfobdaaaDoorNum2
namespace Go.Proofs.YtjkjbbmbfobdaaaDoor
set_option linter.unusedSimpArgs false
set_option linter.unusedVariables false
open Go.ChangeShapes Go.WideShapes Go.RowKit
namespace Num
set_option maxHeartbeats 4000000 in
set_option maxRecDepth 20000 in
theorem rput (w : World) (base : Nat) (v : Value) (l : List UInt8) (hv : OwnB w base v l) (hbase : base ≤ w.heap.size) (hb : l.length ≤ 1000000000) (n : Int) :
    Calls Tryd.prog 24 #[v, .int .i64 n] w fun e w' => Puts w base v (l ++ putB n) e w' := by
  unfold Puts
  by_cases h0 : n < 0
  · rw [show putB n = [] by unfold putB; rw [if_neg (by omega)], List.append_nil]
    have HV := Lib.hid hv
    clear hv
    go_enter Tryd.func24, Tryd.ntmps24
    go_wp2_with fail
    go_ret
    exact ⟨_, rfl, HV.out, Chg.refl _ _, fun k hk => .inl hk⟩
  by_cases h1 : 4611686018427387904 ≤ n
  · rw [show putB n = [] by unfold putB; rw [if_neg (by omega)], List.append_nil]
    have HV := Lib.hid hv
    clear hv
    go_enter Tryd.func24, Tryd.ntmps24
    go_wp2_with fail
    go_ret
    exact ⟨_, rfl, HV.out, Chg.refl _ _, fun k hk => .inl hk⟩
  obtain ⟨z, rfl⟩ : ∃ z : Nat, n = (z : Int) := ⟨n.toNat, by omega⟩
  rw [putB_at (by omega)]
  have hlen := digits_len 8 z (by omega)
  obtain ⟨A, c, rfl, hc0, hc1, _⟩ := hv.form
  have o1 := OwnB.empty (w := w) (base := w.heap.size) (Nat.le_refl _)
  have a1 := (Chg.refl (fun _ => False) w).alloc (.cells #[] 5)
  have hr1 := Reads.of_own (own_chg (show w.ownsRow base 5 1 (.slice A l.length c) l.length (u8s l) from hv) a1 fun _ _ => id)
  have hs1 : (w.alloc (.cells #[] 5)).heap.size = w.heap.size + 1 := by simp
  have HL := Lib.hid hlen
  have HA1 := Lib.hid a1
  clear hv hlen a1
  obtain ⟨ln, hln⟩ : ∃ n, l.length = n := ⟨_, rfl⟩
  rw [hln] at hr1 ⊢
  have HLN := Lib.hid hln
  have hlnb : ln ≤ 1000000000 := by omega
  clear hln
  go_enter Tryd.func24, Tryd.ntmps24
  go_wp2_with (at_builtin; refine stop ?_)
  delta Stop
  refine append_u8 _ rfl _ _ rfl w.heap.size _ [] rfl o1 _ A ln c l rfl hr1 (by simp; omega) (by omega) ?_
  intro v2 w2 o2 g2 at2
  rw [List.nil_append] at o2
  have n2 : New w w2 := HA1.out.grown g2 fun k e hk => by have := (own_lt o1 e).1; omega
  have H2 := Lib.hid (And.intro o2 n2)
  have hs2 := n2.size
  clear o1 hr1 o2 g2 at2 n2 HA1
  go_wp2_with fail
  go_loopw [1, 5] (fun nv bv wr => ∃ (m : Nat) (done : List UInt8) (v' : Value), bv = v' ∧ nv = .int .i64 m ∧ m ≤ 4611686018427387903 ∧ done ++ digits m = digits z ∧ OwnB wr w.heap.size v' (l ++ done) ∧ New w wr) (fun nv _ _ => (intOf nv).toNat)
  case atStart => exact ⟨z, [], _, rfl, rfl, by omega, rfl, by rw [List.append_nil]; exact H2.out.1, H2.out.2⟩
  case round =>
    obtain ⟨m, done, v', rfl, rfl, hm, hd, ho, hn⟩ := hrel
    have hdl : done.length ≤ 9 := by
      have := congrArg List.length hd
      rw [List.length_append] at this
      have := HL.out
      omega
    have hsz := hn.size
    have hll := HLN.out
    by_cases hlt : m < 128
    · rw [digits_low hlt] at hd
      have hmi : ¬ ((127 : Int) < m) := by omega
      have e : (UInt8.ofNat m).toNat = m := by simp; omega
      have hw : IntKind.u8.wrap (m : Int) = (m : Int) := IntWalk.u8_in _ (by omega)
      have hr := Reads.of_blk (size := 1) (n := 1) (Blk.new wr 5 #[.int .u8 (m : Int)]) rfl
      have hr2 : Reads (wr.alloc (.cells #[.int .u8 (m : Int)] 5)) (fun b => b = wr.heap.size) 1 (some ⟨wr.heap.size, 0, none⟩) 1 (u8s [UInt8.ofNat m]) := by
        rw [lit1, e]; exact hr
      have HD := Lib.hid hd
      have HN := Lib.hid (hn.alloc (.cells #[.int .u8 (m : Int)] 5))
      have hbl : (l ++ done).length + 1 ≤ 1099511627776 := by rw [List.length_append]; omega
      clear hd hn hr e hll
      go_wp2_with (at_builtin; refine stop ?_)
      delta Stop
      refine append_u8 _ rfl _ _ rfl w.heap.size _ (l ++ done) rfl (World.ownsRow.alloc ho _) _ _ 1 1 [UInt8.ofNat m] rfl hr2 hbl (by simp; omega) ?_
      intro v3 w3 o3 g3 a3
      have n3 : New w w3 := HN.out.grown g3 fun k e hk => by have := (own_lt ho e).1; omega
      have HE := Lib.hid (And.intro o3 n3)
      clear o3 g3 a3 hr2 ho n3
      go_wp2_with fail
      go_ret
      exact ⟨_, rfl, own_mono (by have := HE.out.1; rw [List.append_assoc, HD.out] at this; exact this) hbase, HE.out.2.mono fun _ _ => False.elim, fun k hk => .inr (own_lt HE.out.1 hk).1⟩
    · rw [digits_high hlt] at hd
      have hmi : (127 : Int) < m := by omega
      obtain ⟨d, hde⟩ : ∃ d, m % 128 = d := ⟨_, rfl⟩
      have hd128 : d < 128 := by omega
      have h1 : (m : Int).tmod 128 = (d : Int) := by rw [Int.tmod_eq_emod_of_nonneg (by omega), ← hde]; rfl
      rw [hde] at hd
      obtain ⟨q, hqe⟩ : ∃ q, d + 128 = q := ⟨_, rfl⟩
      have h2 : IntKind.i64.wrap ((d : Int) + 128) = (q : Int) := (IntWalk.i64_in _ (by omega)).trans (by omega)
      rw [hqe] at hd
      have e : (UInt8.ofNat q).toNat = q := by simp; omega
      have hw : IntKind.u8.wrap (q : Int) = (q : Int) := IntWalk.u8_in _ (by omega)
      have hr := Reads.of_blk (size := 1) (n := 1) (Blk.new wr 5 #[.int .u8 (q : Int)]) rfl
      have hr2 : Reads (wr.alloc (.cells #[.int .u8 (q : Int)] 5)) (fun b => b = wr.heap.size) 1 (some ⟨wr.heap.size, 0, none⟩) 1 (u8s [UInt8.ofNat q]) := by
        rw [lit1, e]; exact hr
      obtain ⟨p, hpe⟩ : ∃ p, m / 128 = p := ⟨_, rfl⟩
      have hdv : (m : Int).tdiv 128 = (p : Int) := by rw [Int.tdiv_eq_ediv_of_nonneg (by omega), ← hpe]; rfl
      have hwp : IntKind.i64.wrap (p : Int) = (p : Int) := IntWalk.i64_in _ (by omega)
      have hwd : IntKind.i64.wrap (d : Int) = (d : Int) := IntWalk.i64_in _ (by omega)
      rw [hpe] at hd
      have hpm : p < m := by omega
      have HD := Lib.hid hd
      have HN := Lib.hid (hn.alloc (.cells #[.int .u8 (q : Int)] 5))
      have hbl : (l ++ done).length + 1 ≤ 1099511627776 := by rw [List.length_append]; omega
      clear hd hn hr e hpe hqe hde hll
      go_wp2_with (at_builtin; refine stop ?_)
      delta Stop
      refine append_u8 _ rfl _ _ rfl w.heap.size _ (l ++ done) rfl (World.ownsRow.alloc ho _) _ _ 1 1 [UInt8.ofNat q] rfl hr2 hbl (by simp; omega) ?_
      intro v3 w3 o3 g3 a3
      have n3 : New w w3 := HN.out.grown g3 fun k e hk => by have := (own_lt ho e).1; omega
      have HE := Lib.hid (And.intro o3 n3)
      clear o3 g3 a3 hr2 ho n3
      go_wp2_with fail
      go_roundw
      case rel => exact ⟨p, done ++ [UInt8.ofNat q], _, rfl, by first | rfl | (rw [hdv]), by omega, by rw [List.append_assoc]; exact HD.out, by have := HE.out.1; rwa [List.append_assoc] at this, HE.out.2⟩
      case measure => simp [intOf]; omega
set_option maxHeartbeats 4000000 in
set_option maxRecDepth 20000 in
theorem rsigned2 (w : World) (base : Nat) (v : Value) (l : List UInt8) (hv : OwnB w base v l) (hbase : base ≤ w.heap.size) (hb : l.length ≤ 1000000000) (n : Int) :
    Calls Tryd.prog 26 #[v, .int .i64 n] w fun e w' => Puts w base v (l ++ signedB n) e w' := by
  have C := Lib.hid fun m => rput w base v l hv hbase hb m
  have HV := Lib.hid hv
  clear hv
  by_cases h0 : n < -1152921504606846976
  · rw [show signedB n = [] by unfold signedB; rw [if_pos (.inl h0)], List.append_nil]
    unfold Puts at C ⊢
    go_enter Tryd.func26, Tryd.ntmps26
    go_wp2_with fail
    go_ret
    exact ⟨_, rfl, HV.out, Chg.refl _ _, fun k hk => .inl hk⟩
  by_cases h1 : 1152921504606846976 < n
  · rw [show signedB n = [] by unfold signedB; rw [if_pos (.inr h1)], List.append_nil]
    unfold Puts at C ⊢
    go_enter Tryd.func26, Tryd.ntmps26
    go_wp2_with fail
    go_ret
    exact ⟨_, rfl, HV.out, Chg.refl _ _, fun k hk => .inl hk⟩
  by_cases h2 : n < 0
  · have hw1 : IntKind.i64.wrap (-2 * n) = -2 * n := IntWalk.i64_in _ (by omega)
    have hw2 : IntKind.i64.wrap (-2 * n - 1) = -2 * n - 1 := IntWalk.i64_in _ (by omega)
    rw [show signedB n = putB (-2 * n - 1) by unfold signedB; rw [if_neg (by omega), if_pos h2]]
    have C1 := Lib.hid (C.out (-2 * n - 1))
    clear C
    unfold Puts at C1 ⊢
    go_enter Tryd.func26, Tryd.ntmps26
    go_wp2_with fail
    with_reducible refine C1.out.mono ?_
    rintro e w1 ⟨v', rfl, h⟩
    have HE := Lib.hid h
    clear h C1
    go_wp2_with fail
    go_ret
    exact ⟨_, rfl, HE.out⟩
  · have hw1 : IntKind.i64.wrap (2 * n) = 2 * n := IntWalk.i64_in _ (by omega)
    rw [show signedB n = putB (2 * n) by unfold signedB; rw [if_neg (by omega), if_neg h2]]
    have C1 := Lib.hid (C.out (2 * n))
    clear C
    unfold Puts at C1 ⊢
    go_enter Tryd.func26, Tryd.ntmps26
    go_wp2_with fail
    with_reducible refine C1.out.mono ?_
    rintro e w1 ⟨v', rfl, h⟩
    have HE := Lib.hid h
    clear h C1
    go_wp2_with fail
    go_ret
    exact ⟨_, rfl, HE.out⟩
set_option maxHeartbeats 4000000 in
set_option maxRecDepth 20000 in
theorem rtext2 (w : World) (base : Nat) (v : Value) (l : List UInt8) (hv : OwnB w base v l) (hbase : base ≤ w.heap.size) (hb : l.length ≤ 1000000000) (s : ByteArray) (hs : s.size ≤ 1000000000) :
    Calls Tryd.prog 25 #[v, .string s] w fun e w' => Puts w base v (l ++ textB s.data.toList) e w' := by
  have C := Lib.hid (rput w base v l hv hbase hb s.size)
  have HT := Lib.hid (show textB s.data.toList = putB s.size ++ s.data.toList by unfold textB; rw [Array.length_toList]; rfl)
  have hpl := putB_len s.size
  have HPL := Lib.hid hpl
  clear hv hpl
  unfold Puts at C ⊢
  rw [HT.out]
  go_enter Tryd.func25, Tryd.ntmps25
  go_wp2_with fail
  refine C.out.mono ?_
  rintro e w1 ⟨v1, rfl, o1, c1, a1⟩
  have hs1 := c1.size
  have HC := Lib.hid (And.intro c1 a1)
  clear c1 a1 C
  go_wp2_with (at_builtin; refine stop ?_)
  delta Stop
  refine append_str w1 rfl _ _ rfl base _ _ rfl o1 s rfl (by rw [List.length_append]; have := HPL.out; omega) (by omega) ?_
  intro v2 w2 o2 g2 a2
  have c2 := Chg.grown (Chg.refl (fun k => v1.ownBlock = some k) w1) g2 fun g e _ => e
  have HE := Lib.hid (And.intro o2 (And.intro (chg_trans HC.out.1 HC.out.2 c2) (at_trans HC.out.2 (of_at a2) hs1)))
  clear o2 g2 a2 c2 o1
  go_wp2_with fail
  go_ret
  exact ⟨_, rfl, by have := HE.out.1; rwa [List.append_assoc] at this, HE.out.2.1, HE.out.2.2⟩
end Num
end Go.Proofs.YtjkjbbmbfobdaaaDoor

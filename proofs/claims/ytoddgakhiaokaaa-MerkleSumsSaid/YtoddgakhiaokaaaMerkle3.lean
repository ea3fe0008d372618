/-
  What the program's merkle package computes: a key put and dropped, a node told (no condition beyond the numbers' bounds).
-/
import Derived.Test.YtoddgakhiaokaaaMerkle2
namespace Go.Proofs.Ytoddgakhiaokaaa
open Go.ChangeShapes Go.WideShapes Go.RowKit Go.Maps
namespace Merkle
theorem above_nat (key l : Nat) : above (key : Int) l = ((key / 16 ^ (4 - l) : Nat) : Int) := by
  unfold above
  have : ((16 : Int) ^ (4 - l)) = ((16 ^ (4 - l) : Nat) : Int) := by simp
  rw [this]
  rfl
theorem foot_lt {w : World} {lo b n : Nat} {gs : Nat → Nat} {T : Lv} (h : At w lo b gs n T) : ∀ l, l ≤ 4 → gs l < w.heap.size := fun l hl => (h.maps l hl).lt
set_option maxHeartbeats 4000000 in
set_option maxRecDepth 100000 in
theorem climb (w : World) (lo b n : Nat) (gs : Nat → Nat) (T : Lv) (h : At w lo b gs n T) (key : Nat) (hk : key < 65536) (hn : n < 90000) :
    Calls Try.prog 16 #[ptr b, .int .i64 (key : Int)] w fun e w' => e = .returned (.tuple #[]) ∧ At w' lo b gs (n + 4) (climbF ns T key 4) ∧ Chg (Foot gs) w w' := by
  have H := Lib.hid h
  clear h
  go_enter Try.func16, Try.ntmps16
  go_wp2_with fail
  go_loopw [1, 4] (fun kv lv wr => ∃ (j : Nat) (T' : Lv), j ≤ 4 ∧ lv = .int .i64 ((j : Int) - 1) ∧ kv = .int .i64 ((key / 16 ^ (4 - j) : Nat) : Int) ∧ At wr lo b gs (n + (4 - j)) T' ∧ climbF ns T' key j = climbF ns T key 4 ∧ Chg (Foot gs) w wr) (fun _ lv _ => (intOf lv + 1).toNat)
  case atStart => exact ⟨4, T, by omega, rfl, by simp, H.out, rfl, Chg.refl _ _⟩
  case round =>
    obtain ⟨j, T', hj, rfl, rfl, hat, hcl, hch⟩ := hrel
    by_cases h0 : 0 < j
    · obtain ⟨i, rfl⟩ : ∃ i, j = i + 1 := ⟨j - 1, by omega⟩
      have hge : (0 : Int) ≤ ((i + 1 : Nat) : Int) - 1 := by omega
      have hdiv : key / 16 ^ (4 - (i + 1)) / 16 = key / 16 ^ (4 - i) := by
        rw [Nat.div_div_eq_div_mul, ← Nat.pow_succ]
        congr 2
        omega
      have hle := Nat.div_le_self key (16 ^ (4 - (i + 1)))
      obtain ⟨K, hK⟩ : ∃ K, key / 16 ^ (4 - (i + 1)) = K := ⟨_, rfl⟩
      obtain ⟨K2, hK2⟩ : ∃ K2, key / 16 ^ (4 - i) = K2 := ⟨_, rfl⟩
      rw [hK, hK2] at hdiv
      rw [hK] at hle ⊢
      have hK2b : K2 < 4096 := by omega
      have C := reckon wr lo b _ gs T' hat (foot_lt hat) i (by omega) K2 hK2b (by omega)
      have hab : above (key : Int) i = (K2 : Int) := by rw [above_nat, hK2]
      have e1 : ((i + 1 : Nat) : Int) - 1 = (i : Int) := by omega
      have ediv : (K : Int) / 16 = (K2 : Int) := by omega
      have hcl2 : climbF ns (reckonF ns T' i (K2 : Int)) key i = climbF ns T key 4 := by rw [← hcl, climbF, hab]
      rw [e1]
      have HS := Lib.hid (And.intro hcl2 (And.intro hch (And.intro hK2 hj)))
      have C := Lib.hid C
      clear hat hcl hch hcl2 hab hK hK2 hdiv e1 hj
      have hi4 : i < 4 := by have := HS.out.2.2.2; omega
      go_wp2_with fail
      refine C.out.mono ?_
      rintro e w2 ⟨rfl, h2, c2⟩
      have h2' : At w2 lo b gs (n + (4 - i)) (reckonF ns T' i (K2 : Int)) := by
        have := HS.out.2.2.2
        rw [show n + (4 - i) = n + (4 - (i + 1)) + 1 by omega]
        exact h2
      have HZ := Lib.hid (And.intro h2' (HS.out.2.1.trans c2 fun g _ e => ⟨i, by omega, e⟩))
      clear h2 c2 h2' C
      go_wp2_with fail
      go_roundw
      case rel => exact ⟨i, _, by omega, rfl, by rw [HS.out.2.2.1], HZ.out.1, HS.out.1, HZ.out.2⟩
      case measure => simp [intOf]
    · obtain rfl : j = 0 := by omega
      have HS := Lib.hid (And.intro hat (And.intro hcl hch))
      clear hat hcl hch
      go_wp2_with fail
      go_end0
      have h1 := HS.out.1
      rw [show T' = climbF ns T key 4 from HS.out.2.1] at h1
      exact ⟨rfl, h1, HS.out.2.2⟩
theorem put_nil (w : World) (k s : Value) : Calls Try.prog 9 #[.pointer none, k, s] w fun e w' => e = .returned (.int .i64 1) ∧ w = w' := by
  go_enter Try.func9, Try.ntmps9
  go_wp2
  go_ret
  exact ⟨rfl, rfl⟩
/-- what Put answers -/
def putE (key s : Int) : Int := if 0 ≤ key ∧ key ≤ 65535 then (if s = 0 then 1 else 0) else 4
theorem put_out (w : World) (b : Nat) (key s : Int) (hk : key < 0 ∨ 65535 < key) :
    Calls Try.prog 9 #[ptr b, .int .i64 key, .int .u32 s] w fun e w' => e = .returned (.int .i64 4) ∧ w = w' := by
  by_cases h0 : key < 0
  · go_enter Try.func9, Try.ntmps9
    go_wp2
    all_goals
      go_ret
      exact ⟨rfl, rfl⟩
  · have h1 : 65535 < key := by omega
    go_enter Try.func9, Try.ntmps9
    go_wp2
    all_goals
      go_ret
      exact ⟨rfl, rfl⟩
theorem put_zero (w : World) (b : Nat) (key : Int) (h0 : 0 ≤ key) (h1 : key ≤ 65535) :
    Calls Try.prog 9 #[ptr b, .int .i64 key, .int .u32 0] w fun e w' => e = .returned (.int .i64 1) ∧ w = w' := by
  go_enter Try.func9, Try.ntmps9
  go_wp2
  all_goals
    go_ret
    exact ⟨rfl, rfl⟩
theorem At.leaf {w w' : World} {lo b n : Nat} {gs : Nat → Nat} {T : Lv} (h : At w lo b gs n T) (key : Int) (v : Option Int) (hc : Chg (fun k => k = gs 4) w w') (hm : MapU w' (gs 4) (n + 1) (upd (T 4) key v)) : At w' lo b gs (n + 1) (leafF T key v) :=
  h.turned (l := 4) (by omega) hc (by unfold leafF; rw [if_pos rfl]; exact hm) fun m hm => by unfold leafF; rw [if_neg hm]
set_option maxHeartbeats 2000000 in
theorem put_ok (w : World) (lo b n : Nat) (gs : Nat → Nat) (T : Lv) (h : At w lo b gs n T) (key s : Nat) (hk : key < 65536) (hs0 : s ≠ 0) (hs : s < 4294967296) (hn : n < 80000) :
    Calls Try.prog 9 #[ptr b, .int .i64 (key : Int), .int .u32 (s : Int)] w fun e w' => e = .returned (.int .i64 0) ∧ At w' lo b gs (n + 5) (putF ns T key s) ∧ Chg (Foot gs) w w' := by
  have hc := h.cell (l := 4) (by omega)
  obtain ⟨w2, hst, hm2, c2⟩ := (h.maps 4 (by omega)).store Try.underlying39 Try.underlying3 Try.underlying24 (by omega) (x := (key : Int)) (c := (s : Int)) (inI64 (by omega) (by omega)) (inU32 (by omega) (by omega))
  have h2 := h.leaf (key : Int) (some (s : Int)) c2 hm2
  have C := Lib.hid (climb w2 lo b (n + 1) gs _ h2 key hk (by omega))
  have H := Lib.hid c2
  have hkp : (key : Int) ≤ 65535 := by omega
  have hsb : ((s : Int) == 0) = false := by simp; omega
  clear h hm2 c2 h2
  go_enter Try.func9, Try.ntmps9
  go_wp2_with fail
  refine C.out.mono ?_
  rintro e w3 ⟨rfl, h3, c3⟩
  have HZ := Lib.hid (And.intro h3 ((H.out.mono (S' := Foot gs) fun g _ e => ⟨4, by omega, e⟩).trans c3 fun _ _ => id))
  clear h3 c3 C
  go_wp2_with fail
  go_ret
  exact ⟨rfl, HZ.out⟩
theorem drop_no (w : World) (lo b n : Nat) (gs : Nat → Nat) (T : Lv) (h : At w lo b gs n T) (key : Nat) (hk : key < 65536) (hs : sumAt T 4 key = 0) :
    Calls Try.prog 12 #[ptr b, .int .i64 (key : Int)] w fun e w' => e = .returned (.bool false) ∧ w = w' := by
  have C := sum w lo b n gs T h 4 (by omega) (key : Int) (by omega) (by omega)
  rw [hs] at C
  have C := Lib.hid (show Calls Try.prog 17 #[ptr b, .int .i64 4, .int .i64 (key : Int)] w fun e w' => e = .returned (.int .u32 0) ∧ w = w' from C)
  clear h hs
  go_enter Try.func12, Try.ntmps12
  go_wp2_with fail
  refine C.out.mono ?_
  rintro e w1 ⟨rfl, rfl⟩
  go_wp2
  go_ret
  exact ⟨rfl, rfl⟩
set_option maxHeartbeats 2000000 in
theorem drop_ok (w : World) (lo b n : Nat) (gs : Nat → Nat) (T : Lv) (h : At w lo b gs n T) (key : Nat) (hk : key < 65536) (hs : sumAt T 4 key ≠ 0) (hn : n < 80000) :
    Calls Try.prog 12 #[ptr b, .int .i64 (key : Int)] w fun e w' => e = .returned (.bool true) ∧ At w' lo b gs (n + 5) (dropF ns T key) ∧ Chg (Foot gs) w w' := by
  have hc := h.cell (l := 4) (by omega)
  obtain ⟨w2, hdel, hm2, c2⟩ := (h.maps 4 (by omega)).drop Try.underlying39 Try.underlying3 (x := (key : Int)) (inI64 (by omega) (by omega))
  have h2 := h.leaf (key : Int) none c2 (hm2.mono (Nat.le_succ _))
  have C := Lib.hid (climb w2 lo b (n + 1) gs _ h2 key hk (by omega))
  have CS := sum w lo b n gs T h 4 (by omega) (key : Int) (by omega) (by omega)
  have hsb : (sumAt T 4 (key : Int) == 0) = false := by simpa using hs
  have CS := Lib.hid (show Calls Try.prog 17 #[ptr b, .int .i64 4, .int .i64 (key : Int)] w fun e w' => e = .returned (.int .u32 (sumAt T 4 (key : Int))) ∧ w = w' from CS)
  have H := Lib.hid c2
  clear h hm2 c2 h2 hs
  generalize sumAt T 4 (key : Int) = s at *
  go_enter Try.func12, Try.ntmps12
  go_wp2_with fail
  refine CS.out.mono ?_
  rintro e w1 ⟨rfl, rfl⟩
  go_wp2_with fail
  refine C.out.mono ?_
  rintro e w3 ⟨rfl, h3, c3⟩
  have HZ := Lib.hid (And.intro h3 ((H.out.mono (S' := Foot gs) fun g _ e => ⟨4, by omega, e⟩).trans c3 fun _ _ => id))
  clear h3 c3 C
  go_wp2_with fail
  go_ret
  exact ⟨rfl, HZ.out⟩
set_option maxHeartbeats 2000000 in
set_option maxRecDepth 1000000 in
theorem node (w : World) (lo b n : Nat) (gs : Nat → Nat) (T : Lv) (h : At w lo b gs n T) (l : Nat) (hl : l ≤ 4) (x : Nat) (hx : x < 16 ^ l) :
    Calls Try.prog 10 #[ptr b, .int .i64 (l : Int), .int .i64 (x : Int)] w fun e w' => e = .returned (.tuple #[.int .u32 (sumAt T l x), .bool true]) ∧ w = w' := by
  have hx2 : x < 65536 := Nat.lt_of_lt_of_le hx (Nat.pow_le_pow_right (by omega) hl)
  have C := Lib.hid (sum w lo b n gs T h l hl (x : Int) (by omega) (by omega))
  clear h
  generalize sumAt T l (x : Int) = s at *
  have hc : l = 0 ∨ l = 1 ∨ l = 2 ∨ l = 3 ∨ l = 4 := by omega
  have hxi : (x : Int) < 16 ^ l := by
    have : ((16 : Int) ^ l) = ((16 ^ l : Nat) : Int) := by simp
    rw [this]
    omega
  rcases hc with rfl | rfl | rfl | rfl | rfl
  · have C0 := Lib.hid (show Calls Try.prog 17 #[ptr b, .int .i64 0, .int .i64 (x : Int)] w fun e w' => e = .returned (.int .u32 s) ∧ w = w' from C.out)
    have hxn : (x : Int) < 1 := by omega
    clear hxi hx hx2 hl C
    go_enter Try.func10, Try.ntmps10
    go_wp2_with fail
    refine C0.out.mono ?_
    rintro e w1 ⟨rfl, rfl⟩
    go_wp2
    go_ret2
    exact ⟨rfl, rfl⟩
  · have C1 := Lib.hid (show Calls Try.prog 17 #[ptr b, .int .i64 1, .int .i64 (x : Int)] w fun e w' => e = .returned (.int .u32 s) ∧ w = w' from C.out)
    have hxn : (x : Int) < 16 := by omega
    clear hxi hx hx2 hl C
    go_enter Try.func10, Try.ntmps10
    go_wp2_with fail
    refine C1.out.mono ?_
    rintro e w1 ⟨rfl, rfl⟩
    go_wp2
    go_ret2
    exact ⟨rfl, rfl⟩
  · have C2 := Lib.hid (show Calls Try.prog 17 #[ptr b, .int .i64 2, .int .i64 (x : Int)] w fun e w' => e = .returned (.int .u32 s) ∧ w = w' from C.out)
    have hxn : (x : Int) < 256 := by omega
    clear hxi hx hx2 hl C
    go_enter Try.func10, Try.ntmps10
    go_wp2_with fail
    refine C2.out.mono ?_
    rintro e w1 ⟨rfl, rfl⟩
    go_wp2
    go_ret2
    exact ⟨rfl, rfl⟩
  · have C3 := Lib.hid (show Calls Try.prog 17 #[ptr b, .int .i64 3, .int .i64 (x : Int)] w fun e w' => e = .returned (.int .u32 s) ∧ w = w' from C.out)
    have hxn : (x : Int) < 4096 := by omega
    clear hxi hx hx2 hl C
    go_enter Try.func10, Try.ntmps10
    go_wp2_with fail
    refine C3.out.mono ?_
    rintro e w1 ⟨rfl, rfl⟩
    go_wp2
    go_ret2
    exact ⟨rfl, rfl⟩
  · have C4 := Lib.hid (show Calls Try.prog 17 #[ptr b, .int .i64 4, .int .i64 (x : Int)] w fun e w' => e = .returned (.int .u32 s) ∧ w = w' from C.out)
    have hxn : (x : Int) < 65536 := by omega
    clear hxi hx hx2 hl C
    go_enter Try.func10, Try.ntmps10
    go_wp2_with fail
    refine C4.out.mono ?_
    rintro e w1 ⟨rfl, rfl⟩
    go_wp2
    go_ret2
    exact ⟨rfl, rfl⟩
end Merkle
end Go.Proofs.Ytoddgakhiaokaaa

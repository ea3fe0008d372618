/-
  The program's num package: a reader's signed numbers and texts (no condition beyond the size).
-/
import Derived.Test.YtjkjbbmbfobdaaaDoorNum4
namespace Go.Proofs.YtjkjbbmbfobdaaaDoor
set_option linter.unusedSimpArgs false
set_option linter.unusedVariables false
open Go.ChangeShapes Go.WideShapes Go.RowKit
namespace Num
theorem and1 (m : Nat) (h : m < 4611686018427387904) : bits .and .i64 (m : Int) 1 = ((m % 2 : Nat) : Int) := by
  have := i64_and_nat m 1 h (by decide)
  rw [show (1 : Nat) = 2 ^ 1 - 1 by decide, Nat.and_two_pow_sub_one_eq_mod] at this
  exact this
set_option maxHeartbeats 4000000 in
set_option maxRecDepth 20000 in
theorem rsigned (w : World) (F : Nat → Prop) (g : Nat) (s : Rd) (h : RdAt w F g s) : Calls Tryd.prog 42 #[.pointer (some ⟨g, 0, none⟩)] w fun e w' => e = .returned (.int .i64 (signedP s).1) ∧ RdAt w' F g (signedP s).2 ∧ Chg (fun k => k = g) w w' := by
  have C := Lib.hid (num w F g s h 2305843009213693952)
  have hr := numP_range 2305843009213693952 (by decide) s
  have hs2 : (signedP s).2 = (numP 2305843009213693952 s).2 := rfl
  have hs1 : (signedP s).1 = if (numP 2305843009213693952 s).1 % 2 = 1 then -((numP 2305843009213693952 s).1 / 2) - 1 else (numP 2305843009213693952 s).1 / 2 := rfl
  rw [hs1, hs2]
  obtain ⟨s2, hse⟩ : ∃ x, (numP 2305843009213693952 s).2 = x := ⟨_, rfl⟩
  rw [hse] at C ⊢
  obtain ⟨z, hz⟩ : ∃ z : Nat, (numP 2305843009213693952 s).1 = (z : Int) := ⟨_, by rw [Int.toNat_of_nonneg hr.1]⟩
  rw [hz] at C hr ⊢
  have h1 := and1 z (by omega)
  have hw1 : IntKind.i64.wrap (-((z : Int) / 2)) = -((z : Int) / 2) := IntWalk.i64_in _ (by omega)
  have hw2 : IntKind.i64.wrap (-((z : Int) / 2) - 1) = -((z : Int) / 2) - 1 := IntWalk.i64_in _ (by omega)
  have hw3 : IntKind.i64.wrap ((z : Int) / 2) = ((z : Int) / 2) := IntWalk.i64_in _ (by omega)
  have hq : (z : Int).tdiv 2 = (z : Int) / 2 := Int.tdiv_eq_ediv_of_nonneg (by omega)
  obtain ⟨q, hqe⟩ : ∃ q : Int, (z : Int) / 2 = q := ⟨_, rfl⟩
  rw [hqe] at hw1 hw2 hw3 hq ⊢
  clear hs1 hs2 hse hz h
  by_cases ho : z % 2 = 1
  · rw [ho] at h1
    rw [if_pos (by omega)]
    clear hr hqe ho
    go_enter Tryd.func42, Tryd.ntmps42
    go_wp2_with fail
    with_reducible refine C.out.mono ?_
    rintro e w1 ⟨rfl, h3, c3⟩
    have HE := Lib.hid (And.intro h3 c3)
    clear h3 c3
    go_wp2_with fail
    go_ret
    exact ⟨rfl, HE.out⟩
  · rw [show z % 2 = 0 by omega] at h1
    rw [if_neg (by omega)]
    clear hr hqe ho
    go_enter Tryd.func42, Tryd.ntmps42
    go_wp2_with fail
    with_reducible refine C.out.mono ?_
    rintro e w1 ⟨rfl, h3, c3⟩
    have HE := Lib.hid (And.intro h3 c3)
    clear h3 c3
    go_wp2_with fail
    go_ret
    exact ⟨rfl, HE.out⟩
theorem slice_to_str {w : World} {F : Nat → Prop} {A : Option Addr} {n : Nat} {l : List UInt8} (h : Reads w F 1 A n (u8s l)) (k c : Nat) (hk : k ≤ n) : (convert 43 9 (.slice A k c)).run Tryd.prog w = .ok (.string ⟨(l.take k).toArray⟩) w :=
  run_str Tryd.underlying43 Tryd.underlying5 Tryd.underlying9 (Reads.takeB h hk) c
set_option maxHeartbeats 4000000 in
set_option maxRecDepth 20000 in
theorem rtext (w : World) (F : Nat → Prop) (g : Nat) (s : Rd) (h : RdAt w F g s) (most : Int) (hmost : 0 ≤ most) : Calls Tryd.prog 41 #[.pointer (some ⟨g, 0, none⟩), .int .i64 most] w fun e w' => e = .returned (.string ⟨(textP most s).1.toArray⟩) ∧ RdAt w' F g (textP most s).2 ∧ Chg (fun k => k = g) w w' := by
  have C := Lib.hid (num w F g s h most)
  have hr := numP_range most hmost s
  have ht : textP most s = if (numP most s).2.bad = true then ([], (numP most s).2) else if ((numP most s).2.l.length : Int) < (numP most s).1 then ([], ⟨(numP most s).2.l, true⟩) else
    ((numP most s).2.l.take (numP most s).1.toNat, ⟨(numP most s).2.l.drop (numP most s).1.toNat, false⟩) := rfl
  obtain ⟨R, hR⟩ : ∃ R, textP most s = R := ⟨_, rfl⟩
  rw [hR] at ht ⊢
  obtain ⟨s2, hse⟩ : ∃ x, (numP most s).2 = x := ⟨_, rfl⟩
  obtain ⟨z, hz⟩ : ∃ z : Nat, (numP most s).1 = (z : Int) := ⟨_, by rw [Int.toNat_of_nonneg hr.1]⟩
  rw [hse, hz] at C ht
  rw [Int.toNat_natCast] at ht
  have HT := Lib.hid ht
  clear hse hz hr ht h hmost hR
  go_enter Tryd.func41, Tryd.ntmps41
  go_wp2_with fail
  with_reducible refine C.out.mono ?_
  rintro e w1 ⟨rfl, h, c1⟩
  have CF := Lib.hid (fail w1 F g s2 h)
  have H := Lib.hid h
  obtain ⟨A, n, cp, h1, h2, h3, h4⟩ := h.ex
  have hc := h1.cell 0
  simp only [List.getElem?_toArray, List.getElem?_cons_zero] at hc
  have hl := h1.lt
  have hln := h2.u8len
  have HC := Lib.hid c1
  clear C
  by_cases hb : s2.bad = true
  · have hR := HT.out
    rw [if_pos hb] at hR
    have HR := Lib.hid hR
    rw [hb] at CF
    clear hR
    clear h h1 h2 hb hln c1
    go_wp2_with fail
    with_reducible refine CF.out.mono ?_
    rintro e w2 ⟨rfl, rfl⟩
    go_wp2_with fail
    go_ret
    exact ⟨by rw [HR.out]; rfl, by rw [HR.out]; exact H.out, HC.out⟩
  · have hb : s2.bad = false := by simpa using hb
    have hR := HT.out
    rw [if_neg (by rw [hb]; decide), hln] at hR
    rw [hb] at CF h1
    by_cases hn : (n : Int) < (z : Int)
    · rw [if_pos hn] at hR
      have HR := Lib.hid hR
      clear hR
      have c2 := c1.setCell (p := ⟨g, 1, none⟩) (fun _ => rfl) (.bool true)
      have c2' := (Chg.refl (fun k => k = g) w1).setCell (p := ⟨g, 1, none⟩) (fun _ => rfl) (.bool true)
      have hset : RdAt (w1.setCell ⟨g, 1, none⟩ (.bool true)) F g ⟨s2.l, true⟩ :=
        ⟨⟨A, n, cp, h1.set_ 1 (.bool true), h2.chg c2' fun b hb => H.out.far b hb, h3, h4⟩, fun b hb => ⟨by have := (H.out.far b hb).1; have := c2'.size; omega, (H.out.far b hb).2⟩⟩
      have hc1 := h1.cell 1
      simp only [List.getElem?_toArray, List.getElem?_cons_zero, List.getElem?_cons_succ] at hc1
      have hf1 := h1.frozen 1
      have HE := Lib.hid (And.intro hset c2)
      clear h h1 h2 hb hln c1 c2 c2' hset
      go_wp2_with fail
      with_reducible refine CF.out.mono ?_
      rintro e w2 ⟨rfl, rfl⟩
      go_wp2_with fail
      go_ret
      exact ⟨by rw [HR.out] <;> rfl, by rw [HR.out]; exact HE.out.1, HE.out.2⟩
    · rw [if_neg hn] at hR
      have HR := Lib.hid hR
      clear hR
      have hsl := slice_u8_to A n cp z (by omega)
      have hst := slice_to_str h2 z cp (by omega)
      obtain ⟨A', h2', hsl2⟩ := Reads.cutU h2 (k := z) (by omega) h3
      have c2 := c1.setCell (p := ⟨g, 0, none⟩) (fun _ => rfl) (.slice A' (n - z) (cp - z))
      have c2' := (Chg.refl (fun k => k = g) w1).setCell (p := ⟨g, 0, none⟩) (fun _ => rfl) (.slice A' (n - z) (cp - z))
      have hset2 : RdAt (w1.setCell ⟨g, 0, none⟩ (.slice A' (n - z) (cp - z))) F g ⟨s2.l.drop z, false⟩ :=
        ⟨⟨A', n - z, cp - z, h1.set_ 0 _, h2'.chg c2' fun b hb => H.out.far b hb, by omega, by omega⟩, fun b hb => ⟨by have := (H.out.far b hb).1; have := c2'.size; omega, (H.out.far b hb).2⟩⟩
      have hf0 := h1.frozen 0
      have HE := Lib.hid (And.intro hset2 c2)
      obtain ⟨x, hx⟩ : ∃ x : ByteArray, ⟨(s2.l.take z).toArray⟩ = x := ⟨_, rfl⟩
      rw [hx] at hst
      have HX := Lib.hid hx
      clear h h1 h2 hb hln c1 c2 c2' hset2 h2' hx
      go_wp2_with fail
      with_reducible refine CF.out.mono ?_
      rintro e w2 ⟨rfl, rfl⟩
      go_wp2_with fail
      go_ret
      exact ⟨by rw [HR.out, ← HX.out] <;> rfl, by rw [HR.out]; exact HE.out.1, HE.out.2⟩
end Num
end Go.Proofs.YtjkjbbmbfobdaaaDoor

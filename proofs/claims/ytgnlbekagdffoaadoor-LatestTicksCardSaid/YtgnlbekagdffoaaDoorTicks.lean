/-
  The law's LatestTicks, walked: true.
-/
import Derived.Test.YtgnlbekagdffoaaDoorLawFix
namespace Go.Proofs.YtgnlbekagdffoaaDoor
set_option linter.unusedSimpArgs false
set_option linter.unusedVariables false
open Go.ChangeShapes Go.WideShapes Go.RowKit Go.Deep
namespace Lat
attribute [local go_sem ↓] loadOnly0 loadOnly1 loadOnly2
theorem later_gt {t r a b : Int} (h : a < t) : decide (0 < orL [cmpI t a, cmpI r b]) = true := by
  rw [or_or]
  unfold cmpI
  simp [h, show ¬ t < a by omega]
theorem later_self (a b : Int) : decide (0 < orL [cmpI a a, cmpI b b]) = false := by
  rw [or_or]
  unfold cmpI
  simp
theorem later_anti (a b c d : Int) : (decide (0 < orL [cmpI a c, cmpI b d]) && decide (0 < orL [cmpI c a, cmpI d b])) = false := by
  rw [or_or, or_or]
  unfold cmpI
  rw [Bool.and_eq_false_iff, decide_eq_false_iff_not, decide_eq_false_iff_not]
  by_cases h1 : a < c
  · left; simp [h1]
  · by_cases h2 : c < a
    · right; simp [h2]
    · simp only [h1, h2, if_false, if_true]
      by_cases h3 : b < d
      · left; simp [h3]
      · by_cases h4 : d < b
        · right; simp [h4]
        · left; simp [h3, h4]
theorem ldSt {w : World} {g : Nat} {x y : Int} (h : Blk w g 29 #[.int .i64 x, .int .i64 y]) : (LoadRow 29 ⟨g, 0, none⟩).run Tryd.prog w = .ok (.agg #[.int .i64 x, .int .i64 y]) w ∧ w.cell? ⟨g, 0, none⟩ = some (.int .i64 x) ∧ w.cell? ⟨g, 1, none⟩ = some (.int .i64 y) :=
  ⟨run_LoadRow (P := Tryd.prog) (n := 2) (cs := [.int .i64 x, .int .i64 y]) Tryd.underlying29 rfl (by kernel_rfl) rfl (Blk.range_all (cs := [_, _]) h), h.cell 0, h.cell 1⟩
/-- what the tick must be -/
theorem tick_facts (a c r : Int) : 1 ≤ tickT a c ∧ tickT a c ≤ 1099511627776 ∧ 0 ≤ tickR r ∧ tickR r ≤ 15 ∧ (0 ≤ r ∧ r < 16 → tickR r = r) := by
  unfold tickT tickR
  omega
set_option maxHeartbeats 20000000 in
set_option maxRecDepth 20000 in
theorem ticks (hS : SortsC) (w : World) (hm : Val.MaxAt w) (a b c d r : Int) (hab : -9223372036854775808 ≤ a ∧ a ≤ 9223372036854775807 ∧ -9223372036854775808 ≤ c ∧ c ≤ 9223372036854775807) :
    Calls Tryd.prog 5 #[.agg #[.int .i64 a, .int .i64 b], .agg #[.int .i64 c, .int .i64 d], .int .i64 r] w fun e w' => e = .returned (.bool true) ∧ New w w' := by
  have n1 := ((Chg.refl (fun _ => False) w).alloc (.cells #[.int .i64 a, .int .i64 b] 29)).alloc (.cells #[.int .i64 c, .int .i64 d] 29)
  have hA := (Blk.new w 29 #[.int .i64 a, .int .i64 b]).alloc (.cells #[.int .i64 c, .int .i64 d] 29)
  have hC := Blk.new1 w (.cells #[.int .i64 a, .int .i64 b] 29) 29 #[.int .i64 c, .int .i64 d]
  have C0 := Lib.hid (fixed hS _ (hm.new n1))
  have HN0 := Lib.hid n1
  have HB := Lib.hid (And.intro hA hC)
  have hf := tick_facts a c r
  have CT := Lib.hid fun W => tick W a b c d r ⟨hab.2.1, hab.2.2.2⟩
  obtain ⟨T, hT⟩ : ∃ T, tickT a c = T := ⟨_, rfl⟩
  obtain ⟨R, hR⟩ : ∃ R, tickR r = R := ⟨_, rfl⟩
  rw [hT, hR] at hf CT
  have HE := Lib.hid (And.intro hT hR)
  obtain ⟨f1, f2, f3, f4, f5⟩ := hf
  clear n1 hA hC hS hm hT hR
  go_enter Tryd.func5, Tryd.ntmps5
  go_wp2_with fail
  refine C0.out.mono ?_
  rintro e w2 ⟨rfl, n2⟩
  have hA2 := ldSt (HB.out.1.chg n2 id)
  have hC2 := ldSt (HB.out.2.chg n2 id)
  have HN2 := Lib.hid n2
  clear n2 C0
  go_wp2_with fail
  refine (CT.out _).mono ?_
  rintro e w3 ⟨rfl, n3⟩
  have HN3 := Lib.hid (HN2.out.trans (n3.trans ((Chg.refl (fun _ => False) w3).alloc (.cells #[.int .i64 T, .int .i64 R] 29)) fun _ _ => id) fun _ _ => id)
  have HT := Lib.hid (Blk.new w3 29 #[.int .i64 T, .int .i64 R])
  have hTl := ldSt HT.out
  have hAl := ldSt (HB.out.1.chg HN3.out id)
  have hCl := ldSt (HB.out.2.chg HN3.out id)
  clear n3 hA2 hC2 CT
  obtain ⟨Mx, hM⟩ : ∃ M, max a c = M := ⟨_, rfl⟩
  by_cases g1 : r < 0
  · clear f5
    by_cases h2 : 1099511627776 ≤ Mx
    · have hT : T = 1099511627776 := by rw [← HE.out.1]; unfold tickT; omega
      subst hT
      go_wp2_with fail
      go_ret
      exact ⟨rfl, HN0.out.trans HN3.out fun _ _ => id⟩
    · obtain ⟨P, hP⟩ : ∃ P, max Mx 0 = P := ⟨_, rfl⟩
      obtain rfl : T = P + 1 := by rw [← HE.out.1]; unfold tickT; omega
      have HTa := Lib.hid (show a < P + 1 ∧ c < P + 1 by omega)
      have hw : IntKind.i64.wrap (P + 1) = P + 1 := IntWalk.i64_in _ (by omega)
      have hP0 : 0 ≤ P := by omega
      obtain ⟨q1, hq1⟩ : ∃ q, decide (0 < orL [cmpI a c, cmpI b d]) = q := ⟨_, rfl⟩
      obtain ⟨q2, hq2⟩ : ∃ q, decide (0 < orL [cmpI c a, cmpI d b]) = q := ⟨_, rfl⟩
      have hqq := later_anti a b c d
      rw [hq1, hq2] at hqq
      have C1 := Lib.hid fun W => later W (P + 1) R a b
      have C2 := Lib.hid fun W => later W (P + 1) R c d
      have C3 := Lib.hid fun W => later W a b a b
      have C4 := Lib.hid fun W => later W a b c d
      have C5 := Lib.hid fun W => later W c d a b
      rw [hq1] at C4
      rw [hq2] at C5
      rw [later_self] at C3
      rw [later_gt HTa.out.1] at C1
      rw [later_gt HTa.out.2] at C2
      clear hq1 hq2
      cases q1
      · have hA3 := ldSt (HB.out.1.chg HN3.out id)
        have hC3 := ldSt (HB.out.2.chg HN3.out id)
        have hT3 := ldSt HT.out
        go_wp2_with fail
        refine (C1.out _).mono ?_
        rintro e w4 ⟨rfl, n4⟩
        have HN4 := Lib.hid n4
        have hT4 := ldSt (HT.out.chg HN4.out id)
        have hA4 := ldSt ((HB.out.1.chg HN3.out id).chg HN4.out id)
        have hC4 := ldSt ((HB.out.2.chg HN3.out id).chg HN4.out id)
        clear n4 hA3 hC3 hT3
        go_wp2_with fail
        refine (C2.out _).mono ?_
        rintro e w5 ⟨rfl, n5⟩
        have HN5 := Lib.hid (HN4.out.trans n5 fun _ _ => id)
        have hA5 := ldSt ((HB.out.1.chg HN3.out id).chg HN5.out id)
        clear n5 hA4 hC4 hT4
        go_wp2_with fail
        refine (C3.out _).mono ?_
        rintro e w6 ⟨rfl, n6⟩
        have HN6 := Lib.hid (HN5.out.trans n6 fun _ _ => id)
        have hA6 := ldSt ((HB.out.1.chg HN3.out id).chg HN6.out id)
        have hC6 := ldSt ((HB.out.2.chg HN3.out id).chg HN6.out id)
        clear n6 hA5
        go_wp2_with fail
        refine (C4.out _).mono ?_
        rintro e w7 ⟨rfl, n7⟩
        have HN7 := Lib.hid (HN6.out.trans n7 fun _ _ => id)
        have hA7 := ldSt ((HB.out.1.chg HN3.out id).chg HN7.out id)
        have hC7 := ldSt ((HB.out.2.chg HN3.out id).chg HN7.out id)
        clear n7 hA6 hC6
        go_wp2_with fail
        go_ret
        exact ⟨rfl, (HN0.out.trans HN3.out fun _ _ => id).trans HN7.out fun _ _ => id⟩
      · obtain rfl : q2 = false := by simpa using hqq
        have hA3 := ldSt (HB.out.1.chg HN3.out id)
        have hC3 := ldSt (HB.out.2.chg HN3.out id)
        have hT3 := ldSt HT.out
        go_wp2_with fail
        refine (C1.out _).mono ?_
        rintro e w4 ⟨rfl, n4⟩
        have HN4 := Lib.hid n4
        have hT4 := ldSt (HT.out.chg HN4.out id)
        have hA4 := ldSt ((HB.out.1.chg HN3.out id).chg HN4.out id)
        have hC4 := ldSt ((HB.out.2.chg HN3.out id).chg HN4.out id)
        clear n4 hA3 hC3 hT3
        go_wp2_with fail
        refine (C2.out _).mono ?_
        rintro e w5 ⟨rfl, n5⟩
        have HN5 := Lib.hid (HN4.out.trans n5 fun _ _ => id)
        have hA5 := ldSt ((HB.out.1.chg HN3.out id).chg HN5.out id)
        clear n5 hA4 hC4 hT4
        go_wp2_with fail
        refine (C3.out _).mono ?_
        rintro e w6 ⟨rfl, n6⟩
        have HN6 := Lib.hid (HN5.out.trans n6 fun _ _ => id)
        have hA6 := ldSt ((HB.out.1.chg HN3.out id).chg HN6.out id)
        have hC6 := ldSt ((HB.out.2.chg HN3.out id).chg HN6.out id)
        clear n6 hA5
        go_wp2_with fail
        refine (C4.out _).mono ?_
        rintro e w7 ⟨rfl, n7⟩
        have HN7 := Lib.hid (HN6.out.trans n7 fun _ _ => id)
        have hA7 := ldSt ((HB.out.1.chg HN3.out id).chg HN7.out id)
        have hC7 := ldSt ((HB.out.2.chg HN3.out id).chg HN7.out id)
        clear n7 hA6 hC6
        go_wp2_with fail
        refine (C5.out _).mono ?_
        rintro e w8 ⟨rfl, n8⟩
        have HN8 := Lib.hid (HN7.out.trans n8 fun _ _ => id)
        clear n8 hA7 hC7
        go_wp2_with fail
        go_ret
        exact ⟨rfl, (HN0.out.trans HN3.out fun _ _ => id).trans HN8.out fun _ _ => id⟩
  · by_cases g2 : r < 16
    · obtain rfl : R = r := f5 ⟨by omega, g2⟩
      clear f5
      by_cases h2 : 1099511627776 ≤ Mx
      · have hT : T = 1099511627776 := by rw [← HE.out.1]; unfold tickT; omega
        subst hT
        go_wp2_with fail
        go_ret
        exact ⟨rfl, HN0.out.trans HN3.out fun _ _ => id⟩
      · obtain ⟨P, hP⟩ : ∃ P, max Mx 0 = P := ⟨_, rfl⟩
        obtain rfl : T = P + 1 := by rw [← HE.out.1]; unfold tickT; omega
        have HTa := Lib.hid (show a < P + 1 ∧ c < P + 1 by omega)
        have hw : IntKind.i64.wrap (P + 1) = P + 1 := IntWalk.i64_in _ (by omega)
        have hP0 : 0 ≤ P := by omega
        obtain ⟨q1, hq1⟩ : ∃ q, decide (0 < orL [cmpI a c, cmpI b d]) = q := ⟨_, rfl⟩
        obtain ⟨q2, hq2⟩ : ∃ q, decide (0 < orL [cmpI c a, cmpI d b]) = q := ⟨_, rfl⟩
        have hqq := later_anti a b c d
        rw [hq1, hq2] at hqq
        have C1 := Lib.hid fun W => later W (P + 1) R a b
        have C2 := Lib.hid fun W => later W (P + 1) R c d
        have C3 := Lib.hid fun W => later W a b a b
        have C4 := Lib.hid fun W => later W a b c d
        have C5 := Lib.hid fun W => later W c d a b
        rw [hq1] at C4
        rw [hq2] at C5
        rw [later_self] at C3
        rw [later_gt HTa.out.1] at C1
        rw [later_gt HTa.out.2] at C2
        clear hq1 hq2
        cases q1
        · have hA3 := ldSt (HB.out.1.chg HN3.out id)
          have hC3 := ldSt (HB.out.2.chg HN3.out id)
          have hT3 := ldSt HT.out
          go_wp2_with fail
          refine (C1.out _).mono ?_
          rintro e w4 ⟨rfl, n4⟩
          have HN4 := Lib.hid n4
          have hT4 := ldSt (HT.out.chg HN4.out id)
          have hA4 := ldSt ((HB.out.1.chg HN3.out id).chg HN4.out id)
          have hC4 := ldSt ((HB.out.2.chg HN3.out id).chg HN4.out id)
          clear n4 hA3 hC3 hT3
          go_wp2_with fail
          refine (C2.out _).mono ?_
          rintro e w5 ⟨rfl, n5⟩
          have HN5 := Lib.hid (HN4.out.trans n5 fun _ _ => id)
          have hA5 := ldSt ((HB.out.1.chg HN3.out id).chg HN5.out id)
          clear n5 hA4 hC4 hT4
          go_wp2_with fail
          refine (C3.out _).mono ?_
          rintro e w6 ⟨rfl, n6⟩
          have HN6 := Lib.hid (HN5.out.trans n6 fun _ _ => id)
          have hA6 := ldSt ((HB.out.1.chg HN3.out id).chg HN6.out id)
          have hC6 := ldSt ((HB.out.2.chg HN3.out id).chg HN6.out id)
          clear n6 hA5
          go_wp2_with fail
          refine (C4.out _).mono ?_
          rintro e w7 ⟨rfl, n7⟩
          have HN7 := Lib.hid (HN6.out.trans n7 fun _ _ => id)
          have hA7 := ldSt ((HB.out.1.chg HN3.out id).chg HN7.out id)
          have hC7 := ldSt ((HB.out.2.chg HN3.out id).chg HN7.out id)
          clear n7 hA6 hC6
          go_wp2_with fail
          go_ret
          exact ⟨rfl, (HN0.out.trans HN3.out fun _ _ => id).trans HN7.out fun _ _ => id⟩
        · obtain rfl : q2 = false := by simpa using hqq
          have hA3 := ldSt (HB.out.1.chg HN3.out id)
          have hC3 := ldSt (HB.out.2.chg HN3.out id)
          have hT3 := ldSt HT.out
          go_wp2_with fail
          refine (C1.out _).mono ?_
          rintro e w4 ⟨rfl, n4⟩
          have HN4 := Lib.hid n4
          have hT4 := ldSt (HT.out.chg HN4.out id)
          have hA4 := ldSt ((HB.out.1.chg HN3.out id).chg HN4.out id)
          have hC4 := ldSt ((HB.out.2.chg HN3.out id).chg HN4.out id)
          clear n4 hA3 hC3 hT3
          go_wp2_with fail
          refine (C2.out _).mono ?_
          rintro e w5 ⟨rfl, n5⟩
          have HN5 := Lib.hid (HN4.out.trans n5 fun _ _ => id)
          have hA5 := ldSt ((HB.out.1.chg HN3.out id).chg HN5.out id)
          clear n5 hA4 hC4 hT4
          go_wp2_with fail
          refine (C3.out _).mono ?_
          rintro e w6 ⟨rfl, n6⟩
          have HN6 := Lib.hid (HN5.out.trans n6 fun _ _ => id)
          have hA6 := ldSt ((HB.out.1.chg HN3.out id).chg HN6.out id)
          have hC6 := ldSt ((HB.out.2.chg HN3.out id).chg HN6.out id)
          clear n6 hA5
          go_wp2_with fail
          refine (C4.out _).mono ?_
          rintro e w7 ⟨rfl, n7⟩
          have HN7 := Lib.hid (HN6.out.trans n7 fun _ _ => id)
          have hA7 := ldSt ((HB.out.1.chg HN3.out id).chg HN7.out id)
          have hC7 := ldSt ((HB.out.2.chg HN3.out id).chg HN7.out id)
          clear n7 hA6 hC6
          go_wp2_with fail
          refine (C5.out _).mono ?_
          rintro e w8 ⟨rfl, n8⟩
          have HN8 := Lib.hid (HN7.out.trans n8 fun _ _ => id)
          clear n8 hA7 hC7
          go_wp2_with fail
          go_ret
          exact ⟨rfl, (HN0.out.trans HN3.out fun _ _ => id).trans HN8.out fun _ _ => id⟩
    · clear f5
      by_cases h2 : 1099511627776 ≤ Mx
      · have hT : T = 1099511627776 := by rw [← HE.out.1]; unfold tickT; omega
        subst hT
        go_wp2_with fail
        go_ret
        exact ⟨rfl, HN0.out.trans HN3.out fun _ _ => id⟩
      · obtain ⟨P, hP⟩ : ∃ P, max Mx 0 = P := ⟨_, rfl⟩
        obtain rfl : T = P + 1 := by rw [← HE.out.1]; unfold tickT; omega
        have HTa := Lib.hid (show a < P + 1 ∧ c < P + 1 by omega)
        have hw : IntKind.i64.wrap (P + 1) = P + 1 := IntWalk.i64_in _ (by omega)
        have hP0 : 0 ≤ P := by omega
        obtain ⟨q1, hq1⟩ : ∃ q, decide (0 < orL [cmpI a c, cmpI b d]) = q := ⟨_, rfl⟩
        obtain ⟨q2, hq2⟩ : ∃ q, decide (0 < orL [cmpI c a, cmpI d b]) = q := ⟨_, rfl⟩
        have hqq := later_anti a b c d
        rw [hq1, hq2] at hqq
        have C1 := Lib.hid fun W => later W (P + 1) R a b
        have C2 := Lib.hid fun W => later W (P + 1) R c d
        have C3 := Lib.hid fun W => later W a b a b
        have C4 := Lib.hid fun W => later W a b c d
        have C5 := Lib.hid fun W => later W c d a b
        rw [hq1] at C4
        rw [hq2] at C5
        rw [later_self] at C3
        rw [later_gt HTa.out.1] at C1
        rw [later_gt HTa.out.2] at C2
        clear hq1 hq2
        cases q1
        · have hA3 := ldSt (HB.out.1.chg HN3.out id)
          have hC3 := ldSt (HB.out.2.chg HN3.out id)
          have hT3 := ldSt HT.out
          go_wp2_with fail
          refine (C1.out _).mono ?_
          rintro e w4 ⟨rfl, n4⟩
          have HN4 := Lib.hid n4
          have hT4 := ldSt (HT.out.chg HN4.out id)
          have hA4 := ldSt ((HB.out.1.chg HN3.out id).chg HN4.out id)
          have hC4 := ldSt ((HB.out.2.chg HN3.out id).chg HN4.out id)
          clear n4 hA3 hC3 hT3
          go_wp2_with fail
          refine (C2.out _).mono ?_
          rintro e w5 ⟨rfl, n5⟩
          have HN5 := Lib.hid (HN4.out.trans n5 fun _ _ => id)
          have hA5 := ldSt ((HB.out.1.chg HN3.out id).chg HN5.out id)
          clear n5 hA4 hC4 hT4
          go_wp2_with fail
          refine (C3.out _).mono ?_
          rintro e w6 ⟨rfl, n6⟩
          have HN6 := Lib.hid (HN5.out.trans n6 fun _ _ => id)
          have hA6 := ldSt ((HB.out.1.chg HN3.out id).chg HN6.out id)
          have hC6 := ldSt ((HB.out.2.chg HN3.out id).chg HN6.out id)
          clear n6 hA5
          go_wp2_with fail
          refine (C4.out _).mono ?_
          rintro e w7 ⟨rfl, n7⟩
          have HN7 := Lib.hid (HN6.out.trans n7 fun _ _ => id)
          have hA7 := ldSt ((HB.out.1.chg HN3.out id).chg HN7.out id)
          have hC7 := ldSt ((HB.out.2.chg HN3.out id).chg HN7.out id)
          clear n7 hA6 hC6
          go_wp2_with fail
          go_ret
          exact ⟨rfl, (HN0.out.trans HN3.out fun _ _ => id).trans HN7.out fun _ _ => id⟩
        · obtain rfl : q2 = false := by simpa using hqq
          have hA3 := ldSt (HB.out.1.chg HN3.out id)
          have hC3 := ldSt (HB.out.2.chg HN3.out id)
          have hT3 := ldSt HT.out
          go_wp2_with fail
          refine (C1.out _).mono ?_
          rintro e w4 ⟨rfl, n4⟩
          have HN4 := Lib.hid n4
          have hT4 := ldSt (HT.out.chg HN4.out id)
          have hA4 := ldSt ((HB.out.1.chg HN3.out id).chg HN4.out id)
          have hC4 := ldSt ((HB.out.2.chg HN3.out id).chg HN4.out id)
          clear n4 hA3 hC3 hT3
          go_wp2_with fail
          refine (C2.out _).mono ?_
          rintro e w5 ⟨rfl, n5⟩
          have HN5 := Lib.hid (HN4.out.trans n5 fun _ _ => id)
          have hA5 := ldSt ((HB.out.1.chg HN3.out id).chg HN5.out id)
          clear n5 hA4 hC4 hT4
          go_wp2_with fail
          refine (C3.out _).mono ?_
          rintro e w6 ⟨rfl, n6⟩
          have HN6 := Lib.hid (HN5.out.trans n6 fun _ _ => id)
          have hA6 := ldSt ((HB.out.1.chg HN3.out id).chg HN6.out id)
          have hC6 := ldSt ((HB.out.2.chg HN3.out id).chg HN6.out id)
          clear n6 hA5
          go_wp2_with fail
          refine (C4.out _).mono ?_
          rintro e w7 ⟨rfl, n7⟩
          have HN7 := Lib.hid (HN6.out.trans n7 fun _ _ => id)
          have hA7 := ldSt ((HB.out.1.chg HN3.out id).chg HN7.out id)
          have hC7 := ldSt ((HB.out.2.chg HN3.out id).chg HN7.out id)
          clear n7 hA6 hC6
          go_wp2_with fail
          refine (C5.out _).mono ?_
          rintro e w8 ⟨rfl, n8⟩
          have HN8 := Lib.hid (HN7.out.trans n8 fun _ _ => id)
          clear n8 hA7 hC7
          go_wp2_with fail
          go_ret
          exact ⟨rfl, (HN0.out.trans HN3.out fun _ _ => id).trans HN8.out fun _ _ => id⟩
end Lat
end Go.Proofs.YtgnlbekagdffoaaDoor

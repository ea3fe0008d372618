/-
  Rows of whole numbers of the call's own, and append onto them (no condition beyond the sizes).
-/
import Derived.Test.YtkmkpdmjdfbpjaaGreatDoorJ3
import Derived.Deep.CutBlock
import Derived.Deep.DeepCutAuto
/- The program's num package: a reader (no condition beyond the size). -/
namespace Go.Proofs.YtkmkpdmjdfbpjaaGreatDoor
set_option linter.unusedSimpArgs false
set_option linter.unusedVariables false
open Go.ChangeShapes Go.WideShapes Go.RowKit
namespace Num
/-- block g is a reader: s is left; its bytes lie in blocks of F -/
structure RdAt (w : World) (F : Nat → Prop) (g : Nat) (s : Rd) : Prop where
  ex : ∃ (A : Option Addr) (n cp : Nat), Blk w g 104 #[.slice A n cp, .bool s.bad] ∧ Reads w F 1 A n (u8s s.l) ∧ n ≤ cp ∧ n ≤ 1000000000
  far : ∀ b, F b → b < w.heap.size ∧ b ≠ g
theorem RdAt.chg {w w' : World} {F S : Nat → Prop} {g : Nat} {s : Rd} (h : RdAt w F g s) (hc : Chg S w w') (hg : ¬ S g) (hF : ∀ b, F b → ¬ S b) : RdAt w' F g s := by
  obtain ⟨A, n, cp, h1, h2, h3⟩ := h.ex
  exact ⟨⟨A, n, cp, h1.chg hc hg, h2.chg hc fun b hb => ⟨(h.far b hb).1, hF b hb⟩, h3⟩, fun b hb => ⟨by have := (h.far b hb).1; have := hc.size; omega, (h.far b hb).2⟩⟩
theorem RdAt.new {w w' : World} {F : Nat → Prop} {g : Nat} {s : Rd} (h : RdAt w F g s) (hc : New w w') : RdAt w' F g s := h.chg hc id fun _ _ => id
theorem fail (w : World) (F : Nat → Prop) (g : Nat) (s : Rd) (h : RdAt w F g s) : Calls Tryz.prog 70 #[.pointer (some ⟨g, 0, none⟩)] w fun e w' => e = .returned (.bool s.bad) ∧ w' = w := by
  obtain ⟨A, n, cp, h1, _⟩ := h.ex
  have hc := h1.cell 1
  simp only [List.getElem?_toArray, List.getElem?_cons_zero, List.getElem?_cons_succ] at hc
  have hl := h1.lt
  obtain ⟨b, hb⟩ : ∃ b, s.bad = b := ⟨_, rfl⟩
  rw [hb] at hc ⊢
  clear h h1 hb
  go_enter Tryz.func70, Tryz.ntmps70
  go_wp2_with fail
  go_ret
  exact ⟨rfl, rfl⟩
theorem done (w : World) (F : Nat → Prop) (g : Nat) (s : Rd) (h : RdAt w F g s) : Calls Tryz.prog 53 #[.pointer (some ⟨g, 0, none⟩)] w fun e w' => e = .returned (.bool (!s.bad && decide (s.l.length = 0))) ∧ w' = w := by
  have C := Lib.hid (fail w F g s h)
  obtain ⟨A, n, cp, h1, h2, _⟩ := h.ex
  have hc := h1.cell 0
  simp only [List.getElem?_toArray, List.getElem?_cons_zero] at hc
  have hl := h1.lt
  have hln := h2.u8len
  rw [hln]
  obtain ⟨b, hb⟩ : ∃ b, s.bad = b := ⟨_, rfl⟩
  rw [hb] at C ⊢
  clear h h1 hb h2 hln
  cases b
  · by_cases hn : n = 0
    · subst hn
      go_enter Tryz.func53, Tryz.ntmps53
      go_wp2_with fail
      with_reducible refine C.out.mono ?_
      rintro e w1 ⟨rfl, rfl⟩
      go_wp2_with fail
      go_ret
      exact ⟨rfl, rfl⟩
    · have hn2 : ((n : Int) == 0) = false := by simpa using hn
      rw [show (!false && decide (n = 0)) = false by simpa using hn]
      go_enter Tryz.func53, Tryz.ntmps53
      go_wp2_with fail
      with_reducible refine C.out.mono ?_
      rintro e w1 ⟨rfl, rfl⟩
      go_wp2_with fail
      go_ret
      exact ⟨rfl, rfl⟩
  · go_enter Tryz.func53, Tryz.ntmps53
    go_wp2_with fail
    with_reducible refine C.out.mono ?_
    rintro e w1 ⟨rfl, rfl⟩
    go_wp2_with fail
    go_ret
    exact ⟨rfl, rfl⟩
theorem read (w : World) (F : Nat → Prop) (A : Option Addr) (n cp : Nat) (l : List UInt8) (hr : Reads w F 1 A n (u8s l)) (hF : ∀ b, F b → b < w.heap.size) (hn : n ≤ 1000000000) (hcp : n ≤ cp) :
    Calls Tryz.prog 50 #[.slice A n cp] w fun e w' => e = .returned (.pointer (some ⟨w.heap.size, 0, none⟩)) ∧ RdAt w' F w.heap.size ⟨l, false⟩ ∧ New w w' := by
  have H := Lib.hid (And.intro hr hF)
  clear hr hF
  go_enter Tryz.func50, Tryz.ntmps50
  go_wp2_with fail
  go_ret
  have a1 := (Chg.refl (fun _ => False) w).alloc (.cells #[.slice A n cp, .bool false] 104)
  exact ⟨rfl, ⟨⟨A, n, cp, Blk.new _ _ _, H.out.1.chg a1 fun b hb => ⟨H.out.2 b hb, id⟩, hcp, hn⟩, fun b hb => ⟨by have := H.out.2 b hb; have := a1.size; omega, by have := H.out.2 b hb; omega⟩⟩, a1⟩
theorem Reads.cutU {w : World} {F : Nat → Prop} {A : Option Addr} {n k c : Nat} {l : List UInt8} (h : Reads w F 1 A n (u8s l)) (hk : k ≤ n) (hc : n ≤ c) : ∃ A' : Option Addr, Reads w F 1 A' (n - k) (u8s (l.drop k)) ∧ ∀ W, (Instr.sliceAt 29 (.slice A n c) (some (.int .i64 (k : Int))) none none).run Tryz.prog W = .ok (.slice A' (n - k) (c - k)) W :=
  ⟨_, Reads.cutB h hk hc, slice_u8_from A n c k hk⟩
set_option maxHeartbeats 4000000 in
set_option maxRecDepth 20000 in
theorem num (w : World) (F : Nat → Prop) (g : Nat) (s : Rd) (h : RdAt w F g s) (most : Int) : Calls Tryz.prog 51 #[.pointer (some ⟨g, 0, none⟩), .int .i64 most] w fun e w' => e = .returned (.int .i64 (numP most s).1) ∧ RdAt w' F g (numP most s).2 ∧ Chg (fun k => k = g) w w' := by
  have C := Lib.hid (fail w F g s h)
  have H := Lib.hid h
  obtain ⟨A, n, cp, h1, h2, h3, h4⟩ := h.ex
  have T := Lib.hid (take w F A n cp s.l h2 h4 h3)
  have hc := h1.cell 0
  simp only [List.getElem?_toArray, List.getElem?_cons_zero] at hc
  have hl := h1.lt
  have hln := h2.u8len
  by_cases hb : s.bad = true
  · rw [numP_bad hb]
    rw [hb] at C
    clear h h1 h2 hb hln
    go_enter Tryz.func51, Tryz.ntmps51
    go_wp2_with fail
    with_reducible refine C.out.mono ?_
    rintro e w1 ⟨rfl, rfl⟩
    go_wp2_with fail
    go_ret
    exact ⟨rfl, H.out, Chg.refl _ _⟩
  · have hb : s.bad = false := by simpa using hb
    rw [hb] at C h1
    have hnp : numP most s = match takeGo 0 0 s.l with | none => (0, ⟨s.l, true⟩) | some (n, k) => if most < (n : Int) then (0, ⟨s.l, true⟩) else ((n : Int), ⟨s.l.drop k, false⟩) := by unfold numP; rw [hb]; rfl
    unfold takeV at T
    have hset : RdAt (w.setCell ⟨g, 1, none⟩ (.bool true)) F g ⟨s.l, true⟩ := by
      have c1 := (Chg.refl (fun k => k = g) w).setCell (p := ⟨g, 1, none⟩) (fun _ => rfl) (.bool true)
      exact ⟨⟨A, n, cp, h1.set_ 1 (.bool true), h2.chg c1 fun b hb => H.out.far b hb, h3, h4⟩, fun b hb => ⟨by have := (H.out.far b hb).1; have := c1.size; omega, (H.out.far b hb).2⟩⟩
    have cset := (Chg.refl (fun k => k = g) w).setCell (p := ⟨g, 1, none⟩) (fun _ => rfl) (.bool true)
    have hc1 := h1.cell 1
    simp only [List.getElem?_toArray, List.getElem?_cons_zero, List.getElem?_cons_succ] at hc1
    have hf1 := h1.frozen 1
    cases ht : takeGo 0 0 s.l with
    | none =>
      rw [ht] at hnp T
      have HE := Lib.hid (And.intro hset cset)
      rw [hnp]
      clear h h1 h2 hb hln hset cset hnp ht
      go_enter Tryz.func51, Tryz.ntmps51
      go_wp2_with fail
      with_reducible refine C.out.mono ?_
      rintro e w1 ⟨rfl, rfl⟩
      go_wp2_with fail
      with_reducible refine T.out.mono ?_
      rintro e w1 ⟨rfl, rfl⟩
      go_wp2_with fail
      go_ret
      exact ⟨rfl, HE.out.1, HE.out.2⟩
    | some p =>
      obtain ⟨z, k⟩ := p
      rw [ht] at hnp T
      have htl := takeGo_len s.l 0 0 ht
      have hk0 : ((k : Int) == 0) = false := by simp; omega
      dsimp only [Option.getD_some] at hnp T
      by_cases hm : most < (z : Int)
      · rw [if_pos hm] at hnp
        have HE := Lib.hid (And.intro hset cset)
        rw [hnp]
        clear h h1 h2 hb hln hset cset hnp ht htl
        go_enter Tryz.func51, Tryz.ntmps51
        go_wp2_with fail
        with_reducible refine C.out.mono ?_
        rintro e w1 ⟨rfl, rfl⟩
        go_wp2_with fail
        with_reducible refine T.out.mono ?_
        rintro e w1 ⟨rfl, rfl⟩
        go_wp2_with fail
        go_ret
        exact ⟨rfl, HE.out.1, HE.out.2⟩
      · rw [if_neg hm] at hnp
        obtain ⟨A', h2', hsl⟩ := Reads.cutU h2 (k := k) (by omega) h3
        have c2 := (Chg.refl (fun k => k = g) w).setCell (p := ⟨g, 0, none⟩) (fun _ => rfl) (.slice A' (n - k) (cp - k))
        have hset2 : RdAt (w.setCell ⟨g, 0, none⟩ (.slice A' (n - k) (cp - k))) F g ⟨s.l.drop k, false⟩ :=
          ⟨⟨A', n - k, cp - k, h1.set_ 0 _, h2'.chg c2 fun b hb => H.out.far b hb, by omega, by omega⟩, fun b hb => ⟨by have := (H.out.far b hb).1; have := c2.size; omega, (H.out.far b hb).2⟩⟩
        have hf0 := h1.frozen 0
        have HE := Lib.hid (And.intro hset2 c2)
        rw [hnp]
        clear h h1 h2 hb hln hset cset hnp ht htl hset2 c2 h2' hc1 hf1
        go_enter Tryz.func51, Tryz.ntmps51
        go_wp2_with fail
        with_reducible refine C.out.mono ?_
        rintro e w1 ⟨rfl, rfl⟩
        go_wp2_with fail
        with_reducible refine T.out.mono ?_
        rintro e w1 ⟨rfl, rfl⟩
        go_wp2_with fail
        go_ret
        exact ⟨rfl, HE.out.1, HE.out.2⟩
end Num
end Go.Proofs.YtkmkpdmjdfbpjaaGreatDoor

/- The program's num package: a reader's signed numbers and texts (no condition beyond the size). -/
namespace Go.Proofs.YtkmkpdmjdfbpjaaGreatDoor
set_option linter.unusedSimpArgs false
set_option linter.unusedVariables false
open Go.ChangeShapes Go.WideShapes Go.RowKit
namespace Num
theorem and1 (m : Nat) (h : m < 4611686018427387904) : bits .and .i64 (m : Int) 1 = ((m % 2 : Nat) : Int) := by
  have := i64_and_nat m 1 h (by decide)
  rw [show (1 : Nat) = 2 ^ 1 - 1 by decide, Nat.and_two_pow_sub_one_eq_mod] at this
  exact this
set_option maxHeartbeats 4000000 in
set_option maxRecDepth 20000 in
theorem rsigned (w : World) (F : Nat → Prop) (g : Nat) (s : Rd) (h : RdAt w F g s) : Calls Tryz.prog 83 #[.pointer (some ⟨g, 0, none⟩)] w fun e w' => e = .returned (.int .i64 (signedP s).1) ∧ RdAt w' F g (signedP s).2 ∧ Chg (fun k => k = g) w w' := by
  have C := Lib.hid (num w F g s h 2305843009213693952)
  have hr := numP_range 2305843009213693952 (by decide) s
  have hs2 : (signedP s).2 = (numP 2305843009213693952 s).2 := rfl
  have hs1 : (signedP s).1 = if (numP 2305843009213693952 s).1 % 2 = 1 then -((numP 2305843009213693952 s).1 / 2) - 1 else (numP 2305843009213693952 s).1 / 2 := rfl
  rw [hs1, hs2]
  obtain ⟨s2, hse⟩ : ∃ x, (numP 2305843009213693952 s).2 = x := ⟨_, rfl⟩
  rw [hse] at C ⊢
  obtain ⟨z, hz⟩ : ∃ z : Nat, (numP 2305843009213693952 s).1 = (z : Int) := ⟨_, by rw [Int.toNat_of_nonneg hr.1]⟩
  rw [hz] at C hr ⊢
  have h1 := and1 z (by omega)
  have hw1 : IntKind.i64.wrap (-((z : Int) / 2)) = -((z : Int) / 2) := IntWalk.i64_in _ (by omega)
  have hw2 : IntKind.i64.wrap (-((z : Int) / 2) - 1) = -((z : Int) / 2) - 1 := IntWalk.i64_in _ (by omega)
  have hw3 : IntKind.i64.wrap ((z : Int) / 2) = ((z : Int) / 2) := IntWalk.i64_in _ (by omega)
  have hq : (z : Int).tdiv 2 = (z : Int) / 2 := Int.tdiv_eq_ediv_of_nonneg (by omega)
  obtain ⟨q, hqe⟩ : ∃ q : Int, (z : Int) / 2 = q := ⟨_, rfl⟩
  rw [hqe] at hw1 hw2 hw3 hq ⊢
  clear hs1 hs2 hse hz h
  by_cases ho : z % 2 = 1
  · rw [ho] at h1
    rw [if_pos (by omega)]
    clear hr hqe ho
    go_enter Tryz.func83, Tryz.ntmps83
    go_wp2_with fail
    with_reducible refine C.out.mono ?_
    rintro e w1 ⟨rfl, h3, c3⟩
    have HE := Lib.hid (And.intro h3 c3)
    clear h3 c3
    go_wp2_with fail
    go_ret
    exact ⟨rfl, HE.out⟩
  · rw [show z % 2 = 0 by omega] at h1
    rw [if_neg (by omega)]
    clear hr hqe ho
    go_enter Tryz.func83, Tryz.ntmps83
    go_wp2_with fail
    with_reducible refine C.out.mono ?_
    rintro e w1 ⟨rfl, h3, c3⟩
    have HE := Lib.hid (And.intro h3 c3)
    clear h3 c3
    go_wp2_with fail
    go_ret
    exact ⟨rfl, HE.out⟩
theorem slice_to_str {w : World} {F : Nat → Prop} {A : Option Addr} {n : Nat} {l : List UInt8} (h : Reads w F 1 A n (u8s l)) (k c : Nat) (hk : k ≤ n) : (convert 29 9 (.slice A k c)).run Tryz.prog w = .ok (.string ⟨(l.take k).toArray⟩) w :=
  run_str Tryz.underlying29 Tryz.underlying5 Tryz.underlying9 (Reads.takeB h hk) c
set_option maxHeartbeats 4000000 in
set_option maxRecDepth 20000 in
theorem rtext (w : World) (F : Nat → Prop) (g : Nat) (s : Rd) (h : RdAt w F g s) (most : Int) (hmost : 0 ≤ most) : Calls Tryz.prog 82 #[.pointer (some ⟨g, 0, none⟩), .int .i64 most] w fun e w' => e = .returned (.string ⟨(textP most s).1.toArray⟩) ∧ RdAt w' F g (textP most s).2 ∧ Chg (fun k => k = g) w w' := by
  have C := Lib.hid (num w F g s h most)
  have hr := numP_range most hmost s
  have ht : textP most s = if (numP most s).2.bad = true then ([], (numP most s).2) else if ((numP most s).2.l.length : Int) < (numP most s).1 then ([], ⟨(numP most s).2.l, true⟩) else
    ((numP most s).2.l.take (numP most s).1.toNat, ⟨(numP most s).2.l.drop (numP most s).1.toNat, false⟩) := rfl
  obtain ⟨R, hR⟩ : ∃ R, textP most s = R := ⟨_, rfl⟩
  rw [hR] at ht ⊢
  obtain ⟨s2, hse⟩ : ∃ x, (numP most s).2 = x := ⟨_, rfl⟩
  obtain ⟨z, hz⟩ : ∃ z : Nat, (numP most s).1 = (z : Int) := ⟨_, by rw [Int.toNat_of_nonneg hr.1]⟩
  rw [hse, hz] at C ht
  rw [Int.toNat_natCast] at ht
  have HT := Lib.hid ht
  clear hse hz hr ht h hmost hR
  go_enter Tryz.func82, Tryz.ntmps82
  go_wp2_with fail
  with_reducible refine C.out.mono ?_
  rintro e w1 ⟨rfl, h, c1⟩
  have CF := Lib.hid (fail w1 F g s2 h)
  have H := Lib.hid h
  obtain ⟨A, n, cp, h1, h2, h3, h4⟩ := h.ex
  have hc := h1.cell 0
  simp only [List.getElem?_toArray, List.getElem?_cons_zero] at hc
  have hl := h1.lt
  have hln := h2.u8len
  have HC := Lib.hid c1
  clear C
  by_cases hb : s2.bad = true
  · have hR := HT.out
    rw [if_pos hb] at hR
    have HR := Lib.hid hR
    rw [hb] at CF
    clear hR
    clear h h1 h2 hb hln c1
    go_wp2_with fail
    with_reducible refine CF.out.mono ?_
    rintro e w2 ⟨rfl, rfl⟩
    go_wp2_with fail
    go_ret
    exact ⟨by rw [HR.out]; rfl, by rw [HR.out]; exact H.out, HC.out⟩
  · have hb : s2.bad = false := by simpa using hb
    have hR := HT.out
    rw [if_neg (by rw [hb]; decide), hln] at hR
    rw [hb] at CF h1
    by_cases hn : (n : Int) < (z : Int)
    · rw [if_pos hn] at hR
      have HR := Lib.hid hR
      clear hR
      have c2 := c1.setCell (p := ⟨g, 1, none⟩) (fun _ => rfl) (.bool true)
      have c2' := (Chg.refl (fun k => k = g) w1).setCell (p := ⟨g, 1, none⟩) (fun _ => rfl) (.bool true)
      have hset : RdAt (w1.setCell ⟨g, 1, none⟩ (.bool true)) F g ⟨s2.l, true⟩ :=
        ⟨⟨A, n, cp, h1.set_ 1 (.bool true), h2.chg c2' fun b hb => H.out.far b hb, h3, h4⟩, fun b hb => ⟨by have := (H.out.far b hb).1; have := c2'.size; omega, (H.out.far b hb).2⟩⟩
      have hc1 := h1.cell 1
      simp only [List.getElem?_toArray, List.getElem?_cons_zero, List.getElem?_cons_succ] at hc1
      have hf1 := h1.frozen 1
      have HE := Lib.hid (And.intro hset c2)
      clear h h1 h2 hb hln c1 c2 c2' hset
      go_wp2_with fail
      with_reducible refine CF.out.mono ?_
      rintro e w2 ⟨rfl, rfl⟩
      go_wp2_with fail
      go_ret
      exact ⟨by rw [HR.out] <;> rfl, by rw [HR.out]; exact HE.out.1, HE.out.2⟩
    · rw [if_neg hn] at hR
      have HR := Lib.hid hR
      clear hR
      have hsl := slice_u8_to A n cp z (by omega)
      have hst := slice_to_str h2 z cp (by omega)
      obtain ⟨A', h2', hsl2⟩ := Reads.cutU h2 (k := z) (by omega) h3
      have c2 := c1.setCell (p := ⟨g, 0, none⟩) (fun _ => rfl) (.slice A' (n - z) (cp - z))
      have c2' := (Chg.refl (fun k => k = g) w1).setCell (p := ⟨g, 0, none⟩) (fun _ => rfl) (.slice A' (n - z) (cp - z))
      have hset2 : RdAt (w1.setCell ⟨g, 0, none⟩ (.slice A' (n - z) (cp - z))) F g ⟨s2.l.drop z, false⟩ :=
        ⟨⟨A', n - z, cp - z, h1.set_ 0 _, h2'.chg c2' fun b hb => H.out.far b hb, by omega, by omega⟩, fun b hb => ⟨by have := (H.out.far b hb).1; have := c2'.size; omega, (H.out.far b hb).2⟩⟩
      have hf0 := h1.frozen 0
      have HE := Lib.hid (And.intro hset2 c2)
      obtain ⟨x, hx⟩ : ∃ x : ByteArray, ⟨(s2.l.take z).toArray⟩ = x := ⟨_, rfl⟩
      rw [hx] at hst
      have HX := Lib.hid hx
      clear h h1 h2 hb hln c1 c2 c2' hset2 h2' hx
      go_wp2_with fail
      with_reducible refine CF.out.mono ?_
      rintro e w2 ⟨rfl, rfl⟩
      go_wp2_with fail
      go_ret
      exact ⟨by rw [HR.out, ← HX.out] <;> rfl, by rw [HR.out]; exact HE.out.1, HE.out.2⟩
end Num
end Go.Proofs.YtkmkpdmjdfbpjaaGreatDoor

/- Events as 27 numbers and texts; their bytes; a block that is filled with what is read (no condition). -/
namespace Go.Proofs.YtkmkpdmjdfbpjaaGreatDoor
set_option linter.unusedSimpArgs false
set_option linter.unusedVariables false
open Go.ChangeShapes Go.WideShapes Go.RowKit
namespace Evt
open Num
/-- what an event holds, place by place -/
structure Ev where
  n : Nat → Int
  t : Nat → ByteArray
instance : Inhabited Ev := ⟨⟨fun _ => 0, fun _ => ⟨#[]⟩⟩⟩
def kinds : List Nat := [0, 0, 0, 0, 0, 0, 0, 0, 0, 0, 0, 0, 0, 0, 0, 0, 0, 0, 0, 0, 2, 2, 2, 2, 0, 1, 2]
def mk (k : Nat) (v : Int) (b : ByteArray) : It := if k = 0 then .n v else if k = 1 then .z v else .t b.data.toList
def Ev.items (e : Ev) : List It := [.n (e.n 0), .n (e.n 1), .n (e.n 2), .n (e.n 3), .n (e.n 4), .n (e.n 5), .n (e.n 6), .n (e.n 7), .n (e.n 8), .n (e.n 9), .n (e.n 10), .n (e.n 11), .n (e.n 12), .n (e.n 13), .n (e.n 14), .n (e.n 15), .n (e.n 16), .n (e.n 17), .n (e.n 18), .n (e.n 19),
  .t (e.t 20).data.toList, .t (e.t 21).data.toList, .t (e.t 22).data.toList, .t (e.t 23).data.toList, .n (e.n 24), .z (e.n 25), .t (e.t 26).data.toList]
def cell : It → Value
  | .n v => .int .i64 v
  | .z v => .int .i64 v
  | .t b => .string ⟨b.toArray⟩
def kind : It → Nat
  | .n _ => 0
  | .z _ => 1
  | .t _ => 2
def int : It → Int
  | .n v => v
  | .z v => v
  | .t _ => 0
def bytes : It → ByteArray
  | .n _ => ⟨#[]⟩
  | .z _ => ⟨#[]⟩
  | .t b => ⟨b.toArray⟩
theorem mk_self (x : It) : mk (kind x) (int x) (bytes x) = x := by cases x <;> rfl
def Ev.cs (e : Ev) : List Value := [.int .i64 (e.n 0), .int .i64 (e.n 1), .int .i64 (e.n 2), .int .i64 (e.n 3), .int .i64 (e.n 4), .int .i64 (e.n 5), .int .i64 (e.n 6), .int .i64 (e.n 7), .int .i64 (e.n 8), .int .i64 (e.n 9), .int .i64 (e.n 10), .int .i64 (e.n 11), .int .i64 (e.n 12), .int .i64 (e.n 13), .int .i64 (e.n 14), .int .i64 (e.n 15), .int .i64 (e.n 16), .int .i64 (e.n 17), .int .i64 (e.n 18), .int .i64 (e.n 19),
  .string (e.t 20), .string (e.t 21), .string (e.t 22), .string (e.t 23), .int .i64 (e.n 24), .int .i64 (e.n 25), .string (e.t 26)]
abbrev Ev.val (e : Ev) : Value := .agg e.cs.toArray
theorem Ev.cs_items (e : Ev) : e.items.map cell = e.cs := rfl
theorem Ev.cs_len (e : Ev) : e.cs.length = 27 := rfl
theorem cell_one (x : It) : (cell x).oneCell' = true := by cases x <;> rfl
theorem Ev.cs_one (e : Ev) : ∀ v ∈ e.cs, v.oneCell' = true := by
  rw [← e.cs_items]
  intro v hv
  obtain ⟨x, _, rfl⟩ := List.mem_map.1 hv
  exact cell_one x
theorem Ev.kinds (e : Ev) : e.items.map kind = Evt.kinds := rfl
/-- what has the kinds of an event is one -/
def evOf (ys : List It) : Ev := ⟨fun i => int (ys.getD i (.n 0)), fun i => bytes (ys.getD i (.n 0))⟩
theorem items_evOf {ys : List It} (h : ys.map kind = kinds) : (evOf ys).items = ys := by
  have hl : ys.length = 27 := by have := congrArg List.length h; simpa [kinds] using this
  have hk : ∀ i, i < 27 → ∀ k, kinds[i]? = some k → mk k (int (ys.getD i (.n 0))) (bytes (ys.getD i (.n 0))) = ys.getD i (.n 0) := fun i hi k hk => by
    rw [← h, List.getElem?_map, List.getElem?_eq_getElem (by omega)] at hk
    rw [List.getD_eq_getElem?_getD, List.getElem?_eq_getElem (by omega)]
    simp only [Option.map_some, Option.some.injEq] at hk
    rw [← hk]
    exact mk_self _
  refine List.ext_getElem? fun i => ?_
  rcases Nat.lt_or_ge i 27 with hi | hi
  · have e : ys[i]? = some (ys.getD i (.n 0)) := by rw [List.getD_eq_getElem?_getD, List.getElem?_eq_getElem (by omega)]; rfl
    rw [e]
    rcases (show i = 0 ∨ i = 1 ∨ i = 2 ∨ i = 3 ∨ i = 4 ∨ i = 5 ∨ i = 6 ∨ i = 7 ∨ i = 8 ∨ i = 9 ∨ i = 10 ∨ i = 11 ∨ i = 12 ∨ i = 13 ∨ i = 14 ∨ i = 15 ∨ i = 16 ∨ i = 17 ∨ i = 18 ∨ i = 19 ∨ i = 20 ∨ i = 21 ∨ i = 22 ∨ i = 23 ∨ i = 24 ∨ i = 25 ∨ i = 26 by omega) with rfl | rfl | rfl | rfl | rfl | rfl | rfl | rfl | rfl | rfl | rfl | rfl | rfl | rfl | rfl | rfl | rfl | rfl | rfl | rfl | rfl | rfl | rfl | rfl | rfl | rfl | rfl
    · exact congrArg some (hk 0 (by decide) 0 rfl)
    · exact congrArg some (hk 1 (by decide) 0 rfl)
    · exact congrArg some (hk 2 (by decide) 0 rfl)
    · exact congrArg some (hk 3 (by decide) 0 rfl)
    · exact congrArg some (hk 4 (by decide) 0 rfl)
    · exact congrArg some (hk 5 (by decide) 0 rfl)
    · exact congrArg some (hk 6 (by decide) 0 rfl)
    · exact congrArg some (hk 7 (by decide) 0 rfl)
    · exact congrArg some (hk 8 (by decide) 0 rfl)
    · exact congrArg some (hk 9 (by decide) 0 rfl)
    · exact congrArg some (hk 10 (by decide) 0 rfl)
    · exact congrArg some (hk 11 (by decide) 0 rfl)
    · exact congrArg some (hk 12 (by decide) 0 rfl)
    · exact congrArg some (hk 13 (by decide) 0 rfl)
    · exact congrArg some (hk 14 (by decide) 0 rfl)
    · exact congrArg some (hk 15 (by decide) 0 rfl)
    · exact congrArg some (hk 16 (by decide) 0 rfl)
    · exact congrArg some (hk 17 (by decide) 0 rfl)
    · exact congrArg some (hk 18 (by decide) 0 rfl)
    · exact congrArg some (hk 19 (by decide) 0 rfl)
    · exact congrArg some (hk 20 (by decide) 2 rfl)
    · exact congrArg some (hk 21 (by decide) 2 rfl)
    · exact congrArg some (hk 22 (by decide) 2 rfl)
    · exact congrArg some (hk 23 (by decide) 2 rfl)
    · exact congrArg some (hk 24 (by decide) 0 rfl)
    · exact congrArg some (hk 25 (by decide) 1 rfl)
    · exact congrArg some (hk 26 (by decide) 2 rfl)
  · rw [List.getElem?_eq_none (by show 27 ≤ i; exact hi), List.getElem?_eq_none (by omega)]
theorem cs_evOf {ys : List It} (h : ys.map kind = kinds) : (evOf ys).cs = ys.map cell := by rw [← Ev.cs_items, items_evOf h]
theorem read_kind (x : It) (s : Rd) : kind (x.read s).1 = kind x := by cases x <;> rfl
theorem readAll_kind : ∀ (xs : List It) (s : Rd), (readAll xs s).1.map kind = xs.map kind
  | [], _ => rfl
  | x :: xs, s => by
    unfold readAll
    simp only [List.map_cons]
    rw [read_kind, readAll_kind xs]
theorem readAll_snoc (x : It) : ∀ (xs : List It) (s : Rd), readAll (xs ++ [x]) s = ((readAll xs s).1 ++ [(x.read (readAll xs s).2).1], (x.read (readAll xs s).2).2)
  | [], s => rfl
  | y :: xs, s => by
    have := readAll_snoc x xs (y.read s).2
    rw [List.cons_append]
    unfold readAll
    rw [this]
    rfl
theorem readAll_len : ∀ (xs : List It) (s : Rd), (readAll xs s).1.length = xs.length
  | [], _ => rfl
  | x :: xs, s => by
    unfold readAll
    simp only [List.length_cons]
    rw [readAll_len xs]
/-- what an event's reading asks for -/
def zero : Ev := ⟨fun _ => 0, fun _ => ⟨#[]⟩⟩
def shape : List It := zero.items
/-- the event that is read, and what is left -/
def nextP (s : Rd) : Ev × Rd := (evOf (readAll shape s).1, (readAll shape s).2)
theorem nextP_items (s : Rd) : (nextP s).1.items = (readAll shape s).1 := items_evOf ((readAll_kind shape s).trans rfl)
/-- the reading of events asks for the same, whichever one's bytes they are -/
theorem read_like {x y : It} (h : kind x = kind y) (s : Rd) : x.read s = y.read s := by cases x <;> cases y <;> first | rfl | cases h
theorem readAll_like : ∀ {xs ys : List It}, xs.map kind = ys.map kind → ∀ s, readAll xs s = readAll ys s
  | [], [], _, _ => rfl
  | [], _ :: _, h, _ => by cases h
  | _ :: _, [], h, _ => by cases h
  | x :: xs, y :: ys, h, s => by
    simp only [List.map_cons, List.cons.injEq] at h
    unfold readAll
    rw [read_like h.1, readAll_like h.2]
theorem readAll_shape (e : Ev) (s : Rd) : readAll e.items s = readAll shape s := readAll_like (by rw [e.kinds]; rfl) s
def Ev.bytes (e : Ev) : List UInt8 := putAll e.items
/-- the cells: those that are known first, then zero's -/
def fillC (vs : List Value) : List Value := vs ++ zero.cs.drop vs.length
theorem fillC_nil : fillC [] = zero.cs := rfl
theorem fillC_full {vs : List Value} (h : vs.length = 27) : fillC vs = vs := by unfold fillC; rw [h, show zero.cs.drop 27 = [] from rfl, List.append_nil]
theorem fillC_len {vs : List Value} (h : vs.length ≤ 27) : (fillC vs).length = 27 := by
  unfold fillC
  rw [List.length_append, List.length_drop, zero.cs_len]
  omega
theorem fillC_set {vs : List Value} (u : Value) (h : vs.length < 27) : (fillC vs).set vs.length u = fillC (vs ++ [u]) := by
  unfold fillC
  rw [List.set_append_right _ _ (Nat.le_refl _), Nat.sub_self, List.drop_eq_getElem_cons (by rw [zero.cs_len]; exact h), List.set_cons_zero, List.length_append, List.append_assoc]
  rfl
/-- k of an event's 27 cells in block g are read, with reader gr -/
structure Fill (w : World) (F : Nat → Prop) (g gr : Nat) (s : Rd) (k : Nat) (wr : World) : Prop where
  blk : Blk wr g 48 (fillC ((readAll (shape.take k) s).1.map cell)).toArray
  rd : RdAt wr F gr (readAll (shape.take k) s).2
  chg : Chg (fun b => b = gr) w wr
  lo : w.heap.size ≤ g
theorem Fill.new {w wr w' : World} {F : Nat → Prop} {g gr k : Nat} {s : Rd} (h : Fill w F g gr s k wr) (hc : New wr w') : Fill w F g gr s k w' :=
  ⟨h.blk.chg hc id, h.rd.new hc, h.chg.trans hc fun _ _ => False.elim, h.lo⟩
theorem Fill.ne {w wr : World} {F : Nat → Prop} {g gr k : Nat} {s : Rd} (h : Fill w F g gr s k wr) : g ≠ gr := by
  obtain ⟨A, n, cp, h1, _⟩ := h.rd.ex
  rintro rfl
  exact Blk.ne_ h.blk h1 (by decide) rfl
/-- behind a reading and its store -/
theorem Fill.step {w wr w1 : World} {F : Nat → Prop} {g gr k : Nat} {s : Rd} (h : Fill w F g gr s k wr) (hw : g ≠ gr) (hk : k < 27) (x : It) (hx : shape[k]? = some x) (hF : ∀ b, F b → b < w.heap.size)
    (hr : RdAt w1 F gr (x.read (readAll (shape.take k) s).2).2) (hc : Chg (fun b => b = gr) wr w1) :
    Fill w F g gr s (k + 1) (w1.setCell ⟨g, k, none⟩ (cell (x.read (readAll (shape.take k) s).2).1)) ∧ w1.cell? ⟨g, k, none⟩ = zero.cs[k]? ∧ w1.frozen? ⟨g, k, none⟩ = false ∧ g < w1.heap.size := by
  have hl : ((readAll (shape.take k) s).1.map cell).length = k := by rw [List.length_map, readAll_len, List.length_take, show shape.length = 27 from rfl]; omega
  have ht : shape.take (k + 1) = shape.take k ++ [x] := by rw [List.take_add_one, hx]; rfl
  have hb := h.blk.chg hc hw
  have hs := hb.set_ k (cell (x.read (readAll (shape.take k) s).2).1)
  have c2 := (Chg.refl (fun b => b = g) w1).setCell (p := ⟨g, k, none⟩) (fun _ => rfl) (cell (x.read (readAll (shape.take k) s).2).1)
  refine ⟨⟨?_, ?_, ?_, h.lo⟩, ?_, hb.frozen k, hb.lt⟩
  · rw [ht, readAll_snoc]
    simp only [List.map_append, List.map_cons, List.map_nil]
    rw [← fillC_set _ (by rw [hl]; exact hk), hl]
    rw [List.setIfInBounds_toArray] at hs
    exact hs
  · rw [ht, readAll_snoc]
    exact hr.chg c2 (fun e => hw e.symm) fun b hb e => by have := hF b hb; have := h.lo; omega
  · exact (h.chg.trans hc fun _ _ e => e).trans c2 fun i hi e => by have := h.lo; omega
  · rw [hb.cell, List.getElem?_toArray]
    unfold fillC
    rw [List.getElem?_append_right (by rw [hl]; exact Nat.le_refl _), hl, Nat.sub_self, List.getElem?_drop, Nat.add_zero]
theorem Fill.full {w wr : World} {F : Nat → Prop} {g gr : Nat} {s : Rd} (h : Fill w F g gr s 27 wr) : Blk wr g 48 (nextP s).1.cs.toArray ∧ RdAt wr F gr (nextP s).2 := by
  have ht : shape.take 27 = shape := rfl
  have hb := h.blk
  have hr := h.rd
  rw [ht] at hb hr
  refine ⟨?_, hr⟩
  have hk : (readAll shape s).1.map kind = kinds := (readAll_kind shape s).trans rfl
  rw [fillC_full (by rw [List.length_map, readAll_len]; rfl), ← cs_evOf hk] at hb
  exact hb
end Evt
end Go.Proofs.YtkmkpdmjdfbpjaaGreatDoor

/- event.next: the event that a reader tells (no condition beyond the size). -/
namespace Go.Proofs.YtkmkpdmjdfbpjaaGreatDoor
set_option linter.unusedSimpArgs false
set_option linter.unusedVariables false
open Go.ChangeShapes Go.WideShapes Go.RowKit Go.Deep
namespace Evt
open Num
theorem loadRow0 (p : Value) : Instr.loadAt 48 p = LoadRowV 48 p := rfl
theorem storeRow0 (p v : Value) : Instr.storeAt 48 p v = StoreRowV 48 p v := rfl
attribute [local go_sem ↓] loadRow0 storeRow0
theorem zero_int {i : Nat} (h : i < 16) : zero.cs[2 + i]? = some (.int .i64 0) ∧ shape[2 + i]? = some (.n 0) := by
  rcases (show i = 0 ∨ i = 1 ∨ i = 2 ∨ i = 3 ∨ i = 4 ∨ i = 5 ∨ i = 6 ∨ i = 7 ∨ i = 8 ∨ i = 9 ∨ i = 10 ∨ i = 11 ∨ i = 12 ∨ i = 13 ∨ i = 14 ∨ i = 15 by omega) with rfl | rfl | rfl | rfl | rfl | rfl | rfl | rfl | rfl | rfl | rfl | rfl | rfl | rfl | rfl | rfl <;> exact ⟨rfl, rfl⟩
theorem resE {fn : Func} {p : Tmp} (h : fn.results = #[.cell p 48]) (tmps : Array Value) (w : World) (g : Nat) (t : TypeId) (e : Ev)
    (hp : tmps.getD p undef = .pointer (some ⟨g, 0, none⟩)) (hg : Blk w g t e.cs.toArray) : (results fn tmps).run Tryz.prog w = .ok e.val w :=
  results_cell_row h tmps w g t _ (0, 0) _ hp hg Tryz.underlying48 rfl (by kernel_rfl)
theorem stE {w : World} {g : Nat} {t : TypeId} (old e : Ev) (h : Blk w g t old.cs.toArray) : (StoreRow 48 ⟨g, 0, none⟩ e.val).run Tryz.prog w = .ok () (w.setCells g 0 e.cs) ∧ Blk (w.setCells g 0 e.cs) g t e.cs.toArray := by
  refine ⟨run_StoreRow (P := Tryz.prog) (t := 48) (n := 27) (by kernel_rfl) e.cs_len e.cs_one h (by rw [old.cs_len]; exact Nat.le_refl _), ?_⟩
  have := Blk.setCells e.cs 0 _ _ h (by rw [e.cs_len, old.cs_len]; exact Nat.le_refl _)
  have h2 : old.cs.drop (0 + e.cs.length) = [] := rfl
  rw [h2] at this
  simpa using this
theorem ldE {w : World} {g : Nat} {t : TypeId} {e : Ev} (h : Blk w g t e.cs.toArray) : (LoadRow 48 ⟨g, 0, none⟩).run Tryz.prog w = .ok e.val w :=
  run_LoadRow (P := Tryz.prog) (t := 48) Tryz.underlying48 rfl (n := 27) (by kernel_rfl) e.cs_len h.range_all
set_option maxRecDepth 20000 in
theorem Fill.ends {w W : World} {F : Nat → Prop} {g gr : Nat} {s : Rd} (h : Fill w F g gr s 27 W) (hne : g ≠ gr) (hF : ∀ b, F b → b < w.heap.size) :
    (LoadRow 48 ⟨g, 0, none⟩).run Tryz.prog W = .ok (nextP s).1.val W ∧ (StoreRow 48 ⟨g, 0, none⟩ (nextP s).1.val).run Tryz.prog W = .ok () (W.setCells g 0 (nextP s).1.cs) ∧
    Blk (W.setCells g 0 (nextP s).1.cs) g 48 (nextP s).1.cs.toArray ∧ RdAt (W.setCells g 0 (nextP s).1.cs) F gr (nextP s).2 ∧ Chg (fun b => b = gr) w (W.setCells g 0 (nextP s).1.cs) := by
  obtain ⟨hb, hr⟩ := h.full
  have hst := stE (nextP s).1 (nextP s).1 hb
  have c5 := Chg.setCells (nextP s).1.cs 0 W (Chg.refl (fun b => b = g) W) (fun _ => rfl)
  exact ⟨ldE hb, hst.1, hst.2, hr.chg c5 (fun e => hne e.symm) (fun b hb e => by have := hF b hb; have := h.lo; omega), h.chg.trans c5 fun i hi e => by have := h.lo; omega⟩
set_option maxHeartbeats 20000000 in
set_option maxRecDepth 20000 in
theorem next (w : World) (F : Nat → Prop) (gr : Nat) (s : Rd) (h : RdAt w F gr s) :
    Calls Tryz.prog 72 #[.pointer (some ⟨gr, 0, none⟩)] w fun e w' => e = .returned (nextP s).1.val ∧ RdAt w' F gr (nextP s).2 ∧ Chg (fun b => b = gr) w w' := by
  have hz : ∀ W, (zeroValue 48).run Tryz.prog W = .ok (.agg zero.cs.toArray) W := fun W => by kernel_rfl
  have HF := Lib.hid (show ∀ b, F b → b < w.heap.size from fun b hb => (h.far b hb).1)
  have hgr : gr < w.heap.size := by obtain ⟨A, n, cp, h1, _⟩ := h.ex; exact h1.lt
  have hfill : Fill w F w.heap.size gr s 0 (w.alloc (.cells zero.cs.toArray 48)) := by
    have a1 := (Chg.refl (fun _ => False) w).alloc (.cells zero.cs.toArray 48)
    exact ⟨Blk.new _ _ _, h.new a1, a1.mono fun _ _ => False.elim, Nat.le_refl _⟩
  have HFI := Lib.hid hfill
  obtain ⟨g, hg⟩ : ∃ g, w.heap.size = g := ⟨_, rfl⟩
  rw [hg] at HFI
  have HG := Lib.hid hg
  clear h hfill
  go_enter Tryz.func72, Tryz.ntmps72
  go_upto_region 1 with fail
  generalize hw0 : w.alloc (.cells zero.cs.toArray 48) = w0 at *
  have HN := Lib.hid (show g ≠ gr by omega)
  have HA := HFI
  clear HFI hg hw0
  have hB := Blk.new w0 86 #[.pointer (some ⟨g, 0, none⟩), .pointer (some ⟨g, 1, none⟩)]
  have hfa := HA.out.new ((Chg.refl (fun _ => False) w0).alloc (.cells #[.pointer (some ⟨g, 0, none⟩), .pointer (some ⟨g, 1, none⟩)] 86))
  have HQ := Lib.hid (show ¬ (w0.heap.size = gr) ∧ w0.heap.size ≠ g from by have := HA.out.blk.lt; have := HA.out.chg.size; have := HG.out; exact ⟨by omega, by omega⟩)
  have HA := Lib.hid (And.intro hfa hB)
  clear hB hfa
  go_wp2_with fail
  go_loopw [16] (fun iv wr => ∃ i : Nat, i ≤ 2 ∧ iv = .int .i64 i ∧ Fill w F g gr s (0 + i) wr ∧ Blk wr w0.heap.size 86 #[.pointer (some ⟨g, 0, none⟩), .pointer (some ⟨g, 1, none⟩)]) (fun iv _ => 2 - (intOf iv).toNat)
  case atStart => exact ⟨0, by omega, by go_num, HA.out⟩
  case round =>
    obtain ⟨i, hi, rfl, hfill, hB⟩ := hrel
    by_cases hlt : i < 2
    · have hli : (i : Int) < 2 := by omega
      rcases (show i = 0 ∨ i = 1 by omega) with rfl | rfl
      · clear hlt hli hi
        have C := Lib.hid (num wr F gr _ hfill.rd 4611686018427387903)
        have HS := Lib.hid (And.intro hfill hB)
        have hgp := hB.lt
        have hp := hB.cell 0
        simp only [List.getElem?_toArray, List.getElem?_cons_zero, List.getElem?_cons_succ] at hp
        clear hfill hB
        go_wp2_with fail
        with_reducible refine C.out.mono ?_
        rintro e w1 ⟨rfl, hr1, hc1⟩
        obtain ⟨hf2, hcell, hfro, hlt1⟩ := Fill.step HS.out.1 HN.out (by omega) (.n 0) rfl HF.out hr1 hc1
        have hcell : w1.cell? ⟨g, 0, none⟩ = some (.int .i64 0) := hcell
        have hB2 := (HS.out.2.chg hc1 HQ.out.1).far (p := ⟨g, 0, none⟩) HQ.out.2 (cell (It.read (.n 0) (readAll (shape.take 0) s).2).1)
        have HE := Lib.hid (And.intro hf2 hB2)
        clear hf2 hB2 hr1 hc1 C
        go_wp2_with fail
        go_roundw
        case rel => exact ⟨1, by omega, by go_num, HE.out⟩
        case measure => first | (simp [intOf]; done) | (simp [intOf]; omega)
      · clear hlt hli hi
        have C := Lib.hid (num wr F gr _ hfill.rd 4611686018427387903)
        have HS := Lib.hid (And.intro hfill hB)
        have hgp := hB.lt
        have hp := hB.cell 1
        simp only [List.getElem?_toArray, List.getElem?_cons_zero, List.getElem?_cons_succ] at hp
        clear hfill hB
        go_wp2_with fail
        with_reducible refine C.out.mono ?_
        rintro e w1 ⟨rfl, hr1, hc1⟩
        obtain ⟨hf2, hcell, hfro, hlt1⟩ := Fill.step HS.out.1 HN.out (by omega) (.n 0) rfl HF.out hr1 hc1
        have hcell : w1.cell? ⟨g, 1, none⟩ = some (.int .i64 0) := hcell
        have hB2 := (HS.out.2.chg hc1 HQ.out.1).far (p := ⟨g, 1, none⟩) HQ.out.2 (cell (It.read (.n 0) (readAll (shape.take 1) s).2).1)
        have HE := Lib.hid (And.intro hf2 hB2)
        clear hf2 hB2 hr1 hc1 C
        go_wp2_with fail
        go_roundw
        case rel => exact ⟨2, by omega, by go_num, HE.out⟩
        case measure => first | (simp [intOf]; done) | (simp [intOf]; omega)
    · have HA := Lib.hid (show Fill w F g gr s 2 wr from by rw [show i = 2 by omega] at hfill; exact hfill)
      have hgi : ¬ ((i : Int) < 2) := by omega
      clear hfill hB HQ hi hlt
      go_wp2_with fail
      generalize wr = wo at *
      go_loopw [25] (fun iv wr => ∃ i : Nat, i ≤ 16 ∧ iv = .int .i64 i ∧ Fill w F g gr s (2 + i) wr) (fun iv _ => 16 - (intOf iv).toNat)
      case atStart => exact ⟨0, by omega, by go_num, HA.out⟩
      case round =>
        obtain ⟨i, hi, rfl, hfill⟩ := hrel
        by_cases hlt : i < 16
        · have hli : (i : Int) < 16 := by omega
          have hz := zero_int hlt
          have HZ := Lib.hid hz.1
          have C := Lib.hid (num wr F gr _ hfill.rd 4611686018427387903)
          have HS := Lib.hid hfill
          have hw : IntKind.i64.wrap ((i : Int) + 1) = (i : Int) + 1 := IntWalk.i64_in _ (by omega)
          have HZ2 := Lib.hid hz.2
          clear hfill hz
          go_wp2_with fail
          with_reducible refine C.out.mono ?_
          rintro e w1 ⟨rfl, hr1, hc1⟩
          obtain ⟨hf2, hcell, hfro, hlt1⟩ := Fill.step HS.out HN.out (by omega) (.n 0) HZ2.out HF.out hr1 hc1
          rw [HZ.out] at hcell
          have hcell2 : w1.cell? ⟨g, 2 + i, none⟩ = some (.int .i64 0) := hcell
          have HE := Lib.hid hf2
          clear hf2 hr1 hc1 C
          go_wp2_with fail
          go_roundw
          case rel => exact ⟨i + 1, by omega, by go_num, HE.out⟩
          case measure => simp [intOf]; omega
        · have HA := Lib.hid (show Fill w F g gr s 18 wr from by rw [show i = 16 by omega] at hfill; exact hfill)
          have hgi : ¬ ((i : Int) < 16) := by omega
          clear hfill hi hlt
          generalize wr = wp at *
          have hB := Blk.new wp 86 #[.pointer (some ⟨g, 18, none⟩), .pointer (some ⟨g, 19, none⟩)]
          have hfa := HA.out.new ((Chg.refl (fun _ => False) wp).alloc (.cells #[.pointer (some ⟨g, 18, none⟩), .pointer (some ⟨g, 19, none⟩)] 86))
          have HQ := Lib.hid (show ¬ (wp.heap.size = gr) ∧ wp.heap.size ≠ g from by have := HA.out.blk.lt; have := HA.out.chg.size; have := HG.out; exact ⟨by omega, by omega⟩)
          have HA := Lib.hid (And.intro hfa hB)
          clear hB hfa
          go_wp2_with fail
          go_loopw [39] (fun iv wr => ∃ i : Nat, i ≤ 2 ∧ iv = .int .i64 i ∧ Fill w F g gr s (18 + i) wr ∧ Blk wr wp.heap.size 86 #[.pointer (some ⟨g, 18, none⟩), .pointer (some ⟨g, 19, none⟩)]) (fun iv _ => 2 - (intOf iv).toNat)
          case atStart => exact ⟨0, by omega, by go_num, HA.out⟩
          case round =>
            obtain ⟨i, hi, rfl, hfill, hB⟩ := hrel
            by_cases hlt : i < 2
            · have hli : (i : Int) < 2 := by omega
              rcases (show i = 0 ∨ i = 1 by omega) with rfl | rfl
              · clear hlt hli hi
                have C := Lib.hid (num wr F gr _ hfill.rd 4611686018427387903)
                have HS := Lib.hid (And.intro hfill hB)
                have hgp := hB.lt
                have hp := hB.cell 0
                simp only [List.getElem?_toArray, List.getElem?_cons_zero, List.getElem?_cons_succ] at hp
                clear hfill hB
                go_wp2_with fail
                with_reducible refine C.out.mono ?_
                rintro e w1 ⟨rfl, hr1, hc1⟩
                obtain ⟨hf2, hcell, hfro, hlt1⟩ := Fill.step HS.out.1 HN.out (by omega) (.n 0) rfl HF.out hr1 hc1
                have hcell : w1.cell? ⟨g, 18, none⟩ = some (.int .i64 0) := hcell
                have hB2 := (HS.out.2.chg hc1 HQ.out.1).far (p := ⟨g, 18, none⟩) HQ.out.2 (cell (It.read (.n 0) (readAll (shape.take 18) s).2).1)
                have HE := Lib.hid (And.intro hf2 hB2)
                clear hf2 hB2 hr1 hc1 C
                go_wp2_with fail
                go_roundw
                case rel => exact ⟨1, by omega, by go_num, HE.out⟩
                case measure => first | (simp [intOf]; done) | (simp [intOf]; omega)
              · clear hlt hli hi
                have C := Lib.hid (num wr F gr _ hfill.rd 4611686018427387903)
                have HS := Lib.hid (And.intro hfill hB)
                have hgp := hB.lt
                have hp := hB.cell 1
                simp only [List.getElem?_toArray, List.getElem?_cons_zero, List.getElem?_cons_succ] at hp
                clear hfill hB
                go_wp2_with fail
                with_reducible refine C.out.mono ?_
                rintro e w1 ⟨rfl, hr1, hc1⟩
                obtain ⟨hf2, hcell, hfro, hlt1⟩ := Fill.step HS.out.1 HN.out (by omega) (.n 0) rfl HF.out hr1 hc1
                have hcell : w1.cell? ⟨g, 19, none⟩ = some (.int .i64 0) := hcell
                have hB2 := (HS.out.2.chg hc1 HQ.out.1).far (p := ⟨g, 19, none⟩) HQ.out.2 (cell (It.read (.n 0) (readAll (shape.take 19) s).2).1)
                have HE := Lib.hid (And.intro hf2 hB2)
                clear hf2 hB2 hr1 hc1 C
                go_wp2_with fail
                go_roundw
                case rel => exact ⟨2, by omega, by go_num, HE.out⟩
                case measure => first | (simp [intOf]; done) | (simp [intOf]; omega)
            · have HA := Lib.hid (show Fill w F g gr s 20 wr from by rw [show i = 2 by omega] at hfill; exact hfill)
              have hgi : ¬ ((i : Int) < 2) := by omega
              clear hfill hB HQ hi hlt
              generalize wr = wq at *
              have hB := Blk.new wq 116 #[.pointer (some ⟨g, 20, none⟩), .pointer (some ⟨g, 21, none⟩), .pointer (some ⟨g, 22, none⟩), .pointer (some ⟨g, 23, none⟩)]
              have hfa := HA.out.new ((Chg.refl (fun _ => False) wq).alloc (.cells #[.pointer (some ⟨g, 20, none⟩), .pointer (some ⟨g, 21, none⟩), .pointer (some ⟨g, 22, none⟩), .pointer (some ⟨g, 23, none⟩)] 116))
              have HQ := Lib.hid (show ¬ (wq.heap.size = gr) ∧ wq.heap.size ≠ g from by have := HA.out.blk.lt; have := HA.out.chg.size; have := HG.out; exact ⟨by omega, by omega⟩)
              have HA := Lib.hid (And.intro hfa hB)
              clear hB hfa
              go_wp2_with fail
              go_loopw [58] (fun iv wr => ∃ i : Nat, i ≤ 4 ∧ iv = .int .i64 i ∧ Fill w F g gr s (20 + i) wr ∧ Blk wr wq.heap.size 116 #[.pointer (some ⟨g, 20, none⟩), .pointer (some ⟨g, 21, none⟩), .pointer (some ⟨g, 22, none⟩), .pointer (some ⟨g, 23, none⟩)]) (fun iv _ => 4 - (intOf iv).toNat)
              case atStart => exact ⟨0, by omega, by go_num, HA.out⟩
              case round =>
                obtain ⟨i, hi, rfl, hfill, hB⟩ := hrel
                by_cases hlt : i < 4
                · have hli : (i : Int) < 4 := by omega
                  rcases (show i = 0 ∨ i = 1 ∨ i = 2 ∨ i = 3 by omega) with rfl | rfl | rfl | rfl
                  · clear hlt hli hi
                    have C := Lib.hid (rtext wr F gr _ hfill.rd 1048576 (by decide))
                    have HS := Lib.hid (And.intro hfill hB)
                    have hgp := hB.lt
                    have hp := hB.cell 0
                    simp only [List.getElem?_toArray, List.getElem?_cons_zero, List.getElem?_cons_succ] at hp
                    clear hfill hB
                    go_wp2_with fail
                    with_reducible refine C.out.mono ?_
                    rintro e w1 ⟨rfl, hr1, hc1⟩
                    obtain ⟨hf2, hcell, hfro, hlt1⟩ := Fill.step HS.out.1 HN.out (by omega) (.t []) rfl HF.out hr1 hc1
                    have hcell : w1.cell? ⟨g, 20, none⟩ = some (.string ⟨#[]⟩) := hcell
                    have hB2 := (HS.out.2.chg hc1 HQ.out.1).far (p := ⟨g, 20, none⟩) HQ.out.2 (cell (It.read (.t []) (readAll (shape.take 20) s).2).1)
                    have HE := Lib.hid (And.intro hf2 hB2)
                    clear hf2 hB2 hr1 hc1 C
                    go_wp2_with fail
                    go_roundw
                    case rel => exact ⟨1, by omega, by go_num, HE.out⟩
                    case measure => first | (simp [intOf]; done) | (simp [intOf]; omega)
                  · clear hlt hli hi
                    have C := Lib.hid (rtext wr F gr _ hfill.rd 1048576 (by decide))
                    have HS := Lib.hid (And.intro hfill hB)
                    have hgp := hB.lt
                    have hp := hB.cell 1
                    simp only [List.getElem?_toArray, List.getElem?_cons_zero, List.getElem?_cons_succ] at hp
                    clear hfill hB
                    go_wp2_with fail
                    with_reducible refine C.out.mono ?_
                    rintro e w1 ⟨rfl, hr1, hc1⟩
                    obtain ⟨hf2, hcell, hfro, hlt1⟩ := Fill.step HS.out.1 HN.out (by omega) (.t []) rfl HF.out hr1 hc1
                    have hcell : w1.cell? ⟨g, 21, none⟩ = some (.string ⟨#[]⟩) := hcell
                    have hB2 := (HS.out.2.chg hc1 HQ.out.1).far (p := ⟨g, 21, none⟩) HQ.out.2 (cell (It.read (.t []) (readAll (shape.take 21) s).2).1)
                    have HE := Lib.hid (And.intro hf2 hB2)
                    clear hf2 hB2 hr1 hc1 C
                    go_wp2_with fail
                    go_roundw
                    case rel => exact ⟨2, by omega, by go_num, HE.out⟩
                    case measure => first | (simp [intOf]; done) | (simp [intOf]; omega)
                  · clear hlt hli hi
                    have C := Lib.hid (rtext wr F gr _ hfill.rd 1048576 (by decide))
                    have HS := Lib.hid (And.intro hfill hB)
                    have hgp := hB.lt
                    have hp := hB.cell 2
                    simp only [List.getElem?_toArray, List.getElem?_cons_zero, List.getElem?_cons_succ] at hp
                    clear hfill hB
                    go_wp2_with fail
                    with_reducible refine C.out.mono ?_
                    rintro e w1 ⟨rfl, hr1, hc1⟩
                    obtain ⟨hf2, hcell, hfro, hlt1⟩ := Fill.step HS.out.1 HN.out (by omega) (.t []) rfl HF.out hr1 hc1
                    have hcell : w1.cell? ⟨g, 22, none⟩ = some (.string ⟨#[]⟩) := hcell
                    have hB2 := (HS.out.2.chg hc1 HQ.out.1).far (p := ⟨g, 22, none⟩) HQ.out.2 (cell (It.read (.t []) (readAll (shape.take 22) s).2).1)
                    have HE := Lib.hid (And.intro hf2 hB2)
                    clear hf2 hB2 hr1 hc1 C
                    go_wp2_with fail
                    go_roundw
                    case rel => exact ⟨3, by omega, by go_num, HE.out⟩
                    case measure => first | (simp [intOf]; done) | (simp [intOf]; omega)
                  · clear hlt hli hi
                    have C := Lib.hid (rtext wr F gr _ hfill.rd 1048576 (by decide))
                    have HS := Lib.hid (And.intro hfill hB)
                    have hgp := hB.lt
                    have hp := hB.cell 3
                    simp only [List.getElem?_toArray, List.getElem?_cons_zero, List.getElem?_cons_succ] at hp
                    clear hfill hB
                    go_wp2_with fail
                    with_reducible refine C.out.mono ?_
                    rintro e w1 ⟨rfl, hr1, hc1⟩
                    obtain ⟨hf2, hcell, hfro, hlt1⟩ := Fill.step HS.out.1 HN.out (by omega) (.t []) rfl HF.out hr1 hc1
                    have hcell : w1.cell? ⟨g, 23, none⟩ = some (.string ⟨#[]⟩) := hcell
                    have hB2 := (HS.out.2.chg hc1 HQ.out.1).far (p := ⟨g, 23, none⟩) HQ.out.2 (cell (It.read (.t []) (readAll (shape.take 23) s).2).1)
                    have HE := Lib.hid (And.intro hf2 hB2)
                    clear hf2 hB2 hr1 hc1 C
                    go_wp2_with fail
                    go_roundw
                    case rel => exact ⟨4, by omega, by go_num, HE.out⟩
                    case measure => first | (simp [intOf]; done) | (simp [intOf]; omega)
                · have HA := Lib.hid (show Fill w F g gr s 24 wr from by rw [show i = 4 by omega] at hfill; exact hfill)
                  have hgi : ¬ ((i : Int) < 4) := by omega
                  clear hfill hB HQ hi hlt
                  have hfill := HA.out
                  have C := Lib.hid (num wr F gr _ hfill.rd 4611686018427387903)
                  have HS := Lib.hid hfill
                  have hgw := hfill.blk.lt
                  clear hfill
                  go_wp2_with fail
                  with_reducible refine C.out.mono ?_
                  rintro e w1 ⟨rfl, hr1, hc1⟩
                  obtain ⟨hf2, hcell, hfro, hlt1⟩ := Fill.step HS.out HN.out (by omega) (.n 0) rfl HF.out hr1 hc1
                  have hcell : w1.cell? ⟨g, 24, none⟩ = some (.int .i64 0) := hcell
                  have HS := Lib.hid hf2
                  have C := Lib.hid (rsigned _ F gr _ hf2.rd)
                  clear hf2 hr1 hc1
                  go_wp2_with fail
                  refine C.out.mono ?_
                  rintro e w2 ⟨rfl, hr1, hc1⟩
                  obtain ⟨hf2, hcell, hfro, hlt1⟩ := Fill.step HS.out HN.out (by omega) (.z 0) rfl HF.out hr1 hc1
                  have hcell : w2.cell? ⟨g, 25, none⟩ = some (.int .i64 0) := hcell
                  have HS := Lib.hid hf2
                  have C := Lib.hid (rtext _ F gr _ hf2.rd 1048576 (by decide))
                  clear hf2 hr1 hc1
                  go_wp2_with fail
                  refine C.out.mono ?_
                  rintro e w3 ⟨rfl, hr1, hc1⟩
                  obtain ⟨hf2, hcell, hfro, hlt1⟩ := Fill.step HS.out HN.out (by omega) (.t []) rfl HF.out hr1 hc1
                  have hcell : w3.cell? ⟨g, 26, none⟩ = some (.string ⟨#[]⟩) := hcell
                  have hf2 : Fill w F g gr s 27 (w3.setCell ⟨g, 26, none⟩ (.string ⟨(textP 1048576 (readAll (shape.take 26) s).2).1.toArray⟩)) := hf2
                  obtain ⟨hld, hst, hb4, hr4, hc4⟩ := hf2.ends HN.out HF.out
                  obtain ⟨e4, he4⟩ : ∃ e, (nextP s).1 = e := ⟨_, rfl⟩
                  obtain ⟨s4, hs4⟩ : ∃ x, (nextP s).2 = x := ⟨_, rfl⟩
                  rw [he4] at hld hst hb4 hr4 hc4
                  rw [hs4] at hr4
                  have HE := Lib.hid (And.intro hb4 (And.intro hr4 hc4))
                  have HT := Lib.hid (And.intro he4 hs4)
                  clear hf2 hr1 hc1 C hb4 hr4 hc4 he4 hs4
                  go_wp2_with fail
                  refine bodyPost_ret (resE rfl _ _ g 48 e4 rfl ?hblk) rfl ?hpost
                  case hblk => exact HE.out.1
                  case hpost => exact ⟨by rw [HT.out.1], by rw [HT.out.2]; exact HE.out.2.1, HE.out.2.2⟩
end Evt
end Go.Proofs.YtkmkpdmjdfbpjaaGreatDoor

/- Rows of whole numbers of the call's own, and append onto them (no condition beyond the sizes). -/
namespace Go.Proofs.YtkmkpdmjdfbpjaaGreatDoor
open Go.ChangeShapes Go.WideShapes Go.RowKit
/-- v is a slice of the call's own whose whole numbers are l -/
abbrev OwnI (w : World) (base : Nat) (v : Value) (l : List Int) : Prop := w.ownsRow base 3 1 v l.length (ints l)
theorem intInfo : (Tryz.prog.info? 3).map (fun i => (i.zero, i.size, i.bytes)) = some (some (.int .i64 0), 1, 8) := by kernel_rfl
theorem append_i64 (w : World) {ops : Array Oper} {rest : List Oper} {o : Oper} {a : Act} {Q : Exit → Act → World → Prop} (hgd : o.guard = none) (s x : Operand)
    (ho : o.op = .call { callee := .builtin .append, args := #[s, x], argTypes := #[50, 50] })
    (base : Nat) (v : Value) (l : List Int) (hs : a.eval s = v) (hown : OwnI w base v l)
    (F : Nat → Prop) (A : Option Addr) (m c : Nat) (k : List Int) (hx : a.eval x = .slice A m c) (hr : Reads w F 1 A m (ints k))
    (hb : l.length + m ≤ 1099511627776) (hbase : base ≤ w.heap.size)
    (h : ∀ v' w', OwnI w' base v' (l ++ k) → w.grownBy w' v.ownBlock → (v'.ownBlock = v.ownBlock ∨ v'.ownBlock = some w.heap.size) → wpList Tryz.prog ops Q rest (a.put o.dst v') w') : wpList Tryz.prog ops Q (o :: rest) a w := by
  obtain ⟨i, hi, hz0, hz1, hz2⟩ := info_parts intInfo
  refine wpList_append_any w hgd s x _ ho base _ i _ 1 8 Tryz.underlying50 hi hz0 hz1 hz2 rfl (by omega) v l.length (ints l) hs hown F A m c (ints k) hx hr (ints_one k) (by simp only [maxLen]; omega) (by omega) hbase ?_
  intro v' w' ho' hg hat
  refine h v' w' ?_ hg hat
  have hk := hr.len
  unfold OwnI
  rw [show ints (l ++ k) = ints l ++ ints k by simp [ints], List.length_append, show k.length = m by simpa [ints] using hk]
  exact ho'
theorem own_own {w : World} {base base' : Nat} {e e' : TypeId} {size size' n n' : Nat} {v v' : Value} {xs xs' : List Value} (h : w.ownsRow base e size v n xs) (h' : w.ownsRow base' e' size' v' n' xs') (hne : e ≠ e') {g : Nat} (hg : v.ownBlock = some g) : v'.ownBlock ≠ some g := by
  intro hg'
  rcases h'.2 with ⟨rfl, _⟩ | ⟨g', cap, cur, rfl, _, hh, _⟩
  · cases hg'
  · have : g' = g := by simpa [Value.ownBlock] using hg'
    subst this
    exact own_ne h hh hne hg
end Go.Proofs.YtkmkpdmjdfbpjaaGreatDoor

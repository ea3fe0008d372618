/-
  The document's reference: a reader's numbers, signed numbers and texts (no condition beyond the size).
-/
import Derived.Test.YtkmkpdmjdfbpjaaGreatDoorJ17
import Derived.Test.YtkmkpdmjdfbpjaaGreatDoorKRefTake2
namespace Go.Proofs.YtkmkpdmjdfbpjaaGreatDoor
set_option linter.unusedSimpArgs false
set_option linter.unusedVariables false
open Go.ChangeShapes Go.WideShapes Go.RowKit
namespace Num
/-- block g is a reader of the reference's: s is left; its bytes lie in blocks of F -/
structure RrAt (w : World) (F : Nat → Prop) (g : Nat) (s : Rd) : Prop where
  ex : ∃ (A : Option Addr) (n cp : Nat), Blk w g 66 #[.slice A n cp, .bool s.bad] ∧ Reads w F 1 A n (u8s s.l) ∧ n ≤ cp ∧ n ≤ 1000000000
  far : ∀ b, F b → b < w.heap.size ∧ b ≠ g
theorem RrAt.chg {w w' : World} {F S : Nat → Prop} {g : Nat} {s : Rd} (h : RrAt w F g s) (hc : Chg S w w') (hg : ¬ S g) (hF : ∀ b, F b → ¬ S b) : RrAt w' F g s := by
  obtain ⟨A, n, cp, h1, h2, h3⟩ := h.ex
  exact ⟨⟨A, n, cp, h1.chg hc hg, h2.chg hc fun b hb => ⟨(h.far b hb).1, hF b hb⟩, h3⟩, fun b hb => ⟨by have := (h.far b hb).1; have := hc.size; omega, (h.far b hb).2⟩⟩
theorem RrAt.new {w w' : World} {F : Nat → Prop} {g : Nat} {s : Rd} (h : RrAt w F g s) (hc : New w w') : RrAt w' F g s := h.chg hc id fun _ _ => id
theorem RrAt.bads {w w1 : World} {F : Nat → Prop} {g : Nat} {s : Rd} (h : RrAt w F g s) (hc : New w w1) : RrAt (w1.setCell ⟨g, 1, none⟩ (.bool true)) F g ⟨s.l, true⟩ ∧ Chg (fun k => k = g) w (w1.setCell ⟨g, 1, none⟩ (.bool true)) := by
  have h := h.new hc
  obtain ⟨A, n, cp, h1, h2, h3, h4⟩ := h.ex
  have c1 := (Chg.refl (fun k => k = g) w1).setCell (p := ⟨g, 1, none⟩) (fun _ => rfl) (.bool true)
  exact ⟨⟨⟨A, n, cp, h1.set_ 1 (.bool true), h2.chg c1 fun b hb => h.far b hb, h3, h4⟩, fun b hb => ⟨by have := (h.far b hb).1; have := c1.size; omega, (h.far b hb).2⟩⟩, (hc.to _).trans c1 fun _ _ => id⟩
set_option maxHeartbeats 4000000 in
set_option maxRecDepth 20000 in
theorem rnum (w : World) (F : Nat → Prop) (g : Nat) (s : Rd) (h : RrAt w F g s) (most : Int) : Calls Tryz.prog 34 #[.pointer (some ⟨g, 0, none⟩), .int .i64 most] w fun e w' => e = .returned (.int .i64 (numP most s).1) ∧ RrAt w' F g (numP most s).2 ∧ Chg (fun k => k = g) w w' := by
  have H := Lib.hid h
  obtain ⟨A, n, cp, h1, h2, h3, h4⟩ := h.ex
  have C := Lib.hid (rtake_ w F A n cp s.l h2 h4 h3)
  have hc := h1.cell 0
  simp only [List.getElem?_toArray, List.getElem?_cons_zero] at hc
  have hl := h1.lt
  have hln := h2.u8len
  obtain ⟨rt, hrt⟩ : ∃ r, rtake s.l = r := ⟨_, rfl⟩
  obtain ⟨rn, rk⟩ := rt
  rw [hrt] at C
  unfold rtake at hrt
  by_cases hb : s.bad = true
  · rw [numP_bad hb]
    have HS := Lib.hid (show (⟨s.l, true⟩ : Rd) = s by rw [← hb])
    rw [hb] at h1
    clear h h2 hb hln hrt
    go_enter Tryz.func34, Tryz.ntmps34
    go_wp2_with fail
    with_reducible refine C.out.mono ?_
    rintro e w1 ⟨rfl, hnw⟩
    have hcb := (h1.chg hnw id).cell 1
    simp only [List.getElem?_toArray, List.getElem?_cons_zero, List.getElem?_cons_succ] at hcb
    have hset := RrAt.bads H.out hnw
    have HE := Lib.hid hset
    have h1w := h1.chg hnw id
    have hc0 := h1w.cell 1
    simp only [List.getElem?_toArray, List.getElem?_cons_zero, List.getElem?_cons_succ] at hc0
    have hf1 := h1w.frozen 1
    have hlw := h1w.lt
    clear hset h1w hnw h1 C
    go_wp2_with fail
    go_ret
    exact ⟨rfl, by have := HE.out.1; rw [HS.out] at this; exact this, HE.out.2⟩
  · have hb : s.bad = false := by simpa using hb
    rw [hb] at h1
    have hnp : numP most s = match takeGo 0 0 s.l with | none => (0, ⟨s.l, true⟩) | some (n, k) => if most < (n : Int) then (0, ⟨s.l, true⟩) else ((n : Int), ⟨s.l.drop k, false⟩) := by unfold numP; rw [hb]; rfl
    cases ht : takeGo 0 0 s.l with
    | none =>
      rw [ht] at hnp hrt
      obtain ⟨rfl, rfl⟩ := Prod.mk.inj hrt
      rw [hnp]
      clear h h2 hb hln hnp ht hrt
      go_enter Tryz.func34, Tryz.ntmps34
      go_wp2_with fail
      with_reducible refine C.out.mono ?_
      rintro e w1 ⟨rfl, hnw⟩
      have hcb := (h1.chg hnw id).cell 1
      simp only [List.getElem?_toArray, List.getElem?_cons_zero, List.getElem?_cons_succ] at hcb
      have hset := RrAt.bads H.out hnw
      have HE := Lib.hid hset
      have h1w := h1.chg hnw id
      have hc0 := h1w.cell 1
      simp only [List.getElem?_toArray, List.getElem?_cons_zero, List.getElem?_cons_succ] at hc0
      have hf1 := h1w.frozen 1
      have hlw := h1w.lt
      clear hset h1w hnw h1 C
      go_wp2_with fail
      go_ret
      exact ⟨rfl, HE.out.1, HE.out.2⟩
    | some p =>
      obtain ⟨z, k⟩ := p
      rw [ht] at hnp hrt
      obtain ⟨rfl, rfl⟩ := Prod.mk.inj (show (z, k) = (rn, rk) from hrt)
      have htl := takeGo_len s.l 0 0 ht
      have hk0 : ((k : Int) == 0) = false := by simp; omega
      dsimp only at hnp
      by_cases hm : most < (z : Int)
      · rw [if_pos hm] at hnp
        rw [hnp]
        clear h h2 hb hln hnp ht htl hrt
        go_enter Tryz.func34, Tryz.ntmps34
        go_wp2_with fail
        with_reducible refine C.out.mono ?_
        rintro e w1 ⟨rfl, hnw⟩
        have hcb := (h1.chg hnw id).cell 1
        simp only [List.getElem?_toArray, List.getElem?_cons_zero, List.getElem?_cons_succ] at hcb
        have hset := RrAt.bads H.out hnw
        have HE := Lib.hid hset
        have h1w := h1.chg hnw id
        have hc0 := h1w.cell 1
        simp only [List.getElem?_toArray, List.getElem?_cons_zero, List.getElem?_cons_succ] at hc0
        have hf1 := h1w.frozen 1
        have hlw := h1w.lt
        clear hset h1w hnw h1 C
        go_wp2_with fail
        go_ret
        exact ⟨rfl, HE.out.1, HE.out.2⟩
      · rw [if_neg hm] at hnp
        rw [hnp]
        have H2 := Lib.hid h2
        have HKN := Lib.hid (show k ≤ n by omega)
        clear h h2 hb hln hnp ht htl hrt
        go_enter Tryz.func34, Tryz.ntmps34
        go_wp2_with fail
        with_reducible refine C.out.mono ?_
        rintro e w1 ⟨rfl, hnw⟩
        have h1w := h1.chg hnw id
        obtain ⟨A', h2', hsl⟩ := Reads.cutU (H2.out.chg hnw fun b hb => ⟨(H.out.far b hb).1, id⟩) (k := k) HKN.out h3
        have c2 := (Chg.refl (fun k => k = g) w1).setCell (p := ⟨g, 0, none⟩) (fun _ => rfl) (.slice A' (n - k) (cp - k))
        have hset2 : RrAt (w1.setCell ⟨g, 0, none⟩ (.slice A' (n - k) (cp - k))) F g ⟨s.l.drop k, false⟩ :=
          ⟨⟨A', n - k, cp - k, h1w.set_ 0 _, h2'.chg c2 fun b hb => (H.out.new hnw).far b hb, by have := HKN.out; omega, by omega⟩, fun b hb => ⟨by have := ((H.out.new hnw).far b hb).1; have := c2.size; omega, (H.out.far b hb).2⟩⟩
        have hc0 := h1w.cell 0
        have hcb := h1w.cell 1
        simp only [List.getElem?_toArray, List.getElem?_cons_zero, List.getElem?_cons_succ] at hc0 hcb
        have hf0 := h1w.frozen 0
        have hlw := h1w.lt
        have HE := Lib.hid (And.intro hset2 ((hnw.to _).trans c2 fun _ _ => id))
        clear h1 h1w h2' c2 hset2 hnw C
        go_wp2_with fail
        go_ret
        exact ⟨rfl, HE.out.1, HE.out.2⟩
set_option maxHeartbeats 4000000 in
set_option maxRecDepth 20000 in
theorem rrsigned (w : World) (F : Nat → Prop) (g : Nat) (s : Rd) (h : RrAt w F g s) : Calls Tryz.prog 61 #[.pointer (some ⟨g, 0, none⟩)] w fun e w' => e = .returned (.int .i64 (signedP s).1) ∧ RrAt w' F g (signedP s).2 ∧ Chg (fun k => k = g) w w' := by
  have C := Lib.hid (rnum w F g s h 2305843009213693952)
  have hr := numP_range 2305843009213693952 (by decide) s
  have hs2 : (signedP s).2 = (numP 2305843009213693952 s).2 := rfl
  have hs1 : (signedP s).1 = if (numP 2305843009213693952 s).1 % 2 = 1 then -((numP 2305843009213693952 s).1 / 2) - 1 else (numP 2305843009213693952 s).1 / 2 := rfl
  rw [hs1, hs2]
  obtain ⟨s2, hse⟩ : ∃ x, (numP 2305843009213693952 s).2 = x := ⟨_, rfl⟩
  rw [hse] at C ⊢
  obtain ⟨z, hz⟩ : ∃ z : Nat, (numP 2305843009213693952 s).1 = (z : Int) := ⟨_, by rw [Int.toNat_of_nonneg hr.1]⟩
  rw [hz] at C hr ⊢
  have hw1 : IntKind.i64.wrap (-((z : Int) / 2)) = -((z : Int) / 2) := IntWalk.i64_in _ (by omega)
  have hw2 : IntKind.i64.wrap (-((z : Int) / 2) - 1) = -((z : Int) / 2) - 1 := IntWalk.i64_in _ (by omega)
  have hw3 : IntKind.i64.wrap ((z : Int) / 2) = ((z : Int) / 2) := IntWalk.i64_in _ (by omega)
  have hq : (z : Int).tdiv 2 = (z : Int) / 2 := Int.tdiv_eq_ediv_of_nonneg (by omega)
  have hrm : (z : Int).tmod 2 = ((z % 2 : Nat) : Int) := Int.ofNat_tmod z 2
  obtain ⟨q, hqe⟩ : ∃ q : Int, (z : Int) / 2 = q := ⟨_, rfl⟩
  rw [hqe] at hw1 hw2 hw3 hq ⊢
  clear hs1 hs2 hse hz h
  by_cases ho : z % 2 = 1
  · rw [ho] at hrm
    rw [if_pos (by omega)]
    clear hr hqe ho
    go_enter Tryz.func61, Tryz.ntmps61
    go_wp2_with fail
    with_reducible refine C.out.mono ?_
    rintro e w1 ⟨rfl, h3, c3⟩
    have HE := Lib.hid (And.intro h3 c3)
    clear h3 c3
    go_wp2_with fail
    go_ret
    exact ⟨rfl, HE.out⟩
  · rw [show z % 2 = 0 by omega] at hrm
    rw [if_neg (by omega)]
    clear hr hqe ho
    go_enter Tryz.func61, Tryz.ntmps61
    go_wp2_with fail
    with_reducible refine C.out.mono ?_
    rintro e w1 ⟨rfl, h3, c3⟩
    have HE := Lib.hid (And.intro h3 c3)
    clear h3 c3
    go_wp2_with fail
    go_ret
    exact ⟨rfl, HE.out⟩
set_option maxHeartbeats 4000000 in
set_option maxRecDepth 20000 in
theorem rrtext (w : World) (F : Nat → Prop) (g : Nat) (s : Rd) (h : RrAt w F g s) (most : Int) (hmost : 0 ≤ most) : Calls Tryz.prog 60 #[.pointer (some ⟨g, 0, none⟩), .int .i64 most] w fun e w' => e = .returned (.string ⟨(textP most s).1.toArray⟩) ∧ RrAt w' F g (textP most s).2 ∧ Chg (fun k => k = g) w w' := by
  have C := Lib.hid (rnum w F g s h most)
  have hr := numP_range most hmost s
  have ht : textP most s = if (numP most s).2.bad = true then ([], (numP most s).2) else if ((numP most s).2.l.length : Int) < (numP most s).1 then ([], ⟨(numP most s).2.l, true⟩) else
    ((numP most s).2.l.take (numP most s).1.toNat, ⟨(numP most s).2.l.drop (numP most s).1.toNat, false⟩) := rfl
  obtain ⟨R, hR⟩ : ∃ R, textP most s = R := ⟨_, rfl⟩
  rw [hR] at ht ⊢
  obtain ⟨s2, hse⟩ : ∃ x, (numP most s).2 = x := ⟨_, rfl⟩
  obtain ⟨z, hz⟩ : ∃ z : Nat, (numP most s).1 = (z : Int) := ⟨_, by rw [Int.toNat_of_nonneg hr.1]⟩
  rw [hse, hz] at C ht
  rw [Int.toNat_natCast] at ht
  have HT := Lib.hid ht
  clear hse hz hr ht h hmost hR
  go_enter Tryz.func60, Tryz.ntmps60
  go_wp2_with fail
  with_reducible refine C.out.mono ?_
  rintro e w1 ⟨rfl, h, c1⟩
  have H := Lib.hid h
  obtain ⟨A, n, cp, h1, h2, h3, h4⟩ := h.ex
  have hc := h1.cell 0
  have hcb := h1.cell 1
  simp only [List.getElem?_toArray, List.getElem?_cons_zero, List.getElem?_cons_succ] at hc hcb
  have hl := h1.lt
  have hln := h2.u8len
  have HC := Lib.hid c1
  clear C
  by_cases hb : s2.bad = true
  · have hR := HT.out
    rw [if_pos hb] at hR
    rw [hb] at hcb
    have hset := RrAt.bads H.out (Chg.refl _ _)
    have HS := Lib.hid (show (⟨s2.l, true⟩ : Rd) = s2 by rw [← hb])
    have HE := Lib.hid (And.intro hset.1 (HC.out.trans hset.2 fun _ _ => id))
    have HR := Lib.hid hR
    have hf1 := h1.frozen 1
    clear hR hset h h1 h2 hb hln c1
    go_wp2_with fail
    go_ret
    exact ⟨by rw [HR.out] <;> rfl, by have := HE.out.1; rw [HS.out] at this; rw [HR.out]; exact this, HE.out.2⟩
  · have hb : s2.bad = false := by simpa using hb
    have hR := HT.out
    rw [if_neg (by rw [hb]; decide), hln] at hR
    rw [hb] at h1 hcb
    by_cases hn : (n : Int) < (z : Int)
    · rw [if_pos hn] at hR
      have HR := Lib.hid hR
      have hset := RrAt.bads H.out (Chg.refl _ _)
      have HE := Lib.hid (And.intro hset.1 (HC.out.trans hset.2 fun _ _ => id))
      have hf1 := h1.frozen 1
      clear hR hset h h1 h2 hb hln c1
      go_wp2_with fail
      go_ret
      exact ⟨by rw [HR.out] <;> rfl, by rw [HR.out]; exact HE.out.1, HE.out.2⟩
    · rw [if_neg hn] at hR
      have HR := Lib.hid hR
      clear hR
      have hsl := slice_u8_to A n cp z (by omega)
      have hst := slice_to_str h2 z cp (by omega)
      obtain ⟨A', h2', hsl2⟩ := Reads.cutU h2 (k := z) (by omega) h3
      have c2 := c1.setCell (p := ⟨g, 0, none⟩) (fun _ => rfl) (.slice A' (n - z) (cp - z))
      have c2' := (Chg.refl (fun k => k = g) w1).setCell (p := ⟨g, 0, none⟩) (fun _ => rfl) (.slice A' (n - z) (cp - z))
      have hset2 : RrAt (w1.setCell ⟨g, 0, none⟩ (.slice A' (n - z) (cp - z))) F g ⟨s2.l.drop z, false⟩ :=
        ⟨⟨A', n - z, cp - z, h1.set_ 0 _, h2'.chg c2' fun b hb => H.out.far b hb, by omega, by omega⟩, fun b hb => ⟨by have := (H.out.far b hb).1; have := c2'.size; omega, (H.out.far b hb).2⟩⟩
      have hf0 := h1.frozen 0
      have HE := Lib.hid (And.intro hset2 c2)
      obtain ⟨x, hx⟩ : ∃ x : ByteArray, ⟨(s2.l.take z).toArray⟩ = x := ⟨_, rfl⟩
      rw [hx] at hst
      have HX := Lib.hid hx
      clear h h1 h2 hb hln c1 c2 c2' hset2 h2' hx
      go_wp2_with fail
      go_ret
      exact ⟨by rw [HR.out, ← HX.out] <;> rfl, by rw [HR.out]; exact HE.out.1, HE.out.2⟩
end Num
end Go.Proofs.YtkmkpdmjdfbpjaaGreatDoor

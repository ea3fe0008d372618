/-
  The program's num package: a reader (no condition beyond the size).
-/
import Derived.Test.YtjkjbbmbfobdaaaDoorNum3
namespace Go.Proofs.YtjkjbbmbfobdaaaDoor
set_option linter.unusedSimpArgs false
set_option linter.unusedVariables false
open Go.ChangeShapes Go.WideShapes Go.RowKit
namespace Num
/-- block g is a reader: s is left; its bytes lie in blocks of F -/
structure RdAt (w : World) (F : Nat → Prop) (g : Nat) (s : Rd) : Prop where
  ex : ∃ (A : Option Addr) (n cp : Nat), Blk w g 70 #[.slice A n cp, .bool s.bad] ∧ Reads w F 1 A n (u8s s.l) ∧ n ≤ cp ∧ n ≤ 1000000000
  far : ∀ b, F b → b < w.heap.size ∧ b ≠ g
theorem RdAt.chg {w w' : World} {F S : Nat → Prop} {g : Nat} {s : Rd} (h : RdAt w F g s) (hc : Chg S w w') (hg : ¬ S g) (hF : ∀ b, F b → ¬ S b) : RdAt w' F g s := by
  obtain ⟨A, n, cp, h1, h2, h3⟩ := h.ex
  exact ⟨⟨A, n, cp, h1.chg hc hg, h2.chg hc fun b hb => ⟨(h.far b hb).1, hF b hb⟩, h3⟩, fun b hb => ⟨by have := (h.far b hb).1; have := hc.size; omega, (h.far b hb).2⟩⟩
theorem RdAt.new {w w' : World} {F : Nat → Prop} {g : Nat} {s : Rd} (h : RdAt w F g s) (hc : New w w') : RdAt w' F g s := h.chg hc id fun _ _ => id
theorem fail (w : World) (F : Nat → Prop) (g : Nat) (s : Rd) (h : RdAt w F g s) : Calls Tryd.prog 43 #[.pointer (some ⟨g, 0, none⟩)] w fun e w' => e = .returned (.bool s.bad) ∧ w' = w := by
  obtain ⟨A, n, cp, h1, _⟩ := h.ex
  have hc := h1.cell 1
  simp only [List.getElem?_toArray, List.getElem?_cons_zero, List.getElem?_cons_succ] at hc
  have hl := h1.lt
  obtain ⟨b, hb⟩ : ∃ b, s.bad = b := ⟨_, rfl⟩
  rw [hb] at hc ⊢
  clear h h1 hb
  go_enter Tryd.func43, Tryd.ntmps43
  go_wp2_with fail
  go_ret
  exact ⟨rfl, rfl⟩
theorem done (w : World) (F : Nat → Prop) (g : Nat) (s : Rd) (h : RdAt w F g s) : Calls Tryd.prog 32 #[.pointer (some ⟨g, 0, none⟩)] w fun e w' => e = .returned (.bool (!s.bad && decide (s.l.length = 0))) ∧ w' = w := by
  have C := Lib.hid (fail w F g s h)
  obtain ⟨A, n, cp, h1, h2, _⟩ := h.ex
  have hc := h1.cell 0
  simp only [List.getElem?_toArray, List.getElem?_cons_zero] at hc
  have hl := h1.lt
  have hln := h2.u8len
  rw [hln]
  obtain ⟨b, hb⟩ : ∃ b, s.bad = b := ⟨_, rfl⟩
  rw [hb] at C ⊢
  clear h h1 hb h2 hln
  cases b
  · by_cases hn : n = 0
    · subst hn
      go_enter Tryd.func32, Tryd.ntmps32
      go_wp2_with fail
      with_reducible refine C.out.mono ?_
      rintro e w1 ⟨rfl, rfl⟩
      go_wp2_with fail
      go_ret
      exact ⟨rfl, rfl⟩
    · have hn2 : ((n : Int) == 0) = false := by simpa using hn
      rw [show (!false && decide (n = 0)) = false by simpa using hn]
      go_enter Tryd.func32, Tryd.ntmps32
      go_wp2_with fail
      with_reducible refine C.out.mono ?_
      rintro e w1 ⟨rfl, rfl⟩
      go_wp2_with fail
      go_ret
      exact ⟨rfl, rfl⟩
  · go_enter Tryd.func32, Tryd.ntmps32
    go_wp2_with fail
    with_reducible refine C.out.mono ?_
    rintro e w1 ⟨rfl, rfl⟩
    go_wp2_with fail
    go_ret
    exact ⟨rfl, rfl⟩
theorem read (w : World) (F : Nat → Prop) (A : Option Addr) (n cp : Nat) (l : List UInt8) (hr : Reads w F 1 A n (u8s l)) (hF : ∀ b, F b → b < w.heap.size) (hn : n ≤ 1000000000) (hcp : n ≤ cp) :
    Calls Tryd.prog 30 #[.slice A n cp] w fun e w' => e = .returned (.pointer (some ⟨w.heap.size, 0, none⟩)) ∧ RdAt w' F w.heap.size ⟨l, false⟩ ∧ New w w' := by
  have H := Lib.hid (And.intro hr hF)
  clear hr hF
  go_enter Tryd.func30, Tryd.ntmps30
  go_wp2_with fail
  go_ret
  have a1 := (Chg.refl (fun _ => False) w).alloc (.cells #[.slice A n cp, .bool false] 70)
  exact ⟨rfl, ⟨⟨A, n, cp, Blk.new _ _ _, H.out.1.chg a1 fun b hb => ⟨H.out.2 b hb, id⟩, hcp, hn⟩, fun b hb => ⟨by have := H.out.2 b hb; have := a1.size; omega, by have := H.out.2 b hb; omega⟩⟩, a1⟩
theorem Reads.cutU {w : World} {F : Nat → Prop} {A : Option Addr} {n k c : Nat} {l : List UInt8} (h : Reads w F 1 A n (u8s l)) (hk : k ≤ n) (hc : n ≤ c) : ∃ A' : Option Addr, Reads w F 1 A' (n - k) (u8s (l.drop k)) ∧ ∀ W, (Instr.sliceAt 43 (.slice A n c) (some (.int .i64 (k : Int))) none none).run Tryd.prog W = .ok (.slice A' (n - k) (c - k)) W :=
  ⟨_, Reads.cutB h hk hc, slice_u8_from A n c k hk⟩
set_option maxHeartbeats 4000000 in
set_option maxRecDepth 20000 in
theorem num (w : World) (F : Nat → Prop) (g : Nat) (s : Rd) (h : RdAt w F g s) (most : Int) : Calls Tryd.prog 40 #[.pointer (some ⟨g, 0, none⟩), .int .i64 most] w fun e w' => e = .returned (.int .i64 (numP most s).1) ∧ RdAt w' F g (numP most s).2 ∧ Chg (fun k => k = g) w w' := by
  have C := Lib.hid (fail w F g s h)
  have H := Lib.hid h
  obtain ⟨A, n, cp, h1, h2, h3, h4⟩ := h.ex
  have T := Lib.hid (take w F A n cp s.l h2 h4 h3)
  have hc := h1.cell 0
  simp only [List.getElem?_toArray, List.getElem?_cons_zero] at hc
  have hl := h1.lt
  have hln := h2.u8len
  by_cases hb : s.bad = true
  · rw [numP_bad hb]
    rw [hb] at C
    clear h h1 h2 hb hln
    go_enter Tryd.func40, Tryd.ntmps40
    go_wp2_with fail
    with_reducible refine C.out.mono ?_
    rintro e w1 ⟨rfl, rfl⟩
    go_wp2_with fail
    go_ret
    exact ⟨rfl, H.out, Chg.refl _ _⟩
  · have hb : s.bad = false := by simpa using hb
    rw [hb] at C h1
    have hnp : numP most s = match takeGo 0 0 s.l with | none => (0, ⟨s.l, true⟩) | some (n, k) => if most < (n : Int) then (0, ⟨s.l, true⟩) else ((n : Int), ⟨s.l.drop k, false⟩) := by unfold numP; rw [hb]; rfl
    unfold takeV at T
    have hset : RdAt (w.setCell ⟨g, 1, none⟩ (.bool true)) F g ⟨s.l, true⟩ := by
      have c1 := (Chg.refl (fun k => k = g) w).setCell (p := ⟨g, 1, none⟩) (fun _ => rfl) (.bool true)
      exact ⟨⟨A, n, cp, h1.set_ 1 (.bool true), h2.chg c1 fun b hb => H.out.far b hb, h3, h4⟩, fun b hb => ⟨by have := (H.out.far b hb).1; have := c1.size; omega, (H.out.far b hb).2⟩⟩
    have cset := (Chg.refl (fun k => k = g) w).setCell (p := ⟨g, 1, none⟩) (fun _ => rfl) (.bool true)
    have hc1 := h1.cell 1
    simp only [List.getElem?_toArray, List.getElem?_cons_zero, List.getElem?_cons_succ] at hc1
    have hf1 := h1.frozen 1
    cases ht : takeGo 0 0 s.l with
    | none =>
      rw [ht] at hnp T
      have HE := Lib.hid (And.intro hset cset)
      rw [hnp]
      clear h h1 h2 hb hln hset cset hnp ht
      go_enter Tryd.func40, Tryd.ntmps40
      go_wp2_with fail
      with_reducible refine C.out.mono ?_
      rintro e w1 ⟨rfl, rfl⟩
      go_wp2_with fail
      with_reducible refine T.out.mono ?_
      rintro e w1 ⟨rfl, rfl⟩
      go_wp2_with fail
      go_ret
      exact ⟨rfl, HE.out.1, HE.out.2⟩
    | some p =>
      obtain ⟨z, k⟩ := p
      rw [ht] at hnp T
      have htl := takeGo_len s.l 0 0 ht
      have hk0 : ((k : Int) == 0) = false := by simp; omega
      dsimp only [Option.getD_some] at hnp T
      by_cases hm : most < (z : Int)
      · rw [if_pos hm] at hnp
        have HE := Lib.hid (And.intro hset cset)
        rw [hnp]
        clear h h1 h2 hb hln hset cset hnp ht htl
        go_enter Tryd.func40, Tryd.ntmps40
        go_wp2_with fail
        with_reducible refine C.out.mono ?_
        rintro e w1 ⟨rfl, rfl⟩
        go_wp2_with fail
        with_reducible refine T.out.mono ?_
        rintro e w1 ⟨rfl, rfl⟩
        go_wp2_with fail
        go_ret
        exact ⟨rfl, HE.out.1, HE.out.2⟩
      · rw [if_neg hm] at hnp
        obtain ⟨A', h2', hsl⟩ := Reads.cutU h2 (k := k) (by omega) h3
        have c2 := (Chg.refl (fun k => k = g) w).setCell (p := ⟨g, 0, none⟩) (fun _ => rfl) (.slice A' (n - k) (cp - k))
        have hset2 : RdAt (w.setCell ⟨g, 0, none⟩ (.slice A' (n - k) (cp - k))) F g ⟨s.l.drop k, false⟩ :=
          ⟨⟨A', n - k, cp - k, h1.set_ 0 _, h2'.chg c2 fun b hb => H.out.far b hb, by omega, by omega⟩, fun b hb => ⟨by have := (H.out.far b hb).1; have := c2.size; omega, (H.out.far b hb).2⟩⟩
        have hf0 := h1.frozen 0
        have HE := Lib.hid (And.intro hset2 c2)
        rw [hnp]
        clear h h1 h2 hb hln hset cset hnp ht htl hset2 c2 h2' hc1 hf1
        go_enter Tryd.func40, Tryd.ntmps40
        go_wp2_with fail
        with_reducible refine C.out.mono ?_
        rintro e w1 ⟨rfl, rfl⟩
        go_wp2_with fail
        with_reducible refine T.out.mono ?_
        rintro e w1 ⟨rfl, rfl⟩
        go_wp2_with fail
        go_ret
        exact ⟨rfl, HE.out.1, HE.out.2⟩
end Num
end Go.Proofs.YtjkjbbmbfobdaaaDoor

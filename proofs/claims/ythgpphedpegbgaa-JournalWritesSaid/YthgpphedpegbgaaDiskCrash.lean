/-
  What the program's disk package computes, the second part: a crash, for a disk whose bytes are known (no condition beyond the disk's own bounds).
-/
import Derived.Test.YthgpphedpegbgaaDisk
namespace Go.Proofs.Ythgpphedpegbgaa
open Go.ChangeShapes Go.WideShapes Go.RowKit
namespace Disk
theorem own_cut {w : World} {base n c m : Nat} {A : Option Addr} {l : List UInt8} (h : OwnB w base (.slice A n c) l) (hm : m ≤ l.length) : OwnB w base (.slice A m c) (l.take m) := by
  unfold OwnB
  rw [← u8s_take, List.length_take, Nat.min_eq_left hm]
  refine ⟨by rw [List.length_take, u8s_length]; omega, ?_⟩
  rcases h.2 with ⟨h0, h1⟩ | ⟨g, cap, cur, h0, hb, hg, h1, h2, h3, h4⟩
  · injection h0 with a b d
    subst a b d
    have : m = 0 := by omega
    subst this
    exact .inl ⟨rfl, rfl⟩
  · injection h0 with a b d
    subst a b d
    refine .inr ⟨g, c, cur, rfl, hb, hg, by omega, h2, h3, ?_⟩
    rw [← h4, List.take_take, Nat.mul_one, Nat.mul_one, Nat.min_eq_left hm]
/-- a crash's end: the disk is d', its bytes where they were -/
def PostC (w : World) (lo b : Nat) (v : Value) (d' : Dsk) (w' : World) : Prop := ∃ v', v'.ownBlock = v.ownBlock ∧ At w' lo b v' d' ∧ Chg (Foot b v) w w'
theorem PostC.drew {w w' : World} {lo b : Nat} {v : Value} {d : Dsk} (h : PostC w lo b v d w') : PostC w lo b v d w'.drew := by
  obtain ⟨v', h1, h2, h3⟩ := h
  exact ⟨v', h1, h2.drew, h3.drew⟩
/-- nothing is turned -/
theorem crash_plain {w : World} {lo b n c : Nat} {A : Option Addr} {d : Dsk} (h : At w lo b (.slice A n c) d) {k : Nat} (hk : d.s + k ≤ d.b.length) :
    PostC w lo b (.slice A n c) ⟨d.b.take (d.s + k), d.s⟩ (w.setCell ⟨b, 0, none⟩ (.slice A (d.s + k) c)) := by
  have hch : Chg (fun k => k = b) w (w.setCell ⟨b, 0, none⟩ (.slice A (d.s + k) c)) := (Chg.refl (fun k => k = b) w).setCell (p := ⟨b, 0, none⟩) (fun _ => rfl) _
  have hok := h.ok.2
  refine ⟨.slice A (d.s + k) c, ?_, ⟨⟨?_, ?_⟩, h.blk.set_ 0 _, own_cut (own_chg h.own hch fun g hg e => own_ne h.own h.blk (by decide) (e ▸ hg)) hk, h.low⟩, hch.mono fun _ _ => .inl⟩
  · cases A <;> rfl
  · simp only [List.length_take]; omega
  · simp only [List.length_take]; omega
/-- byte j of the tail is turned -/
theorem crash_turn {w : World} {lo b n c g : Nat} {d : Dsk} (h : At w lo b (.slice (some ⟨g, 0, none⟩) n c) d) {k j : Nat} (y : UInt8) (hk : d.s + k ≤ d.b.length) (_hj : j < k) :
    PostC w lo b (.slice (some ⟨g, 0, none⟩) n c) ⟨(turn d.b (d.s + j) y).take (d.s + k), d.s⟩ ((w.setCell ⟨g, d.s + j, none⟩ (.int .u8 ((d.b.getD (d.s + j) 0 ^^^ y).toNat : Int))).setCell ⟨b, 0, none⟩ (.slice (some ⟨g, 0, none⟩) (d.s + k) c)) := by
  have hst := h.own.stored (i := d.s + j) (d.b.getD (d.s + j) 0 ^^^ y)
  have hgb : g ≠ b := fun e => own_ne h.own h.blk (by decide) (by rw [e]; rfl)
  have hbk := h.blk.far (p := ⟨g, d.s + j, none⟩) (fun e => hgb e.symm) (.int .u8 ((d.b.getD (d.s + j) 0 ^^^ y).toNat : Int))
  have hch : Chg (Foot b (.slice (some ⟨g, 0, none⟩) n c)) w (w.setCell ⟨g, d.s + j, none⟩ (.int .u8 ((d.b.getD (d.s + j) 0 ^^^ y).toNat : Int))) := (Chg.refl _ w).setCell (p := ⟨g, d.s + j, none⟩) (fun _ => .inr rfl) _
  have h' : At (w.setCell ⟨g, d.s + j, none⟩ (.int .u8 ((d.b.getD (d.s + j) 0 ^^^ y).toNat : Int))) lo b (.slice (some ⟨g, 0, none⟩) n c) ⟨turn d.b (d.s + j) y, d.s⟩ :=
    ⟨⟨by simp only [turn_length]; exact h.ok.1, by simp only [turn_length]; exact h.ok.2⟩, hbk, hst, h.low⟩
  obtain ⟨v', e1, e2, e3⟩ := crash_plain h' (k := k) (by simp only [turn_length]; exact hk)
  exact ⟨v', e1, e2, hch.trans e3 fun _ _ => id⟩
theorem crash_nil {d : Dsk} {keep at_ : Int} {y : UInt8} {k : Nat} (hk : keepN d keep = k) (h : at_ < 0 ∨ (k : Int) ≤ at_) : crashF d keep at_ y = ⟨d.b.take (d.s + k), d.s⟩ := by
  unfold crashF crashB
  rw [hk, if_neg (by omega)]
theorem crash_some {d : Dsk} {keep : Int} {y : UInt8} {k j : Nat} (hk : keepN d keep = k) (h : j < k) : crashF d keep (j : Int) y = ⟨(turn d.b (d.s + j) y).take (d.s + k), d.s⟩ := by
  unfold crashF crashB
  rw [hk, if_pos (by omega), Int.toNat_natCast]

set_option maxHeartbeats 2000000 in
theorem crash (w : World) (lo b : Nat) (v : Value) (d : Dsk) (h : At w lo b v d) (keep at_ : Int) (y : UInt8) (ha : -9223372036854775808 ≤ at_) (hA : at_ ≤ 9223372036854775807) :
    Calls Try.prog 22 #[ptr b, .int .i64 keep, .int .i64 at_, .int .u8 (y.toNat : Int)] w fun e w' => e = .returned (.tuple #[]) ∧ PostC w lo b v (crashF d keep at_ y) w' := by
  have hc : w.cell? ⟨b, 0, none⟩ = some v := h.blk.cell 0
  have hc1 : w.cell? ⟨b, 1, none⟩ = some (.int .i64 (d.s : Int)) := h.blk.cell 1
  have hf := h.blk.frozen 0
  have hs := h.ok.1
  have hle := h.ok.2
  obtain ⟨A, c, rfl, hlc, hcm, _⟩ := h.own.form
  have hcm' : c ≤ 9223372036854775807 := hcm
  obtain ⟨T, hT⟩ : ∃ T, d.b.length - d.s = T := ⟨_, rfl⟩
  have hwT : IntKind.i64.wrap ((d.b.length : Int) - (d.s : Int)) = (T : Int) := (IntWalk.i64_in _ (by omega)).trans (by omega)
  have hsl : ∀ k, d.s + k ≤ c → ∀ W, (Instr.sliceAt 36 (.slice A d.b.length c) none (some (.int .i64 ((d.s : Int) + (k : Int)))) none).run Try.prog W = .ok (.slice A (d.s + k) c) W := fun k hk W => by
    have := slice_u8_to A d.b.length c (d.s + k) hk W
    rwa [Int.natCast_add] at this
  by_cases h0 : keep < 0
  · have hk : keepN d keep = 0 := by unfold keepN; omega
    have hsl0 : ∀ W, (Instr.sliceAt 36 (.slice A d.b.length c) none (some (.int .i64 (d.s : Int))) none).run Try.prog W = .ok (.slice A d.s c) W := fun W => slice_u8_to A d.b.length c d.s (by omega) W
    have hTn : ¬ (T : Int) < 0 := by omega
    have hw0 : IntKind.i64.wrap (d.s : Int) = (d.s : Int) := IntWalk.i64_in _ (by omega)
    have hP := crash_plain h (k := 0) (by omega)
    have hcr := crash_nil (d := d) (y := y) (at_ := at_) hk (by omega)
    rw [Nat.add_zero] at hP hcr
    rw [hcr]
    have HP := Lib.hid hP.drew.drew
    clear h hsl hT hk hP hcr
    by_cases h1 : at_ < 0
    · go_enter Try.func22, Try.ntmps22
      go_wp2
      refine wp_region_quiet1 (by kernel_rfl) (by kernel_rfl) ?_
      repeat still_step
      refine wpStill_nil ?_
      go_wp2
      refine wp_region_tail 12 (by kernel_rfl) (by kernel_rfl) ?_
      simp only [List.take_succ_cons, List.take_zero, List.drop_succ_cons, List.drop_zero]
      repeat still_step
      refine wpStill_nil ?_
      go_wp2
      go_end0
      exact ⟨rfl, HP.out⟩
    · go_enter Try.func22, Try.ntmps22
      go_wp2
      refine wp_region_quiet1 (by kernel_rfl) (by kernel_rfl) ?_
      repeat still_step
      refine wpStill_nil ?_
      go_wp2
      refine wp_region_tail 12 (by kernel_rfl) (by kernel_rfl) ?_
      simp only [List.take_succ_cons, List.take_zero, List.drop_succ_cons, List.drop_zero]
      repeat still_step
      refine wpStill_nil ?_
      go_wp2
      go_end0
      exact ⟨rfl, HP.out⟩
  · obtain ⟨k, hk, hkT, hcase⟩ : ∃ k : Nat, keepN d keep = k ∧ k ≤ T ∧ ((keep ≤ T ∧ keep = k) ∨ ((T : Int) < keep ∧ T = k)) := by
      by_cases h1 : keep ≤ T
      · exact ⟨keep.toNat, by unfold keepN; omega, by omega, .inl ⟨h1, by omega⟩⟩
      · exact ⟨T, by unfold keepN; omega, by omega, .inr ⟨by omega, rfl⟩⟩
    have hTn : ¬ (T : Int) < 0 := by omega
    have hslk := hsl k (by omega)
    have hw2 : IntKind.i64.wrap ((d.s : Int) + (k : Int)) = (d.s : Int) + (k : Int) := IntWalk.i64_in _ (by omega)
    have hkk : d.s + k ≤ d.b.length := by omega
    clear hsl
    by_cases h1 : at_ < 0
    · rw [crash_nil hk (.inl h1)]
      have HP := Lib.hid (crash_plain h hkk).drew.drew
      clear h hk hT
      rcases hcase with ⟨hck, rfl⟩ | ⟨hck, rfl⟩
      · go_enter Try.func22, Try.ntmps22
        go_wp2
        refine wp_region_quiet1 (by kernel_rfl) (by kernel_rfl) ?_
        repeat still_step
        refine wpStill_nil ?_
        go_wp2
        refine wp_region_tail 12 (by kernel_rfl) (by kernel_rfl) ?_
        simp only [List.take_succ_cons, List.take_zero, List.drop_succ_cons, List.drop_zero]
        repeat still_step
        refine wpStill_nil ?_
        go_wp2
        go_end0
        exact ⟨rfl, HP.out⟩
      · go_enter Try.func22, Try.ntmps22
        go_wp2
        refine wp_region_quiet1 (by kernel_rfl) (by kernel_rfl) ?_
        repeat still_step
        refine wpStill_nil ?_
        go_wp2
        refine wp_region_tail 12 (by kernel_rfl) (by kernel_rfl) ?_
        simp only [List.take_succ_cons, List.take_zero, List.drop_succ_cons, List.drop_zero]
        repeat still_step
        refine wpStill_nil ?_
        go_wp2
        go_end0
        exact ⟨rfl, HP.out⟩
    by_cases h2 : (k : Int) ≤ at_
    · rw [crash_nil hk (.inr h2)]
      have HP := Lib.hid (crash_plain h hkk).drew.drew
      clear h hk hT
      rcases hcase with ⟨hck, rfl⟩ | ⟨hck, rfl⟩
      · go_enter Try.func22, Try.ntmps22
        go_wp2
        refine wp_region_quiet1 (by kernel_rfl) (by kernel_rfl) ?_
        repeat still_step
        refine wpStill_nil ?_
        go_wp2
        refine wp_region_tail 12 (by kernel_rfl) (by kernel_rfl) ?_
        simp only [List.take_succ_cons, List.take_zero, List.drop_succ_cons, List.drop_zero]
        repeat still_step
        refine wpStill_nil ?_
        go_wp2
        go_end0
        exact ⟨rfl, HP.out⟩
      · go_enter Try.func22, Try.ntmps22
        go_wp2
        refine wp_region_quiet1 (by kernel_rfl) (by kernel_rfl) ?_
        repeat still_step
        refine wpStill_nil ?_
        go_wp2
        refine wp_region_tail 12 (by kernel_rfl) (by kernel_rfl) ?_
        simp only [List.take_succ_cons, List.take_zero, List.drop_succ_cons, List.drop_zero]
        repeat still_step
        refine wpStill_nil ?_
        go_wp2
        go_end0
        exact ⟨rfl, HP.out⟩
    obtain ⟨j, rfl⟩ := Int.eq_ofNat_of_zero_le (show 0 ≤ at_ by omega)
    · have hj : j < k := by omega
      rw [crash_some hk hj]
      obtain ⟨g, c2, hA2, _, _⟩ := World.ownsRow.form h.own (by omega)
      injection hA2 with hA2 _ hc2
      subst hA2
      subst hc2
      have hcell := World.ownsRow.cellAt h.own (d.s + j) (by omega)
      rw [u8s_get, List.getElem?_eq_getElem (by omega)] at hcell
      have hfr := World.ownsRow.frozenAt h.own (d.s + j)
      have hx : d.b.getD (d.s + j) 0 = d.b[d.s + j] := by simp [List.getD_eq_getElem?_getD, show d.s + j < d.b.length by omega]
      have hgb : g ≠ b := fun e => own_ne h.own h.blk (by decide) (by rw [e]; rfl)
      have hP := (crash_turn h y hkk hj).drew.drew.drew
      have hbf := h.blk.far (p := ⟨g, d.s + j, none⟩) (fun e => hgb e.symm) (.int .u8 ((d.b[d.s + j] ^^^ y).toNat : Int))
      have hS0 := hbf.cell 0
      have hS1 := hbf.cell 1
      have hSf := hbf.frozen 0
      simp only [List.getElem?_toArray, List.getElem?_cons_zero, List.getElem?_cons_succ] at hS0 hS1
      rw [hx] at hP
      have HP := Lib.hid hP
      have hxor := xor_u8 d.b[d.s + j] y
      have hw3 : IntKind.i64.wrap ((d.s : Int) + (j : Int)) = (d.s : Int) + (j : Int) := IntWalk.i64_in _ (by omega)
      have hlt : (d.s : Int) + (j : Int) < d.b.length := by omega
      have hgt : 0 ≤ (d.s : Int) + (j : Int) := by omega
      have htn : ((d.s : Int) + (j : Int)).toNat = d.s + j := by omega
      have HH := Lib.hid hj
      clear hx hP h hk hj hT hbf
      generalize d.b[d.s + j] = x at *
      rcases hcase with ⟨hck, rfl⟩ | ⟨hck, rfl⟩
      · go_enter Try.func22, Try.ntmps22
        go_wp2
        refine wp_region_quiet1 (by kernel_rfl) (by kernel_rfl) ?_
        repeat still_step
        refine wpStill_nil ?_
        go_wp2
        refine wp_region_tail 15 (by kernel_rfl) (by kernel_rfl) ?_
        simp only [List.take_succ_cons, List.take_zero, List.drop_succ_cons, List.drop_zero]
        repeat still_step
        refine wpStill_nil ?_
        go_wp2
        refine wp_region_tail 12 (by kernel_rfl) (by kernel_rfl) ?_
        simp only [List.take_succ_cons, List.take_zero, List.drop_succ_cons, List.drop_zero]
        repeat still_step
        refine wpStill_nil ?_
        go_wp2
        go_end0
        exact ⟨rfl, HP.out⟩
      · go_enter Try.func22, Try.ntmps22
        go_wp2
        refine wp_region_quiet1 (by kernel_rfl) (by kernel_rfl) ?_
        repeat still_step
        refine wpStill_nil ?_
        go_wp2
        refine wp_region_tail 15 (by kernel_rfl) (by kernel_rfl) ?_
        simp only [List.take_succ_cons, List.take_zero, List.drop_succ_cons, List.drop_zero]
        repeat still_step
        refine wpStill_nil ?_
        go_wp2
        refine wp_region_tail 12 (by kernel_rfl) (by kernel_rfl) ?_
        simp only [List.take_succ_cons, List.take_zero, List.drop_succ_cons, List.drop_zero]
        repeat still_step
        refine wpStill_nil ?_
        go_wp2
        go_end0
        exact ⟨rfl, HP.out⟩
end Disk
end Go.Proofs.Ythgpphedpegbgaa

/-
  What the program's disk package computes: each call's answer and what it leaves, for a disk whose bytes are known (no condition beyond the disk's own bounds).
-/
import Derived.Test.YthgpphedpegbgaaClone
import Derived.Test.YthgpphedpegbgaaDiskPlain
namespace Go.Proofs.Ythgpphedpegbgaa
open Go.ChangeShapes Go.WideShapes Go.RowKit

namespace Disk
abbrev ptr (b : Nat) : Value := .pointer (some ⟨b, 0, none⟩)
/-- the disk d lies at block b, its bytes at v -/
structure At (w : World) (lo b : Nat) (v : Value) (d : Dsk) : Prop where
  ok : d.ok
  blk : Blk w b 54 #[v, .int .i64 (d.s : Int)]
  own : OwnB w lo v d.b
  low : lo ≤ b
theorem At.chg {w w' : World} {lo b : Nat} {v : Value} {d : Dsk} {S : Nat → Prop} (h : At w lo b v d) (hc : Chg S w w') (h1 : ¬ S b) (h2 : ∀ k, v.ownBlock = some k → ¬ S k) : At w' lo b v d :=
  ⟨h.ok, h.blk.chg hc h1, own_chg h.own hc h2, h.low⟩
theorem At.new {w w' : World} {lo b : Nat} {v : Value} {d : Dsk} (h : At w lo b v d) (hc : New w w') : At w' lo b v d := h.chg hc id fun _ _ => id
theorem At.drew {w : World} {lo b : Nat} {v : Value} {d : Dsk} (h : At w lo b v d) : At w.drew lo b v d := ⟨h.ok, h.blk, h.own, h.low⟩
theorem At.drewN {w : World} {lo b : Nat} {v : Value} {d : Dsk} (h : At w lo b v d) (n : Nat) : At (w.drewN n) lo b v d := ⟨h.ok, h.blk, h.own, h.low⟩
/-- what a call on the disk may have changed -/
abbrev Foot (b : Nat) (v : Value) : Nat → Prop := fun k => k = b ∨ v.ownBlock = some k
/-- a call's end: the disk is d' -/
def Post (w : World) (lo b : Nat) (v : Value) (d' : Dsk) (w' : World) : Prop :=
  ∃ v', At w' lo b v' d' ∧ Chg (Foot b v) w w' ∧ ∀ k, v'.ownBlock = some k → v.ownBlock = some k ∨ w.heap.size ≤ k

set_option maxHeartbeats 400000 in
theorem new_ (w : World) : Calls Try.prog 18 #[] w fun e w' => e = .returned (ptr w.heap.size) ∧ At w' w.heap.size w.heap.size (.slice none 0 0) fresh ∧ New w w' := by
  have hz : ∀ W : World, (zeroValue 54).run Try.prog W = .ok (.agg #[.slice none 0 0, .int .i64 0]) W := fun W => by kernel_rfl
  go_enter Try.func18, Try.ntmps18
  go_wp2
  go_ret
  exact ⟨rfl, ⟨fresh_ok, Blk.new w _ _, OwnB.nil, Nat.le_refl _⟩, (Chg.refl _ _).alloc _⟩

theorem write_nil (w : World) (v : Value) : Calls Try.prog 20 #[.pointer none, v] w fun e w' => e = .returned (.int .i64 1) ∧ w = w' := by
  go_enter Try.func20, Try.ntmps20
  go_wp2
  go_ret
  exact ⟨rfl, rfl⟩
theorem bytes_nil (w : World) : Calls Try.prog 15 #[.pointer none] w fun e w' => e = .returned (.slice none 0 0) ∧ w = w' := by
  go_enter Try.func15, Try.ntmps15
  go_wp2
  go_ret
  exact ⟨rfl, rfl⟩
theorem synced_nil (w : World) : Calls Try.prog 21 #[.pointer none] w fun e w' => e = .returned (.int .i64 0) ∧ w = w' := by
  go_enter Try.func21, Try.ntmps21
  go_wp2
  go_ret
  exact ⟨rfl, rfl⟩
theorem twin_nil (w : World) : Calls Try.prog 25 #[.pointer none] w fun e w' => e = .returned (.pointer none) ∧ w = w' := by
  go_enter Try.func25, Try.ntmps25
  go_wp2
  go_ret
  exact ⟨rfl, rfl⟩

theorem synced (w : World) (lo b : Nat) (v : Value) (d : Dsk) (h : At w lo b v d) : Calls Try.prog 21 #[ptr b] w fun e w' => e = .returned (.int .i64 (d.s : Int)) ∧ w = w' := by
  have hc : w.cell? ⟨b, 1, none⟩ = some (.int .i64 (d.s : Int)) := h.blk.cell 1
  clear h
  go_enter Try.func21, Try.ntmps21
  go_wp2
  go_ret
  exact ⟨rfl, rfl⟩
theorem bytes (w : World) (lo b : Nat) (v : Value) (d : Dsk) (h : At w lo b v d) : Calls Try.prog 15 #[ptr b] w fun e w' => ∃ u, e = .returned u ∧ OwnB w' w.heap.size u d.b ∧ New w w' := by
  have hc : w.cell? ⟨b, 0, none⟩ = some v := h.blk.cell 0
  have hle := h.ok.2
  obtain ⟨A, c, rfl, hlc, hcm, _, hr⟩ := h.own.form
  have HR := Lib.hid hr
  clear h hr hlc hcm
  go_enter Try.func15, Try.ntmps15
  go_wp2_with fail
  refine (bytes_clone w A _ c d.b _ HR.out (by omega)).mono ?_
  rintro e w1 ⟨u, rfl, ho, hn⟩
  go_wp2
  go_ret
  exact ⟨_, rfl, ho, hn⟩
set_option maxHeartbeats 800000 in
theorem write (w : World) (lo b : Nat) (v : Value) (d : Dsk) (h : At w lo b v d) (A : Option Addr) (n c : Nat) (xs : List UInt8) (F : Nat → Prop) (hr : Reads w F 1 A n (u8s xs)) (hn : n ≤ 140737488355328) :
    Calls Try.prog 20 #[ptr b, .slice A n c] w fun e w' => e = .returned (.int .i64 (writeE d n)) ∧ Post w lo b v (writeF d xs) w' := by
  have hc : w.cell? ⟨b, 0, none⟩ = some v := h.blk.cell 0
  have hf := h.blk.frozen 0
  have hle := h.ok.2
  have hlen := hr.u8len
  have hlt := h.blk.lt
  obtain ⟨A', c', hv, _⟩ := h.own.form
  have hbne := own_ne h.own h.blk (by decide)
  have hlo := h.low
  subst hv
  by_cases hbig : 1048576 < (d.b.length : Int) + n
  · have hE : writeE d n = 6 := by unfold writeE; rw [if_pos (by omega)]
    have hF : writeF d xs = d := by unfold writeF; rw [if_pos (by omega)]
    rw [hE, hF]
    have H := Lib.hid h
    clear h hr hE hF hlen hbne
    go_enter Try.func20, Try.ntmps20
    go_wp2
    go_ret
    exact ⟨rfl, _, H.out, Chg.refl _ _, fun k hk => .inl hk⟩
  · have hE : writeE d n = 0 := by unfold writeE; rw [if_neg (by omega)]
    have hF : writeF d xs = ⟨d.b ++ xs, d.s⟩ := by unfold writeF; rw [if_neg (by omega)]
    have hok := write_ok h.ok xs
    rw [hE, hF] at *
    have H := Lib.hid h
    have HR := Lib.hid hr
    have HK := Lib.hid hok
    have HL := Lib.hid hlen
    clear h hr hE hF hok hlen
    go_enter Try.func20, Try.ntmps20
    go_wp2_with (at_builtin; refine stop ?_)
    delta Stop
    refine append_u8 _ rfl _ _ rfl lo _ d.b rfl H.out.own F A n c xs rfl HR.out (by omega) (by omega) ?_
    intro v' w1 ho hg hat
    obtain ⟨A2, c2, hv', _⟩ := ho.form
    generalize (d.b ++ xs).length = m2 at hv'
    subst hv'
    have hb1 := H.out.blk.grown hg (fun e => hbne e.symm)
    have hf1 := hb1.frozen 0
    have hc1 := hb1.cell 0
    have hb2 := hb1.set_ 0 (.slice A2 m2 c2)
    have ho2 := own_chg ho ((Chg.refl (fun k => k = b) w1).setCell (p := ⟨b, 0, none⟩) (fun _ => rfl) (.slice A2 m2 c2)) (fun k hk e => own_ne ho hb1 (by decide) (e ▸ hk))
    have hch : Chg (Foot b (.slice A' d.b.length c')) w (w1.setCell ⟨b, 0, none⟩ (.slice A2 m2 c2)) := ((Chg.refl _ w).grown hg (fun g e _ => .inr e)).setCell (fun _ => .inl rfl) (.slice A2 m2 c2)
    have HP := Lib.hid (show Post w lo b (.slice A' d.b.length c') ⟨d.b ++ xs, d.s⟩ (w1.setCell ⟨b, 0, none⟩ (.slice A2 m2 c2)) from ⟨.slice A2 m2 c2, ⟨HK.out, hb2, ho2, hlo⟩, hch, fun k hk => by
      rcases hat with e | e
      · exact .inl (e ▸ hk)
      · rw [e] at hk
        injection hk with hk
        exact .inr (by omega)⟩)
    clear hb1 hb2 ho ho2 hch hg hat hlo
    go_wp2
    go_ret
    exact ⟨rfl, HP.out⟩

set_option maxHeartbeats 400000 in
theorem sync0 (w : World) (lo b : Nat) (v : Value) (l : List UInt8) (s : Int) (hb : Blk w b 54 #[v, .int .i64 s]) (ho : OwnB w lo v l) (hl : l.length ≤ 1048576) (hlo : lo ≤ b) :
    Calls Try.prog 24 #[ptr b] w fun e w' => e = .returned (.tuple #[]) ∧ At w' lo b v ⟨l, l.length⟩ ∧ Upd b w w' := by
  have hc : w.cell? ⟨b, 0, none⟩ = some v := hb.cell 0
  have hc1 : w.cell? ⟨b, 1, none⟩ = some (.int .i64 s) := hb.cell 1
  have hf := hb.frozen 1
  obtain ⟨A, c, rfl, _⟩ := ho.form
  have hb2 := hb.set_ 1 (.int .i64 (l.length : Int))
  have hu : Upd b w (w.setCell ⟨b, 1, none⟩ (.int .i64 (l.length : Int))) := (Chg.refl (fun k => k = b) w).setCell (p := ⟨b, 1, none⟩) (fun _ => rfl) _
  have ho2 := own_chg ho hu (fun k hk e => own_ne ho hb (by decide) (e ▸ hk))
  have HP := Lib.hid (And.intro (At.mk (d := ⟨l, l.length⟩) ⟨Nat.le_refl _, hl⟩ hb2 ho2 hlo) hu)
  clear hb ho hb2 hu ho2
  go_enter Try.func24, Try.ntmps24
  go_wp2
  go_end0
  exact ⟨rfl, HP.out⟩
theorem sync (w : World) (lo b : Nat) (v : Value) (d : Dsk) (h : At w lo b v d) :
    Calls Try.prog 24 #[ptr b] w fun e w' => e = .returned (.tuple #[]) ∧ At w' lo b v (syncF d) ∧ Upd b w w' := sync0 w lo b v d.b _ h.blk h.own h.ok.2 h.low

set_option maxHeartbeats 800000 in
theorem reset (w : World) (lo b : Nat) (v : Value) (d : Dsk) (h : At w lo b v d) (A : Option Addr) (n c : Nat) (xs : List UInt8) (F : Nat → Prop) (hr : Reads w F 1 A n (u8s xs)) (hn : n ≤ 140737488355328) :
    Calls Try.prog 19 #[ptr b, .slice A n c] w fun e w' => e = .returned (.int .i64 (resetE n)) ∧ Post w lo b v (resetF d xs) w' := by
  have hlen := hr.u8len
  have hlt := h.blk.lt
  have hlo := h.low
  by_cases hbig : 1048576 < (n : Int)
  · have hE : resetE n = 6 := by unfold resetE; rw [if_pos (by omega)]
    have hF : resetF d xs = d := by unfold resetF; rw [if_pos (by omega)]
    rw [hE, hF]
    have H := Lib.hid h
    clear h hr hE hF hlen
    go_enter Try.func19, Try.ntmps19
    go_wp2
    go_ret
    exact ⟨rfl, _, H.out, Chg.refl _ _, fun k hk => .inl hk⟩
  · have hE : resetE n = 0 := by unfold resetE; rw [if_neg (by omega)]
    have hF : resetF d xs = ⟨xs, xs.length⟩ := by unfold resetF; rw [if_neg (by omega)]
    rw [hE, hF]
    have H := Lib.hid h
    have HR := Lib.hid hr
    have HL := Lib.hid hlen
    clear h hr hE hF hlen
    go_enter Try.func19, Try.ntmps19
    go_wp2_with fail
    refine (bytes_clone w A n c xs F HR.out (by omega)).mono ?_
    rintro e w1 ⟨u, rfl, ho, hn1⟩
    obtain ⟨A2, c2, hv', _⟩ := ho.form
    have hu := fun k (hk : u.ownBlock = some k) => (own_lt ho hk).1
    rw [HL.out] at hv'
    subst hv'
    have hb1 := H.out.blk.chg hn1 id
    have hf1 := hb1.frozen 0
    have hc1 := hb1.cell 0
    have hc2 := hb1.cell 1
    have hb2 := hb1.set_ 0 (.slice A2 n c2)
    have ho2 := own_chg ho ((Chg.refl (fun k => k = b) w1).setCell (p := ⟨b, 0, none⟩) (fun _ => rfl) (.slice A2 n c2)) (fun k hk e => own_ne ho hb1 (by decide) (e ▸ hk))
    have hch : Upd b w (w1.setCell ⟨b, 0, none⟩ (.slice A2 n c2)) := (hn1.mono (S' := fun k => k = b) fun _ _ => False.elim).setCell (p := ⟨b, 0, none⟩) (fun _ => rfl) _
    have C := Lib.hid (sync0 _ lo b _ xs _ hb2 (own_mono ho2 (by omega)) (by rw [HL.out]; omega) hlo)
    have HC := Lib.hid hch
    clear hb1 hb2 ho ho2 hch
    go_wp2_with fail
    refine C.out.mono ?_
    rintro e w2 ⟨rfl, ha, hu2⟩
    go_wp2
    go_ret
    exact ⟨rfl, _, ha, HC.out.trans hu2 (fun _ _ => id) |>.mono fun _ _ => .inl, fun k hk => .inr (hu k hk)⟩

theorem xor_u8 (x y : UInt8) : bits .xor .u8 (x.toNat : Int) (y.toNat : Int) = ((x ^^^ y).toNat : Int) := by
  rw [u8_xor_nat x.toNat y.toNat (UInt8.toNat_lt x) (UInt8.toNat_lt y), u8_xor]
set_option maxHeartbeats 800000 in
theorem spoil (w : World) (lo b : Nat) (v : Value) (d : Dsk) (h : At w lo b v d) (at_ : Int) (y : UInt8) (ha : -9223372036854775808 ≤ at_) (hA : at_ ≤ 9223372036854775807) :
    Calls Try.prog 10 #[ptr b, .int .i64 at_, .int .u8 (y.toNat : Int)] w fun e w' => e = .returned (.tuple #[]) ∧ At w' lo b v (spoilF d at_ y) ∧ Chg (Foot b v) w w' := by
  have hc : w.cell? ⟨b, 0, none⟩ = some v := h.blk.cell 0
  by_cases h0 : at_ < 0
  · rw [show spoilF d at_ y = d by unfold spoilF; rw [if_neg (by omega)]]
    obtain ⟨A, c, rfl, _⟩ := h.own.form
    have H := Lib.hid h
    clear h
    go_enter Try.func10, Try.ntmps10
    go_wp2
    go_end0
    exact ⟨rfl, H.out, Chg.refl _ _⟩
  · obtain ⟨i, rfl⟩ := Int.eq_ofNat_of_zero_le (show 0 ≤ at_ by omega)
    by_cases h1 : (i : Int) < d.b.length
    · have hi : i < d.b.length := by omega
      obtain ⟨g, c, rfl, _, _⟩ := World.ownsRow.form h.own (by omega)
      obtain ⟨_, hF, hok⟩ : True ∧ spoilF d (i : Int) y = ⟨turn d.b i y, d.s⟩ ∧ (spoilF d (i : Int) y).ok := ⟨trivial, by unfold spoilF; rw [if_pos ⟨by omega, h1⟩, Int.toNat_natCast], spoil_ok h.ok _ _⟩
      rw [hF] at hok ⊢
      have hcell := World.ownsRow.cellAt h.own i (by omega)
      rw [u8s_get, List.getElem?_eq_getElem hi] at hcell
      have hfr := World.ownsRow.frozenAt h.own i
      have hx : d.b.getD i 0 = d.b[i] := by simp [List.getD_eq_getElem?_getD, hi]
      have hst := h.own.stored (i := i) (d.b[i] ^^^ y)
      rw [← hx] at hst
      change OwnB _ _ _ (turn d.b i y) at hst
      have hg := h.own.lt g rfl
      have hgb : g ≠ b := fun e => own_ne h.own h.blk (by decide) (by rw [e]; rfl)
      have hbk := h.blk.far (p := ⟨g, i, none⟩) (fun e => hgb e.symm) (.int .u8 ((d.b[i] ^^^ y).toNat : Int))
      have hch : Chg (Foot b (.slice (some ⟨g, 0, none⟩) d.b.length c)) w (w.setCell ⟨g, i, none⟩ (.int .u8 ((d.b[i] ^^^ y).toNat : Int))) := (Chg.refl _ w).setCell (fun _ => .inr rfl) _
      rw [hx] at hst
      have HP := Lib.hid (And.intro (At.mk (d := ⟨turn d.b i y, d.s⟩) hok hbk hst h.low) hch)
      have hxor := xor_u8 d.b[i] y
      clear h hst hbk hch hok hx hF hg
      generalize d.b[i] = x at *
      generalize d.b.length = n at *
      go_enter Try.func10, Try.ntmps10
      go_wp2
      go_end0
      exact ⟨rfl, HP.out⟩
    · rw [show spoilF d (i : Int) y = d by unfold spoilF; rw [if_neg (by omega)]]
      obtain ⟨A, c, rfl, _⟩ := h.own.form
      have H := Lib.hid h
      clear h
      go_enter Try.func10, Try.ntmps10
      go_wp2
      go_end0
      exact ⟨rfl, H.out, Chg.refl _ _⟩
end Disk
end Go.Proofs.Ythgpphedpegbgaa

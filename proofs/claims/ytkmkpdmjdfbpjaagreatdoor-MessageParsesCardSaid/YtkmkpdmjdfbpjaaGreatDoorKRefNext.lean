/-
  The document's reference: the next event read, whether it may be or not (no condition beyond the sizes).
-/
import Derived.Test.YtkmkpdmjdfbpjaaGreatDoorJ17
import Derived.Test.YtkmkpdmjdfbpjaaGreatDoorKRefRd
namespace Go.Proofs.YtkmkpdmjdfbpjaaGreatDoor
set_option linter.unusedSimpArgs false
set_option linter.unusedVariables false
open Go.ChangeShapes Go.WideShapes Go.RowKit Go.Deep
namespace Evt
open Val (elemB rightB JoinC)
open Vec Num
attribute [local go_sem ↓] loadDot loadVec loadRow0 storeRow0 loadOnly0 loadOnly1 loadOnly2
/-- what is read first, and what is left -/
def tk (k : Nat) (s : Rd) : List It × Rd := readAll (shape.take k) s
/-- k of an event's 27 cells in block g are read, with the reference's reader gr; block g2 is as it was made -/
structure RFill (w : World) (F : Nat → Prop) (g g2 gr : Nat) (s : Rd) (k : Nat) (wr : World) : Prop where
  blk : Blk wr g 48 (fillC ((tk k s).1.map cell)).toArray
  rd : RrAt wr F gr (tk k s).2
  chg : Chg (fun b => b = gr) w wr
  lo : w.heap.size ≤ g ∧ w.heap.size ≤ g2 ∧ g ≠ g2 ∧ g ≠ gr ∧ g2 ≠ gr
  res : Blk wr g2 48 zero.cs.toArray
/-- behind a reading and its store -/
theorem RFill.step {w wr w1 : World} {F : Nat → Prop} {g g2 gr k : Nat} {s : Rd} (h : RFill w F g g2 gr s k wr) (hk : k < 27) (x : It) (hx : shape[k]? = some x) (hF : ∀ b, F b → b < w.heap.size)
    (hr : RrAt w1 F gr (x.read (tk k s).2).2) (hc : Chg (fun b => b = gr) wr w1) :
    RFill w F g g2 gr s (k + 1) (w1.setCell ⟨g, k, none⟩ (cell (x.read (tk k s).2).1)) ∧ w1.cell? ⟨g, k, none⟩ = zero.cs[k]? ∧ w1.frozen? ⟨g, k, none⟩ = false ∧ g < w1.heap.size := by
  have hblk := h.blk
  have hrd := h.rd
  have hlo := h.lo
  have hchg := h.chg
  have hres := h.res
  have hl : ((tk k s).1.map cell).length = k := by unfold tk; rw [List.length_map, readAll_len, List.length_take, show shape.length = 27 from rfl]; omega
  have ht : shape.take (k + 1) = shape.take k ++ [x] := by rw [List.take_add_one, hx]; rfl
  have hb := h.blk.chg hc h.lo.2.2.2.1
  have hs := hb.set_ k (cell (x.read (tk k s).2).1)
  have c2 := (Chg.refl (fun b => b = g) w1).setCell (p := ⟨g, k, none⟩) (fun _ => rfl) (cell (x.read (tk k s).2).1)
  refine ⟨⟨?_, ?_, ?_, h.lo, ?_⟩, ?_, hb.frozen k, hb.lt⟩
  · unfold tk
    rw [ht, readAll_snoc]
    simp only [List.map_append, List.map_cons, List.map_nil]
    have hl2 : ((readAll (shape.take k) s).1.map cell).length = k := hl
    rw [← fillC_set _ (by rw [hl2]; exact hk), hl2]
    rw [List.setIfInBounds_toArray] at hs
    exact hs
  · unfold tk
    rw [ht, readAll_snoc]
    exact hr.chg c2 (fun e => h.lo.2.2.2.1 e.symm) fun b hb e => by have := hF b hb; have := h.lo; omega
  · exact (h.chg.trans hc fun _ _ e => e).trans c2 fun i hi e => by have := h.lo; omega
  · exact (h.res.chg hc h.lo.2.2.2.2).chg c2 fun e => h.lo.2.2.1 e.symm
  · rw [hb.cell, List.getElem?_toArray]
    unfold fillC
    rw [List.getElem?_append_right (by rw [hl]; exact Nat.le_refl _), hl, Nat.sub_self, List.getElem?_drop, Nat.add_zero]
theorem RFill.ends {w W : World} {F : Nat → Prop} {g g2 gr : Nat} {s : Rd} (h : RFill w F g g2 gr s 27 W) (hF : ∀ b, F b → b < w.heap.size) :
    (LoadRow 48 ⟨g, 0, none⟩).run Tryz.prog W = .ok (nextP s).1.val W ∧ (StoreRow 48 ⟨g2, 0, none⟩ (nextP s).1.val).run Tryz.prog W = .ok () (W.setCells g2 0 (nextP s).1.cs) ∧
    Blk (W.setCells g2 0 (nextP s).1.cs) g2 48 (nextP s).1.cs.toArray ∧ RrAt (W.setCells g2 0 (nextP s).1.cs) F gr (nextP s).2 ∧ Chg (fun b => b = gr) w (W.setCells g2 0 (nextP s).1.cs) ∧ g < W.heap.size ∧ g2 < W.heap.size := by
  have ht : shape.take 27 = shape := rfl
  have hb : Blk W g 48 (fillC ((readAll (shape.take 27) s).1.map cell)).toArray := h.blk
  have hr : RrAt W F gr (readAll (shape.take 27) s).2 := h.rd
  rw [ht] at hb hr
  have hk : (readAll shape s).1.map kind = kinds := (readAll_kind shape s).trans rfl
  rw [fillC_full (by rw [List.length_map, readAll_len]; rfl), ← cs_evOf hk] at hb
  have hst := stE zero (nextP s).1 h.res
  have c5 := Chg.setCells (nextP s).1.cs 0 W (Chg.refl (fun b => b = g2) W) (fun _ => rfl)
  exact ⟨ldE hb, hst.1, hst.2, hr.chg c5 (fun e => h.lo.2.2.2.2 e.symm) (fun b hb e => by have := hF b hb; have := h.lo; omega), h.chg.trans c5 fun i hi e => by have := h.lo; omega, hb.lt, h.res.lt⟩
theorem rrsigned2 (w : World) (F : Nat → Prop) (g : Nat) (s : Rd) (h : RrAt w F g s) (_ : Unit) : Calls Tryz.prog 61 #[.pointer (some ⟨g, 0, none⟩)] w fun e w' => e = .returned (.int .i64 (signedP s).1) ∧ RrAt w' F g (signedP s).2 ∧ Chg (fun k => k = g) w w' := rrsigned w F g s h
set_option maxHeartbeats 20000000 in
set_option maxRecDepth 20000 in
theorem rnext (w : World) (F : Nat → Prop) (gr : Nat) (s : Rd) (h : RrAt w F gr s) :
    Calls Tryz.prog 35 #[.pointer (some ⟨gr, 0, none⟩)] w fun x w' => x = .returned (nextP s).1.val ∧ RrAt w' F gr (nextP s).2 ∧ Chg (fun b => b = gr) w w' := by
  have hz : ∀ W, (zeroValue 48).run Tryz.prog W = .ok (.agg zero.cs.toArray) W := fun W => by kernel_rfl
  have hgr : gr < w.heap.size := by obtain ⟨A, n, cp, h1, _⟩ := h.ex; exact h1.lt
  have a1 := (Chg.refl (fun _ => False) w).alloc (.cells zero.cs.toArray 48)
  have a2 := a1.alloc (.cells zero.cs.toArray 48)
  have B1 := (Blk.new w 48 zero.cs.toArray).alloc (.cells zero.cs.toArray 48)
  have B2 := Blk.new1 w (.cells zero.cs.toArray 48) 48 zero.cs.toArray
  have HF := Lib.hid (fun b hb => (h.far b hb).1)
  have HS := Lib.hid (show RFill w F (w.heap.size + 1) w.heap.size gr s 0 ((w.alloc (.cells zero.cs.toArray 48)).alloc (.cells zero.cs.toArray 48)) from ⟨B2, h.new a2, a2.mono (fun _ _ => False.elim), ⟨by omega, by omega, by omega, by omega, by omega⟩, B1⟩)
  obtain ⟨g2, hg⟩ : ∃ g, w.heap.size = g := ⟨_, rfl⟩
  obtain ⟨g, hg1⟩ : ∃ k, g2 + 1 = k := ⟨_, rfl⟩
  clear a1 a2 B1 B2 h
  go_enter Tryz.func35, Tryz.ntmps35
  go_upto_region 2 with fail
  generalize hw1 : (w.alloc (.cells zero.cs.toArray 48)).alloc (.cells zero.cs.toArray 48) = w1 at *
  rw [hg, hg1] at HS
  try rw [hg]
  try rw [hg1]
  clear hw1 hg hg1
  have C := Lib.hid (rnum _ F gr _ HS.out.rd 4611686018427387903)
  go_wp2_with fail
  with_reducible refine C.out.mono ?_
  rintro x w1 ⟨rfl, hr1, hc1⟩
  obtain ⟨hf2, hcell, hfro, hlt1⟩ := HS.out.step (by omega) (.n 0) rfl HF.out hr1 hc1
  have hcell : w1.cell? ⟨g, 0, none⟩ = some (.int .i64 0) := hcell
  have HS := Lib.hid (show RFill w F g g2 gr s (0 + 1) (w1.setCell ⟨g, 0, none⟩ (.int .i64 (numP 4611686018427387903 (tk 0 s).2).1)) from hf2)
  clear hf2 hr1 hc1 C
  have C := Lib.hid (rnum _ F gr _ HS.out.rd 4611686018427387903)
  go_wp2_with fail
  with_reducible refine C.out.mono ?_
  rintro x w1 ⟨rfl, hr1, hc1⟩
  obtain ⟨hf2, hcell, hfro, hlt1⟩ := HS.out.step (by omega) (.n 0) rfl HF.out hr1 hc1
  have hcell : w1.cell? ⟨g, 1, none⟩ = some (.int .i64 0) := hcell
  have HS := Lib.hid (show RFill w F g g2 gr s (1 + 1) (w1.setCell ⟨g, 1, none⟩ (.int .i64 (numP 4611686018427387903 (tk 1 s).2).1)) from hf2)
  clear hf2 hr1 hc1 C
  go_wp2_with fail
  go_loopw [4] (fun iv wr => ∃ i : Nat, i ≤ 16 ∧ iv = .int .i64 i ∧ RFill w F g g2 gr s (2 + i) wr) (fun iv _ => 16 - (intOf iv).toNat)
  case atStart => exact ⟨0, by omega, by go_num, HS.out⟩
  case round =>
    obtain ⟨i, hi, rfl, hfill⟩ := hrel
    by_cases hlt : i < 16
    · have hli : (i : Int) < 16 := by omega
      have hz := zero_int hlt
      have HZ := Lib.hid hz.1
      have C := Lib.hid (rnum wr F gr _ hfill.rd 4611686018427387903)
      have HS := Lib.hid hfill
      have hw : IntKind.i64.wrap ((i : Int) + 1) = (i : Int) + 1 := IntWalk.i64_in _ (by omega)
      have HZ2 := Lib.hid hz.2
      clear hfill hz
      go_wp2_with fail
      with_reducible refine C.out.mono ?_
      rintro x w1 ⟨rfl, hr1, hc1⟩
      obtain ⟨hf2, hcell, hfro, hlt1⟩ := HS.out.step (by omega) (.n 0) HZ2.out HF.out hr1 hc1
      rw [HZ.out] at hcell
      have hcell2 : w1.cell? ⟨g, 2 + i, none⟩ = some (.int .i64 0) := hcell
      have HE := Lib.hid hf2
      clear hf2 hr1 hc1 C
      go_wp2_with fail
      go_roundw
      case rel => exact ⟨i + 1, by omega, by go_num, HE.out⟩
      case measure => simp [intOf]; omega
    · have HS := Lib.hid (show RFill w F g g2 gr s 18 wr from by rw [show i = 16 by omega] at hfill; exact hfill)
      have hgi : ¬ ((i : Int) < 16) := by omega
      clear hfill hi hlt
      generalize wr = w1 at *
      have C := Lib.hid (rnum _ F gr _ HS.out.rd 4611686018427387903)
      go_wp2_with fail
      with_reducible refine C.out.mono ?_
      rintro x w1 ⟨rfl, hr1, hc1⟩
      obtain ⟨hf2, hcell, hfro, hlt1⟩ := HS.out.step (by omega) (.n 0) rfl HF.out hr1 hc1
      have hcell : w1.cell? ⟨g, 18, none⟩ = some (.int .i64 0) := hcell
      have HS := Lib.hid (show RFill w F g g2 gr s (18 + 1) (w1.setCell ⟨g, 18, none⟩ (.int .i64 (numP 4611686018427387903 (tk 18 s).2).1)) from hf2)
      clear hf2 hr1 hc1 C
      have C := Lib.hid (rnum _ F gr _ HS.out.rd 4611686018427387903)
      go_wp2_with fail
      with_reducible refine C.out.mono ?_
      rintro x w1 ⟨rfl, hr1, hc1⟩
      obtain ⟨hf2, hcell, hfro, hlt1⟩ := HS.out.step (by omega) (.n 0) rfl HF.out hr1 hc1
      have hcell : w1.cell? ⟨g, 19, none⟩ = some (.int .i64 0) := hcell
      have HS := Lib.hid (show RFill w F g g2 gr s (19 + 1) (w1.setCell ⟨g, 19, none⟩ (.int .i64 (numP 4611686018427387903 (tk 19 s).2).1)) from hf2)
      clear hf2 hr1 hc1 C
      have C := Lib.hid (rrtext _ F gr _ HS.out.rd 1048576 (by decide))
      go_wp2_with fail
      with_reducible refine C.out.mono ?_
      rintro x w1 ⟨rfl, hr1, hc1⟩
      obtain ⟨hf2, hcell, hfro, hlt1⟩ := HS.out.step (by omega) (.t []) rfl HF.out hr1 hc1
      have hcell : w1.cell? ⟨g, 20, none⟩ = some (.string ⟨#[]⟩) := hcell
      have HS := Lib.hid (show RFill w F g g2 gr s (20 + 1) (w1.setCell ⟨g, 20, none⟩ (.string ⟨(textP 1048576 (tk 20 s).2).1.toArray⟩)) from hf2)
      clear hf2 hr1 hc1 C
      have C := Lib.hid (rrtext _ F gr _ HS.out.rd 1048576 (by decide))
      go_wp2_with fail
      with_reducible refine C.out.mono ?_
      rintro x w1 ⟨rfl, hr1, hc1⟩
      obtain ⟨hf2, hcell, hfro, hlt1⟩ := HS.out.step (by omega) (.t []) rfl HF.out hr1 hc1
      have hcell : w1.cell? ⟨g, 21, none⟩ = some (.string ⟨#[]⟩) := hcell
      have HS := Lib.hid (show RFill w F g g2 gr s (21 + 1) (w1.setCell ⟨g, 21, none⟩ (.string ⟨(textP 1048576 (tk 21 s).2).1.toArray⟩)) from hf2)
      clear hf2 hr1 hc1 C
      have C := Lib.hid (rrtext _ F gr _ HS.out.rd 1048576 (by decide))
      go_wp2_with fail
      with_reducible refine C.out.mono ?_
      rintro x w1 ⟨rfl, hr1, hc1⟩
      obtain ⟨hf2, hcell, hfro, hlt1⟩ := HS.out.step (by omega) (.t []) rfl HF.out hr1 hc1
      have hcell : w1.cell? ⟨g, 22, none⟩ = some (.string ⟨#[]⟩) := hcell
      have HS := Lib.hid (show RFill w F g g2 gr s (22 + 1) (w1.setCell ⟨g, 22, none⟩ (.string ⟨(textP 1048576 (tk 22 s).2).1.toArray⟩)) from hf2)
      clear hf2 hr1 hc1 C
      have C := Lib.hid (rrtext _ F gr _ HS.out.rd 1048576 (by decide))
      go_wp2_with fail
      with_reducible refine C.out.mono ?_
      rintro x w1 ⟨rfl, hr1, hc1⟩
      obtain ⟨hf2, hcell, hfro, hlt1⟩ := HS.out.step (by omega) (.t []) rfl HF.out hr1 hc1
      have hcell : w1.cell? ⟨g, 23, none⟩ = some (.string ⟨#[]⟩) := hcell
      have HS := Lib.hid (show RFill w F g g2 gr s (23 + 1) (w1.setCell ⟨g, 23, none⟩ (.string ⟨(textP 1048576 (tk 23 s).2).1.toArray⟩)) from hf2)
      clear hf2 hr1 hc1 C
      have C := Lib.hid (rnum _ F gr _ HS.out.rd 4611686018427387903)
      go_wp2_with fail
      with_reducible refine C.out.mono ?_
      rintro x w1 ⟨rfl, hr1, hc1⟩
      obtain ⟨hf2, hcell, hfro, hlt1⟩ := HS.out.step (by omega) (.n 0) rfl HF.out hr1 hc1
      have hcell : w1.cell? ⟨g, 24, none⟩ = some (.int .i64 0) := hcell
      have HS := Lib.hid (show RFill w F g g2 gr s (24 + 1) (w1.setCell ⟨g, 24, none⟩ (.int .i64 (numP 4611686018427387903 (tk 24 s).2).1)) from hf2)
      clear hf2 hr1 hc1 C
      have C := Lib.hid (rrsigned2 _ F gr _ HS.out.rd ())
      go_wp2_with fail
      with_reducible refine C.out.mono ?_
      rintro x w1 ⟨rfl, hr1, hc1⟩
      obtain ⟨hf2, hcell, hfro, hlt1⟩ := HS.out.step (by omega) (.z 0) rfl HF.out hr1 hc1
      have hcell : w1.cell? ⟨g, 25, none⟩ = some (.int .i64 0) := hcell
      have HS := Lib.hid (show RFill w F g g2 gr s (25 + 1) (w1.setCell ⟨g, 25, none⟩ (.int .i64 (signedP (tk 25 s).2).1)) from hf2)
      clear hf2 hr1 hc1 C
      have C := Lib.hid (rrtext _ F gr _ HS.out.rd 1048576 (by decide))
      go_wp2_with fail
      with_reducible refine C.out.mono ?_
      rintro x w1 ⟨rfl, hr1, hc1⟩
      obtain ⟨hf2, hcell, hfro, hlt1⟩ := HS.out.step (by omega) (.t []) rfl HF.out hr1 hc1
      have hcell : w1.cell? ⟨g, 26, none⟩ = some (.string ⟨#[]⟩) := hcell
      have HS := Lib.hid (show RFill w F g g2 gr s (26 + 1) (w1.setCell ⟨g, 26, none⟩ (.string ⟨(textP 1048576 (tk 26 s).2).1.toArray⟩)) from hf2)
      clear hf2 hr1 hc1 C
      obtain ⟨hld, hst, hb4, hr4, hc4, hg4, hg5⟩ := HS.out.ends HF.out
      obtain ⟨e4, he4⟩ : ∃ e, (nextP s).1 = e := ⟨_, rfl⟩
      obtain ⟨s4, hs4⟩ : ∃ x, (nextP s).2 = x := ⟨_, rfl⟩
      rw [he4] at hld hst hb4 hr4 hc4
      rw [hs4] at hr4
      have HE := Lib.hid (And.intro hb4 (And.intro hr4 hc4))
      have HT := Lib.hid (And.intro he4 hs4)
      clear hb4 hr4 hc4 he4 hs4
      go_wp2_with fail
      refine bodyPost_ret (resE rfl _ _ g2 48 e4 rfl ?hblk) rfl ?hpost
      case hblk => exact HE.out.1
      case hpost => exact ⟨by rw [HT.out.1], by rw [HT.out.2]; exact HE.out.2.1, HE.out.2.2⟩
end Evt
end Go.Proofs.YtkmkpdmjdfbpjaaGreatDoor

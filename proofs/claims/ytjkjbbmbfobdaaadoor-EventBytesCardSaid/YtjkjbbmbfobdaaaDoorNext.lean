/-
  event.next: the event that a reader tells (no condition beyond the size).
-/
import Derived.Test.YtjkjbbmbfobdaaaDoorEvt
import Derived.Deep.CutBlock
import Derived.Deep.DeepCutAuto
namespace Go.Proofs.YtjkjbbmbfobdaaaDoor
set_option linter.unusedSimpArgs false
set_option linter.unusedVariables false
open Go.ChangeShapes Go.WideShapes Go.RowKit Go.Deep
namespace Evt
open Num
theorem loadRow0 (p : Value) : Instr.loadAt 31 p = LoadRowV 31 p := rfl
theorem storeRow0 (p v : Value) : Instr.storeAt 31 p v = StoreRowV 31 p v := rfl
attribute [local go_sem ↓] loadRow0 storeRow0
theorem zero_int {i : Nat} (h : i < 16) : zero.cs[2 + i]? = some (.int .i64 0) ∧ shape[2 + i]? = some (.n 0) := by
  rcases (show i = 0 ∨ i = 1 ∨ i = 2 ∨ i = 3 ∨ i = 4 ∨ i = 5 ∨ i = 6 ∨ i = 7 ∨ i = 8 ∨ i = 9 ∨ i = 10 ∨ i = 11 ∨ i = 12 ∨ i = 13 ∨ i = 14 ∨ i = 15 by omega) with rfl | rfl | rfl | rfl | rfl | rfl | rfl | rfl | rfl | rfl | rfl | rfl | rfl | rfl | rfl | rfl <;> exact ⟨rfl, rfl⟩
theorem resE {fn : Func} {p : Tmp} (h : fn.results = #[.cell p 31]) (tmps : Array Value) (w : World) (g : Nat) (t : TypeId) (e : Ev)
    (hp : tmps.getD p undef = .pointer (some ⟨g, 0, none⟩)) (hg : Blk w g t e.cs.toArray) : (results fn tmps).run Tryd.prog w = .ok e.val w :=
  results_cell_row h tmps w g t _ (0, 0) _ hp hg Tryd.underlying31 rfl (by kernel_rfl)
theorem stE {w : World} {g : Nat} {t : TypeId} (old e : Ev) (h : Blk w g t old.cs.toArray) : (StoreRow 31 ⟨g, 0, none⟩ e.val).run Tryd.prog w = .ok () (w.setCells g 0 e.cs) ∧ Blk (w.setCells g 0 e.cs) g t e.cs.toArray := by
  refine ⟨run_StoreRow (P := Tryd.prog) (t := 31) (n := 27) (by kernel_rfl) e.cs_len e.cs_one h (by rw [old.cs_len]; exact Nat.le_refl _), ?_⟩
  have := Blk.setCells e.cs 0 _ _ h (by rw [e.cs_len, old.cs_len]; exact Nat.le_refl _)
  have h2 : old.cs.drop (0 + e.cs.length) = [] := rfl
  rw [h2] at this
  simpa using this
theorem ldE {w : World} {g : Nat} {t : TypeId} {e : Ev} (h : Blk w g t e.cs.toArray) : (LoadRow 31 ⟨g, 0, none⟩).run Tryd.prog w = .ok e.val w :=
  run_LoadRow (P := Tryd.prog) (t := 31) Tryd.underlying31 rfl (n := 27) (by kernel_rfl) e.cs_len h.range_all
set_option maxRecDepth 20000 in
theorem Fill.ends {w W : World} {F : Nat → Prop} {g gr : Nat} {s : Rd} (h : Fill w F g gr s 27 W) (hne : g ≠ gr) (hF : ∀ b, F b → b < w.heap.size) :
    (LoadRow 31 ⟨g, 0, none⟩).run Tryd.prog W = .ok (nextP s).1.val W ∧ (StoreRow 31 ⟨g, 0, none⟩ (nextP s).1.val).run Tryd.prog W = .ok () (W.setCells g 0 (nextP s).1.cs) ∧
    Blk (W.setCells g 0 (nextP s).1.cs) g 31 (nextP s).1.cs.toArray ∧ RdAt (W.setCells g 0 (nextP s).1.cs) F gr (nextP s).2 ∧ Chg (fun b => b = gr) w (W.setCells g 0 (nextP s).1.cs) := by
  obtain ⟨hb, hr⟩ := h.full
  have hst := stE (nextP s).1 (nextP s).1 hb
  have c5 := Chg.setCells (nextP s).1.cs 0 W (Chg.refl (fun b => b = g) W) (fun _ => rfl)
  exact ⟨ldE hb, hst.1, hst.2, hr.chg c5 (fun e => hne e.symm) (fun b hb e => by have := hF b hb; have := h.lo; omega), h.chg.trans c5 fun i hi e => by have := h.lo; omega⟩
set_option maxHeartbeats 20000000 in
set_option maxRecDepth 20000 in
theorem next (w : World) (F : Nat → Prop) (gr : Nat) (s : Rd) (h : RdAt w F gr s) :
    Calls Tryd.prog 31 #[.pointer (some ⟨gr, 0, none⟩)] w fun e w' => e = .returned (nextP s).1.val ∧ RdAt w' F gr (nextP s).2 ∧ Chg (fun b => b = gr) w w' := by
  have hz : ∀ W, (zeroValue 31).run Tryd.prog W = .ok (.agg zero.cs.toArray) W := fun W => by kernel_rfl
  have HF := Lib.hid (show ∀ b, F b → b < w.heap.size from fun b hb => (h.far b hb).1)
  have hgr : gr < w.heap.size := by obtain ⟨A, n, cp, h1, _⟩ := h.ex; exact h1.lt
  have hfill : Fill w F w.heap.size gr s 0 (w.alloc (.cells zero.cs.toArray 31)) := by
    have a1 := (Chg.refl (fun _ => False) w).alloc (.cells zero.cs.toArray 31)
    exact ⟨Blk.new _ _ _, h.new a1, a1.mono fun _ _ => False.elim, Nat.le_refl _⟩
  have HFI := Lib.hid hfill
  obtain ⟨g, hg⟩ : ∃ g, w.heap.size = g := ⟨_, rfl⟩
  rw [hg] at HFI
  have HG := Lib.hid hg
  clear h hfill
  go_enter Tryd.func31, Tryd.ntmps31
  go_upto_region 1 with fail
  generalize hw0 : w.alloc (.cells zero.cs.toArray 31) = w0 at *
  have HN := Lib.hid (show g ≠ gr by omega)
  have HA := HFI
  clear HFI hg hw0
  have hB := Blk.new w0 71 #[.pointer (some ⟨g, 0, none⟩), .pointer (some ⟨g, 1, none⟩)]
  have hfa := HA.out.new ((Chg.refl (fun _ => False) w0).alloc (.cells #[.pointer (some ⟨g, 0, none⟩), .pointer (some ⟨g, 1, none⟩)] 71))
  have HQ := Lib.hid (show ¬ (w0.heap.size = gr) ∧ w0.heap.size ≠ g from by have := HA.out.blk.lt; have := HA.out.chg.size; have := HG.out; exact ⟨by omega, by omega⟩)
  have HA := Lib.hid (And.intro hfa hB)
  clear hB hfa
  go_wp2_with fail
  go_loopw [16] (fun iv wr => ∃ i : Nat, i ≤ 2 ∧ iv = .int .i64 i ∧ Fill w F g gr s (0 + i) wr ∧ Blk wr w0.heap.size 71 #[.pointer (some ⟨g, 0, none⟩), .pointer (some ⟨g, 1, none⟩)]) (fun iv _ => 2 - (intOf iv).toNat)
  case atStart => exact ⟨0, by omega, by go_num, HA.out⟩
  case round =>
    obtain ⟨i, hi, rfl, hfill, hB⟩ := hrel
    by_cases hlt : i < 2
    · have hli : (i : Int) < 2 := by omega
      rcases (show i = 0 ∨ i = 1 by omega) with rfl | rfl
      · clear hlt hli hi
        have C := Lib.hid (num wr F gr _ hfill.rd 4611686018427387903)
        have HS := Lib.hid (And.intro hfill hB)
        have hgp := hB.lt
        have hp := hB.cell 0
        simp only [List.getElem?_toArray, List.getElem?_cons_zero, List.getElem?_cons_succ] at hp
        clear hfill hB
        go_wp2_with fail
        with_reducible refine C.out.mono ?_
        rintro e w1 ⟨rfl, hr1, hc1⟩
        obtain ⟨hf2, hcell, hfro, hlt1⟩ := Fill.step HS.out.1 HN.out (by omega) (.n 0) rfl HF.out hr1 hc1
        have hcell : w1.cell? ⟨g, 0, none⟩ = some (.int .i64 0) := hcell
        have hB2 := (HS.out.2.chg hc1 HQ.out.1).far (p := ⟨g, 0, none⟩) HQ.out.2 (cell (It.read (.n 0) (readAll (shape.take 0) s).2).1)
        have HE := Lib.hid (And.intro hf2 hB2)
        clear hf2 hB2 hr1 hc1 C
        go_wp2_with fail
        go_roundw
        case rel => exact ⟨1, by omega, by go_num, HE.out⟩
        case measure => first | (simp [intOf]; done) | (simp [intOf]; omega)
      · clear hlt hli hi
        have C := Lib.hid (num wr F gr _ hfill.rd 4611686018427387903)
        have HS := Lib.hid (And.intro hfill hB)
        have hgp := hB.lt
        have hp := hB.cell 1
        simp only [List.getElem?_toArray, List.getElem?_cons_zero, List.getElem?_cons_succ] at hp
        clear hfill hB
        go_wp2_with fail
        with_reducible refine C.out.mono ?_
        rintro e w1 ⟨rfl, hr1, hc1⟩
        obtain ⟨hf2, hcell, hfro, hlt1⟩ := Fill.step HS.out.1 HN.out (by omega) (.n 0) rfl HF.out hr1 hc1
        have hcell : w1.cell? ⟨g, 1, none⟩ = some (.int .i64 0) := hcell
        have hB2 := (HS.out.2.chg hc1 HQ.out.1).far (p := ⟨g, 1, none⟩) HQ.out.2 (cell (It.read (.n 0) (readAll (shape.take 1) s).2).1)
        have HE := Lib.hid (And.intro hf2 hB2)
        clear hf2 hB2 hr1 hc1 C
        go_wp2_with fail
        go_roundw
        case rel => exact ⟨2, by omega, by go_num, HE.out⟩
        case measure => first | (simp [intOf]; done) | (simp [intOf]; omega)
    · have HA := Lib.hid (show Fill w F g gr s 2 wr from by rw [show i = 2 by omega] at hfill; exact hfill)
      have hgi : ¬ ((i : Int) < 2) := by omega
      clear hfill hB HQ hi hlt
      go_wp2_with fail
      generalize wr = wo at *
      go_loopw [25] (fun iv wr => ∃ i : Nat, i ≤ 16 ∧ iv = .int .i64 i ∧ Fill w F g gr s (2 + i) wr) (fun iv _ => 16 - (intOf iv).toNat)
      case atStart => exact ⟨0, by omega, by go_num, HA.out⟩
      case round =>
        obtain ⟨i, hi, rfl, hfill⟩ := hrel
        by_cases hlt : i < 16
        · have hli : (i : Int) < 16 := by omega
          have hz := zero_int hlt
          have HZ := Lib.hid hz.1
          have C := Lib.hid (num wr F gr _ hfill.rd 4611686018427387903)
          have HS := Lib.hid hfill
          have hw : IntKind.i64.wrap ((i : Int) + 1) = (i : Int) + 1 := IntWalk.i64_in _ (by omega)
          have HZ2 := Lib.hid hz.2
          clear hfill hz
          go_wp2_with fail
          with_reducible refine C.out.mono ?_
          rintro e w1 ⟨rfl, hr1, hc1⟩
          obtain ⟨hf2, hcell, hfro, hlt1⟩ := Fill.step HS.out HN.out (by omega) (.n 0) HZ2.out HF.out hr1 hc1
          rw [HZ.out] at hcell
          have hcell2 : w1.cell? ⟨g, 2 + i, none⟩ = some (.int .i64 0) := hcell
          have HE := Lib.hid hf2
          clear hf2 hr1 hc1 C
          go_wp2_with fail
          go_roundw
          case rel => exact ⟨i + 1, by omega, by go_num, HE.out⟩
          case measure => simp [intOf]; omega
        · have HA := Lib.hid (show Fill w F g gr s 18 wr from by rw [show i = 16 by omega] at hfill; exact hfill)
          have hgi : ¬ ((i : Int) < 16) := by omega
          clear hfill hi hlt
          generalize wr = wp at *
          have hB := Blk.new wp 71 #[.pointer (some ⟨g, 18, none⟩), .pointer (some ⟨g, 19, none⟩)]
          have hfa := HA.out.new ((Chg.refl (fun _ => False) wp).alloc (.cells #[.pointer (some ⟨g, 18, none⟩), .pointer (some ⟨g, 19, none⟩)] 71))
          have HQ := Lib.hid (show ¬ (wp.heap.size = gr) ∧ wp.heap.size ≠ g from by have := HA.out.blk.lt; have := HA.out.chg.size; have := HG.out; exact ⟨by omega, by omega⟩)
          have HA := Lib.hid (And.intro hfa hB)
          clear hB hfa
          go_wp2_with fail
          go_loopw [39] (fun iv wr => ∃ i : Nat, i ≤ 2 ∧ iv = .int .i64 i ∧ Fill w F g gr s (18 + i) wr ∧ Blk wr wp.heap.size 71 #[.pointer (some ⟨g, 18, none⟩), .pointer (some ⟨g, 19, none⟩)]) (fun iv _ => 2 - (intOf iv).toNat)
          case atStart => exact ⟨0, by omega, by go_num, HA.out⟩
          case round =>
            obtain ⟨i, hi, rfl, hfill, hB⟩ := hrel
            by_cases hlt : i < 2
            · have hli : (i : Int) < 2 := by omega
              rcases (show i = 0 ∨ i = 1 by omega) with rfl | rfl
              · clear hlt hli hi
                have C := Lib.hid (num wr F gr _ hfill.rd 4611686018427387903)
                have HS := Lib.hid (And.intro hfill hB)
                have hgp := hB.lt
                have hp := hB.cell 0
                simp only [List.getElem?_toArray, List.getElem?_cons_zero, List.getElem?_cons_succ] at hp
                clear hfill hB
                go_wp2_with fail
                with_reducible refine C.out.mono ?_
                rintro e w1 ⟨rfl, hr1, hc1⟩
                obtain ⟨hf2, hcell, hfro, hlt1⟩ := Fill.step HS.out.1 HN.out (by omega) (.n 0) rfl HF.out hr1 hc1
                have hcell : w1.cell? ⟨g, 18, none⟩ = some (.int .i64 0) := hcell
                have hB2 := (HS.out.2.chg hc1 HQ.out.1).far (p := ⟨g, 18, none⟩) HQ.out.2 (cell (It.read (.n 0) (readAll (shape.take 18) s).2).1)
                have HE := Lib.hid (And.intro hf2 hB2)
                clear hf2 hB2 hr1 hc1 C
                go_wp2_with fail
                go_roundw
                case rel => exact ⟨1, by omega, by go_num, HE.out⟩
                case measure => first | (simp [intOf]; done) | (simp [intOf]; omega)
              · clear hlt hli hi
                have C := Lib.hid (num wr F gr _ hfill.rd 4611686018427387903)
                have HS := Lib.hid (And.intro hfill hB)
                have hgp := hB.lt
                have hp := hB.cell 1
                simp only [List.getElem?_toArray, List.getElem?_cons_zero, List.getElem?_cons_succ] at hp
                clear hfill hB
                go_wp2_with fail
                with_reducible refine C.out.mono ?_
                rintro e w1 ⟨rfl, hr1, hc1⟩
                obtain ⟨hf2, hcell, hfro, hlt1⟩ := Fill.step HS.out.1 HN.out (by omega) (.n 0) rfl HF.out hr1 hc1
                have hcell : w1.cell? ⟨g, 19, none⟩ = some (.int .i64 0) := hcell
                have hB2 := (HS.out.2.chg hc1 HQ.out.1).far (p := ⟨g, 19, none⟩) HQ.out.2 (cell (It.read (.n 0) (readAll (shape.take 19) s).2).1)
                have HE := Lib.hid (And.intro hf2 hB2)
                clear hf2 hB2 hr1 hc1 C
                go_wp2_with fail
                go_roundw
                case rel => exact ⟨2, by omega, by go_num, HE.out⟩
                case measure => first | (simp [intOf]; done) | (simp [intOf]; omega)
            · have HA := Lib.hid (show Fill w F g gr s 20 wr from by rw [show i = 2 by omega] at hfill; exact hfill)
              have hgi : ¬ ((i : Int) < 2) := by omega
              clear hfill hB HQ hi hlt
              generalize wr = wq at *
              have hB := Blk.new wq 74 #[.pointer (some ⟨g, 20, none⟩), .pointer (some ⟨g, 21, none⟩), .pointer (some ⟨g, 22, none⟩), .pointer (some ⟨g, 23, none⟩)]
              have hfa := HA.out.new ((Chg.refl (fun _ => False) wq).alloc (.cells #[.pointer (some ⟨g, 20, none⟩), .pointer (some ⟨g, 21, none⟩), .pointer (some ⟨g, 22, none⟩), .pointer (some ⟨g, 23, none⟩)] 74))
              have HQ := Lib.hid (show ¬ (wq.heap.size = gr) ∧ wq.heap.size ≠ g from by have := HA.out.blk.lt; have := HA.out.chg.size; have := HG.out; exact ⟨by omega, by omega⟩)
              have HA := Lib.hid (And.intro hfa hB)
              clear hB hfa
              go_wp2_with fail
              go_loopw [58] (fun iv wr => ∃ i : Nat, i ≤ 4 ∧ iv = .int .i64 i ∧ Fill w F g gr s (20 + i) wr ∧ Blk wr wq.heap.size 74 #[.pointer (some ⟨g, 20, none⟩), .pointer (some ⟨g, 21, none⟩), .pointer (some ⟨g, 22, none⟩), .pointer (some ⟨g, 23, none⟩)]) (fun iv _ => 4 - (intOf iv).toNat)
              case atStart => exact ⟨0, by omega, by go_num, HA.out⟩
              case round =>
                obtain ⟨i, hi, rfl, hfill, hB⟩ := hrel
                by_cases hlt : i < 4
                · have hli : (i : Int) < 4 := by omega
                  rcases (show i = 0 ∨ i = 1 ∨ i = 2 ∨ i = 3 by omega) with rfl | rfl | rfl | rfl
                  · clear hlt hli hi
                    have C := Lib.hid (rtext wr F gr _ hfill.rd 1048576 (by decide))
                    have HS := Lib.hid (And.intro hfill hB)
                    have hgp := hB.lt
                    have hp := hB.cell 0
                    simp only [List.getElem?_toArray, List.getElem?_cons_zero, List.getElem?_cons_succ] at hp
                    clear hfill hB
                    go_wp2_with fail
                    with_reducible refine C.out.mono ?_
                    rintro e w1 ⟨rfl, hr1, hc1⟩
                    obtain ⟨hf2, hcell, hfro, hlt1⟩ := Fill.step HS.out.1 HN.out (by omega) (.t []) rfl HF.out hr1 hc1
                    have hcell : w1.cell? ⟨g, 20, none⟩ = some (.string ⟨#[]⟩) := hcell
                    have hB2 := (HS.out.2.chg hc1 HQ.out.1).far (p := ⟨g, 20, none⟩) HQ.out.2 (cell (It.read (.t []) (readAll (shape.take 20) s).2).1)
                    have HE := Lib.hid (And.intro hf2 hB2)
                    clear hf2 hB2 hr1 hc1 C
                    go_wp2_with fail
                    go_roundw
                    case rel => exact ⟨1, by omega, by go_num, HE.out⟩
                    case measure => first | (simp [intOf]; done) | (simp [intOf]; omega)
                  · clear hlt hli hi
                    have C := Lib.hid (rtext wr F gr _ hfill.rd 1048576 (by decide))
                    have HS := Lib.hid (And.intro hfill hB)
                    have hgp := hB.lt
                    have hp := hB.cell 1
                    simp only [List.getElem?_toArray, List.getElem?_cons_zero, List.getElem?_cons_succ] at hp
                    clear hfill hB
                    go_wp2_with fail
                    with_reducible refine C.out.mono ?_
                    rintro e w1 ⟨rfl, hr1, hc1⟩
                    obtain ⟨hf2, hcell, hfro, hlt1⟩ := Fill.step HS.out.1 HN.out (by omega) (.t []) rfl HF.out hr1 hc1
                    have hcell : w1.cell? ⟨g, 21, none⟩ = some (.string ⟨#[]⟩) := hcell
                    have hB2 := (HS.out.2.chg hc1 HQ.out.1).far (p := ⟨g, 21, none⟩) HQ.out.2 (cell (It.read (.t []) (readAll (shape.take 21) s).2).1)
                    have HE := Lib.hid (And.intro hf2 hB2)
                    clear hf2 hB2 hr1 hc1 C
                    go_wp2_with fail
                    go_roundw
                    case rel => exact ⟨2, by omega, by go_num, HE.out⟩
                    case measure => first | (simp [intOf]; done) | (simp [intOf]; omega)
                  · clear hlt hli hi
                    have C := Lib.hid (rtext wr F gr _ hfill.rd 1048576 (by decide))
                    have HS := Lib.hid (And.intro hfill hB)
                    have hgp := hB.lt
                    have hp := hB.cell 2
                    simp only [List.getElem?_toArray, List.getElem?_cons_zero, List.getElem?_cons_succ] at hp
                    clear hfill hB
                    go_wp2_with fail
                    with_reducible refine C.out.mono ?_
                    rintro e w1 ⟨rfl, hr1, hc1⟩
                    obtain ⟨hf2, hcell, hfro, hlt1⟩ := Fill.step HS.out.1 HN.out (by omega) (.t []) rfl HF.out hr1 hc1
                    have hcell : w1.cell? ⟨g, 22, none⟩ = some (.string ⟨#[]⟩) := hcell
                    have hB2 := (HS.out.2.chg hc1 HQ.out.1).far (p := ⟨g, 22, none⟩) HQ.out.2 (cell (It.read (.t []) (readAll (shape.take 22) s).2).1)
                    have HE := Lib.hid (And.intro hf2 hB2)
                    clear hf2 hB2 hr1 hc1 C
                    go_wp2_with fail
                    go_roundw
                    case rel => exact ⟨3, by omega, by go_num, HE.out⟩
                    case measure => first | (simp [intOf]; done) | (simp [intOf]; omega)
                  · clear hlt hli hi
                    have C := Lib.hid (rtext wr F gr _ hfill.rd 1048576 (by decide))
                    have HS := Lib.hid (And.intro hfill hB)
                    have hgp := hB.lt
                    have hp := hB.cell 3
                    simp only [List.getElem?_toArray, List.getElem?_cons_zero, List.getElem?_cons_succ] at hp
                    clear hfill hB
                    go_wp2_with fail
                    with_reducible refine C.out.mono ?_
                    rintro e w1 ⟨rfl, hr1, hc1⟩
                    obtain ⟨hf2, hcell, hfro, hlt1⟩ := Fill.step HS.out.1 HN.out (by omega) (.t []) rfl HF.out hr1 hc1
                    have hcell : w1.cell? ⟨g, 23, none⟩ = some (.string ⟨#[]⟩) := hcell
                    have hB2 := (HS.out.2.chg hc1 HQ.out.1).far (p := ⟨g, 23, none⟩) HQ.out.2 (cell (It.read (.t []) (readAll (shape.take 23) s).2).1)
                    have HE := Lib.hid (And.intro hf2 hB2)
                    clear hf2 hB2 hr1 hc1 C
                    go_wp2_with fail
                    go_roundw
                    case rel => exact ⟨4, by omega, by go_num, HE.out⟩
                    case measure => first | (simp [intOf]; done) | (simp [intOf]; omega)
                · have HA := Lib.hid (show Fill w F g gr s 24 wr from by rw [show i = 4 by omega] at hfill; exact hfill)
                  have hgi : ¬ ((i : Int) < 4) := by omega
                  clear hfill hB HQ hi hlt
                  have hfill := HA.out
                  have C := Lib.hid (num wr F gr _ hfill.rd 4611686018427387903)
                  have HS := Lib.hid hfill
                  have hgw := hfill.blk.lt
                  clear hfill
                  go_wp2_with fail
                  with_reducible refine C.out.mono ?_
                  rintro e w1 ⟨rfl, hr1, hc1⟩
                  obtain ⟨hf2, hcell, hfro, hlt1⟩ := Fill.step HS.out HN.out (by omega) (.n 0) rfl HF.out hr1 hc1
                  have hcell : w1.cell? ⟨g, 24, none⟩ = some (.int .i64 0) := hcell
                  have HS := Lib.hid hf2
                  have C := Lib.hid (rsigned _ F gr _ hf2.rd)
                  clear hf2 hr1 hc1
                  go_wp2_with fail
                  refine C.out.mono ?_
                  rintro e w2 ⟨rfl, hr1, hc1⟩
                  obtain ⟨hf2, hcell, hfro, hlt1⟩ := Fill.step HS.out HN.out (by omega) (.z 0) rfl HF.out hr1 hc1
                  have hcell : w2.cell? ⟨g, 25, none⟩ = some (.int .i64 0) := hcell
                  have HS := Lib.hid hf2
                  have C := Lib.hid (rtext _ F gr _ hf2.rd 1048576 (by decide))
                  clear hf2 hr1 hc1
                  go_wp2_with fail
                  refine C.out.mono ?_
                  rintro e w3 ⟨rfl, hr1, hc1⟩
                  obtain ⟨hf2, hcell, hfro, hlt1⟩ := Fill.step HS.out HN.out (by omega) (.t []) rfl HF.out hr1 hc1
                  have hcell : w3.cell? ⟨g, 26, none⟩ = some (.string ⟨#[]⟩) := hcell
                  have hf2 : Fill w F g gr s 27 (w3.setCell ⟨g, 26, none⟩ (.string ⟨(textP 1048576 (readAll (shape.take 26) s).2).1.toArray⟩)) := hf2
                  obtain ⟨hld, hst, hb4, hr4, hc4⟩ := hf2.ends HN.out HF.out
                  obtain ⟨e4, he4⟩ : ∃ e, (nextP s).1 = e := ⟨_, rfl⟩
                  obtain ⟨s4, hs4⟩ : ∃ x, (nextP s).2 = x := ⟨_, rfl⟩
                  rw [he4] at hld hst hb4 hr4 hc4
                  rw [hs4] at hr4
                  have HE := Lib.hid (And.intro hb4 (And.intro hr4 hc4))
                  have HT := Lib.hid (And.intro he4 hs4)
                  clear hf2 hr1 hc1 C hb4 hr4 hc4 he4 hs4
                  go_wp2_with fail
                  refine bodyPost_ret (resE rfl _ _ g 31 e4 rfl ?hblk) rfl ?hpost
                  case hblk => exact HE.out.1
                  case hpost => exact ⟨by rw [HT.out.1], by rw [HT.out.2]; exact HE.out.2.1, HE.out.2.2⟩
end Evt
end Go.Proofs.YtjkjbbmbfobdaaaDoor

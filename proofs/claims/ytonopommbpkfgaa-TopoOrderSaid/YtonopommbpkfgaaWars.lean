/-
  The law's own reach: the walk (no condition beyond the sizes).
-/
import Derived.Test.YtonopommbpkfgaaWarsPlain
import Derived.Test.YtonopommbpkfgaaReach2
namespace Go.Proofs.Ytonopommbpkfgaa
open Go.ChangeShapes Go.WideShapes Go.RowKit Go.Deep Heap
theorem brInfo : (Try.prog.info? 31).map (fun i => (i.zero, i.size, i.bytes)) = some (some (.slice none 0 0), 1, 24) := by kernel_rfl
theorem make_brows (m : Nat) (hm : m ≤ 1099511627776) (W : World) : (Instr.makeSlice 29 (.int .i64 (m : Int)) (.int .i64 (m : Int))).run Try.prog W = .ok (.slice (some ⟨W.heap.size, 0, none⟩) m m) (W.alloc (.cells (List.replicate m (.slice none 0 0)).toArray 31)) := by
  obtain ⟨i, hi, hz0, hz1, hz2⟩ := info_parts brInfo
  have := run_make (P := Try.prog) W 29 31 i _ Try.underlying29 hi hz0 .i64 .i64 m m (by omega) (Int.le_refl _) (by rw [hz2]; omega) (by omega)
  rw [this, hz1, Int.toNat_natCast, Nat.mul_one]
  congr 3
  rw [← toList_madeCells_one]
  rfl
namespace Topo
attribute [local go_sem ↓] loadOnly0
theorem bools_get_len (l : List Bool) : (bools l).length = l.length := by simp [bools]
def rowV (g n i k : Nat) : Value := if k < i then .slice (some ⟨g + 1 + k, 0, none⟩) n n else .slice none 0 0
/-- the first i rows are made -/
structure MAt (w : World) (g n i : Nat) (M : Nat → List Bool) : Prop where
  outer : Blk w g 31 (rowsC n (rowV g n i)).toArray
  rows : ∀ k, k < i → Blk w (g + 1 + k) 4 (bools (M k)).toArray
section
variable {w w' : World} {g n i : Nat} {M : Nat → List Bool} {S : Nat → Prop}
theorem MAt.chg (h : MAt w g n i M) (hc : Chg S w w') (h0 : ¬ S g) (h1 : ∀ k, k < i → ¬ S (g + 1 + k)) : MAt w' g n i M := ⟨h.outer.chg hc h0, fun k hk => (h.rows k hk).chg hc (h1 k hk)⟩
theorem MAt.new (h : MAt w g n i M) (hc : New w w') : MAt w' g n i M := h.chg hc id fun _ _ => id
theorem MAt.row (h : MAt w g n n M) {k : Nat} (hk : k < n) : w.cell? ⟨g, k, none⟩ = some (.slice (some ⟨g + 1 + k, 0, none⟩) n n) := by
  rw [h.outer.cell, List.getElem?_toArray, rowsC_get _ hk, rowV, if_pos hk]
theorem MAt.cell (h : MAt w g n n M) {a b : Nat} (ha : a < n) (hl : (M a).length = n) (hb : b < n) : w.cell? ⟨g + 1 + a, b, none⟩ = some (.bool (matAt M a b)) := bool_cell (h.rows a ha) (by rw [hl]; exact hb)
theorem MAt.made (h : MAt w g n i M) (hs : w.heap.size = g + 1 + i) (hi : i < n) (hM : M i = List.replicate n false) :
    MAt ((w.setCell ⟨g, i, none⟩ (.slice (some ⟨g + 1 + i, 0, none⟩) n n)).alloc (.cells (bools (List.replicate n false)).toArray 4)) g n (i + 1) M := by
  have cs := (Chg.refl (fun k => k = g) w).setCell (p := ⟨g, i, none⟩) (fun _ => rfl) (.slice (some ⟨g + 1 + i, 0, none⟩) n n)
  have ho := h.outer.set_ i (.slice (some ⟨g + 1 + i, 0, none⟩) n n)
  rw [setIfInBounds_toArray, rowsC_set] at ho
  have hb := Blk.new (w.setCell ⟨g, i, none⟩ (.slice (some ⟨g + 1 + i, 0, none⟩) n n)) 4 (bools (List.replicate n false)).toArray
  rw [show (w.setCell ⟨g, i, none⟩ (.slice (some ⟨g + 1 + i, 0, none⟩) n n)).heap.size = g + 1 + i by rw [← hs]; simp [World.setCell]] at hb
  refine ⟨?_, fun k hk => ?_⟩
  · have e : upd (rowV g n i) i (.slice (some ⟨g + 1 + i, 0, none⟩) n n) = rowV g n (i + 1) := by
      funext k
      by_cases e : k = i
      · subst e; rw [upd_at, rowV, if_pos (by omega)]
      · rw [upd_ne _ _ e]
        unfold rowV
        by_cases h3 : k < i
        · rw [if_pos h3, if_pos (by omega)]
        · rw [if_neg h3, if_neg (by omega)]
    rw [← e]; exact ho.alloc _
  · by_cases e : k = i
    · subst e
      rw [hM]
      exact hb
    · exact ((h.rows k (by omega)).chg cs (by omega)).alloc _
theorem MAt.put (h : MAt w g n n M) {a : Nat} (ha : a < n) (b : Nat) (v : Bool) :
    MAt (w.setCell ⟨g + 1 + a, b, none⟩ (.bool v)) g n n (upd M a ((M a).set b v)) ∧ Chg (fun k => k = g + 1 + a) w (w.setCell ⟨g + 1 + a, b, none⟩ (.bool v)) := by
  have cs := (Chg.refl (fun k => k = g + 1 + a) w).setCell (p := ⟨g + 1 + a, b, none⟩) (fun _ => rfl) (.bool v)
  refine ⟨⟨h.outer.chg cs (by omega), fun k hk => ?_⟩, cs⟩
  by_cases e : k = a
  · subst e
    have := (h.rows k hk).set_ b (.bool v)
    rw [setIfInBounds_toArray, bools_set] at this
    rw [upd_at]; exact this
  · rw [upd_ne _ _ e]
    exact (h.rows k hk).chg cs (by omega)
end
set_option maxHeartbeats 4000000 in
set_option maxRecDepth 20000 in
theorem lawReach (w : World) (n m c : Nat) (hn : n ≤ 256) (A : Option Addr) (ps : List (Int × Int)) (hP : PAt w A ps) (hm : ps.length = m) (hf : m ≤ 200) :
    Calls Try.prog 11 #[.int .i64 (n : Int), .slice A m c] w fun e w' => ∃ M, e = .returned (.slice (some ⟨w.heap.size, 0, none⟩) n n) ∧ MAt w' w.heap.size n n M ∧ WInv n ps n 0 0 M ∧ New w w' := by
  have hk1 := make_brows n (by omega)
  have hk2 := make_bool n (by omega)
  have HP := Lib.hid hP
  have HM := Lib.hid hm
  clear hP hm
  obtain ⟨g, hg⟩ : ∃ g, w.heap.size = g := ⟨_, rfl⟩
  have h0 : MAt (w.alloc (.cells (List.replicate n (Value.slice none 0 0)).toArray 31)) g n 0 (fun _ => List.replicate n false) := by
    refine ⟨?_, fun k hk => by omega⟩
    have := Blk.new w 31 (List.replicate n (Value.slice none 0 0)).toArray
    rw [hg, rowsC_nil, show (fun _ => Value.slice none 0 0) = rowV g n 0 from funext fun k => (if_neg (by omega)).symm] at this
    rw [rowsC_nil, show (fun _ => Value.slice none 0 0) = rowV g n 0 from funext fun k => (if_neg (by omega)).symm]
    exact this
  have H0 := Lib.hid h0
  clear h0
  go_enter Try.func11, Try.ntmps11
  go_wp2_with fail
  go_loopw [6, 16] (fun _ iv wr => ∃ i : Nat, i ≤ n ∧ iv = .int .i64 i ∧ MAt wr g n i (fun _ => List.replicate n false) ∧ wr.heap.size = g + 1 + i ∧ New w wr) (fun _ iv _ => n - (intOf iv).toNat)
  case atStart => exact ⟨0, by omega, by go_num, H0.out, by rw [World.size_alloc, hg], (Chg.refl _ _).alloc _⟩
  case round =>
    clear H0
    obtain ⟨i, hi, rfl, h, hs, nw⟩ := hrel
    by_cases hlt : i < n
    · have h2 := h.made hs hlt rfl
      have hc : wr.cell? ⟨g, i, none⟩ = some (.slice none 0 0) := by rw [h.outer.cell, List.getElem?_toArray, rowsC_get _ hlt, rowV, if_neg (by omega)]
      have hfz := h.outer.frozen i
      have hgl := h.outer.lt
      have m2 := (Chg.refl (fun k => k = g) wr).setCell (p := ⟨g, i, none⟩) (fun _ => rfl) (.slice (some ⟨g + 1 + i, 0, none⟩) n n)
      have c2 := m2.alloc (.cells (bools (List.replicate n false)).toArray 4)
      have n2 := nw.trans c2 fun k hk e => by omega
      have HS := Lib.hid hs
      have HZ := Lib.hid (And.intro h2 n2)
      have hii : (i : Int) < n := by omega
      rw [← hs] at HZ
      clear h h2 nw m2 c2 n2 hs
      go_wp2_with fail
      go_roundw
      case rel => exact ⟨i + 1, by omega, by go_num, HZ.out.1, by rw [World.size_alloc, show ∀ (p : Addr) (u : Value), (wr.setCell p u).heap.size = wr.heap.size from fun _ _ => by simp [World.setCell]]; have := HS.out; omega, HZ.out.2⟩
      case measure => simp [intOf]; omega
    · obtain rfl : n = i := by omega
      have H1 := Lib.hid (And.intro h nw)
      clear h nw hs
      generalize wr = w1 at *
      go_wp2_with fail
      go_loopw [8, 27] (fun _ iv wr => ∃ (i : Nat) (M : Nat → List Bool), i ≤ m ∧ iv = .int .i64 i ∧ MAt wr g n n M ∧ GInv n (ps.take i) M ∧ New w wr) (fun _ iv _ => m - (intOf iv).toNat)
      case atStart => exact ⟨0, _, by omega, by go_num, H1.out.1, GInv.start n, H1.out.2⟩
      case round =>
        clear H1
        obtain ⟨i, M, hi, rfl, h, inv, nw⟩ := hrel
        by_cases hlt : i < m
        · obtain ⟨q, hq⟩ : ∃ q, ps[i]? = some q := ⟨_, List.getElem?_eq_getElem (by have := HM.out; omega)⟩
          obtain ⟨ad, rfl, hload⟩ := HP.out i q hq
          have hld := hload wr nw
          have htk : ps.take (i + 1) = ps.take i ++ [q] := by rw [List.take_add_one, hq]; rfl
          obtain ⟨x, y⟩ := q
          have m1 := (Chg.refl (fun _ => False) wr).alloc (.cells #[.int .i64 x, .int .i64 y] 35)
          have hbx := Blk.new wr 35 #[.int .i64 x, .int .i64 y]
          have h1 := h.new m1
          have cx := hbx.cell 0
          have cy := hbx.cell 1
          simp only [List.getElem?_toArray, List.getElem?_cons_zero, List.getElem?_cons_succ] at cx cy
          have n1 := nw.trans m1 fun _ _ => id
          have hii : (i : Int) < m := by omega
          by_cases hok : okP n (x, y) = true
          · obtain ⟨hx0, hx1, hy0, hy1⟩ := okP_iff.1 hok
            obtain ⟨p, rfl⟩ : ∃ p : Nat, x = (p : Int) := ⟨x.toNat, by omega⟩
            obtain ⟨z, rfl⟩ : ∃ z : Nat, y = (z : Int) := ⟨y.toNat, by omega⟩
            simp only at hx0 hx1 hy0 hy1
            have hp : p < n := by omega
            have hz : z < n := by omega
            have hr := h1.row hp
            have hc := h1.cell hp (inv.len p hp) hz
            have hfz := (h1.rows p hp).frozen z
            have h2 := h1.put hp z true
            have i2 := inv.mark hp hz
            rw [← htk] at i2
            obtain ⟨gp, hgp⟩ : ∃ gp, g + 1 + p = gp := ⟨_, rfl⟩
            rw [hgp] at hr hc hfz h2
            have n2 := n1.trans h2.2 fun k hk e => by omega
            have HZ := Lib.hid (And.intro h2.1 (And.intro i2 n2))
            clear h h1 h2 i2 n1 n2 m1 hbx inv nw hgp hq htk hok hload hx0 hy0
            go_wp2_with fail
            refine wp_region_tail 8 (by kernel_rfl) (by kernel_rfl) ?_
            simp only [List.take_succ_cons, List.take_zero, List.drop_succ_cons, List.drop_zero]
            repeat still_step
            refine wpStill_nil ?_
            go_wp2_with fail
            go_roundw
            case rel => exact ⟨i + 1, _, by omega, by go_num, HZ.out.1.new (Chg.refl _ _).drew, HZ.out.2.1, HZ.out.2.2.drew⟩
            case measure => simp [intOf]; omega
          · have hok : okP n (x, y) = false := by simpa using hok
            have i2 := inv.skip hok
            rw [← htk] at i2
            have HZ := Lib.hid (And.intro h1 (And.intro i2 n1))
            clear h h1 i2 n1 m1 hbx inv nw hq htk hload
            by_cases h1 : 0 ≤ x
            · by_cases h2 : x < n
              · by_cases h3 : 0 ≤ y
                · have h4 : ¬ y < n := fun h4 => by rw [okP_iff.2 ⟨h1, h2, h3, h4⟩] at hok; cases hok
                  clear hok
                  go_wp2_with fail
                  go_roundw
                  case rel => exact ⟨i + 1, _, by omega, by go_num, HZ.out⟩
                  case measure => simp [intOf]; omega
                · clear hok
                  go_wp2_with fail
                  go_roundw
                  case rel => exact ⟨i + 1, _, by omega, by go_num, HZ.out⟩
                  case measure => simp [intOf]; omega
              · clear hok
                go_wp2_with fail
                go_roundw
                case rel => exact ⟨i + 1, _, by omega, by go_num, HZ.out⟩
                case measure => simp [intOf]; omega
            · clear hok
              go_wp2_with fail
              go_roundw
              case rel => exact ⟨i + 1, _, by omega, by go_num, HZ.out⟩
              case measure => simp [intOf]; omega
        · obtain rfl : m = i := by omega
          rw [List.take_of_length_le (by rw [HM.out]; exact Nat.le_refl _)] at inv
          have H1 := Lib.hid (And.intro h (And.intro (WInv.start inv) nw))
          clear h inv nw
          generalize wr = w2 at *
          go_wp2_with fail
          go_loopw [9, 10, 11, 61] (fun _ _ _ iv wr => ∃ (k : Nat) (M : Nat → List Bool), k ≤ n ∧ iv = .int .i64 k ∧ MAt wr g n n M ∧ WInv n ps k 0 0 M ∧ New w wr) (fun _ _ _ iv _ => n - (intOf iv).toNat)
          case atStart => exact ⟨0, _, by omega, by go_num, H1.out.1, H1.out.2.1, H1.out.2.2⟩
          case round =>
            clear H1
            obtain ⟨k, M, hkn, rfl, h, inv, nw⟩ := hrel
            by_cases hlk : k < n
            · have H2 := Lib.hid (And.intro h (And.intro inv nw))
              have hki : (k : Int) < n := by omega
              clear h inv nw
              generalize wr = w3 at *
              go_wp2_with fail
              go_loopw [10, 11, 65] (fun _ _ iv wr => ∃ (i : Nat) (M : Nat → List Bool), i ≤ n ∧ iv = .int .i64 i ∧ MAt wr g n n M ∧ WInv n ps k i 0 M ∧ New w wr) (fun _ _ iv _ => n - (intOf iv).toNat)
              case atStart => exact ⟨0, _, by omega, by go_num, H2.out.1, H2.out.2.1, H2.out.2.2⟩
              case round =>
                clear H2
                obtain ⟨i, M, hin, rfl, h, inv, nw⟩ := hrel
                by_cases hli : i < n
                · have H3 := Lib.hid (And.intro h (And.intro inv nw))
                  have hii : (i : Int) < n := by omega
                  clear h inv nw
                  generalize wr = w4 at *
                  go_wp2_with fail
                  go_loopw [11, 69] (fun _ iv wr => ∃ (j : Nat) (M : Nat → List Bool), j ≤ n ∧ iv = .int .i64 j ∧ MAt wr g n n M ∧ WInv n ps k i j M ∧ New w wr) (fun _ iv _ => n - (intOf iv).toNat)
                  case atStart => exact ⟨0, _, by omega, by go_num, H3.out.1, H3.out.2.1, H3.out.2.2⟩
                  case round =>
                    clear H3
                    obtain ⟨j, M, hjn, rfl, h, inv, nw⟩ := hrel
                    by_cases hlj : j < n
                    · have hri := h.row hli
                      have hrk := h.row hlk
                      have c1 := h.cell hli (inv.len i hli) hlj
                      have c2 := h.cell hli (inv.len i hli) hlk
                      have c3 := h.cell hlk (inv.len k hlk) hlj
                      have hfz := (h.rows i hli).frozen j
                      have h2 := h.put hli j (matAt M i j || matAt M i k && matAt M k j)
                      have i2 := inv.set hlk hli hlj
                      have n2 := nw.trans h2.2 fun z hz e => by omega
                      have HZ := Lib.hid (And.intro h2.1 (And.intro i2 n2))
                      have hji : (j : Int) < n := by omega
                      clear h h2 i2 inv nw n2
                      obtain ⟨gi, hgi⟩ : ∃ gi, g + 1 + i = gi := ⟨_, rfl⟩
                      obtain ⟨gk, hgk⟩ : ∃ gk, g + 1 + k = gk := ⟨_, rfl⟩
                      rw [hgi] at hri c1 c2 hfz HZ
                      rw [hgk] at hrk c3
                      obtain ⟨x, hx⟩ : ∃ x, matAt M i j = x := ⟨_, rfl⟩
                      obtain ⟨y, hy⟩ : ∃ y, matAt M i k = y := ⟨_, rfl⟩
                      obtain ⟨z, hz⟩ : ∃ z, matAt M k j = z := ⟨_, rfl⟩
                      rw [hx, hy, hz] at HZ
                      rw [hx] at c1
                      rw [hy] at c2
                      rw [hz] at c3
                      clear hx hy hz hgi hgk
                      cases x
                      · cases y
                        · simp only [Bool.false_or, Bool.false_and] at HZ
                          go_wp2_with fail
                          refine wp_region_tailq 31 (by kernel_rfl) (by kernel_rfl) ?_
                          simp only [List.take_succ_cons, List.take_zero, List.drop_succ_cons, List.drop_zero]
                          repeat (go_big_quiet_step (fail))
                          refine wpQuiet_nil ?_
                          go_wp2_with fail
                          go_roundw
                          case rel => exact ⟨j + 1, _, by omega, by go_num, HZ.out.1.new (Chg.refl _ _).drew, HZ.out.2.1, HZ.out.2.2.drew⟩
                          case measure => simp [intOf]; omega
                        · simp only [Bool.false_or, Bool.true_and] at HZ
                          go_wp2_with fail
                          refine wp_region_tailq 31 (by kernel_rfl) (by kernel_rfl) ?_
                          simp only [List.take_succ_cons, List.take_zero, List.drop_succ_cons, List.drop_zero]
                          repeat (go_big_quiet_step (fail))
                          refine wpQuiet_nil ?_
                          go_wp2_with fail
                          go_roundw
                          case rel => exact ⟨j + 1, _, by omega, by go_num, HZ.out.1.new (Chg.refl _ _).drew, HZ.out.2.1, HZ.out.2.2.drew⟩
                          case measure => simp [intOf]; omega
                      · simp only [Bool.true_or] at HZ
                        go_wp2_with fail
                        refine wp_region_tailq 31 (by kernel_rfl) (by kernel_rfl) ?_
                        simp only [List.take_succ_cons, List.take_zero, List.drop_succ_cons, List.drop_zero]
                        repeat (go_big_quiet_step (fail))
                        refine wpQuiet_nil ?_
                        go_wp2_with fail
                        go_roundw
                        case rel => exact ⟨j + 1, _, by omega, by go_num, HZ.out.1.new (Chg.refl _ _).drew, HZ.out.2.1, HZ.out.2.2.drew⟩
                        case measure => simp [intOf]; omega
                    · obtain rfl : n = j := by omega
                      have HZ := Lib.hid (And.intro h (And.intro inv.row nw))
                      clear h inv nw
                      go_wp2_with fail
                      go_roundw
                      case rel => exact ⟨i + 1, _, by omega, by go_num, HZ.out⟩
                      case measure => simp [intOf]; omega
                · obtain rfl : n = i := by omega
                  have HZ := Lib.hid (And.intro h (And.intro inv.lvl nw))
                  clear h inv nw
                  go_wp2_with fail
                  go_roundw
                  case rel => exact ⟨k + 1, _, by omega, by go_num, HZ.out⟩
                  case measure => simp [intOf]; omega
            · obtain rfl : n = k := by omega
              have HZ := Lib.hid (And.intro h (And.intro inv nw))
              clear h inv nw
              subst hg
              go_wp2_with fail
              go_ret
              exact ⟨_, rfl, HZ.out.1, HZ.out.2.1, HZ.out.2.2⟩
end Topo
end Go.Proofs.Ytonopommbpkfgaa

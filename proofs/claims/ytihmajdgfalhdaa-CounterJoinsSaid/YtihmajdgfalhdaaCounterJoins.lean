/-
  hedgerowlaw35.CounterJoins returns true for every input: what each replica added alone is all there once, in whatever order, however often they are joined (no condition).
-/
import Derived.Test.YtihmajdgfalhdaaCounterLaw
import Derived.Test.YtihmajdgfalhdaaCounterJoinPlain
import Derived.Test.YtihmajdgfalhdaaStructs
import Derived.Deep.RegionHeld3
import Derived.Outline
namespace Go.Proofs.Ytihmajdgfalhdaa
open Go.ChangeShapes Go.WideShapes Go.RowKit
namespace Counter
theorem loadOnly0 (p : Value) : Instr.loadAt 28 p = LoadRowV 28 p := rfl
attribute [local go_sem ↓] loadOnly0

/-- act k of a slice of acts: what is loaded -/
theorem actAt {w : World} {F : Nat → Prop} {A : Option Addr} {n k : Nat} {xs : List Int} (hl : Reads w F 2 A n (ints xs)) (hb : ∀ x ∈ xs, -9223372036854775808 ≤ x ∧ x ≤ 9223372036854775807) (hlt : k < n) :
    ∃ ad r x, A = some ad ∧ (-9223372036854775808 ≤ r ∧ r ≤ 9223372036854775807) ∧ (-9223372036854775808 ≤ x ∧ x ≤ 9223372036854775807) ∧
      (LoadRow 28 (ad.add (k * 2))).run Try.prog w = .ok (.agg #[.int .i64 r, .int .i64 x]) w := by
  have hlen := hl.len
  rw [ints_length] at hlen
  obtain ⟨ad, rfl, _, hce⟩ := hl.elem hlt
  have h0 : k * 2 < xs.length := by omega
  have h1 : k * 2 + 1 < xs.length := by omega
  have hr : xs[k * 2]? = some (xs.getD (k * 2) 0) := by simp [List.getD_eq_getElem?_getD, List.getElem?_eq_getElem h0]
  have hx : xs[k * 2 + 1]? = some (xs.getD (k * 2 + 1) 0) := by simp [List.getD_eq_getElem?_getD, List.getElem?_eq_getElem h1]
  have hel : ((ints xs).drop (k * 2)).take 2 = [.int .i64 (xs.getD (k * 2) 0), .int .i64 (xs.getD (k * 2 + 1) 0)] := by
    apply List.ext_getElem?
    intro j
    rw [List.getElem?_take]
    match j with
    | 0 => rw [if_pos (by omega), List.getElem?_drop, ints_get, Nat.add_zero, hr]; rfl
    | 1 => rw [if_pos (by omega), List.getElem?_drop, ints_get, hx]; rfl
    | j + 2 => rw [if_neg (by omega)]; rfl
  have hld := run_LoadRow_at (P := Try.prog) (t := 28) Try.underlying28 rfl (n := 2) (by kernel_rfl) (hl.elem_len hlt) hce
  rw [hel] at hld
  exact ⟨ad, _, _, rfl, hb _ (List.mem_of_getElem? hr), hb _ (List.mem_of_getElem? hx), hld⟩

/-- sixteen pointers, of which the first k point to the blocks f -/
def ptrs (f : Nat → Nat) (k : Nat) : List Value := (List.range 16).map fun j => if j < k then ptr (f j) else .pointer none
theorem ptrs_len (f : Nat → Nat) (k : Nat) : (ptrs f k).length = 16 := by simp [ptrs]
theorem ptrs_get (f : Nat → Nat) (k j : Nat) (h : j < 16) : (ptrs f k)[j]? = some (if j < k then ptr (f j) else .pointer none) := by simp [ptrs, h]
theorem ptrs_set (f : Nat → Nat) (k b : Nat) (h : k < 16) : (ptrs f k).set k (ptr b) = ptrs (fun j => if j = k then b else f j) (k + 1) := by
  apply List.ext_getElem?
  intro j
  by_cases hj : j < 16
  · rw [List.getElem?_set, ptrs_len, ptrs_get _ _ _ hj, ptrs_get _ _ _ hj]
    by_cases e : k = j
    · subst e
      rw [if_pos rfl, if_pos h, if_pos (by omega)]
      simp
    · rw [if_neg e]
      by_cases hl : j < k
      · rw [if_pos hl, if_pos (by omega)]
        simp [show ¬ j = k by omega]
      · rw [if_neg hl, if_neg (by omega)]
  · rw [List.getElem?_eq_none (by rw [List.length_set, ptrs_len]; omega), List.getElem?_eq_none (by rw [ptrs_len]; omega)]
theorem ptrs_ext {f g : Nat → Nat} {k : Nat} (h : ∀ j, j < k → f j = g j) : ptrs f k = ptrs g k := by
  refine List.map_congr_left fun j _ => ?_
  split
  · rw [h j (by assumption)]
  · rfl
/-- the first k of sixteen counters, each in a block of its own, all of them from lo on -/
structure Fam (w : World) (lo ga : Nat) (f : Nat → Nat) (W : Cnt) (k : Nat) : Prop where
  arr : Blk w ga 36 (ptrs f k).toArray
  at_ : ∀ j, j < k → At w (f j) (only W j)
  inj : ∀ i j, i < k → j < k → f i = f j → i = j
  low : ∀ j, j < k → lo ≤ f j
  ga : lo ≤ ga
theorem Fam.ne {w : World} {lo ga : Nat} {f : Nat → Nat} {W : Cnt} {k : Nat} (h : Fam w lo ga f W k) {j : Nat} (hj : j < k) : f j ≠ ga := Blk.ne_ (h.at_ j hj).blk h.arr (by decide)
theorem Fam.chg {w w' : World} {lo ga : Nat} {f : Nat → Nat} {W : Cnt} {k : Nat} {S : Nat → Prop} (h : Fam w lo ga f W k) (hc : Chg S w w') (h1 : ¬ S ga) (h2 : ∀ j, j < k → ¬ S (f j)) : Fam w' lo ga f W k :=
  ⟨h.arr.chg hc h1, fun j hj => (h.at_ j hj).chg hc (h2 j hj), h.inj, h.low, h.ga⟩
theorem Fam.new {w w' : World} {lo ga : Nat} {f : Nat → Nat} {W : Cnt} {k : Nat} (h : Fam w lo ga f W k) (hc : New w w') : Fam w' lo ga f W k := h.chg hc id fun _ _ => id
/-- one more -/
theorem Fam.more {w w1 : World} {lo ga k b : Nat} {f : Nat → Nat} {W : Cnt} (h : Fam w lo ga f W k) (hk : k < 16) (hn : New w w1) (hb : w.heap.size ≤ b) (hlo : lo ≤ b) (ha : At w1 b (only W k)) :
    Fam (w1.setCell ⟨ga, k, none⟩ (ptr b)) lo ga (fun j => if j = k then b else f j) W (k + 1) := by
  have h1 := h.new hn
  have hbg : b ≠ ga := Blk.ne_ ha.blk h1.arr (by decide)
  refine ⟨?_, fun j hj => ?_, fun i j hi hj e => ?_, fun j hj => ?_, h.ga⟩
  · have := h1.arr.set_ k (ptr b)
    rwa [setIfInBounds_toArray, ptrs_set _ _ _ hk] at this
  · by_cases e : j = k
    · subst e
      simp only [if_true]
      exact ⟨ha.ok, ha.blk.far (by simpa using hbg) _⟩
    · simp only [if_neg e]
      have hj' := h1.at_ j (by omega)
      exact ⟨hj'.ok, hj'.blk.far (by simpa using h1.ne (show j < k by omega)) _⟩
  · have hlt : ∀ j, j < k → f j < b := fun j hj => Nat.lt_of_lt_of_le (h.at_ j hj).lt hb
    split at e <;> split at e
    · omega
    · have := hlt j (by omega)
      omega
    · have := hlt i (by omega)
      omega
    · exact h.inj i j (by omega) (by omega) e
  · split
    · exact hlo
    · exact h.low j (by omega)
/-- the replica r added: its own counter and the whole one -/
theorem Fam.add {w w' : World} {lo ga r : Nat} {f : Nat → Nat} {W : Cnt} {n : Int} {S : Nat → Prop} (h : Fam w lo ga f W 16) (hW : W.ok) (hr : r < 16) (hc : Chg S w w') (h1 : ¬ S ga) (h2 : ∀ j, j < 16 → j ≠ r → ¬ S (f j))
    (ha : At w' (f r) (only (addF W r n).2 r)) : Fam w' lo ga f (addF W r n).2 16 := by
  refine ⟨h.arr.chg hc h1, fun j hj => ?_, h.inj, h.low, h.ga⟩
  by_cases e : j = r
  · subst e
    exact ha
  · rw [only_add_ne hW hr e]
    exact (h.at_ j hj).chg hc (h2 j hj e)
theorem Fam.cell {w : World} {lo ga : Nat} {f : Nat → Nat} {W : Cnt} (h : Fam w lo ga f W 16) {r : Nat} (hr : r < 16) : w.cell? ⟨ga, r, none⟩ = some (ptr (f r)) := by
  rw [h.arr.cell, List.getElem?_toArray, ptrs_get _ _ _ hr, if_pos hr]

theorem zero_below {c : Cnt} (h : c.ok) : below zero c :=
  ⟨fun i _ => by rw [show zero.m.getD i 0 = 0 from rep_getD i]; exact (h.1.at i).1, fun i _ => by rw [show zero.l.getD i 0 = 0 from rep_getD i]; exact (h.2.at i).1⟩
theorem At.drew {w : World} {b : Nat} {c : Cnt} (h : At w b c) : At w.drew b c := ⟨h.ok, h.blk⟩
theorem keep3 {b : Nat} {w w' : World} {p q r : Addr} {x y z : Value} (hc : Upd b w w') (h : w.cell? p = some x ∧ w.cell? q = some y ∧ w.cell? r = some z) (h1 : p.block ≠ b) (h2 : q.block ≠ b) (h3 : r.block ≠ b) :
    w'.cell? p = some x ∧ w'.cell? q = some y ∧ w'.cell? r = some z :=
  ⟨(hc.cell (block_lt_of_cell h.1) h1).trans h.1, (hc.cell (block_lt_of_cell h.2.1) h2).trans h.2.1, (hc.cell (block_lt_of_cell h.2.2) h3).trans h.2.2⟩
set_option maxHeartbeats 20000000 in
set_option maxRecDepth 100000 in
theorem joins (w : World) (A B : Option Addr) (n c m d : Nat) (xs : List Int) (ys : List UInt8) (hn : n ≤ 140737488351232) (hm : m ≤ 140737488351232)
    (hb : ∀ x ∈ xs, -9223372036854775808 ≤ x ∧ x ≤ 9223372036854775807)
    (hl : Reads w (fun b => b < w.heap.size) 2 A n (ints xs)) (hl2 : Reads w (fun b => b < w.heap.size) 1 B m (u8s ys)) :
    Calls Try.prog 4 #[.slice A n c, .slice B m d] w fun e w' => LawEnd w e w' := by
  have HB := Lib.hid hb
  clear hb
  by_cases hbig : 100 < (n : Int)
  · go_enter Try.func4, Try.ntmps4
    go_wp2_with fail
    refine (fixed _).mono ?_
    rintro e w1 ⟨rfl, hn1⟩
    go_wp2
    go_ret
    exact ⟨rfl, hn1⟩
  · by_cases hbig2 : 100 < (m : Int)
    · go_enter Try.func4, Try.ntmps4
      go_wp2_with fail
      refine (fixed _).mono ?_
      rintro e w1 ⟨rfl, hn1⟩
      go_wp2
      go_ret
      exact ⟨rfl, hn1⟩
    · have hz : ∀ W : World, (zeroValue 36).run Try.prog W = .ok (.agg (ptrs (fun _ => 0) 0).toArray) W := fun W => by kernel_rfl
      go_enter Try.func4, Try.ntmps4
      go_wp2_with fail
      refine (fixed _).mono ?_
      rintro e w1 ⟨rfl, hn1⟩
      have hsz := hn1.size
      obtain ⟨ga, hga⟩ : ∃ ga, ga = w1.heap.size := ⟨_, rfl⟩
      have harr := Blk.new w1 36 (ptrs (fun _ => 0) 0).toArray
      rw [← hga] at harr
      have hgal : w.heap.size ≤ ga := by omega
      go_wp2
      rw [← hga]
      clear hga
      go_loopw [6, 25] (fun _ i wr => ∃ (k : Nat) (f : Nat → Nat), k ≤ 16 ∧ i = .int .i64 k ∧ Fam wr w.heap.size ga f zero k ∧ New w wr) (fun _ i _ => 16 - (intOf i).toNat)
      case atStart => exact ⟨0, fun _ => 0, by omega, rfl, ⟨harr, fun j hj => absurd hj (by omega), fun i j hi => absurd hi (by omega), fun j hj => absurd hj (by omega), hgal⟩, hn1.alloc _⟩
      case round =>
        clear hz harr hn1 hsz
        obtain ⟨k, f, hk, rfl, hfam, hnr⟩ := hrel
        by_cases hlt : k < 16
        · go_wp2_with fail
          refine (new_ _).mono ?_
          rintro e w2 ⟨rfl, h2, hn2⟩
          have hki : (k : Int) < 16 := by omega
          have harr := hfam.arr.chg hn2 id
          have hcell := harr.cell k
          rw [List.getElem?_toArray, ptrs_get _ _ _ hlt, if_neg (by omega)] at hcell
          have hfr := harr.frozen k
          clear harr
          have hmore := hfam.more hlt hn2 (Nat.le_refl _) hnr.size (by rw [only_zero]; exact h2)
          have hlo := hnr.size
          have hnr2 := hnr.trans hn2 (fun _ _ => False.elim)
          generalize wr.heap.size = b at *
          have HF := Lib.hid hmore
          clear hmore hfam h2
          go_wp2
          go_roundw
          case rel => exact ⟨k + 1, _, by omega, by go_num, HF.out, hnr2.setCell (fun h => by simp at h; omega) _⟩
          case measure => simp [intOf]; omega
        · obtain rfl : k = 16 := by omega
          go_wp2_with fail
          refine (new_ _).mono ?_
          rintro e w2 ⟨rfl, h2, hn2⟩
          have hf2 := hfam.new hn2
          have hnr2 := hnr.trans hn2 (fun _ _ => False.elim)
          have hlow := hnr.size
          have hne2 : ∀ j, j < 16 → f j ≠ wr.heap.size := fun j hj => Nat.ne_of_lt (hfam.at_ j hj).lt
          generalize wr.heap.size = bw at *
          clear hfam hnr hn2
          go_wp2
          go_loopw [9, 35] (fun _ i wr => ∃ (k : Nat) (W : Cnt), k ≤ n ∧ i = .int .i64 k ∧ Fam wr w.heap.size ga f W 16 ∧ At wr bw W ∧ New w wr) (fun _ i _ => n - (intOf i).toNat)
          case atStart => exact ⟨0, zero, by omega, rfl, hf2, h2, hnr2⟩
          case round =>
            clear hf2 h2 hnr2
            obtain ⟨k, W, hk, rfl, hfam, hW, hnr⟩ := hrel
            by_cases hlt : k < n
            · obtain ⟨ad, r, x, rfl, hrb, hxb, hld⟩ := actAt (hl.chg hnr (fun b hb => ⟨hb, id⟩)) HB.out hlt
              have hWl := hW.lt
              have hbl := hnr.size
              have Hfl := Lib.hid (fun j hj => (hfam.at_ j hj).lt)
              have HF := Lib.hid (hfam.new ((Chg.refl (fun _ => False) wr).alloc (.cells #[.int .i64 r, .int .i64 x] 28)))
              have HW := Lib.hid (hW.new ((Chg.refl (fun _ => False) wr).alloc (.cells #[.int .i64 r, .int .i64 x] 28)))
              have HN := Lib.hid (hnr.alloc (.cells #[.int .i64 r, .int .i64 x] 28))
              clear hfam hW hnr
              by_cases h0 : r < 0
              · go_wp2
                go_roundw
                case rel => exact ⟨k + 1, W, by omega, by go_num, HF.out, HW.out, HN.out⟩
                case measure => simp [intOf]; omega
              · by_cases h1 : 15 < r
                · go_wp2
                  go_roundw
                  case rel => exact ⟨k + 1, W, by omega, by go_num, HF.out, HW.out, HN.out⟩
                  case measure => simp [intOf]; omega
                · obtain ⟨i, rfl⟩ := Int.eq_ofNat_of_zero_le (show 0 ≤ r by omega)
                  have hi : i < 16 := by omega
                  have hii : (i : Int) < 16 := by omega
                  have hbx := Blk.new wr 28 #[.int .i64 (i : Int), .int .i64 x]
                  have HC1 := Lib.hid ((hbx.cell 0).trans (show _ = some (.int .i64 (i : Int)) from rfl))
                  have HC2 := Lib.hid ((hbx.cell 1).trans (show _ = some (.int .i64 x) from rfl))
                  have HC3 := Lib.hid (HF.out.cell hi)
                  have hgx : wr.heap.size ≠ bw := by omega
                  have hgf : wr.heap.size ≠ f i := Nat.ne_of_gt (Hfl.out i hi)
                  have hgg : ga ≠ f i := fun e => HF.out.ne hi e.symm
                  have hgb : ga ≠ bw := fun e => by
                    have := Blk.ne_ HW.out.blk HF.out.arr (by decide)
                    omega
                  have hfb := hne2 i hi
                  have hok := HW.out.ok
                  have hcode := only_add hok hi x
                  have c1 := fun V h => add V (f i) (only W i) (i : Int) x h hxb.1 hxb.2
                  rw [hcode] at c1
                  have C1 := Lib.hid c1
                  have C2 := Lib.hid (fun V h => add V bw W (i : Int) x h hxb.1 hxb.2)
                  have HA := Lib.hid (fun V S => HF.out.add (w' := V) (n := x) (S := S) hok hi)
                  have HO := Lib.hid (HF.out.at_ i hi)
                  clear c1 hcode hok hbx
                  go_wp2
                  generalize (addF W (i : Int) x).1 = q at *
                  generalize (addF W (i : Int) x).2 = U at *
                  generalize wr.heap.size = gx at *
                  generalize wr.alloc (Obj.cells #[Value.int IntKind.i64 (i : Int), Value.int IntKind.i64 x] 28) = v at *
                  have hc1 := HC1.out
                  have hc2 := HC2.out
                  have hc3 := HC3.out
                  go_region_held3 (fun V => V.cell? ⟨gx, 0, none⟩ = some (.int .i64 (i : Int)) ∧ V.cell? ⟨gx, 1, none⟩ = some (.int .i64 x) ∧ V.cell? ⟨ga, i, none⟩ = some (ptr (f i))) (first | exact ⟨hc1, hc2, hc3⟩ | exact kS2 | exact kS1 | fail)
                    (first
                      | ((with_reducible refine (C1.out _ HO.out.drew).mono ?_); rintro e v5 ⟨rfl, ho5, hu5⟩; have kS1 := keep3 (w := v.drew) hu5 ⟨hc1, hc2, hc3⟩ hgf hgf hgg)
                      | ((with_reducible refine (C2.out v5 (HW.out.drew.chg hu5 (show ¬ bw = f i from hfb.symm))).mono ?_); rintro e v6 ⟨rfl, hw6, hu6⟩; have kS2 := keep3 hu6 kS1 hgx hgx hgb)
                      | fail)
                  go_wp2
                  go_roundw
                  case rel =>
                    have hlo5 := HF.out.low i hi
                    have hN : New w v6 := (HN.out.drew.trans hu5 (fun j hj e => by omega)).trans hu6 (fun j hj e => by omega)
                    have hch : Chg (fun b => b = f i ∨ b = bw) v v6 := ((Chg.refl _ _).drew.trans hu5 (fun _ _ => .inl)).trans hu6 (fun _ _ => .inr)
                    refine ⟨k + 1, U, by omega, by go_num, HA.out v6 _ hch (fun h => h.elim hgg hgb) (fun j hj hji h => h.elim (fun e => hji (HF.out.inj j i hj hi e)) (hne2 j hj)) (ho5.chg hu6 hfb), hw6, hN⟩
                  case measure => simp [intOf]; omega
            · obtain rfl : k = n := by omega
              go_wp2_with fail
              refine (new_ _).mono ?_
              rintro e w3 ⟨rfl, ha3, hn3⟩
              go_wp2_with fail
              refine (new_ _).mono ?_
              rintro e w4 ⟨rfl, hb4, hn4⟩
              have ha4 := ha3.new hn4
              have hf4 := (hfam.new hn3).new hn4
              have hW4 := (hW.new hn3).new hn4
              have hnr4 := (hnr.trans hn3 (fun _ _ => False.elim)).trans hn4 (fun _ _ => False.elim)
              have hs1 := hnr.size
              have hs2 := hn3.size
              have hlt1 := ha3.lt
              have hfa : ∀ j, j < 16 → f j ≠ wr.heap.size := fun j hj => Nat.ne_of_lt (hfam.at_ j hj).lt
              have hfb : ∀ j, j < 16 → f j ≠ w3.heap.size := fun j hj => Nat.ne_of_lt ((hfam.new hn3).at_ j hj).lt
              have hWa := hW.lt
              have hWok := hW.ok
              clear hfam hW hnr hn3 hn4 ha3
              obtain ⟨ba, hba⟩ : ∃ x, x = wr.heap.size := ⟨_, rfl⟩
              obtain ⟨bb, hbb⟩ : ∃ x, x = w3.heap.size := ⟨_, rfl⟩
              rw [← hba] at hs1 hlt1 hfa hWa ha4 ⊢
              rw [← hbb] at hlt1 hfb hb4 ⊢
              clear hba hbb
              go_wp2
              go_loopw [13, 68] (fun _ i wr => ∃ (k : Nat) (a : Cnt), k ≤ m ∧ i = .int .i64 k ∧ Fam wr w.heap.size ga f W 16 ∧ At wr bw W ∧ At wr ba a ∧ below a W ∧ At wr bb zero ∧ New w wr) (fun _ i _ => m - (intOf i).toNat)
              case atStart => exact ⟨0, zero, by omega, rfl, hf4, hW4, ha4, zero_below hWok, hb4, hnr4⟩
              case round =>
                obtain ⟨j, a, hj, rfl, hfam, hW, ha, hbl, hz, hnr⟩ := hrel
                by_cases hlt : j < m
                · obtain ⟨ad, ch, rfl, _, _, hce⟩ := (hl2.chg hnr (fun b hb => ⟨hb, id⟩)).byte hlt
                  have hcb := ch.toNat_lt
                  have hq16 : ch.toNat % 16 < 16 := Nat.mod_lt _ (by omega)
                  have hc3 := hfam.cell hq16
                  have HQ := Lib.hid hq16
                  clear hq16
                  go_wp2_with fail
                  generalize ch.toNat % 16 = q at *
                  have hq16 := HQ.out
                  refine (join_ wr ba (f q) a (only W q) ha (hfam.at_ q hq16) (hfa q hq16).symm).mono ?_
                  rintro e w5 ⟨rfl, ha5, hu5⟩
                  have hn5 : New w w5 := hnr.trans hu5 (fun j hj e => by omega)
                  have hf5 := hfam.chg hu5 (fun e => absurd (hfam.arr.ne_ ha.blk (by decide)) (fun h => h e)) (fun j hj => hfa j hj)
                  have hW5 := hW.chg hu5 (show ¬ bw = ba by omega)
                  have hz5 := hz.chg hu5 (show ¬ bb = ba by omega)
                  have hbl5 := join_least ha.ok (only_ok hW.ok q) hbl (only_below hW.ok hq16)
                  clear hfam hW ha hz hnr hu5
                  go_wp2
                  go_roundw
                  case rel => exact ⟨j + 1, _, by omega, by go_num, hf5, hW5, ha5, hbl5, hz5, hn5⟩
                  case measure => simp [intOf]; omega
                · obtain rfl : j = m := by omega
                  go_wp2_with fail
                  go_loopw [14, 79] (fun _ i wr => ∃ (k : Nat) (a b : Cnt), k ≤ 16 ∧ i = .int .i64 k ∧ Fam wr w.heap.size ga f W 16 ∧ At wr bw W ∧ At wr ba a ∧ below a W ∧ At wr bb b ∧ below b W ∧ (∀ j, j < k → below (only W j) a) ∧ New w wr) (fun _ i _ => 16 - (intOf i).toNat)
                  case atStart => exact ⟨0, a, zero, by omega, rfl, hfam, hW, ha, hbl, hz, zero_below hWok, fun j hj => absurd hj (by omega), hnr⟩
                  case round =>
                    clear hfam hW ha hbl hz hnr
                    obtain ⟨k, a, b, hk, rfl, hfam, hW, ha, hbl, hb, hbl2, hall, hnr⟩ := hrel
                    by_cases hlt : k < 16
                    · have hki : (k : Int) < 16 := by omega
                      have hrev : ((15 - k : Nat) : Int) = 15 - (k : Int) := by omega
                      have hc3 := hfam.cell hlt
                      have hc4 := hfam.cell (r := 15 - k) (by omega)
                      go_wp2_with fail
                      refine (join_ wr ba (f k) a (only W k) ha (hfam.at_ k hlt) (hfa k hlt).symm).mono ?_
                      rintro e w5 ⟨rfl, ha5, hu5⟩
                      have hn5 : New w w5 := hnr.trans hu5 (fun j hj e => by omega)
                      have hf5 := hfam.chg hu5 (fun e => absurd (hfam.arr.ne_ ha.blk (by decide)) (fun h => h e)) (fun j hj => hfa j hj)
                      have hW5 := hW.chg hu5 (show ¬ bw = ba by omega)
                      have hb5 := hb.chg hu5 (show ¬ bb = ba by omega)
                      have hbl5 := join_least ha.ok (only_ok hW.ok k) hbl (only_below hW.ok hlt)
                      have hab := join_above ha.ok (only_ok hW.ok k)
                      have hall5 : ∀ j, j < k + 1 → below (only W j) (join a (only W k)) := fun j hj => by
                        by_cases e : j = k
                        · subst e; exact hab.2
                        · exact below_trans (hall j (by omega)) hab.1
                      clear hfam hW ha hbl hb hall hnr hu5 hc3 hc4 hab
                      generalize join a (only W k) = a' at *
                      have hc4 := hf5.cell (r := 15 - k) (by omega)
                      go_wp2_with fail
                      refine (join_ w5 bb (f (15 - k)) b (only W (15 - k)) hb5 (hf5.at_ _ (by omega)) (hfb _ (by omega)).symm).mono ?_
                      rintro e w6 ⟨rfl, hb6, hu6⟩
                      have hn6 : New w w6 := hn5.trans hu6 (fun j hj e => by omega)
                      have hf6 := hf5.chg hu6 (fun e => absurd (hf5.arr.ne_ hb5.blk (by decide)) (fun h => h e)) (fun j hj => hfb j hj)
                      have hW6 := hW5.chg hu6 (show ¬ bw = bb by omega)
                      have ha6 := ha5.chg hu6 (show ¬ ba = bb by omega)
                      have hbl6 := join_least hb5.ok (only_ok hW5.ok (15 - k)) hbl2 (only_below hW5.ok (show 15 - k < 16 by omega))
                      have hab6 := (belowF_iff _ _).2 (join_above hb5.ok (only_ok hW5.ok (15 - k))).2
                      have hab7 := (belowF_iff _ _).2 (hall5 k (by omega))
                      clear hf5 hW5 ha5 hb5 hbl2 hn5 hu6 hc4
                      generalize join b (only W (15 - k)) = b' at *
                      have hc3 := hf6.cell hlt
                      have hc4 := hf6.cell (r := 15 - k) (by omega)
                      have k1 := below_ w6 (ptr (f k)) (ptr ba) _ _ (.inl ⟨_, rfl, hf6.at_ k hlt⟩) (.inl ⟨_, rfl, ha6⟩)
                      rw [hab7] at k1
                      clear hab7
                      have H6 := Lib.hid hab6
                      clear hab6
                      have HALL := Lib.hid hall5
                      clear hall5
                      go_wp2_with fail
                      refine k1.mono ?_
                      clear k1
                      rintro e w7 ⟨rfl, hu7⟩
                      have hn7 : New w w7 := hn6.trans hu7 (fun j hj e => e)
                      have hf7 := hf6.new hu7
                      have hW7 := hW6.new hu7
                      have ha7 := ha6.new hu7
                      have hb7 := hb6.new hu7
                      have hc7 := hf7.cell (r := 15 - k) (by omega)
                      clear hf6 hW6 ha6 hb6 hn6 hu7 hc4 hc3
                      have k1 := below_ w7 (ptr (f (15 - k))) (ptr bb) _ _ (.inl ⟨_, rfl, hf7.at_ _ (by omega)⟩) (.inl ⟨_, rfl, hb7⟩)
                      rw [H6.out] at k1
                      go_wp2_with fail
                      refine k1.mono ?_
                      clear k1
                      rintro e w8 ⟨rfl, hu8⟩
                      have hn8 : New w w8 := hn7.trans hu8 (fun j hj e => e)
                      have hf8 := hf7.new hu8
                      have hW8 := hW7.new hu8
                      have ha8 := ha7.new hu8
                      have hb8 := hb7.new hu8
                      clear hf7 hW7 ha7 hb7 hn7 hu8 hc7
                      go_wp2
                      go_roundw
                      case rel => exact ⟨k + 1, a', b', by omega, by go_num, hf8, hW8, ha8, hbl5, hb8, hbl6, HALL.out, hn8⟩
                      case measure => simp [intOf]; omega
                    · obtain rfl : k = 16 := by omega
                      obtain rfl := eq_of_all ha.ok hW.ok hbl hall
                      have hj1 := (join_below hb.ok ha.ok hbl2).1
                      have hbr := (belowF_iff _ _).2 (below_refl a)
                      have HJ := Lib.hid hj1
                      have HR := Lib.hid hbr
                      clear hj1 hbr hall hbl hbl2
                      go_wp2_with fail
                      refine (join_ wr bb ba b a hb ha (by omega)).mono ?_
                      rintro e w5 ⟨rfl, hb5, hu5⟩
                      rw [HJ.out] at hb5
                      have hn5 : New w w5 := hnr.trans hu5 (fun j hj e => by omega)
                      have hW5 := hW.chg hu5 (show ¬ bw = bb by omega)
                      have ha5 := ha.chg hu5 (show ¬ ba = bb by omega)
                      clear hW ha hb hnr hu5 hfam
                      go_wp2_with fail
                      refine (value w5 ba a ha5).mono ?_
                      rintro e v1 ⟨rfl, m1⟩
                      have hW1 := hW5.new m1
                      have ha1 := ha5.new m1
                      have hb1 := hb5.new m1
                      have n1 := hn5.trans m1 (fun _ _ => False.elim)
                      clear hW5 ha5 hb5 hn5 m1
                      go_wp2_with fail
                      refine (value v1 bw a hW1).mono ?_
                      rintro e v2 ⟨rfl, m2⟩
                      have hW2 := hW1.new m2
                      have ha2 := ha1.new m2
                      have hb2 := hb1.new m2
                      have n2 := n1.trans m2 (fun _ _ => False.elim)
                      clear hW1 ha1 hb1 n1 m2
                      go_wp2_with fail
                      refine (value v2 bb a hb2).mono ?_
                      rintro e v3 ⟨rfl, m3⟩
                      have hW3 := hW2.new m3
                      have ha3 := ha2.new m3
                      have hb3 := hb2.new m3
                      have n3 := n2.trans m3 (fun _ _ => False.elim)
                      clear hW2 ha2 hb2 n2 m3
                      go_wp2_with fail
                      refine (value v3 bw a hW3).mono ?_
                      rintro e v4 ⟨rfl, m4⟩
                      have hW4 := hW3.new m4
                      have ha4 := ha3.new m4
                      have hb4 := hb3.new m4
                      have n4 := n3.trans m4 (fun _ _ => False.elim)
                      clear hW3 ha3 hb3 n3 m4
                      have k1 := below_ v4 (ptr ba) (ptr bw) _ _ (.inl ⟨_, rfl, ha4⟩) (.inl ⟨_, rfl, hW4⟩)
                      rw [HR.out] at k1
                      go_wp2_with fail
                      refine k1.mono ?_
                      clear k1
                      rintro e v5 ⟨rfl, m5⟩
                      have hW5 := hW4.new m5
                      have ha5 := ha4.new m5
                      have hb5 := hb4.new m5
                      have n5 := n4.trans m5 (fun _ _ => False.elim)
                      clear hW4 ha4 hb4 n4 m5
                      have k1 := below_ v5 (ptr bw) (ptr ba) _ _ (.inl ⟨_, rfl, hW5⟩) (.inl ⟨_, rfl, ha5⟩)
                      rw [HR.out] at k1
                      go_wp2_with fail
                      refine k1.mono ?_
                      clear k1
                      rintro e v6 ⟨rfl, m6⟩
                      have hW6 := hW5.new m6
                      have ha6 := ha5.new m6
                      have hb6 := hb5.new m6
                      have n6 := n5.trans m6 (fun _ _ => False.elim)
                      clear hW5 ha5 hb5 n5 m6
                      have k1 := below_ v6 (ptr ba) (ptr bb) _ _ (.inl ⟨_, rfl, ha6⟩) (.inl ⟨_, rfl, hb6⟩)
                      rw [HR.out] at k1
                      go_wp2_with fail
                      refine k1.mono ?_
                      clear k1
                      rintro e v7 ⟨rfl, m7⟩
                      have ha7 := ha6.new m7
                      have hb7 := hb6.new m7
                      have n7 := n6.trans m7 (fun _ _ => False.elim)
                      clear hW6 ha6 hb6 n6 m7
                      have k1 := below_ v7 (ptr bb) (ptr ba) _ _ (.inl ⟨_, rfl, hb7⟩) (.inl ⟨_, rfl, ha7⟩)
                      rw [HR.out] at k1
                      go_wp2_with fail
                      refine k1.mono ?_
                      clear k1
                      rintro e v8 ⟨rfl, m8⟩
                      go_wp2
                      go_ret
                      exact ⟨rfl, n7.trans m8 (fun _ _ => False.elim)⟩

theorem joins_args {H : Type} {enc : TypeId × Value → H} {W : World} {base : Nat} {args : Array Value} {ds : List (DataW H)} {ps : List MemPlace}
    (hval : ∀ (j : Nat) t v, Try.f4.params[j]? = some t → args[j]? = some v → Value.okWide Try.prog W .any base t v)
    (hw : ∀ (j : Nat) t d, Try.f4.params.toList[j]? = some t → ds[j]? = some d → ∀ n ∈ d.weights Try.prog t, n ≤ reachBytes)
    (hA : DataW.TrodAll enc Try.prog W 0 (fun _ => true) true Try.f4.params.toList args.toList ds ps) :
    Calls Try.prog 4 args W fun e w' => LawEnd W e w' := by
  rw [Try.params4] at hA hval hw
  obtain ⟨v0, v1, d0, d1, p0, p1, rfl, rfl, rfl, h0, h1⟩ := trodAll_two hA
  have o0 := hval 0 _ v0 rfl rfl
  have q0 := hw 0 _ d0 rfl rfl
  have o1 := hval 1 _ v1 rfl rfl
  have q1 := hw 1 _ d1 rfl rfl
  obtain ⟨A, n, c, xs, rfl, hx, hnc, hc, hl, hb⟩ := open_struct_ints (B := 16) (s := 2) Try.underlying22 Try.underlying28 (by kernel_rfl) rfl (by omega) (by kernel_rfl)
    (fun j f hj => by match j, hj with | 0, hj => (simp at hj; subst hj; exact Try.underlying3) | 1, hj => (simp at hj; subst hj; exact Try.underlying3)) (by kernel_rfl) (cells_slice Try.underlying22 o0) q0 h0
  obtain ⟨B, m, d, ys, rfl, hy, hmd, hd, hl2⟩ := open_u8s Try.underlying35 Try.underlying5 (by kernel_rfl) (by kernel_rfl) (cells_slice Try.underlying35 o1) q1 h1
  exact joins W A B n c m d xs ys (by omega) (by omega) hb hl hl2
end Counter

namespace lawCounterJoins
theorem own : ownKnob Try.prog.godebug = none := by kernel_rfl
theorem laidOut : laidOutB Try.prog = true := by kernel_rfl
theorem reads : ∀ t ∈ Try.f4.params.toList, Try.prog.readableRec t = true ∧ t < Try.prog.types.size := by
  have h : (Try.f4.params.toList.all fun t => Try.prog.readableRec t && decide (t < Try.prog.types.size)) = true := by kernel_rfl
  intro t ht
  have := List.all_eq_true.1 h t ht
  simpa using this
theorem spec {H : Type} (ds : List (DataW H)) (h : ds.length = 2) : Rows.counterJoinsSpec.fn H ds = { results := [.lit (.bool true)], args := ds } := by
  match ds, h with
  | [d1, d2], _ => rfl
theorem trodAll_len {H : Type} {enc : TypeId × Value → H} {P : Program} {w : World} {base : Nat} {sp : Nat → Bool} {held : Bool} : ∀ (ts : List TypeId) (vs : List Value) (ds : List (DataW H)) (ps : List MemPlace),
    DataW.TrodAll enc P w base sp held ts vs ds ps → ds.length = ts.length
  | [], _, _, _, h => by
    obtain ⟨_, rfl, _⟩ := trodAll_nil h
    rfl
  | _ :: ts, _, _, _, h => by
    obtain ⟨_, vs, _, ds, _, _, _, rfl, _, _, hr⟩ := trodAll_cons h
    simp [trodAll_len ts vs ds _ hr]
theorem contract (H : Type) (enc : TypeId × Value → H) (W : World) (base : Nat) (args : Array Value) (ds gs : List (DataW H)) (before : List MemPlace)
    (hval : ∀ (j : Nat) t v, Try.f4.params[j]? = some t → args[j]? = some v → Value.okWide Try.prog W .any base t v)
    (hW : DataW.Whole enc Try.prog Try.f4.params.toList Rows.counterJoinsSpec.vars false W args.toList ds gs before)
    (hz : (DataW.weightsEach Try.prog (Try.f4.params.toList ++ Rows.counterJoinsSpec.plain.varTypes Try.prog) (ds ++ gs)).all (· ≤ reachBytes) = true) :
    Calls Try.prog 4 args W fun e W' => ∃ v, e = .returned v ∧ Rows.counterJoinsSpec.post enc Try.prog Try.f4 false true false false W args v W' := by
  obtain ⟨p, q, hA, hV, _⟩ := id hW
  have hlen : ds.length = 2 := (trodAll_len _ _ _ _ hA).trans (by kernel_rfl)
  have hV1 : DataW.TrodVars enc Try.prog W (fun _ => true) [] gs q := hV
  obtain ⟨rfl, rfl⟩ := trodVars_none hV1
  have hw : ∀ (j : Nat) t d, Try.f4.params.toList[j]? = some t → ds[j]? = some d → ∀ n ∈ d.weights Try.prog t, n ≤ reachBytes := by
    intro j t d ht hd n hn
    rw [List.append_nil] at hz
    have hlt : j < Try.f4.params.toList.length := (List.getElem?_eq_some_iff.1 ht).1
    have := List.all_eq_true.1 hz n (DataW.weights_mem_each (by rw [List.getElem?_append_left hlt]; exact ht) hd n hn)
    simpa using this
  refine (Counter.joins_args hval hw hA).mono fun e W' ⟨he, hn⟩ => ?_
  exact ⟨_, he, law_post laidOut (tb := 4) rfl Try.underlying4 reads rfl hW (spec ds hlen) hn.below⟩
set_option maxRecDepth 100000 in
theorem lifted (os : Os) (started : os.Started) (H : Type) (enc : TypeId × Value → H) :
    ReturnsInHanded {} Try.checked os 4 .any (Rows.counterJoinsSpec.pre6 enc Try.prog Try.f4 Rows.counterJoinsRow.domain false) (Rows.counterJoinsSpec.post enc Try.prog Try.f4 false true false false) := by
  refine returnsInHanded_of_change_sized (C := Try.checked) own started (by kernel_rfl) Try.func4
    (ChangeSpec.witness6 (enc := enc) (C := Try.checked) (s := Rows.counterJoinsSpec) false ⟨#[], #[.slice none 0 0, .slice none 0 0], []⟩ 60 (by kernel_rfl) (by kernel_rfl) (by kernel_rfl) (by kernel_rfl)) ?_
  intro W base args ds gs before hval hW _ hz _
  exact contract H enc W base args ds gs before hval hW hz
theorem proved : Rows.CounterJoinsSaid :=
  OpenClaim.holds_of_wide 4 Try.f4 rfl rfl rfl rfl rfl rfl rfl ⟨rfl, rfl, rfl, rfl, rfl⟩ rfl rfl rfl rfl rfl (by kernel_rfl) Try.func4 (by kernel_rfl)
    (of_decide_eq_true (by kernel_rfl)) (by unfold Func.isWrapper; first | (rw [if_pos (by decide +kernel)]; kernel_rfl) | (rw [if_neg (by decide +kernel)]; exact ⟨rfl, rfl⟩))
    (fun os started H enc _ => lifted os started H enc)
end lawCounterJoins
end Go.Proofs.Ytihmajdgfalhdaa

/-
  What the program's merkle.Diff computes (no condition beyond the numbers' bounds).
-/
import Derived.Test.YtoddgakhiaokaaaMerkle4
namespace Go.Proofs.Ytoddgakhiaokaaa
open Go.ChangeShapes Go.WideShapes Go.RowKit Go.Maps
namespace Merkle
def kids (x : Int) (k : Nat) : List Int := (List.range k).map fun (i : Nat) => x * 16 + i
theorem kids_succ (x : Int) (k : Nat) : kids x (k + 1) = kids x k ++ [x * 16 + k] := by simp [kids, List.range_succ]
theorem kids_len (x : Int) (k : Nat) : (kids x k).length = k := by simp [kids]
theorem spread_take {l : List Int} {j : Nat} {x : Int} (h : l[j]? = some x) : spread (l.take (j + 1)) = spread (l.take j) ++ kids x 16 := by
  rw [List.take_add_one, h, spread, List.flatMap_append]
  rfl
theorem spread_length (l : List Int) : (spread l).length = 16 * l.length := by
  induction l with
  | nil => rfl
  | cons x l ih =>
    unfold spread at ih ⊢
    rw [List.flatMap_cons, List.length_append, ih, List.length_map, List.length_range, List.length_cons]
    omega
theorem spread_low {l : List Int} {k : Nat} (h : ∀ x ∈ l, 0 ≤ x ∧ x < ((16 ^ k : Nat) : Int)) : ∀ x ∈ spread l, 0 ≤ x ∧ x < ((16 ^ (k + 1) : Nat) : Int) := by
  intro x hx
  unfold spread at hx
  obtain ⟨y, hy, hx⟩ := List.mem_flatMap.1 hx
  obtain ⟨i, hi, rfl⟩ := List.mem_map.1 hx
  have := h y hy
  have := List.mem_range.1 hi
  rw [Nat.pow_succ]
  omega
theorem Is.chg {w w' : World} {v : Value} {T : Lv} {S : Nat → Prop} (h : Is w v T) (hc : Chg S w w') (hs : ∀ g, S g → w.heap.size ≤ g) : Is w' v T :=
  h.new (hc.mono fun g hg e => by have := hs g e; omega)
theorem Is.ptr {w : World} {v : Value} {T : Lv} (h : Is w v T) : ∃ p, v = .pointer p := by
  rcases h.is with ⟨rfl, _⟩ | ⟨lo, b, gs, n, rfl, _⟩
  · exact ⟨_, rfl⟩
  · exact ⟨_, rfl⟩
theorem diff_start (w : World) (tp up : Option Addr) (B : Nat) (hB : w.heap.size = B) :
    OwnI (((w.alloc (.cells #[.pointer tp] 26)).alloc (.cells #[.pointer up] 26)).alloc (.cells #[.int .i64 0] 3)) (B + 2) (.slice (some ⟨B + 1 + 1, 0, none⟩) 1 1) [0] ∧
    New w (((w.alloc (.cells #[.pointer tp] 26)).alloc (.cells #[.pointer up] 26)).alloc (.cells #[.int .i64 0] 3)) ∧
    (((w.alloc (.cells #[.pointer tp] 26)).alloc (.cells #[.pointer up] 26)).alloc (.cells #[.int .i64 0] 3)).cell? ⟨B, 0, none⟩ = some (.pointer tp) ∧
    (((w.alloc (.cells #[.pointer tp] 26)).alloc (.cells #[.pointer up] 26)).alloc (.cells #[.int .i64 0] 3)).cell? ⟨B + 1, 0, none⟩ = some (.pointer up) ∧
    B + 2 ≤ (((w.alloc (.cells #[.pointer tp] 26)).alloc (.cells #[.pointer up] 26)).alloc (.cells #[.int .i64 0] 3)).heap.size := by
  subst hB
  have b1 : Blk (w.alloc (.cells #[.pointer tp] 26)) w.heap.size 26 #[.pointer tp] := heap_alloc_new w _
  generalize hw1 : w.alloc (.cells #[.pointer tp] 26) = w1 at *
  have s1 : w1.heap.size = w.heap.size + 1 := by rw [← hw1]; simp
  have n1 : New w w1 := by rw [← hw1]; exact (Chg.refl _ w).alloc _
  have b2 : Blk (w1.alloc (.cells #[.pointer up] 26)) w1.heap.size 26 #[.pointer up] := heap_alloc_new w1 _
  generalize hw2 : w1.alloc (.cells #[.pointer up] 26) = w2 at *
  have s2 : w2.heap.size = w1.heap.size + 1 := by rw [← hw2]; simp
  have n2 : New w1 w2 := by rw [← hw2]; exact (Chg.refl _ w1).alloc _
  have b3 := heap_alloc_new w2 (.cells #[.int .i64 0] 3)
  have n3 : New w2 (w2.alloc (.cells #[.int .i64 0] 3)) := (Chg.refl _ w2).alloc _
  have e2 : w.heap.size + 1 = w1.heap.size := s1.symm
  have e3 : w.heap.size + 1 + 1 = w2.heap.size := by omega
  refine ⟨⟨rfl, .inr ⟨w2.heap.size, 1, #[.int .i64 0], by rw [e3]; rfl, by omega, b3, Nat.le_refl 1, by simp [maxLen], rfl, rfl⟩⟩, (n1.trans n2 fun _ _ => id).trans n3 fun _ _ => id, ?_, ?_, ?_⟩
  · rw [((b1.chg n2 id).chg n3 id).cell]
    rfl
  · rw [e2, (b2.chg n3 id).cell]
    rfl
  · have := n3.size
    omega
set_option maxHeartbeats 4000000 in
set_option maxRecDepth 100000 in
theorem diff (w : World) (tv uv : Value) (T U : Lv) (ht : Is w tv T) (hu : Is w uv U) :
    Calls Try.prog 11 #[tv, uv] w fun e w' => ∃ v, e = .returned (.tuple #[v, .int .i64 ((diffF T U).2 : Int)]) ∧ OwnI w' w.heap.size v (diffF T U).1 ∧ New w w' := by
  have hmf : ∀ fn first cap w, (Instr.makeFunc fn first cap).run Try.prog w = .ok (.func fn first cap) w := fun _ _ _ _ => rfl
  obtain ⟨tp, rfl⟩ := ht.ptr
  obtain ⟨up, rfl⟩ := hu.ptr
  have HI := Lib.hid (And.intro ht hu)
  obtain ⟨B, hB⟩ : ∃ B, w.heap.size = B := ⟨_, rfl⟩
  have HS := Lib.hid (diff_start w tp up B hB)
  have HB := Lib.hid hB
  clear ht hu hB
  go_enter Try.func11, Try.ntmps11
  go_wp2_with fail
  rw [HB.out]
  go_loopw [6, 7, 8, 9, 11, 12, 14] (fun kv nv _ _ _ _ lv wr => ∃ (l k : Nat) (now : List Int), l ≤ 4 ∧ kv = .int .i64 k ∧ lv = .int .i64 l ∧ OwnI wr (B + 2) nv now ∧ now.length ≤ 16 ^ l ∧ (∀ x ∈ now, 0 ≤ x ∧ x < ((16 ^ l : Nat) : Int)) ∧ k ≤ 65536 * l + 1 ∧ diffGo T U (4 - l) l now k = diffF T U ∧ New w wr ∧ wr.cell? ⟨B, 0, none⟩ = some (.pointer tp) ∧ wr.cell? ⟨B + 1, 0, none⟩ = some (.pointer up) ∧ B + 2 ≤ wr.heap.size) (fun _ _ _ _ _ _ lv _ => 5 - (intOf lv).toNat)
  case atStart => exact ⟨0, 1, [0], by omega, rfl, rfl, HS.out.1, by simp, by simp, by omega, rfl, HS.out.2.1, HS.out.2.2.1, HS.out.2.2.2.1, HS.out.2.2.2.2⟩
  case round =>
    clear HS
    obtain ⟨l, k, now, hl, rfl, rfl, ho, hlen, hlow, hk, hgo, hnw, ct, cu, hBr⟩ := hrel
    have hp : 16 ^ l ≤ 65536 := Nat.pow_le_pow_right (by omega) hl
    have nl : New wr (wr.alloc (.cells #[.int .i64 (l : Int)] 3)) := (Chg.refl _ wr).alloc _
    have bl : Blk (wr.alloc (.cells #[.int .i64 (l : Int)] 3)) wr.heap.size 3 #[.int .i64 (l : Int)] := heap_alloc_new wr _
    have hsl := nl.size
    have hol : ∀ g, u7.ownBlock = some g → B + 2 ≤ g ∧ g < wr.heap.size := fun g hg => own_lt ho hg
    have hBw := HB.out
    have hbw := hnw.size
    have ol := own_chg ho nl fun _ _ => id
    have nwl := hnw.trans nl fun _ _ => id
    have ctl := (nl.cell (p := ⟨B, 0, none⟩) (block_lt_of_cell ct) id).trans ct
    have cul := (nl.cell (p := ⟨B + 1, 0, none⟩) (block_lt_of_cell cu) id).trans cu
    have C := Lib.hid (Iter.delete _ (B + 2) u7 now ol (ptr B) (ptr wr.heap.size) (ptr (B + 1)) (fun x => sumAt T l x == sumAt U l x) (fun x hx W hW => by
      have hx := hlow x hx
      have nW : New w W := nwl.trans hW fun g hlt hg => by have := hol g hg; omega
      exact test W B wr.heap.size (B + 1) _ _ T U l hl x (by omega) (by omega) (HI.out.1.new nW) (HI.out.2.new nW)
        ((hW.cell (p := ⟨B, 0, none⟩) (block_lt_of_cell ctl) (fun hg => by have := hol B hg; omega)).trans ctl)
        ((hW.cell (p := ⟨wr.heap.size, 0, none⟩) bl.lt (fun hg => by have := hol wr.heap.size hg; omega)).trans (bl.cell 0))
        ((hW.cell (p := ⟨B + 1, 0, none⟩) (block_lt_of_cell cul) (fun hg => by have := hol (B + 1) hg; omega)).trans cul)) (by omega))
    have hl5 : (l : Int) < 5 := by omega
    have hlc : (wr.alloc (.cells #[.int .i64 (l : Int)] 3)).cell? ⟨wr.heap.size, 0, none⟩ = some (.int .i64 (l : Int)) := bl.cell 0
    have HF := Lib.hid (And.intro hlen (And.intro hlow (And.intro hgo (And.intro hol (And.intro nwl (And.intro ctl (And.intro cul hlc)))))))
    clear hlen hlow hgo hol nwl ctl cul hlc ho ol nl bl ct cu hBw
    go_wp2_with fail
    refine C.out.mono ?_
    rintro e w3 ⟨v3, rfl, o3, hob, c3⟩
    have n3 : New w w3 := HF.out.2.2.2.2.1.trans c3 fun g hlt hg => by have := HF.out.2.2.2.1 g hg; have := HB.out; omega
    have ct3 := (c3.cell (p := ⟨B, 0, none⟩) (block_lt_of_cell HF.out.2.2.2.2.2.1) (fun hg => by have := HF.out.2.2.2.1 B hg; omega)).trans HF.out.2.2.2.2.2.1
    have cu3 := (c3.cell (p := ⟨B + 1, 0, none⟩) (block_lt_of_cell HF.out.2.2.2.2.2.2.1) (fun hg => by have := HF.out.2.2.2.1 (B + 1) hg; omega)).trans HF.out.2.2.2.2.2.2.1
    have hlc := (c3.cell (p := ⟨wr.heap.size, 0, none⟩) (block_lt_of_cell HF.out.2.2.2.2.2.2.2) (fun hg => by have := HF.out.2.2.2.1 wr.heap.size hg; omega)).trans HF.out.2.2.2.2.2.2.2
    have hB3 : B + 2 ≤ w3.heap.size := by have := c3.size; omega
    have hm1 : unlike T U l now = now.filter (fun x => !(sumAt T l x == sumAt U l x)) := rfl
    rw [← hm1] at o3
    have hml : (unlike T U l now).length ≤ 16 ^ l := Nat.le_trans (List.length_filter_le ..) HF.out.1
    have hmb : ∀ x ∈ unlike T U l now, 0 ≤ x ∧ x < ((16 ^ l : Nat) : Int) := fun x hx => HF.out.2.1 x (List.mem_filter.1 hx).1
    have hgo := HF.out.2.2.1
    by_cases h4 : l = 4
    · subst h4
      have hgo2 : (unlike T U 4 now, k) = diffF T U := hgo
      have HZ := Lib.hid (And.intro hgo2 (And.intro o3 n3))
      clear hgo hgo2 o3 n3 ct3 cu3 hml hmb hm1 c3
      go_wp2_with fail
      go_ret2
      refine ⟨v3, ?_, own_mono (by rw [← HZ.out.1]; exact HZ.out.2.1) (by have := HB.out; omega), HZ.out.2.2⟩
      rw [← HZ.out.1]
      rfl
    · have hne : ((l : Int) == 4) = false := by simp <;> omega
      obtain ⟨f, hf⟩ : ∃ f, 4 - l = f + 1 := ⟨3 - l, by omega⟩
      have hf2 : 4 - (l + 1) = f := by omega
      rw [hf, diffGo] at hgo
      have hp4 : 16 ^ l ≤ 4096 := Nat.le_trans (Nat.pow_le_pow_right (by omega) (show l ≤ 3 by omega)) (by decide)
      obtain ⟨m, hm⟩ : ∃ m, unlike T U l now = m := ⟨_, rfl⟩
      rw [hm] at hgo o3 hml hmb
      obtain ⟨n, hn⟩ : ∃ n, m.length = n := ⟨_, rfl⟩
      have hsp := spread_low hmb
      have HN := Lib.hid hn
      have H3 := Lib.hid (And.intro hgo (And.intro o3 (And.intro n3 (And.intro ct3 (And.intro cu3 (And.intro hlc (And.intro hml (And.intro hmb hsp))))))))
      obtain ⟨A, c, rfl⟩ : ∃ A c, v3 = .slice A n c := by
        rw [← hn]
        rcases o3.2 with ⟨rfl, h0⟩ | ⟨g, cap, cur, rfl, _⟩
        · exact ⟨none, 0, by rw [h0]⟩
        · exact ⟨_, cap, rfl⟩
      have hnb : n ≤ 4096 := by omega
      clear hgo o3 n3 ct3 cu3 hml hmb hsp hm1 hm hn c3 HF C hob
      generalize wr = wo at *
      go_wp2_with fail
      go_loopw [9, 11, 12, 24] (fun nv _ _ jv wi => ∃ (j : Nat), j ≤ n ∧ jv = .int .i64 j ∧ OwnI wi w3.heap.size nv (spread (m.take j)) ∧ New w3 wi) (fun _ _ _ jv _ => n - (intOf jv).toNat)
      case atStart => exact ⟨0, by omega, rfl, ⟨rfl, .inl ⟨rfl, rfl⟩⟩, Chg.refl _ _⟩
      case round =>
        obtain ⟨j, hj, rfl, ox, nx⟩ := hrel
        by_cases hlt : j < n
        · obtain ⟨x, hx⟩ : ∃ x, m[j]? = some x := ⟨_, List.getElem?_eq_getElem (by rw [HN.out]; exact hlt)⟩
          obtain ⟨g, c', hvv, _, _⟩ := World.ownsRow.form H3.out.2.1 (by rw [HN.out]; omega)
          injection hvv with h1 h2 h3
          subst h1 h3
          clear h2
          have ho := H3.out.2.1
          unfold OwnI at ho
          rw [HN.out] at ho
          have hc := World.ownsRow.cellAt (own_chg ho nx fun _ _ => id) j (by omega)
          clear ho
          rw [ints_get, hx] at hc
          have hb := H3.out.2.2.2.2.2.2.2.1 x (List.mem_of_getElem? hx)
          obtain ⟨y, rfl⟩ := Int.eq_ofNat_of_zero_le hb.1
          have hy : y < 4096 := by omega
          have hc' : wr.cell? ⟨g, j, none⟩ = some (.int .i64 (y : Int)) := hc
          have hst := spread_take hx
          have hjn : (j : Int) < n := by omega
          have hsl : (spread (m.take j)).length = 16 * j := by rw [spread_length, List.length_take, Nat.min_eq_left (by rw [HN.out]; omega)]
          have HX := Lib.hid (And.intro ox (And.intro nx (And.intro hst hsl)))
          clear ox nx hst hsl hx hc hb
          generalize wr = wi at *
          go_wp2_with fail
          go_loopw [9, 12, 28] (fun nv _ iv wj => ∃ (i : Nat), i ≤ 16 ∧ iv = .int .i64 i ∧ OwnI wj w3.heap.size nv (spread (m.take j) ++ kids (y : Int) i) ∧ New w3 wj) (fun _ _ iv _ => 16 - (intOf iv).toNat)
          case atStart => exact ⟨0, by omega, rfl, by rw [show kids (y : Int) 0 = [] from rfl, List.append_nil]; exact HX.out.1, HX.out.2.1⟩
          case round =>
            obtain ⟨i, hi, rfl, oj, nj⟩ := hrel
            by_cases hi16 : i < 16
            · have hor : bits .or .i64 ((y : Int) * 16) (i : Int) = (y : Int) * 16 + (i : Int) := by
                rw [show (y : Int) * 16 = ((y * 16 : Nat) : Int) by omega, i64_or_nat _ _ (by omega) (by omega), Nat.or_comm, or_mul i y 4 16 rfl hi16]
                omega
              have hi16i : (i : Int) < 16 := by omega
              have hbase : w3.heap.size ≤ wr.heap.size := nj.size
              have HJ := Lib.hid (And.intro oj nj)
              clear oj nj
              go_wp2_with (at_builtin; refine stop ?_)
              delta Stop
              refine append_i64 _ rfl _ _ rfl w3.heap.size _ (spread (m.take j) ++ kids (y : Int) i) rfl (World.ownsRow.alloc HJ.out.1 _) _ _ _ _ [(y : Int) * 16 + (i : Int)] rfl (Reads.of_row (n := 1) (size := 1) (heap_alloc_new wr _) (by simp)) (by rw [List.length_append, kids_len, HX.out.2.2.2]; simp; omega) (by simp; omega) ?_
              intro v6 w6 o6 g6 a6
              rw [List.append_assoc, ← kids_succ] at o6
              have n6 := (HJ.out.2.alloc (.cells #[.int .i64 ((y : Int) * 16 + (i : Int))] 3)).grown g6 fun g e hlt => by have := (own_lt HJ.out.1 e).1; omega
              have H6 := Lib.hid (And.intro o6 n6)
              clear o6 n6 g6 a6
              go_wp2_with fail
              go_roundw
              case rel => exact ⟨i + 1, by omega, by go_num, H6.out.1, H6.out.2⟩
              case measure => simp [intOf]; omega
            · obtain rfl : i = 16 := by omega
              rw [show spread (m.take j) ++ kids (y : Int) 16 = spread (m.take (j + 1)) from HX.out.2.2.1.symm] at oj
              have HZ := Lib.hid (And.intro oj nj)
              clear oj nj
              go_wp2_with fail
              go_roundw
              case rel => exact ⟨j + 1, by omega, by go_num, HZ.out.1, HZ.out.2⟩
              case measure => simp [intOf]; omega
        · obtain rfl : j = n := by omega
          rw [List.take_of_length_le (by rw [HN.out]; omega)] at ox
          obtain ⟨A', c', rfl⟩ : ∃ A' c', u9 = .slice A' (spread m).length c' := by
            rcases ox.2 with ⟨rfl, h0⟩ | ⟨g, cap, cur, rfl, _⟩
            · exact ⟨none, 0, by rw [h0]⟩
            · exact ⟨_, cap, rfl⟩
          have hsl : (spread m).length = 16 * j := by rw [spread_length, HN.out]
          have hml := H3.out.2.2.2.2.2.2.1
          rw [HN.out] at hml
          have n4 := H3.out.2.2.1.trans nx fun _ _ => id
          have ct4 := (nx.cell (p := ⟨B, 0, none⟩) (block_lt_of_cell H3.out.2.2.2.1) id).trans H3.out.2.2.2.1
          have cu4 := (nx.cell (p := ⟨B + 1, 0, none⟩) (block_lt_of_cell H3.out.2.2.2.2.1) id).trans H3.out.2.2.2.2.1
          have hs4 := nx.size
          have hgo := H3.out.1
          rw [hsl] at hgo
          have HZ := Lib.hid (And.intro (own_mono ox hB3) (And.intro n4 (And.intro ct4 (And.intro cu4 hgo))))
          have hl4 : l < 4 := by omega
          have hsp := H3.out.2.2.2.2.2.2.2.2
          have HSP := Lib.hid (And.intro hsp hsl)
          rw [hsl]
          clear ox nx n4 ct4 cu4 hsp hgo hsl
          go_wp2_with fail
          go_roundw
          case rel => exact ⟨l + 1, k + 16 * j, spread m, by omega, by go_num, by go_num, by rw [← HSP.out.2]; exact HZ.out.1, by rw [HSP.out.2, Nat.pow_succ]; omega, HSP.out.1, by omega, by rw [hf2]; exact HZ.out.2.2.2.2, HZ.out.2.1, HZ.out.2.2.1, HZ.out.2.2.2.1, by omega⟩
          case measure => simp [intOf]; omega
end Merkle
end Go.Proofs.Ytoddgakhiaokaaa

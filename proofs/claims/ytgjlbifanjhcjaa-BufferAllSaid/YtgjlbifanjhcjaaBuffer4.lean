/-
  What the program's buffer package computes: whether one is a peer, what all are known to know (no condition beyond the sizes).
-/
import Derived.Test.YtgjlbifanjhcjaaBuffer3
namespace Go.Proofs.Ytgjlbifanjhcjaa
open Go.ChangeShapes Go.WideShapes Go.RowKit Go.Deep
namespace Buf
open Vec
attribute [local go_sem ↓] loadRow0 storeRow0
/-- a vector whose first k numbers are x, the others 0 -/
def fillL (x : Int) (k : Nat) : List Int := (List.range 16).map fun j => if j < k then x else 0
theorem fill_len (x : Int) (k : Nat) : (fillL x k).length = 16 := by simp [fillL]
theorem fill_zero (x : Int) : fillL x 0 = zeros := by simp [fillL, zeros, List.range_succ, List.replicate]
theorem fill_all (x : Int) : fillL x 16 = List.replicate 16 x := by simp [fillL, List.range_succ, List.replicate]
theorem fill_set (x : Int) (k : Nat) (hk : k < 16) : (ints (fillL x k)).toArray.setIfInBounds k (.int .i64 x) = (ints (fillL x (k + 1))).toArray := by
  rw [setIfInBounds_toArray]
  congr 1
  apply List.ext_getElem?
  intro j
  rw [List.getElem?_set]
  simp only [ints_get, ints_length, fill_len, hk, if_true]
  by_cases h16 : j < 16
  · simp only [fillL, List.getElem?_map, List.getElem?_range h16, Option.map_some]
    by_cases e : k = j
    · subst e
      simp
    · rw [if_neg e]
      by_cases h : j < k
      · rw [if_pos h, if_pos (by omega)]
      · rw [if_neg h, if_neg (by omega)]
  · simp only [fillL, List.getElem?_map, List.getElem?_eq_none (show (List.range 16).length ≤ j by simp; omega), Option.map_none]
    rw [if_neg (by omega)]
set_option maxHeartbeats 1000000 in
theorem peer_yes (w : World) (lo b n me : Nat) (acks : List (List Int)) (v : Value) (es : List Ev) (h : At w lo b n me acks v es) (p : Nat) (hp : p < n) (hne : p ≠ me) :
    Calls Try.prog 17 #[ptr b, .int .i64 (p : Int)] w fun e w' => e = .returned (.bool true) ∧ w = w' := by
  have c0 := h.cell0
  have c1 := h.cell1
  have a1 : decide ((p : Int) < n) = true := by simp <;> omega
  have a2 : ((p : Int) != (me : Int)) = true := by simp <;> omega
  have a3 : decide (p < n) = true := by simp <;> omega
  have a4 : decide ((0 : Int) ≤ p) = true := by simp
  clear h hp
  go_enter Try.func17, Try.ntmps17
  go_wp2
  go_ret
  exact ⟨rfl, rfl⟩
set_option maxHeartbeats 1000000 in
theorem peer_me (w : World) (lo b n : Nat) (acks : List (List Int)) (v : Value) (es : List Ev) (h : At w lo b n 0 acks v es) (hn : 0 < n) :
    Calls Try.prog 17 #[ptr b, .int .i64 0] w fun e w' => e = .returned (.bool false) ∧ w = w' := by
  have c0 := h.cell0
  have c1 := h.cell1
  have a1 : decide ((0 : Int) < n) = true := by simp <;> omega
  have a3 : decide (0 < n) = true := by simp <;> omega
  clear h
  go_enter Try.func17, Try.ntmps17
  go_wp2
  go_ret
  exact ⟨rfl, rfl⟩
/-- what each peer, of the first k, is known to know -/
def stab (me : Nat) (acks : List (List Int)) : Nat → List Int
  | 0 => List.replicate 16 4611686018427387904
  | k + 1 => if k = me then stab me acks k else meet (stab me acks k) (acks.getD k [])
theorem stab_len (me : Nat) (acks : List (List Int)) : ∀ k, (stab me acks k).length = 16
  | 0 => by simp [stab]
  | k + 1 => by
    unfold stab
    split
    · exact stab_len me acks k
    · exact meet_length _ _
set_option maxHeartbeats 4000000 in
set_option maxRecDepth 100000 in
theorem stable (w : World) (lo b n me : Nat) (acks : List (List Int)) (v : Value) (es : List Ev) (h : At w lo b n me acks v es) :
    Calls Try.prog 12 #[ptr b] w fun e w' => e = .returned (vec (stab me acks n)) ∧ New w w' := by
  have H := Lib.hid h
  have hn16 := h.hn
  have ha16 := h.ha
  clear h
  go_enter Try.func12, Try.ntmps12
  go_wp2_with fail
  go_loopw [4, 9] (fun _ i wr => ∃ (k : Nat), k ≤ 16 ∧ i = .int .i64 k ∧ Blk wr (w.heap.size + 1) 27 (ints (fillL 4611686018427387904 k)).toArray ∧ Blk wr w.heap.size 27 (ints zeros).toArray ∧ New w wr) (fun _ i _ => 16 - (intOf i).toNat)
  case atStart =>
    refine ⟨0, by omega, rfl, ?_, ?_, ((Chg.refl _ w).alloc _).alloc _⟩
    · rw [fill_zero]
      have := Blk.new (w.alloc (.cells (ints zeros).toArray 27)) 27 (ints zeros).toArray
      rw [World.size_alloc] at this
      exact this
    · exact (Blk.new w 27 (ints zeros).toArray).alloc _
  case round =>
    obtain ⟨k, hk, rfl, bv, bz, nw⟩ := hrel
    by_cases hlt : k < 16
    · have hc : ∃ u, wr.cell? ⟨w.heap.size + 1, k, none⟩ = some u := ⟨_, (bv.cell k).trans (by rw [List.getElem?_toArray, List.getElem?_eq_getElem (by rw [ints_length, fill_len]; exact hlt)])⟩
      obtain ⟨u, hc⟩ := hc
      have hf := bv.frozen k
      have hb2 := bv.set_ k (.int .i64 4611686018427387904)
      rw [fill_set _ _ hlt] at hb2
      have cs := (Chg.refl (fun g => g = w.heap.size + 1) wr).setCell (p := ⟨w.heap.size + 1, k, none⟩) (fun _ => rfl) (.int .i64 4611686018427387904)
      have HS := Lib.hid (And.intro hb2 (And.intro (bz.chg cs (by omega)) (nw.trans cs fun g hg e => by omega)))
      have hki : (k : Int) < 16 := by omega
      clear bv bz nw hb2 cs
      go_wp2_with fail
      go_roundw
      case rel => exact ⟨k + 1, by omega, by go_num, HS.out⟩
      case measure => simp [intOf]; omega
    · obtain rfl : k = 16 := by omega
      rw [fill_all] at bv
      rw [show ((16 : Nat) : Int) = 16 from rfl]
      have hat := H.out.new nw
      have c0 := hat.cell0
      have HS := Lib.hid (And.intro bv (And.intro bz nw))
      clear bv bz nw hat
      go_wp2_with fail
      go_loopw [5, 19] (fun _ i wr => ∃ (k : Nat), k ≤ n ∧ i = .int .i64 k ∧ Blk wr (w.heap.size + 1) 27 (ints (stab me acks k)).toArray ∧ Blk wr w.heap.size 27 (ints zeros).toArray ∧ New w wr) (fun _ i _ => n - (intOf i).toNat)
      case atStart => exact ⟨0, by omega, rfl, HS.out⟩
      case round =>
        clear HS c0
        obtain ⟨k, hk, rfl, bv, bz, nw⟩ := hrel
        by_cases hlt : k < n
        · have hat := H.out.new nw
          have c1 := hat.cell1
          by_cases hme : k = me
          · subst hme
            have hs : stab k acks (k + 1) = stab k acks k := by rw [stab, if_pos rfl]
            rw [← hs] at bv
            have HS := Lib.hid (And.intro bv (And.intro bz nw))
            clear bv bz nw hat hs
            go_wp2_with fail
            go_roundw
            case rel => exact ⟨k + 1, by omega, by go_num, HS.out⟩
            case measure => simp [intOf]; omega
          · have hne : ((k : Int) != (me : Int)) = true := by simp <;> omega
            obtain ⟨a, ha⟩ : ∃ a, acks[k]? = some a := ⟨_, List.getElem?_eq_getElem (by omega)⟩
            have hl := hat.new ((Chg.refl (fun _ => False) wr).drew)
            have l1 := hl.ld ha
            have l2 := ldB (stab_len me acks k) bv.drew
            have hk16 : (k : Int) < 16 := by omega
            have hal := hat.hr a (List.mem_of_getElem? ha)
            have C := Lib.hid (meet_ wr.drew _ _ (stab_len me acks k) hal)
            have hs : stab me acks (k + 1) = meet (stab me acks k) a := by rw [stab, if_neg hme, List.getD_eq_getElem?_getD, ha]; rfl
            have HS := Lib.hid (And.intro bv.drew (And.intro bz.drew (And.intro nw.drew (And.intro hs (stab_len me acks k)))))
            clear bv bz nw hat hl hal ha hs
            generalize stab me acks k = sk at *
            go_wp2_with fail
            refine wp_region_tail 7 (by kernel_rfl) (by kernel_rfl) ?_
            simp only [List.take_succ_cons, List.take_zero, List.drop_succ_cons, List.drop_zero]
            repeat still_step
            refine wpStill_nil ?_
            go_wp2_with fail
            refine C.out.mono ?_
            rintro e w4 ⟨rfl, n4⟩
            obtain ⟨hst, b4⟩ := stB HS.out.2.2.2.2 (meet_length sk a) (HS.out.1.chg n4 id)
            have c4 : Chg (fun g => g = w.heap.size + 1) w4 (w4.setCells (w.heap.size + 1) 0 (ints (meet sk a))) := Chg.setCells _ _ _ (Chg.refl _ _) fun _ => rfl
            have hs4 := n4.size
            have hsw := HS.out.2.2.1.size
            have b5 : Blk (w4.setCells (w.heap.size + 1) 0 (ints (meet sk a))) (w.heap.size + 1) 27 (ints (stab me acks (k + 1))).toArray := by rw [HS.out.2.2.2.1]; exact b4
            have HZ := Lib.hid (And.intro b5 (And.intro ((HS.out.2.1.chg n4 id).chg c4 (by omega)) ((HS.out.2.2.1.trans n4 fun _ _ => id).trans c4 fun g hg e => by omega)))
            clear b4 b5 c4 n4 C
            go_wp2_with fail
            go_roundw
            case rel => exact ⟨k + 1, by omega, by go_num, HZ.out⟩
            case measure => simp [intOf]; omega
        · obtain rfl : k = n := by omega
          have l2 := ldB (stab_len me acks k) bv
          have hsl := stab_len me acks k
          obtain ⟨hst, b4⟩ := stB (show zeros.length = 16 by simp [zeros]) hsl bz
          have c4 : Chg (fun g => g = w.heap.size) wr (wr.setCells w.heap.size 0 (ints (stab me acks k))) := Chg.setCells _ _ _ (Chg.refl _ _) fun _ => rfl
          have HZ := Lib.hid (And.intro b4 (nw.trans c4 fun g hg e => by omega))
          have HSL := Lib.hid hsl
          obtain ⟨sk, hsk⟩ : ∃ sk, stab me acks k = sk := ⟨_, rfl⟩
          have HSK := Lib.hid hsk
          clear bv bz nw b4 c4 hsl
          rw [hsk] at l2 hst HZ HSL
          clear hsk
          go_wp2_with fail
          exact bodyPost_ret (resV rfl _ _ w.heap.size _ _ HSL.out rfl HZ.out.1) rfl ⟨by rw [HSK.out], HZ.out.2⟩
end Buf
end Go.Proofs.Ytgjlbifanjhcjaa

/-
  What the program's merkle package computes of a tree: New, sums, and all above a key reckoned anew (no condition beyond the numbers' bounds).
-/
import Derived.Test.YtoddgakhiaokaaaOwn
import Derived.Test.YtoddgakhiaokaaaCrcK
import Derived.Test.YtoddgakhiaokaaaMerklePlain
namespace Go.Proofs.Ytoddgakhiaokaaa
open Go.ChangeShapes Go.WideShapes Go.RowKit Go.Maps
namespace Merkle
abbrev ptr (b : Nat) : Value := .pointer (some ⟨b, 0, none⟩)
abbrev MapU (w : World) (b n : Nat) (M : Int → Option Int) : Prop := MapAt Try.prog 3 24 .i64 .u32 w b n M
theorem zero_u32 (w : World) : (zeroValue 24).run Try.prog w = .ok (.int .u32 0) w := by kernel_rfl
def treeC (gs : Nat → Nat) : Array Value := #[.map (some (gs 0)), .map (some (gs 1)), .map (some (gs 2)), .map (some (gs 3)), .map (some (gs 4))]
/-- the tree T lies at block b, its maps at the blocks gs -/
structure At (w : World) (lo b : Nat) (gs : Nat → Nat) (n : Nat) (T : Lv) : Prop where
  blk : Blk w b 49 (treeC gs)
  maps : ∀ l, l ≤ 4 → MapU w (gs l) n (T l)
  inj : ∀ l m, l ≤ 4 → m ≤ 4 → gs l = gs m → l = m
  low : lo ≤ b ∧ ∀ l, l ≤ 4 → lo ≤ gs l
section
variable {w w' : World} {lo b n : Nat} {gs : Nat → Nat} {T : Lv} {S : Nat → Prop}
/-- the tree's maps -/
def Foot (gs : Nat → Nat) (k : Nat) : Prop := ∃ l, l ≤ 4 ∧ k = gs l
theorem At.chg (h : At w lo b gs n T) (hc : Chg S w w') (hb : ¬ S b) (hg : ∀ l, l ≤ 4 → ¬ S (gs l)) : At w' lo b gs n T :=
  ⟨h.blk.chg hc hb, fun l hl => (h.maps l hl).chg hc (hg l hl), h.inj, h.low⟩
theorem At.new (h : At w lo b gs n T) (hc : New w w') : At w' lo b gs n T := h.chg hc id fun _ _ => id
theorem At.mono {m : Nat} (h : At w lo b gs n T) (hm : n ≤ m) : At w lo b gs m T := ⟨h.blk, fun l hl => (h.maps l hl).mono hm, h.inj, h.low⟩
theorem At.cell (h : At w lo b gs n T) {l : Nat} (hl : l ≤ 4) : w.cell? ⟨b, l, none⟩ = some (.map (some (gs l))) := by
  rw [h.blk.cell]
  match l, hl with
  | 0, _ => rfl
  | 1, _ => rfl
  | 2, _ => rfl
  | 3, _ => rfl
  | 4, _ => rfl
theorem At.kind (h : At w lo b gs n T) {l : Nat} (hl : l ≤ 4) {x c : Int} (hc : T l x = some c) : 0 ≤ c ∧ c ≤ 4294967295 := by
  have := (h.maps l hl).kind x c hc
  simp [inKind, Lit.wf, IntKind.min, IntKind.max, IntKind.signed, IntKind.bits] at this
  omega
theorem At.sum_kind (h : At w lo b gs n T) {l : Nat} (hl : l ≤ 4) (x : Int) : 0 ≤ sumAt T l x ∧ sumAt T l x ≤ 4294967295 := by
  unfold sumAt
  cases hc : T l x with
  | none => simp
  | some c => exact h.kind hl hc
end
theorem inI64 {x : Int} (h1 : -9223372036854775808 ≤ x) (h2 : x ≤ 9223372036854775807) : inKind .i64 x := by
  simp [inKind, Lit.wf, IntKind.min, IntKind.max, IntKind.signed, IntKind.bits]
  omega
theorem inU32 {x : Int} (h1 : 0 ≤ x) (h2 : x ≤ 4294967295) : inKind .u32 x := by
  simp [inKind, Lit.wf, IntKind.min, IntKind.max, IntKind.signed, IntKind.bits]
  omega
def newC (b k : Nat) : Array Value := ((List.range 5).map fun (l : Nat) => if l < k then Value.map (some (b + 1 + l)) else Value.map none).toArray
set_option maxHeartbeats 800000 in
theorem new_ (w : World) : Calls Try.prog 8 #[] w fun e w' => ∃ gs, e = .returned (ptr w.heap.size) ∧ At w' w.heap.size w.heap.size gs 0 (fun _ _ => none) ∧ New w w' := by
  have hmm := @run_makeMap Try.prog
  have hz : ∀ W : World, (zeroValue 49).run Try.prog W = .ok (.agg #[.map none, .map none, .map none, .map none, .map none]) W := fun W => by kernel_rfl
  go_enter Try.func8, Try.ntmps8
  go_wp2_with fail
  go_loopw [2, 5] (fun _ i wr => ∃ (k : Nat), k ≤ 5 ∧ i = .int .i64 k ∧ Blk wr w.heap.size 49 (newC w.heap.size k) ∧ (∀ l, l < k → MapU wr (w.heap.size + 1 + l) 0 fun _ => none) ∧ wr.heap.size = w.heap.size + 1 + k ∧ New w wr) (fun _ i _ => 5 - (intOf i).toNat)
  case atStart => exact ⟨0, by omega, rfl, Blk.new w _ _, fun l hl => by omega, by simp, (Chg.refl _ _).alloc _⟩
  case round =>
    obtain ⟨k, hk, rfl, hb, hm, hs, hn⟩ := hrel
    by_cases hlt : k < 5
    · have hlp : (k : Int) < 5 := by omega
      have m1 := (Chg.refl (fun _ => False) wr).alloc (.map #[] 0)
      have hb1 := hb.alloc (.map #[] 0)
      have hf := hb1.frozen k
      have hsz : (newC w.heap.size k).size = 5 := by simp [newC]
      have hc : ∃ u, (wr.alloc (.map #[] 0)).cell? ⟨w.heap.size, k, none⟩ = some u := by
        rw [hb1.cell]
        exact ⟨_, Array.getElem?_eq_getElem (by omega)⟩
      obtain ⟨u, hc⟩ := hc
      have hb2 := hb1.set_ k (.map (some wr.heap.size))
      have hset : (newC w.heap.size k).setIfInBounds k (.map (some wr.heap.size)) = newC w.heap.size (k + 1) := by
        rw [hs]
        have h5 : k = 0 ∨ k = 1 ∨ k = 2 ∨ k = 3 ∨ k = 4 := by omega
        rcases h5 with rfl | rfl | rfl | rfl | rfl <;> rfl
      rw [hset] at hb2
      have c2 := (Chg.refl (fun g => g = w.heap.size) (wr.alloc (.map #[] 0))).setCell (p := ⟨w.heap.size, k, none⟩) (fun _ => rfl) (.map (some wr.heap.size))
      have hmade : MapU (wr.alloc (.map #[] 0)) (w.heap.size + 1 + k) 0 fun _ => none := by rw [← hs]; exact MapAt.made wr
      have hm2 : ∀ l, l < k + 1 → MapU ((wr.alloc (.map #[] 0)).setCell ⟨w.heap.size, k, none⟩ (.map (some wr.heap.size))) (w.heap.size + 1 + l) 0 fun _ => none := fun l hl => by
        by_cases e : l < k
        · exact ((hm l e).chg m1 id).chg c2 (by omega)
        · rw [show l = k by omega]
          exact hmade.chg c2 (by omega)
      have n2 := (hn.trans m1 fun _ _ => id).trans c2 fun g hg e => by omega
      have hs2 : ((wr.alloc (.map #[] 0)).setCell ⟨w.heap.size, k, none⟩ (.map (some wr.heap.size))).heap.size = w.heap.size + 1 + (k + 1) := by simp [World.setCell, hs]; omega
      have H := Lib.hid (And.intro hb2 (And.intro hm2 (And.intro hs2 n2)))
      clear hb hm hs hn hb1 hb2 hset c2 hm2 n2 hs2 m1 hsz hmade
      go_wp2_with fail
      go_roundw
      case rel => exact ⟨k + 1, by omega, by go_num, H.out.1, H.out.2.1, H.out.2.2.1, H.out.2.2.2⟩
      case measure => simp [intOf]; omega
    · obtain rfl : k = 5 := by omega
      have H := Lib.hid (And.intro hb (And.intro hm hn))
      clear hb hm hs hn
      go_wp2_with fail
      go_ret
      exact ⟨fun l => w.heap.size + 1 + l, rfl, ⟨H.out.1, fun l hl => H.out.2.1 l (by omega), fun l m _ _ e => by omega, by omega, fun l _ => by omega⟩, H.out.2.2⟩
theorem sum_nil (w : World) (l x : Value) : Calls Try.prog 17 #[.pointer none, l, x] w fun e w' => e = .returned (.int .u32 0) ∧ w = w' := by
  go_enter Try.func17, Try.ntmps17
  go_wp2
  go_ret
  exact ⟨rfl, rfl⟩
theorem sum (w : World) (lo b n : Nat) (gs : Nat → Nat) (T : Lv) (h : At w lo b gs n T) (l : Nat) (hl : l ≤ 4) (x : Int) (h1 : -9223372036854775808 ≤ x) (h2 : x ≤ 9223372036854775807) :
    Calls Try.prog 17 #[ptr b, .int .i64 (l : Int), .int .i64 x] w fun e w' => e = .returned (.int .u32 (sumAt T l x)) ∧ w = w' := by
  have hc := h.cell hl
  have hk := (h.maps l hl).look Try.underlying39 Try.underlying3 Try.underlying24 zero_u32 (inI64 h1 h2)
  have hl4 : (l : Int) < 5 := by omega
  rw [show (T l x).getD 0 = sumAt T l x from rfl] at hk
  generalize sumAt T l x = s at *
  generalize gs l = g at *
  clear h
  go_enter Try.func17, Try.ntmps17
  go_wp2
  go_ret
  exact ⟨rfl, rfl⟩
theorem root_nil (w : World) : Calls Try.prog 14 #[.pointer none] w fun e w' => e = .returned (.int .u32 0) ∧ w = w' := by
  go_enter Try.func14, Try.ntmps14
  go_wp2_with fail
  refine (sum_nil _ _ _).mono ?_
  rintro e w1 ⟨rfl, rfl⟩
  go_wp2
  go_ret
  exact ⟨rfl, rfl⟩
theorem root (w : World) (lo b n : Nat) (gs : Nat → Nat) (T : Lv) (h : At w lo b gs n T) : Calls Try.prog 14 #[ptr b] w fun e w' => e = .returned (.int .u32 (sumAt T 0 0)) ∧ w = w' := by
  have C := sum w lo b n gs T h 0 (by omega) 0 (by omega) (by omega)
  rw [Int.natCast_zero] at C
  have C := Lib.hid C
  clear h
  go_enter Try.func14, Try.ntmps14
  go_wp2_with fail
  refine C.out.mono ?_
  rintro e w1 ⟨rfl, rfl⟩
  go_wp2
  go_ret
  exact ⟨rfl, rfl⟩
end Merkle
end Go.Proofs.Ytoddgakhiaokaaa

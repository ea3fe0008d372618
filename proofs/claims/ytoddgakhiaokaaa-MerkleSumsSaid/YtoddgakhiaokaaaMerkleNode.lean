/-
  What chapter 38's MerkleSums needs beside: nodes that aren't, how many keys a map has, a tree and a map beside it (no condition beyond the numbers' bounds).
-/
import Derived.Test.YtoddgakhiaokaaaMerkleSum
namespace Go.Proofs.Ytoddgakhiaokaaa
open Go.ChangeShapes Go.WideShapes Go.RowKit Go.Maps
namespace Merkle
theorem node_high (w : World) (b : Nat) (l x : Int) (h : l < 0 ∨ 4 < l) : Calls Try.prog 10 #[ptr b, .int .i64 l, .int .i64 x] w fun e w' => e = .returned (.tuple #[.int .u32 0, .bool false]) ∧ w = w' := by
  by_cases h0 : l < 0
  · have e0 : decide (l < 0) = true := by simpa using h0
    clear h
    go_enter Try.func10, Try.ntmps10
    go_wp2
    go_ret2
    exact ⟨rfl, rfl⟩
  · have e0 : decide (l < 0) = false := by simp; omega
    have e1 : decide (4 < l) = true := by simp; omega
    clear h h0
    go_enter Try.func10, Try.ntmps10
    go_wp2
    go_ret2
    exact ⟨rfl, rfl⟩
theorem node_neg (w : World) (b : Nat) (l x : Int) (h0 : 0 ≤ l) (h4 : l ≤ 4) (h : x < 0) : Calls Try.prog 10 #[ptr b, .int .i64 l, .int .i64 x] w fun e w' => e = .returned (.tuple #[.int .u32 0, .bool false]) ∧ w = w' := by
  have e0 : decide (l < 0) = false := by simp; omega
  have e1 : decide (4 < l) = false := by simp; omega
  have e2 : decide (x < 0) = true := by simpa using h
  clear h0 h4 h
  go_enter Try.func10, Try.ntmps10
  go_wp2
  go_ret2
  exact ⟨rfl, rfl⟩
theorem node_out0 (w : World) (b : Nat) (x : Int) (h : 1 ≤ x) : Calls Try.prog 10 #[ptr b, .int .i64 0, .int .i64 x] w fun e w' => e = .returned (.tuple #[.int .u32 0, .bool false]) ∧ w = w' := by
  have e2 : decide (x < 0) = false := by simp; omega
  have e3 : decide (1 ≤ x) = true := by simpa using h
  clear h
  go_enter Try.func10, Try.ntmps10
  go_wp2
  go_ret2
  exact ⟨rfl, rfl⟩
theorem node_out1 (w : World) (b : Nat) (x : Int) (h : 16 ≤ x) : Calls Try.prog 10 #[ptr b, .int .i64 1, .int .i64 x] w fun e w' => e = .returned (.tuple #[.int .u32 0, .bool false]) ∧ w = w' := by
  have e2 : decide (x < 0) = false := by simp; omega
  have e3 : decide (16 ≤ x) = true := by simpa using h
  clear h
  go_enter Try.func10, Try.ntmps10
  go_wp2
  go_ret2
  exact ⟨rfl, rfl⟩
theorem node_out2 (w : World) (b : Nat) (x : Int) (h : 256 ≤ x) : Calls Try.prog 10 #[ptr b, .int .i64 2, .int .i64 x] w fun e w' => e = .returned (.tuple #[.int .u32 0, .bool false]) ∧ w = w' := by
  have e2 : decide (x < 0) = false := by simp; omega
  have e3 : decide (256 ≤ x) = true := by simpa using h
  clear h
  go_enter Try.func10, Try.ntmps10
  go_wp2
  go_ret2
  exact ⟨rfl, rfl⟩
theorem node_out3 (w : World) (b : Nat) (x : Int) (h : 4096 ≤ x) : Calls Try.prog 10 #[ptr b, .int .i64 3, .int .i64 x] w fun e w' => e = .returned (.tuple #[.int .u32 0, .bool false]) ∧ w = w' := by
  have e2 : decide (x < 0) = false := by simp; omega
  have e3 : decide (4096 ≤ x) = true := by simpa using h
  clear h
  go_enter Try.func10, Try.ntmps10
  go_wp2
  go_ret2
  exact ⟨rfl, rfl⟩
theorem node_out4 (w : World) (b : Nat) (x : Int) (h : 65536 ≤ x) : Calls Try.prog 10 #[ptr b, .int .i64 4, .int .i64 x] w fun e w' => e = .returned (.tuple #[.int .u32 0, .bool false]) ∧ w = w' := by
  have e2 : decide (x < 0) = false := by simp; omega
  have e3 : decide (65536 ≤ x) = true := by simpa using h
  clear h
  go_enter Try.func10, Try.ntmps10
  go_wp2
  go_ret2
  exact ⟨rfl, rfl⟩
theorem MapAt.len {P : Program} {K E T : TypeId} {q : IntKind} {w : World} {b n : Nat} {M : Int → Option Int} (h : MapAt P K E .i64 q w b n M) (hK : P.underlying K = some (.int .i64)) (hE : P.underlying E = some (.int q)) (hT : P.underlying T = some (.map K E)) (hz : ∀ w, (zeroValue E).run P w = .ok (.int q 0) w)
    (ks : List Int) (hnd : ks.Nodup) (hks : ∀ x, x ∈ ks ↔ (inKind .i64 x ∧ (M x).isSome = true)) (ty : TypeId) : (Builtin.len_ #[T] ty #[.map (some b)]).run P w = .ok (.int .i64 (ks.length : Int)) w := by
  obtain ⟨D, ho, hD⟩ := MapAt.opened h hK hE hT hz
  rw [ho.len hT ty]
  obtain ⟨es, hDe, hpw, _⟩ := ho.entries (int_keyed hK)
  obtain ⟨es', hD', hko⟩ := ho.keysOf
  obtain rfl : es = es' := by rw [hDe] at hD'; simpa using hD'
  subst hDe
  have hk : ∀ p ∈ es, ∃ x, p.1 = .int .i64 x ∧ (Lit.int .i64 x).wf = true := fun p hp => by
    obtain ⟨v, hv⟩ := hko p hp
    obtain ⟨x, _, hx, hw⟩ := Maps.keyOf_i64 hK hv
    exact ⟨x, hx, hw⟩
  have hp : ks.Perm (intKeys (.map es : DataW Unit)) := by
    refine perm_intKeys hpw (fun p hp => by obtain ⟨x, hx, _⟩ := hk p hp; exact ⟨x, hx⟩) hnd fun x => ?_
    rw [hks]
    constructor
    · rintro ⟨hi, hx⟩
      rw [hD x hi, hx]
    · intro hh
      have hi : inKind .i64 x := by
        have hh' := hh
        rw [has_eq, List.any_eq_true] at hh'
        obtain ⟨p, hp', hs⟩ := hh'
        obtain ⟨a, ha, hw⟩ := hk p hp'
        rw [ha] at hs
        have : a = x := by simpa [Lit.sameKey] using hs
        subst this
        exact hw
      exact ⟨hi, by rw [← hD x hi, hh]⟩
  have hl := hp.length_eq
  rw [show (intKeys (.map es : DataW Unit)).length = es.length from List.length_map ..] at hl
  rw [hl]
  rfl
/-- is there such a node? -/
def inR (lv x : Int) : Bool := decide (0 ≤ lv) && decide (lv ≤ 4) && decide (0 ≤ x) && decide (x < ((16 ^ lv.toNat : Nat) : Int))
def valR (T : Lv) (lv x : Int) : Int := if inR lv x then sumAt T lv.toNat x else 0
theorem inR_false {T : Lv} {lv x : Int} (h : inR lv x = false) : valR T lv x = 0 := by unfold valR; rw [h]; rfl
theorem inR_true {T : Lv} {lv x : Int} (h : inR lv x = true) : valR T lv x = sumAt T lv.toNat x := by unfold valR; rw [h]; rfl
theorem inR_split {lv x : Int} (h : inR lv x = true) : (lv = 0 ∨ lv = 1 ∨ lv = 2 ∨ lv = 3 ∨ lv = 4) ∧ ∃ a : Nat, x = (a : Int) ∧ a < 16 ^ lv.toNat := by
  simp only [inR, Bool.and_eq_true, decide_eq_true_eq] at h
  obtain ⟨⟨⟨h0, h1⟩, h2⟩, h3⟩ := h
  obtain ⟨a, rfl⟩ := Int.eq_ofNat_of_zero_le h2
  exact ⟨by omega, a, rfl, by omega⟩
theorem node_any (w : World) (B n : Nat) (g1 : Nat → Nat) (T : Lv) (h : At w B B g1 n T) (lv x : Int) :
    Calls Try.prog 10 #[ptr B, .int .i64 lv, .int .i64 x] w fun e w' => e = .returned (.tuple #[.int .u32 (valR T lv x), .bool (inR lv x)]) ∧ w = w' := by
  cases hq : inR lv x with
  | true =>
    rw [inR_true hq]
    obtain ⟨h5, a, rfl, ha⟩ := inR_split hq
    rcases h5 with rfl | rfl | rfl | rfl | rfl
    · exact node w B B n g1 T h 0 (by omega) a ha
    · exact node w B B n g1 T h 1 (by omega) a ha
    · exact node w B B n g1 T h 2 (by omega) a ha
    · exact node w B B n g1 T h 3 (by omega) a ha
    · exact node w B B n g1 T h 4 (by omega) a ha
  | false =>
    rw [inR_false hq]
    by_cases hl : lv < 0 ∨ 4 < lv
    · exact node_high w B lv x hl
    · by_cases hx : x < 0
      · exact node_neg w B lv x (by omega) (by omega) hx
      · have h5 : lv = 0 ∨ lv = 1 ∨ lv = 2 ∨ lv = 3 ∨ lv = 4 := by omega
        rcases h5 with rfl | rfl | rfl | rfl | rfl
        · exact node_out0 w B x (by simp [inR] at hq; omega)
        · exact node_out1 w B x (by simp [inR] at hq; omega)
        · exact node_out2 w B x (by simp [inR] at hq; omega)
        · exact node_out3 w B x (by simp [inR] at hq; omega)
        · exact node_out4 w B x (by simp [inR] at hq; omega)
theorem lsum_any (w : World) (g n : Nat) (T : Lv) (hm : MapU w g n (T 4)) (rt : Right T) (lv x : Int) (hq : inR lv x = true) :
    Calls Try.prog 13 #[.map (some g), .int .i64 lv, .int .i64 x] w fun e w' => e = .returned (.int .u32 (valR T lv x)) ∧ New w w' := by
  rw [inR_true hq]
  obtain ⟨h5, a, rfl, ha⟩ := inR_split hq
  rcases h5 with rfl | rfl | rfl | rfl | rfl
  · exact lsum0 w g n T hm rt a ha
  · exact lsum1 w g n T hm rt a ha
  · exact lsum2 w g n T hm rt a ha
  · exact lsum3 w g n T hm rt a ha
  · exact lsum4 w g n T hm rt a ha
/-- a tree, and a map that holds the same keys -/
structure SS (w W : World) (B : Nat) (g1 : Nat → Nat) (n : Nat) (T : Lv) (gm nm : Nat) : Prop where
  a : At W B B g1 n T
  m : MapU W gm nm (T 4)
  r : Right T
  new : New w W
  lo : w.heap.size ≤ B
  lg : w.heap.size ≤ gm
  ne : B ≠ gm
  apart : ∀ l, l ≤ 4 → g1 l ≠ gm
section
variable {w W W' : World} {B : Nat} {g1 : Nat → Nat} {n n' : Nat} {T T' : Lv} {gm nm nm' : Nat}
theorem SS.news (h : SS w W B g1 n T gm nm) (hc : New W W') : SS w W' B g1 n T gm nm := ⟨h.a.new hc, h.m.chg hc id, h.r, h.new.trans hc fun _ _ => id, h.lo, h.lg, h.ne, h.apart⟩
/-- first the tree, then the map -/
theorem SS.both {W'' : World} (h : SS w W B g1 n T gm nm) (ha : At W' B B g1 n' T') (hc : Chg (Foot g1) W W') (hm : MapU W'' gm nm' (T' 4)) (hr : Right T') (hc2 : Chg (fun k => k = gm) W' W'') : SS w W'' B g1 n' T' gm nm' :=
  ⟨ha.chg hc2 h.ne fun l hl => h.apart l hl, hm, hr, (h.new.trans hc fun k hk ⟨l, hl, e⟩ => by have := h.a.low.2 l hl; have := h.lo; omega).trans hc2 fun k hk e => by have := h.lg; omega, h.lo, h.lg, h.ne, h.apart⟩
theorem SS.map (h : SS w W B g1 n T gm nm) (hc : Chg (Foot g1) W W') : MapU W' gm nm (T 4) := h.m.chg hc fun ⟨l, hl, e⟩ => h.apart l hl e.symm
end
end Merkle
end Go.Proofs.Ytoddgakhiaokaaa

/-
  Two trees of a law's own, and rows of keys and sums as arguments (no condition).
-/
import Derived.Test.YtoddgakhiaokaaaMerkleLaw
import Derived.Test.YtoddgakhiaokaaaOpen
import Derived.Test.YtoddgakhiaokaaaStructs
namespace Go.Proofs.Ytoddgakhiaokaaa
open Go.ChangeShapes Go.WideShapes Go.RowKit Go.Maps Go.Deep
section
variable {H : Type} {enc : TypeId × Value → H} {P : Program} {w : World} {base : Nat} {spare : Nat → Bool} {held : Bool}
theorem open_u32 {r : Reach} {b0 : Nat} {t : TypeId} {v : Value} {d : DataW H} {ps : List MemPlace} (ht : P.underlying t = some (.int .u32)) (hval : Value.okWide P w r b0 t v) (hd : DataW.Trod enc P w base spare held t v d ps) :
    ∃ n : Nat, v = .int .u32 (n : Int) ∧ n < 4294967296 := by
  obtain ⟨n, rfl, _, _, h⟩ := open_int ht hval hd
  simp [Lit.wf, IntKind.min, IntKind.max, IntKind.signed, IntKind.bits] at h
  exact ⟨n.toNat, by congr 1; omega, by omega⟩
theorem trod_u32 {t : TypeId} {fuel : Nat} {v : Value} {y : DataW H × List MemPlace} (ht : P.underlying t = some (.int .u32)) (h : DataW.trod enc P w base spare held fuel t [v] = some y) : ∃ n : Nat, v = .int .u32 (n : Int) ∧ n < 4294967296 := by
  obtain ⟨n, h1, _, h2⟩ := DataW.trod_int ht h
  simp [Lit.wf, IntKind.min, IntKind.max, IntKind.signed, IntKind.bits] at h2
  have hv : v = .int .u32 n := by simpa using h1
  exact ⟨n.toNat, by rw [hv]; congr 1; omega, by omega⟩
end
namespace Merkle
/-- act k of a row is the key x, and the sum s, in every world that comes behind w -/
def ActAt (w : World) (A : Option Addr) (k : Nat) (x : Int) (s : Nat) : Prop :=
  (-9223372036854775808 ≤ x ∧ x ≤ 9223372036854775807) ∧ s < 4294967296 ∧
    ∃ ad, A = some ad ∧ (∀ W, New w W → (LoadRow 29 (ad.add (k * 2))).run Try.prog W = .ok (.agg #[.int .i64 x, .int .u32 (s : Int)]) W) ∧
      ∀ W, New w W → W.cell? (ad.add (k * 2)) = some (.int .i64 x) ∧ W.cell? ((ad.add (k * 2)).add 1) = some (.int .u32 (s : Int))
section
variable {H : Type} {enc : TypeId × Value → H} {w : World} {base : Nat} {held : Bool}
theorem open_acts {v : Value} {d : DataW H} {ps : List MemPlace} (hv : v.cells = #[v]) (hw : ∀ x ∈ d.weights Try.prog 22, x ≤ reachBytes) (hd : DataW.Trod enc Try.prog w base (fun _ => true) held 22 v d ps) :
    ∃ (A : Option Addr) (n c : Nat), v = .slice A n c ∧ n ≤ c ∧ c ≤ 140737488351232 ∧ ∀ k, k < n → ∃ x s, ActAt w A k x s := by
  obtain ⟨fuel, hf⟩ := hd
  rw [hv] at hf
  rcases open_slice_fields Try.underlying22 Try.underlying29 (by kernel_rfl) (by kernel_rfl) hf with ⟨h, _⟩ | ⟨a, len, cap, m, D, Pl, h, _, hl, hm, hmm, hdd, hx⟩
  · exact ⟨none, 0, 0, by simpa using h, by omega, by omega, fun k hk => absurd hk (by omega)⟩
  · have hv' : v = .slice (some a) len cap := by simpa using h
    have hmc : m = cap := by simpa using hmm
    have hcap : cap ≤ 140737488351232 := by
      have hd' : d = .slice ((List.range len).map D) ((List.range (m - len)).map fun j => D (len + j)) := congrArg Prod.fst hdd
      have := hw (cap * Try.prog.bytesOf 29) (by
        rw [hd']
        simp only [DataW.weights, Try.underlying22]
        refine List.mem_cons.2 (.inl ?_)
        simp only [List.length_map, List.length_range]
        rw [show len + (m - len) = cap by omega])
      rw [show Try.prog.bytesOf 29 = 16 by kernel_rfl] at this
      simp [reachBytes] at this
      omega
    refine ⟨some a, len, cap, hv', by omega, hcap, fun k hk => ?_⟩
    obtain ⟨ys, q, _, _, _, hg⟩ := hx k (by omega)
    obtain ⟨v0, y0, c0, _, t0⟩ := hg 0 _ rfl
    obtain ⟨v1, y1, c1, _, t1⟩ := hg 1 _ rfl
    obtain ⟨x, rfl, hx1, hx2⟩ := trod_i64 Try.underlying3 t0
    obtain ⟨s, rfl, hs⟩ := trod_u32 Try.underlying24 t1
    refine ⟨x, s, ⟨hx1, hx2⟩, hs, a, rfl, ?_⟩
    have hblk : a.block < w.heap.size := by
      have := block_lt_of_cell c0
      rwa [block_of_add] at this
    have hcell : ∀ (W : World), New w W → ∀ (j : Nat) (u : Value), w.cell? (a.add (k * 2 + j)) = some u → W.cell? ((a.add (k * 2)).add j) = some u := fun W hW j u h => by
      rw [add_of_add]
      exact (hW.cell (by rw [block_of_add]; exact hblk) id).trans h
    refine ⟨fun W hW => ?_, fun W hW => ⟨by have := hcell W hW 0 _ c0; simpa [Addr.add] using this, hcell W hW 1 _ c1⟩⟩
    refine run_LoadRow_at (P := Try.prog) (t := 29) Try.underlying29 rfl (n := 2) (cs := [_, _]) (by kernel_rfl) rfl fun j u hu => ?_
    match j, hu with
    | 0, hu => injection hu with hu; subst hu; exact hcell W hW 0 _ c0
    | 1, hu => injection hu with hu; subst hu; exact hcell W hW 1 _ c1
    | j + 2, hu => simp at hu
end
/-- what a call of Put leaves: nothing for a key or a sum that may not be -/
def putS (T : Lv) (x : Int) (s : Nat) : Lv := if 0 ≤ x ∧ x ≤ 65535 ∧ s ≠ 0 then putF ns T x s else T
theorem put_any (w : World) (lo b n : Nat) (gs : Nat → Nat) (T : Lv) (h : At w lo b gs n T) (x : Int) (s : Nat) (hs : s < 4294967296) (hn : n < 80000) :
    Calls Try.prog 9 #[ptr b, .int .i64 x, .int .u32 (s : Int)] w fun e w' => ∃ r : Int, e = .returned (.int .i64 r) ∧ At w' lo b gs (n + 5) (putS T x s) ∧ Chg (Foot gs) w w' := by
  by_cases hx : 0 ≤ x ∧ x ≤ 65535
  · obtain ⟨y, rfl⟩ := Int.eq_ofNat_of_zero_le hx.1
    by_cases h0 : s = 0
    · subst h0
      refine (put_zero w b y hx.1 hx.2).mono ?_
      rintro e w' ⟨rfl, rfl⟩
      refine ⟨_, rfl, ?_, Chg.refl _ _⟩
      rw [putS, if_neg (fun e => e.2.2 rfl)]
      exact h.mono (by omega)
    · refine (put_ok w lo b n gs T h y s (by omega) h0 hs hn).mono ?_
      rintro e w' ⟨rfl, h', c⟩
      refine ⟨_, rfl, ?_, c⟩
      rw [putS, if_pos ⟨hx.1, hx.2, h0⟩]
      exact h'
  · refine (put_out w b x s (by omega)).mono ?_
    rintro e w' ⟨rfl, rfl⟩
    refine ⟨_, rfl, ?_, Chg.refl _ _⟩
    rw [putS, if_neg (fun e => hx ⟨e.1, e.2.1⟩)]
    exact h.mono (by omega)
/-- two trees of the law's own -/
structure Two (w W : World) (B b2 : Nat) (g1 g2 : Nat → Nat) (n : Nat) (T U : Lv) : Prop where
  a : At W B B g1 n T
  b : At W b2 b2 g2 n U
  new : New w W
  lo : w.heap.size ≤ B
  lt : B < b2
  apart : ∀ l, l ≤ 4 → g1 l < b2
section
variable {w W W' : World} {B b2 n : Nat} {g1 g2 : Nat → Nat} {T U T' : Lv}
theorem Two.news (h : Two w W B b2 g1 g2 n T U) (hc : New W W') : Two w W' B b2 g1 g2 n T U := ⟨h.a.new hc, h.b.new hc, h.new.trans hc fun _ _ => id, h.lo, h.lt, h.apart⟩
theorem Two.one (h : Two w W B b2 g1 g2 n T U) (ha : At W' B B g1 (n + 5) T') (hc : Chg (Foot g1) W W') : Two w W' B b2 g1 g2 (n + 5) T' U :=
  ⟨ha, (h.b.chg hc (fun ⟨l, hl, e⟩ => by have := h.apart l hl; omega) (fun m hm ⟨l, hl, e⟩ => by have := h.apart l hl; have := h.b.low.2 m hm; omega)).mono (by omega),
    h.new.trans hc (fun k hk ⟨l, hl, e⟩ => by have := h.a.low.2 l hl; have := h.lo; omega), h.lo, h.lt, h.apart⟩
theorem Two.two (h : Two w W B b2 g1 g2 n T U) (hb : At W' b2 b2 g2 (n + 5) T') (hc : Chg (Foot g2) W W') : Two w W' B b2 g1 g2 (n + 5) T T' :=
  ⟨(h.a.chg hc (fun ⟨l, hl, e⟩ => by have := h.b.low.2 l hl; have := h.lt; omega) (fun m hm ⟨l, hl, e⟩ => by have := h.apart m hm; have := h.b.low.2 l hl; omega)).mono (by omega), hb,
    h.new.trans hc (fun k hk ⟨l, hl, e⟩ => by have := h.b.low.2 l hl; have := h.lo; have := h.lt; omega), h.lo, h.lt, h.apart⟩
end
/-- are the sums above the key unlike, at the first k levels? -/
def upto (T U : Lv) (key : Int) (k : Nat) : Bool := (List.range k).all fun i => sumAt T i (above key i) != sumAt U i (above key i)
theorem upto_succ (T U : Lv) (key : Int) (k : Nat) : upto T U key (k + 1) = (upto T U key k && (sumAt T k (above key k) != sumAt U k (above key k))) := by simp [upto, List.range_succ]
theorem upto_chain (T U : Lv) (key : Int) : upto T U key 4 = chain T U key 4 0 := by
  simp only [upto, chain, List.range_succ, List.range_zero, List.nil_append, List.all_append, List.all_cons, List.all_nil, Bool.and_true, Nat.zero_add]
  simp only [Bool.and_assoc]
theorem chain_comm (T U : Lv) (key : Int) : ∀ (f l : Nat), chain T U key f l = chain U T key f l
  | 0, _ => rfl
  | f + 1, l => by
    rw [chain, chain, chain_comm T U key f]
    congr 1
    exact bne_comm
end Merkle
end Go.Proofs.Ytoddgakhiaokaaa

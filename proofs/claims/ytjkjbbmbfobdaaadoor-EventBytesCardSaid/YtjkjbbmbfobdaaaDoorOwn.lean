/-
  Rows of the call's own over changes elsewhere (no condition beyond the sizes).
-/
import Derived.Test.YtjkjbbmbfobdaaaDoorBytes
import Derived.Test.YtjkjbbmbfobdaaaDoorRowsK
namespace Go.Proofs.YtjkjbbmbfobdaaaDoor
open Go.ChangeShapes Go.WideShapes Go.RowKit
/-- one cell of an owned row of bytes -/
theorem OwnB.stored {w : World} {base g n c : Nat} {l : List UInt8} (h : OwnB w base (.slice (some ⟨g, 0, none⟩) n c) l) {i : Nat} (y : UInt8) :
    OwnB (w.setCell ⟨g, i, none⟩ (.int .u8 (y.toNat : Int))) base (.slice (some ⟨g, 0, none⟩) n c) (l.set i y) := by
  have hn : n = l.length := by
    rcases h.2 with ⟨h0, _⟩ | ⟨_, _, _, h0, _⟩
    · cases h0
    · injection h0
  subst hn
  have := World.ownsRow.stored h i (.int .u8 (y.toNat : Int))
  unfold OwnB
  rw [List.length_set, ← u8s_set]
  exact this.1
theorem reads_lit (w : World) (l : List UInt8) (fr : Nat × Nat) (t : TypeId) : Reads (w.alloc (.cells (u8s l).toArray t fr)) (fun b => b = w.heap.size) 1 (some ⟨w.heap.size, 0, none⟩) l.length (u8s l) := by
  have := Reads.of_row (n := l.length) (size := 1) (heap_alloc_new w (.cells (u8s l).toArray t fr)) (by simp [u8s])
  simpa using this
/-- string(b) of a row of the call's own -/
theorem own_str {w : World} {base : Nat} {v : Value} {l : List UInt8} (h : OwnB w base v l) {W : World} (hc : New w W) : (convert 43 9 v).run Tryd.prog W = .ok (.string ⟨l.toArray⟩) W := by
  obtain ⟨A, c, rfl, _, _, _, hr⟩ := OwnB.form (own_chg h hc fun _ _ => id : OwnB W base v l)
  exact run_str Tryd.underlying43 Tryd.underlying5 Tryd.underlying9 hr c
/-- the bits of two whole numbers -/
theorem i64_or_nat (a b : Nat) (ha : a < 4611686018427387904) (hb : b < 4611686018427387904) : bits .or .i64 (a : Int) (b : Int) = ((a ||| b : Nat) : Int) := by
  have hx : a ||| b < 2 ^ 62 := Nat.or_lt_two_pow (by omega) (by omega)
  show IntKind.i64.wrap ((BitVec.ofInt 64 (a : Int) ||| BitVec.ofInt 64 (b : Int)).toNat : Int) = _
  have h1 : ∀ x : Nat, x < 4611686018427387904 → (BitVec.ofInt 64 (x : Int)).toNat = x := fun x h => by
    rw [BitVec.ofInt_natCast, BitVec.toNat_ofNat]
    exact Nat.mod_eq_of_lt (by omega)
  rw [BitVec.toNat_or, h1 a ha, h1 b hb]
  exact IntWalk.i64_in _ (by omega)
theorem or_mul (a b i m : Nat) (hm : m = 2 ^ i) (h : a < m) : a ||| (b * m) = b * m + a := by
  subst hm
  rw [Nat.or_comm, ← Nat.shiftLeft_eq, Nat.shiftLeft_add_eq_or_of_lt h]
end Go.Proofs.YtjkjbbmbfobdaaaDoor

/-
  Rows of acts as arguments: each act's fields, and its bytes (no condition).
-/
import Derived.Test.YtjliioapiohciaaDiskLaw
import Derived.Test.YtjliioapiohciaaOpen
import Derived.Test.YtjliioapiohciaaStructs
namespace Go.Proofs.Ytjliioapiohciaa
open Go.ChangeShapes Go.WideShapes Go.RowKit Go.Deep
namespace Disk
structure ActD where
  kind : UInt8
  A : Option Addr
  n : Nat
  c : Nat
  bs : List UInt8
  N : Int
  at_ : Int
  y : UInt8
def actC (a : ActD) : List Value := [.int .u8 (a.kind.toNat : Int), .slice a.A a.n a.c, .int .i64 a.N, .int .i64 a.at_, .int .u8 (a.y.toNat : Int)]
/-- act k of a row is a, in every world that comes behind w -/
def ActAt (w : World) (A : Option Addr) (k : Nat) (a : ActD) : Prop :=
  (-9223372036854775808 ≤ a.N ∧ a.N ≤ 9223372036854775807) ∧ (-9223372036854775808 ≤ a.at_ ∧ a.at_ ≤ 9223372036854775807) ∧ a.n ≤ a.c ∧
    ∃ ad, A = some ad ∧ ∀ W, New w W → (LoadRow 28 (ad.add (k * 5))).run Try.prog W = .ok (.agg (actC a).toArray) W ∧ Reads W (fun b => b < w.heap.size) 1 a.A a.n (u8s a.bs)
section
variable {H : Type} {enc : TypeId × Value → H} {w : World} {base : Nat} {held : Bool}
theorem open_acts {v : Value} {d : DataW H} {ps : List MemPlace} (hv : v.cells = #[v]) (hw : ∀ x ∈ d.weights Try.prog 22, x ≤ reachBytes) (hd : DataW.Trod enc Try.prog w base (fun _ => true) held 22 v d ps) :
    ∃ (A : Option Addr) (n c : Nat), v = .slice A n c ∧ n ≤ 140737488351232 ∧ ∀ k, k < n → ∃ a, ActAt w A k a := by
  obtain ⟨fuel, hf⟩ := hd
  rw [hv] at hf
  rcases open_slice_fields Try.underlying22 Try.underlying28 (by kernel_rfl) (by kernel_rfl) hf with ⟨h, _⟩ | ⟨a, len, cap, m, D, Pl, h, _, hl, hm, hmm, hdd, hx⟩
  · exact ⟨none, 0, 0, by simpa using h, by omega, fun k hk => absurd hk (by omega)⟩
  · have hv' : v = .slice (some a) len cap := by simpa using h
    have hmc : m = cap := by simpa using hmm
    have hcap : len ≤ 140737488351232 := by
      have hd' : d = .slice ((List.range len).map D) ((List.range (m - len)).map fun j => D (len + j)) := congrArg Prod.fst hdd
      have := hw (cap * Try.prog.bytesOf 28) (by
        rw [hd']
        simp only [DataW.weights, Try.underlying22]
        refine List.mem_cons.2 (.inl ?_)
        simp only [List.length_map, List.length_range]
        rw [show len + (m - len) = cap by omega])
      rw [show Try.prog.bytesOf 28 = 56 by kernel_rfl] at this
      simp [reachBytes] at this
      omega
    refine ⟨some a, len, cap, hv', hcap, fun k hk => ?_⟩
    obtain ⟨ys, q, _, _, _, hg⟩ := hx k (by omega)
    obtain ⟨v0, y0, c0, _, t0⟩ := hg 0 _ rfl
    obtain ⟨v1, y1, c1, _, t1⟩ := hg 1 _ rfl
    obtain ⟨v2, y2, c2, _, t2⟩ := hg 2 _ rfl
    obtain ⟨v3, y3, c3, _, t3⟩ := hg 3 _ rfl
    obtain ⟨v4, y4, c4, _, t4⟩ := hg 4 _ rfl
    obtain ⟨kind, rfl⟩ := trod_u8 Try.underlying5 t0
    obtain ⟨A, n, c, bs, rfl, hbn, hnc, hr⟩ := trod_bytes Try.underlying26 Try.underlying5 (by kernel_rfl) t1
    obtain ⟨N, rfl, hN1, hN2⟩ := trod_i64 Try.underlying3 t2
    obtain ⟨at_, rfl, ha1, ha2⟩ := trod_i64 Try.underlying3 t3
    obtain ⟨y, rfl⟩ := trod_u8 Try.underlying5 t4
    refine ⟨⟨kind, A, n, c, bs, N, at_, y⟩, ⟨hN1, hN2⟩, ⟨ha1, ha2⟩, hnc, a, rfl, fun W hW => ⟨?_, (hr.chg' hW (fun _ _ => id) (by omega))⟩⟩
    have hblk : a.block < w.heap.size := by
      have := block_lt_of_cell c0
      rwa [block_of_add] at this
    have hcell : ∀ (j : Nat) (u : Value), w.cell? (a.add (k * 5 + j)) = some u → W.cell? ((a.add (k * 5)).add j) = some u := fun j u h => by
      rw [add_of_add]
      exact (hW.cell (by rw [block_of_add]; exact hblk) id).trans h
    refine run_LoadRow_at (P := Try.prog) (t := 28) Try.underlying28 rfl (n := 5) (by kernel_rfl) rfl fun j u hu => ?_
    match j, hu with
    | 0, hu => injection hu with hu; subst hu; exact hcell 0 _ c0
    | 1, hu => injection hu with hu; subst hu; exact hcell 1 _ c1
    | 2, hu => injection hu with hu; subst hu; exact hcell 2 _ c2
    | 3, hu => injection hu with hu; subst hu; exact hcell 3 _ c3
    | 4, hu => injection hu with hu; subst hu; exact hcell 4 _ c4
    | j + 5, hu => simp [actC] at hu
end
end Disk
end Go.Proofs.Ytjliioapiohciaa

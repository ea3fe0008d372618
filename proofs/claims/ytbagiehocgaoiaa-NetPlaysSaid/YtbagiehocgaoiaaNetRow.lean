/-
  The plain row beside a net: its parcels as strings; acts as arguments (no condition).
-/
import Derived.Test.YtbagiehocgaoiaaNetLaw
import Derived.Test.YtbagiehocgaoiaaOpen
import Derived.Laws.IdiomStrings
namespace Go.Proofs.Ytbagiehocgaoiaa
open Go.ChangeShapes Go.WideShapes Go.RowKit Go.Deep
namespace Net
/-- a parcel of the plain row: its bytes as a string -/
def strF (f : Fl) : Fl := ⟨f.to_, .string ⟨f.b.toArray⟩, f.b, f.t⟩
def plain (fs : List Fl) : List Value := cells (fs.map strF)
/-- v is the row of the parcels fs -/
abbrev RowP (w : World) (base : Nat) (v : Value) (fs : List Fl) : Prop := w.ownsRow base 33 3 v fs.length (plain fs)
theorem RowP.foot {w : World} {base lo b : Nat} {v r : Value} {fs gs : List Fl} (h : RowP w base r gs) (ha : At w lo b v fs) {k : Nat} (hk : r.ownBlock = some k) : ¬ Foot b v fs k := fun e => by
  rcases e with e | e | ⟨f, hf, e⟩
  · exact own_ne h ha.blk (by decide) (e ▸ hk)
  · exact own_own h ha.own (by decide) hk e
  · exact own_own h (ha.mem hf) (by decide) hk e
theorem plInfo : (Try.prog.info? 33).map (fun i => (i.zero, i.size, i.bytes)) = some (some (.agg #[.int .i64 0, .string ⟨#[]⟩, .bool false]), 3, 32) := by kernel_rfl
theorem plain_one {fs : List Fl} : ∀ u ∈ plain fs, u.oneCell' = true := fun u hu => by
  obtain ⟨q, hq, hu⟩ := List.mem_flatMap.1 hu
  obtain ⟨r, _, rfl⟩ := List.mem_map.1 hq
  simp only [flC, strF, List.mem_cons, List.not_mem_nil, or_false] at hu
  rcases hu with h | h | h <;> rw [h] <;> rfl
theorem plain_len (fs : List Fl) : (plain fs).length = fs.length * 3 := by unfold plain; rw [cells_len, List.length_map]
theorem plain_append (fs gs : List Fl) : plain (fs ++ gs) = plain fs ++ plain gs := by unfold plain; rw [List.map_append, cells_append]
theorem plain_take (fs : List Fl) (i : Nat) : (plain fs).take (i * 3) = plain (fs.take i) := by unfold plain; rw [cells_take, List.map_take]
theorem plain_drop (fs : List Fl) (i : Nat) : (plain fs).drop (i * 3) = plain (fs.drop i) := by unfold plain; rw [cells_drop, List.map_drop]
theorem plain_get {fs : List Fl} {i : Nat} {f : Fl} (h : fs[i]? = some f) : (plain fs)[i * 3]? = some (.int .i64 f.to_) ∧ (plain fs)[i * 3 + 1]? = some (.string ⟨f.b.toArray⟩) ∧ (plain fs)[i * 3 + 2]? = some (.bool f.t) :=
  cells_get (fs.map strF) i (strF f) (by rw [List.getElem?_map, h]; rfl)
/-- row = append(row, ..) -/
theorem append_pl (w : World) {ops : Array Oper} {rest : List Oper} {o : Oper} {a : Act} {Q : Exit → Act → World → Prop} (hgd : o.guard = none) (s x : Operand)
    (ho : o.op = .call { callee := .builtin .append, args := #[s, x], argTypes := #[26, 26] })
    (base : Nat) (v : Value) (fs : List Fl) (hs : a.eval s = v) (hown : RowP w base v fs)
    (F : Nat → Prop) (A : Option Addr) (m c : Nat) (gs : List Fl) (hx : a.eval x = .slice A m c) (hr : Reads w F 3 A m (plain gs))
    (hb : fs.length + m ≤ 1099511627776) (hbase : base ≤ w.heap.size)
    (h : ∀ v' w', RowP w' base v' (fs ++ gs) → w.grownBy w' v.ownBlock → (v'.ownBlock = v.ownBlock ∨ v'.ownBlock = some w.heap.size) → wpList Try.prog ops Q rest (a.put o.dst v') w') : wpList Try.prog ops Q (o :: rest) a w := by
  obtain ⟨i, hi, hz0, hz1, hz2⟩ := info_parts plInfo
  refine wpList_append_any w hgd s x _ ho base _ i _ 3 32 Try.underlying26 hi hz0 hz1 hz2 rfl (by omega) v fs.length (plain fs) hs hown F A m c (plain gs) hx hr plain_one (by simp only [maxLen]; omega) (by omega) hbase ?_
  intro v' w' ho' hg hat
  refine h v' w' ?_ hg hat
  have hl := hr.len
  rw [plain_len] at hl
  unfold RowP
  rw [plain_append, List.length_append, show gs.length = m by omega]
  exact ho'
theorem wp_append_pl (w : World) {o : Oper} {a : Act} {K : Act → World → Prop} {Q : Exit → Act → World → Prop} (s x : Operand)
    (ho : o.op = .call { callee := .builtin .append, args := #[s, x], argTypes := #[26, 26] })
    (base : Nat) (v : Value) (fs : List Fl) (hs : a.eval s = v) (hown : RowP w base v fs)
    (F : Nat → Prop) (A : Option Addr) (m c : Nat) (gs : List Fl) (hx : a.eval x = .slice A m c) (hr : Reads w F 3 A m (plain gs))
    (hb : fs.length + m ≤ 1099511627776) (hbase : base ≤ w.heap.size)
    (h : ∀ v' w', RowP w' base v' (fs ++ gs) → w.grownBy w' v.ownBlock → (v'.ownBlock = v.ownBlock ∨ v'.ownBlock = some w.heap.size) → K (a.put o.dst v') w') : o.wp Try.prog a w K Q := by
  obtain ⟨i, hi, hz0, hz1, hz2⟩ := info_parts plInfo
  refine wp_append_any w s x _ ho base _ i _ 3 32 Try.underlying26 hi hz0 hz1 hz2 rfl (by omega) v fs.length (plain fs) hs hown F A m c (plain gs) hx hr plain_one (by simp only [maxLen]; omega) (by omega) hbase ?_
  intro v' w' ho' hg hat
  refine h v' w' ?_ hg hat
  have hl := hr.len
  rw [plain_len] at hl
  unfold RowP
  rw [plain_append, List.length_append, show gs.length = m by omega]
  exact ho'
/-- []byte(s) -/
theorem conv_bytes (W : World) (l : List UInt8) : ∃ c W', (convert 9 27 (.string ⟨l.toArray⟩)).run Try.prog W = .ok (.slice (some ⟨W.heap.size, 0, none⟩) l.length c) W' ∧ New W W' ∧
    ∃ (cur : Array Value) (fr : Nat × Nat), W'.heap[W.heap.size]? = some (.cells cur 5 fr) ∧ cur.toList.take l.length = u8s l ∧ ∀ j, j < l.length → W'.frozen? ⟨W.heap.size, j, none⟩ = false := by
  refine ⟨_, _, run_bytes_of_string W 9 27 5 ⟨l.toArray⟩ Try.underlying9 Try.underlying27 Try.underlying5, (Chg.refl _ W).drew.alloc _, _, _, heap_alloc_new W.drew _, ?_, fun j hj => ?_⟩
  · unfold bytesRow
    simp [u8s]
  · have h := heap_alloc_new W.drew (.cells (bytesRow ⟨l.toArray⟩ (grownCap W (ByteArray.mk l.toArray).size 0 5)) 5 ((bytesRow ⟨l.toArray⟩ (grownCap W (ByteArray.mk l.toArray).size 0 5)).size, (bytesRow ⟨l.toArray⟩ (grownCap W (ByteArray.mk l.toArray).size 0 5)).size + 1))
    have hs : l.length ≤ (bytesRow ⟨l.toArray⟩ (grownCap W (ByteArray.mk l.toArray).size 0 5)).size := by unfold bytesRow; simp
    generalize bytesRow ⟨l.toArray⟩ (grownCap W (ByteArray.mk l.toArray).size 0 5) = C at *
    unfold World.frozen?
    rw [show (W.drew.alloc (.cells C 5 (C.size, C.size + 1))).heap[(⟨W.heap.size, j, none⟩ : Addr).block]? = _ from h]
    simp
    omega
/-- the head of a block reads as a list -/
theorem reads_head {W : World} {g L : Nat} {t : TypeId} {cur : Array Value} {fr : Nat × Nat} {xs : List Value} (h : W.heap[g]? = some (.cells cur t fr)) (ht : cur.toList.take L = xs) (hl : xs.length = L) : Reads W (fun b => b = g) 1 (some ⟨g, 0, none⟩) L xs := by
  refine ⟨by omega, fun _ => ⟨_, rfl, rfl, fun j u hu => ?_⟩⟩
  rw [add_plain, Nat.zero_add, cell_of_row W g j cur t fr h]
  rw [← ht, List.getElem?_take] at hu
  split at hu
  · simpa using hu
  · cases hu
theorem heap_set {W : World} {g q : Nat} {t : TypeId} {cur : Array Value} {fr : Nat × Nat} (h : W.heap[g]? = some (.cells cur t fr)) (u : Value) : (W.setCell ⟨g, q, none⟩ u).heap[g]? = some (.cells (cur.setIfInBounds q u) t fr) := by
  simp [World.setCell, Array.getElem?_modify, h]
/-- the same, one cell of it stored anew -/
theorem reads_put {W : World} {g q : Nat} {t : TypeId} {cur : Array Value} {fr : Nat × Nat} {l : List UInt8} (h : W.heap[g]? = some (.cells cur t fr)) (ht : cur.toList.take l.length = u8s l) (y : UInt8) : Reads (W.setCell ⟨g, q, none⟩ (.int .u8 (y.toNat : Int))) (fun b => b = g) 1 (some ⟨g, 0, none⟩) l.length (u8s (l.set q y)) := by
  refine reads_head (heap_set h _) ?_ (by rw [u8s_length, List.length_set])
  rw [Array.toList_setIfInBounds, List.take_set, ht, u8s_set]
/-- parcel i of the row, its bytes and its mark stored anew -/
theorem plain_set {fs : List Fl} {i : Nat} {f f' : Fl} (h : fs[i]? = some f) (h1 : f'.to_ = f.to_) : ((plain fs).set (i * 3 + 1) (.string ⟨f'.b.toArray⟩)).set (i * 3 + 2) (.bool f'.t) = plain (fs.set i f') := by
  have key : ∀ (fs : List Fl) (i : Nat) (f : Fl), fs[i]? = some f → f'.to_ = f.to_ → ((plain fs).set (i * 3 + 1) (.string ⟨f'.b.toArray⟩)).set (i * 3 + 2) (.bool f'.t) = plain (fs.set i f') := by
    intro fs
    induction fs with
    | nil => intro i f h; simp at h
    | cons g fs ih =>
      intro i f h h1
      have e : plain (g :: fs) = .int .i64 g.to_ :: .string ⟨g.b.toArray⟩ :: .bool g.t :: plain fs := rfl
      cases i with
      | zero =>
        simp at h
        subst h
        rw [e]
        simp only [List.set_cons_zero, List.set_cons_succ, Nat.zero_mul, Nat.zero_add]
        rw [show plain (f' :: fs) = .int .i64 f'.to_ :: .string ⟨f'.b.toArray⟩ :: .bool f'.t :: plain fs from rfl, h1]
      | succ i =>
        rw [e, show (i + 1) * 3 + 1 = i * 3 + 1 + 1 + 1 + 1 by omega, show (i + 1) * 3 + 2 = i * 3 + 2 + 1 + 1 + 1 by omega]
        simp only [List.set_cons_succ]
        rw [ih i f (by simpa using h) h1]
        rfl
  exact key fs i f h h1
structure ActN where
  kind : UInt8
  to_ : Int
  A : Option Addr
  n : Nat
  c : Nat
  bs : List UInt8
  i : Int
  at_ : Int
  y : UInt8
def actC (a : ActN) : List Value := [.int .u8 (a.kind.toNat : Int), .int .i64 a.to_, .slice a.A a.n a.c, .int .i64 a.i, .int .i64 a.at_, .int .u8 (a.y.toNat : Int)]
def i64ok (x : Int) : Prop := -9223372036854775808 ≤ x ∧ x ≤ 9223372036854775807
/-- act k of a row is a, in every world that comes behind w -/
def ActAt (w : World) (A : Option Addr) (k : Nat) (a : ActN) : Prop :=
  i64ok a.to_ ∧ i64ok a.i ∧ i64ok a.at_ ∧ a.n ≤ a.c ∧ a.bs.length = a.n ∧
    ∃ ad, A = some ad ∧ ∀ W, New w W → (LoadRow 29 (ad.add (k * 6))).run Try.prog W = .ok (.agg (actC a).toArray) W ∧ Reads W (fun b => b < w.heap.size) 1 a.A a.n (u8s a.bs)
section
variable {H : Type} {enc : TypeId × Value → H} {w : World} {base : Nat} {held : Bool}
theorem open_acts {v : Value} {d : DataW H} {ps : List MemPlace} (hv : v.cells = #[v]) (hw : ∀ x ∈ d.weights Try.prog 22, x ≤ reachBytes) (hd : DataW.Trod enc Try.prog w base (fun _ => true) held 22 v d ps) :
    ∃ (A : Option Addr) (n c : Nat), v = .slice A n c ∧ n ≤ 140737488351232 ∧ ∀ k, k < n → ∃ a, ActAt w A k a := by
  obtain ⟨fuel, hf⟩ := hd
  rw [hv] at hf
  rcases open_slice_fields Try.underlying22 Try.underlying29 (by kernel_rfl) (by kernel_rfl) hf with ⟨h, _⟩ | ⟨a, len, cap, m, D, Pl, h, _, hl, hm, hmm, hdd, hx⟩
  · exact ⟨none, 0, 0, by simpa using h, by omega, fun k hk => absurd hk (by omega)⟩
  · have hv' : v = .slice (some a) len cap := by simpa using h
    have hmc : m = cap := by simpa using hmm
    have hcap : len ≤ 140737488351232 := by
      have hd' : d = .slice ((List.range len).map D) ((List.range (m - len)).map fun j => D (len + j)) := congrArg Prod.fst hdd
      have := hw (cap * Try.prog.bytesOf 29) (by
        rw [hd']
        simp only [DataW.weights, Try.underlying22]
        refine List.mem_cons.2 (.inl ?_)
        simp only [List.length_map, List.length_range]
        rw [show len + (m - len) = cap by omega])
      rw [show Try.prog.bytesOf 29 = 64 by kernel_rfl] at this
      simp [reachBytes] at this
      omega
    refine ⟨some a, len, cap, hv', hcap, fun k hk => ?_⟩
    obtain ⟨ys, q, _, _, _, hg⟩ := hx k (by omega)
    obtain ⟨v0, y0, c0, _, t0⟩ := hg 0 _ rfl
    obtain ⟨v1, y1, c1, _, t1⟩ := hg 1 _ rfl
    obtain ⟨v2, y2, c2, _, t2⟩ := hg 2 _ rfl
    obtain ⟨v3, y3, c3, _, t3⟩ := hg 3 _ rfl
    obtain ⟨v4, y4, c4, _, t4⟩ := hg 4 _ rfl
    obtain ⟨v5, y5, c5, _, t5⟩ := hg 5 _ rfl
    obtain ⟨kind, rfl⟩ := trod_u8 Try.underlying5 t0
    obtain ⟨to_, rfl, ht1, ht2⟩ := trod_i64 Try.underlying3 t1
    obtain ⟨A, n, c, bs, rfl, hbn, hnc, hr⟩ := trod_bytes Try.underlying27 Try.underlying5 (by kernel_rfl) t2
    obtain ⟨i, rfl, hi1, hi2⟩ := trod_i64 Try.underlying3 t3
    obtain ⟨at_, rfl, ha1, ha2⟩ := trod_i64 Try.underlying3 t4
    obtain ⟨y, rfl⟩ := trod_u8 Try.underlying5 t5
    refine ⟨⟨kind, to_, A, n, c, bs, i, at_, y⟩, ⟨ht1, ht2⟩, ⟨hi1, hi2⟩, ⟨ha1, ha2⟩, hnc, hbn, a, rfl, fun W hW => ⟨?_, (hr.chg' hW (fun _ _ => id) (by omega))⟩⟩
    have hblk : a.block < w.heap.size := by
      have := block_lt_of_cell c0
      rwa [block_of_add] at this
    have hcell : ∀ (j : Nat) (u : Value), w.cell? (a.add (k * 6 + j)) = some u → W.cell? ((a.add (k * 6)).add j) = some u := fun j u h => by
      rw [add_of_add]
      exact (hW.cell (by rw [block_of_add]; exact hblk) id).trans h
    refine run_LoadRow_at (P := Try.prog) (t := 29) Try.underlying29 rfl (n := 6) (by kernel_rfl) rfl fun j u hu => ?_
    match j, hu with
    | 0, hu => injection hu with hu; subst hu; exact hcell 0 _ c0
    | 1, hu => injection hu with hu; subst hu; exact hcell 1 _ c1
    | 2, hu => injection hu with hu; subst hu; exact hcell 2 _ c2
    | 3, hu => injection hu with hu; subst hu; exact hcell 3 _ c3
    | 4, hu => injection hu with hu; subst hu; exact hcell 4 _ c4
    | 5, hu => injection hu with hu; subst hu; exact hcell 5 _ c5
    | j + 6, hu => simp [actC] at hu
end
end Net
end Go.Proofs.Ytbagiehocgaoiaa

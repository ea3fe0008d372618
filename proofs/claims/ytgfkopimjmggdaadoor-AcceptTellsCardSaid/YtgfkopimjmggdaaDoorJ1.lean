/-
  Words for memory, used by all proofs of this seat: a block known whole, a slice that reads as a list, what a call may have changed, and the last step of a law's row (no condition).
-/
import Derived.Test.YtgfkopimjmggdaaDoorRows
import Derived.WalkKit
import Derived.ProofKit
import Derived.Deep.LoopGhost
import Derived.Deep.Light
import Derived.Deep.QuietTactic
import Derived.BigQuiet
import Derived.StillTailTactics
import Derived.Deep.Draws
import Derived.Deep.AppendLies
import Derived.Deep.Slices
import Derived.Lib.Hide
import Derived.Maps.AppendAt
import Derived.OpenShut
import Derived.WalkSpells
import Derived.Lib.SlBytesConst
import Derived.Deep.RegionWith
import Derived.Deep.RegionHeld3
import Derived.Deep.MidRow
import Derived.WalkLawsBesides
/- Words for memory, used by all proofs of this seat: a block known whole, a slice that reads as a list, what a call may have changed, and the last step of a law's row (no condition). -/
namespace Go.Proofs.YtgfkopimjmggdaaDoor
open Go.ChangeShapes Go.WideShapes Go.RowKit

/-- the walk stops here -/
def Stop (p : Prop) : Prop := p
theorem stop {p : Prop} (h : Stop p) : p := h

/-! ### addresses -/
theorem block_of_add (a : Addr) (n : Nat) : (a.add n).block = a.block := by unfold Addr.add; split <;> rfl
theorem add_of_add (a : Addr) (i j : Nat) : (a.add i).add j = a.add (i + j) := by
  unfold Addr.add
  by_cases hi : i = 0 <;> by_cases hj : j = 0 <;> simp [hi, hj, Nat.add_assoc]
theorem add_plain (g o n : Nat) : (⟨g, o, none⟩ : Addr).add n = ⟨g, o + n, none⟩ := by unfold Addr.add; split <;> simp_all

/-! ### what a call may have changed -/
structure Chg (S : Nat → Prop) (w w' : World) : Prop where
  os : w'.os = w.os
  tape : w'.tape = w.tape
  output : w'.output = w.output
  size : w.heap.size ≤ w'.heap.size
  block : ∀ k, k < w.heap.size → ¬ S k → w'.heap[k]? = w.heap[k]?

/-- nothing that was there has changed -/
abbrev New (w w' : World) : Prop := Chg (fun _ => False) w w'
/-- of what was there block g alone may have changed -/
abbrev Upd (g : Nat) (w w' : World) : Prop := Chg (fun k => k = g) w w'

section
variable {S S' T : Nat → Prop} {a w w' w'' : World}
theorem Chg.refl (S : Nat → Prop) (w : World) : Chg S w w := ⟨rfl, rfl, rfl, Nat.le_refl _, fun _ _ _ => rfl⟩
theorem Chg.mono (h : Chg S w w') (hs : ∀ k, k < w.heap.size → S k → S' k) : Chg S' w w' :=
  ⟨h.os, h.tape, h.output, h.size, fun k hk hn => h.block k hk fun hS => hn (hs k hk hS)⟩
theorem New.to (h : New w w') (S : Nat → Prop) : Chg S w w' := h.mono fun _ _ => False.elim
theorem Chg.trans (h : Chg S a w) (k : Chg T w w') (hT : ∀ i, i < a.heap.size → T i → S i) : Chg S a w' :=
  ⟨k.os.trans h.os, k.tape.trans h.tape, k.output.trans h.output, Nat.le_trans h.size k.size,
    fun i hi hn => (k.block i (Nat.lt_of_lt_of_le hi h.size) fun ht => hn (hT i hi ht)).trans (h.block i hi hn)⟩
theorem Chg.drew (h : Chg S a w) : Chg S a w.drew := ⟨h.os, h.tape, h.output, h.size, h.block⟩
theorem Chg.drewN (h : Chg S a w) (n : Nat) : Chg S a (w.drewN n) := ⟨h.os, h.tape, h.output, h.size, h.block⟩
theorem Chg.alloc (h : Chg S a w) (o : Obj) : Chg S a (w.alloc o) :=
  ⟨h.os, h.tape, h.output, Nat.le_trans h.size (by simp), fun k hk hn => (Below.heap_alloc w o k (Nat.lt_of_lt_of_le hk h.size)).trans (h.block k hk hn)⟩
theorem Chg.setCell (h : Chg S a w) {p : Addr} (hp : p.block < a.heap.size → S p.block) (u : Value) : Chg S a (w.setCell p u) :=
  ⟨h.os, h.tape, h.output, by simpa [World.setCell] using h.size, fun k hk hn => (Below.heap_setCell w p u k (by
    rintro rfl
    exact hn (hp hk))).trans (h.block k hk hn)⟩
theorem Chg.grown {row : Option Nat} (h : Chg S a w) (hg : w.grownBy w' row) (hr : ∀ g, row = some g → g < a.heap.size → S g) : Chg S a w' :=
  ⟨hg.os.trans h.os, hg.tape.trans h.tape, hg.output.trans h.output, Nat.le_trans h.size hg.size,
    fun k hk hn => (hg.block k (Nat.lt_of_lt_of_le hk h.size) fun e => hn (hr k e.symm hk)).trans (h.block k hk hn)⟩
theorem Chg.below (h : New w w') : Below w.heap.size w w' := ⟨h.os, h.tape, h.output, h.size, fun k hk => h.block k hk id⟩
theorem Chg.of_below (h : Below w.heap.size w w') : New w w' := ⟨h.os, h.tape, h.output, h.size, fun k hk _ => h.block k hk⟩
theorem Chg.cell (h : Chg S w w') {p : Addr} (hp : p.block < w.heap.size) (hn : ¬ S p.block) : w'.cell? p = w.cell? p := World.cell?_of_block (w := w) (h.block p.block hp hn)
theorem Chg.frozen (h : Chg S w w') {p : Addr} (hp : p.block < w.heap.size) (hn : ¬ S p.block) : w'.frozen? p = w.frozen? p := World.frozen?_of_block (w := w) (h.block p.block hp hn)
end

/-! ### a block known whole -/
def Blk (w : World) (g : Nat) (t : TypeId) (cs : Array Value) : Prop := w.heap[g]? = some (.cells cs t (0, 0))

section
variable {w w' : World} {g : Nat} {t : TypeId} {cs : Array Value} {S : Nat → Prop}
theorem Blk.lt (h : Blk w g t cs) : g < w.heap.size := by
  rcases Nat.lt_or_ge g w.heap.size with hlt | hge
  · exact hlt
  · unfold Blk at h; rw [Array.getElem?_eq_none hge] at h; cases h
theorem Blk.cell (h : Blk w g t cs) (i : Nat) : w.cell? ⟨g, i, none⟩ = cs[i]? := cell_of_row w g i cs t (0, 0) h
theorem Blk.frozen (h : Blk w g t cs) (i : Nat) : w.frozen? ⟨g, i, none⟩ = false := by
  unfold Blk at h
  simp [World.frozen?, h]
theorem Blk.new (w : World) (t : TypeId) (cs : Array Value) : Blk (w.alloc (.cells cs t)) w.heap.size t cs := heap_alloc_new w _
theorem Blk.new1 (w : World) (o : Obj) (t : TypeId) (cs : Array Value) : Blk ((w.alloc o).alloc (.cells cs t)) (w.heap.size + 1) t cs := by
  have := Blk.new (w.alloc o) t cs
  rwa [World.size_alloc] at this
theorem Blk.new2 (w : World) (o o' : Obj) (t : TypeId) (cs : Array Value) : Blk (((w.alloc o).alloc o').alloc (.cells cs t)) (w.heap.size + 2) t cs := by
  have := Blk.new ((w.alloc o).alloc o') t cs
  rwa [World.size_alloc, World.size_alloc] at this
theorem Blk.drew (h : Blk w g t cs) : Blk w.drew g t cs := h
theorem Blk.drewN (h : Blk w g t cs) (n : Nat) : Blk (w.drewN n) g t cs := h
theorem Blk.alloc (h : Blk w g t cs) (o : Obj) : Blk (w.alloc o) g t cs := (Below.heap_alloc w o g h.lt).trans h
theorem Blk.set_ (h : Blk w g t cs) (i : Nat) (u : Value) : Blk (w.setCell ⟨g, i, none⟩ u) g t (cs.setIfInBounds i u) := by
  unfold Blk at h ⊢
  simp [World.setCell, Array.getElem?_modify, h]
theorem Blk.far (h : Blk w g t cs) {p : Addr} (hp : g ≠ p.block) (u : Value) : Blk (w.setCell p u) g t cs := (Below.heap_setCell w p u g hp).trans h
theorem Blk.chg (h : Blk w g t cs) (hc : Chg S w w') (hg : ¬ S g) : Blk w' g t cs := (hc.block g h.lt hg).trans h
theorem Blk.grown {row : Option Nat} (h : Blk w g t cs) (hb : w.grownBy w' row) (hg : some g ≠ row) : Blk w' g t cs := (hb.block g h.lt hg).trans h
theorem Blk.ne_ {g' : Nat} {t' : TypeId} {cs' : Array Value} (h : Blk w g t cs) (h' : Blk w g' t' cs') (hne : t ≠ t') : g ≠ g' := by
  rintro rfl
  unfold Blk at h h'
  rw [h] at h'
  injection h' with h'
  injection h' with _ ht
  exact hne ht
end

/-! ### a slice that reads as a list of cells; its cells lie in blocks that meet F -/
structure Reads (w : World) (F : Nat → Prop) (size : Nat) (A : Option Addr) (n : Nat) (xs : List Value) : Prop where
  len : xs.length = n * size
  at0 : 0 < n → ∃ ad, A = some ad ∧ F ad.block ∧ ∀ j u, xs[j]? = some u → w.cell? (ad.add j) = some u

section
variable {w w' : World} {F G S : Nat → Prop} {size n : Nat} {A : Option Addr} {xs : List Value}
theorem Reads.none_ (A : Option Addr) : Reads w F size A 0 [] := ⟨by simp, fun h => absurd h (by omega)⟩
theorem Reads.at_ {k : Nat} (h : Reads w F 1 A n xs) (hk : k < n) : ∃ ad u, A = some ad ∧ F ad.block ∧ xs[k]? = some u ∧ w.cell? (ad.add k) = some u := by
  obtain ⟨ad, e, hb, hc⟩ := h.at0 (by omega)
  have hl : k < xs.length := by have := h.len; omega
  exact ⟨ad, xs[k], e, hb, List.getElem?_eq_getElem hl, hc k _ (List.getElem?_eq_getElem hl)⟩
theorem Reads.keep (h : Reads w F size A n xs) (hk : ∀ b, F b → w'.heap[b]? = w.heap[b]?) : Reads w' F size A n xs :=
  ⟨h.len, fun hn => by
    obtain ⟨ad, e, hb, hc⟩ := h.at0 hn
    exact ⟨ad, e, hb, fun j u hu => (World.cell?_of_block (w := w) (by rw [block_of_add]; exact hk _ hb)).trans (hc j u hu)⟩⟩
theorem Reads.mono (h : Reads w F size A n xs) (hF : ∀ b, F b → G b) : Reads w G size A n xs :=
  ⟨h.len, fun hn => by
    obtain ⟨ad, e, hb, hc⟩ := h.at0 hn
    exact ⟨ad, e, hF _ hb, hc⟩⟩
theorem Reads.chg (h : Reads w F size A n xs) (hc : Chg S w w') (hF : ∀ b, F b → b < w.heap.size ∧ ¬ S b) : Reads w' F size A n xs :=
  h.keep fun b hb => hc.block b (hF b hb).1 (hF b hb).2
/-- the same, where the slice's own cells say that its block is there -/
theorem Reads.chg' (h : Reads w F size A n xs) (hc : Chg S w w') (hF : ∀ b, F b → ¬ S b) (hs : 0 < size) : Reads w' F size A n xs := by
  refine ⟨h.len, fun hn => ?_⟩
  obtain ⟨ad, e, hb, hx⟩ := h.at0 hn
  have hpos : 0 < xs.length := by rw [h.len]; exact Nat.mul_pos hn hs
  have h0 := hx 0 _ (List.getElem?_eq_getElem hpos)
  have hlt : ad.block < w.heap.size := by
    have := block_lt_of_cell h0
    rwa [block_of_add] at this
  exact ⟨ad, e, hb, fun j u hu => (World.cell?_of_block (w := w) (by rw [block_of_add]; exact hc.block _ hlt (hF _ hb))).trans (hx j u hu)⟩
theorem Reads.drewN (h : Reads w F size A n xs) (k : Nat) : Reads (w.drewN k) F size A n xs := ⟨h.len, h.at0⟩
theorem Reads.take {k : Nat} (h : Reads w F size A n xs) (hk : k ≤ n) : Reads w F size A k (xs.take (k * size)) := by
  have hm : k * size ≤ n * size := Nat.mul_le_mul_right _ hk
  refine ⟨by rw [List.length_take, h.len]; omega, fun hn => ?_⟩
  obtain ⟨ad, e, hb, hx⟩ := h.at0 (by omega)
  refine ⟨ad, e, hb, fun j u hu => hx j u ?_⟩
  rw [List.getElem?_take] at hu
  split at hu
  · exact hu
  · cases hu
theorem Reads.cut {k cap : Nat} (h : Reads w F size A n xs) (hk : k ≤ n) (hc : n ≤ cap) :
    Reads w F size (if cap = k then A else A.map (·.add (k * size))) (n - k) (xs.drop (k * size)) := by
  refine ⟨by rw [List.length_drop, h.len, Nat.sub_mul], fun hn => ?_⟩
  obtain ⟨ad, rfl, hb, hcell⟩ := h.at0 (by omega)
  rw [if_neg (by omega)]
  refine ⟨ad.add (k * size), rfl, by rw [block_of_add]; exact hb, fun j u hu => ?_⟩
  rw [add_of_add]
  exact hcell _ u (by rw [← hu, List.getElem?_drop])
theorem Reads.of_own {base : Nat} {e : TypeId} {c : Nat} (h : w.ownsRow base e size (.slice A n c) n xs) : Reads w (fun b => base ≤ b ∧ b < w.heap.size ∧ (Value.slice A n c).ownBlock = some b) size A n xs := by
  refine ⟨h.1, fun hn => ?_⟩
  obtain ⟨g, cap, hv, hge, hlt⟩ := h.form hn
  have hA : A = some ⟨g, 0, none⟩ := by injection hv
  subst hA
  exact ⟨_, rfl, ⟨hge, hlt, rfl⟩, h.cells (g := g) rfl⟩
theorem Reads.of_row {g : Nat} {t : TypeId} {cs : Array Value} {fr : Nat × Nat} (h : w.heap[g]? = some (.cells cs t fr)) (hl : cs.size = n * size) : Reads w (fun b => b = g) size (some ⟨g, 0, none⟩) n cs.toList := by
  refine ⟨by simpa using hl, fun _ => ⟨_, rfl, rfl, fun j u hu => ?_⟩⟩
  rw [add_plain, Nat.zero_add, cell_of_row w g j cs t fr h]
  simpa using hu
theorem Reads.of_blk {g : Nat} {t : TypeId} {cs : Array Value} (h : Blk w g t cs) (hl : cs.size = n * size) : Reads w (fun b => b = g) size (some ⟨g, 0, none⟩) n cs.toList := by
  refine ⟨by simpa using hl, fun _ => ⟨_, rfl, rfl, fun j u hu => ?_⟩⟩
  rw [add_plain, Nat.zero_add, h.cell j]
  simpa using hu
end

/-! ### whole numbers as cells -/
def ints (l : List Int) : List Value := l.map (Value.int .i64)
theorem ints_length (l : List Int) : (ints l).length = l.length := by simp [ints]
theorem ints_get (l : List Int) (k : Nat) : (ints l)[k]? = l[k]?.map (Value.int .i64) := by simp [ints]
theorem ints_append (l m : List Int) : ints (l ++ m) = ints l ++ ints m := by simp [ints]
theorem ints_set (l : List Int) (k : Nat) (c : Int) : (ints l).set k (.int .i64 c) = ints (l.set k c) := by simp [ints, List.map_set]
theorem ints_one (l : List Int) : ∀ u ∈ ints l, u.oneCell' = true := by
  intro u hu
  obtain ⟨c, _, rfl⟩ := List.mem_map.1 hu
  rfl
theorem setIfInBounds_toArray (l : List Value) (k : Nat) (v : Value) : l.toArray.setIfInBounds k v = (l.set k v).toArray := by simp
theorem Blk.range {w : World} {g : Nat} {t : TypeId} {cs : List Value} (h : Blk w g t cs.toArray) (o : Nat) (xs : List Value) (hx : ∀ j v, xs[j]? = some v → cs[o + j]? = some v) : w.rangeAt g o xs := by
  intro j v hv
  rw [h.cell]
  simpa using hx j v hv

/-! ### arrays of whole numbers, held against each other -/
section
variable {P : Program}
theorem run_equalIn_ints (d : Nat) {t e : TypeId} {n : Nat} {i : TypeInfo} (ht : P.underlying t = some (.array n e)) (he : P.underlying e = some (.int .i64)) (hi : P.info? e = some i) (hs : i.size = 1) (xs ys : List Int) (hx : xs.length = n) (hy : ys.length = n) (w : World) :
    (Op.equalIn (d + 2) t (.agg (ints xs).toArray) (.agg (ints ys).toArray)).run P w = .ok (xs == ys) w := by
  have hagg : (isAgg e).run P w = .ok false w := by
    unfold isAgg
    rw [Sem.run_bind, run_underlying he w]
    rfl
  have hpart : ∀ (zs : List Int) (k : Nat) (h : k < zs.length), (part e (ints zs).toArray (k * 1)).run P w = .ok (.int .i64 zs[k]) w := by
    intro zs k h
    simp [part, hagg, ints, List.getElem?_eq_getElem h]
  unfold Op.equalIn
  simp only [Sem.run_bind, run_underlying ht, Result.andThen_ok, sizeOf, typeInfo, run_program, hi, Sem.run_pure, hs, Std.Legacy.Range.forIn_eq_forIn_range']
  have key : ∀ m k, k + m = n → Sem.run P
            (forIn (List.range' k m) ((none, ()) : Option Bool × Unit) fun i __s => do
              let a ← part e (ints xs).toArray (i * 1)
              let b ← part e (ints ys).toArray (i * 1)
              let r ← Op.equalIn (d + 1) e a b
              if (!r) = true then pure (ForInStep.done (some false, ())) else pure (ForInStep.yield (none, ()))) w = .ok (if xs.drop k == ys.drop k then (none, ()) else (some false, ())) w := by
    intro m
    induction m with
    | zero =>
      intro k hk
      have h1 : xs.drop k = [] := List.drop_eq_nil_of_le (by omega)
      have h2 : ys.drop k = [] := List.drop_eq_nil_of_le (by omega)
      simp [h1, h2]
    | succ m ih =>
      intro k hk
      have h1 : k < xs.length := by omega
      have h2 : k < ys.length := by omega
      rw [List.range'_succ, List.forIn_cons]
      simp only [Sem.run_bind, hpart xs k h1, hpart ys k h2, Result.andThen_ok, run_equalIn_int w d e .i64 .i64 _ _ he]
      rw [List.drop_eq_getElem_cons h1, List.drop_eq_getElem_cons h2]
      by_cases hq : xs[k] = ys[k]
      · have := ih (k + 1) (by omega)
        simp only [hq, beq_self_eq_true, Bool.not_true, Bool.false_eq_true, if_false, Sem.run_pure, Result.andThen_ok, this, List.cons_beq_cons, Bool.true_and]
      · have : (xs[k] == ys[k]) = false := by simpa using hq
        simp only [this, Bool.not_false, if_true, Sem.run_pure, Result.andThen_ok, List.cons_beq_cons, Bool.false_and, Bool.false_eq_true, if_false]
  have := key n 0 (by omega)
  simp only [List.drop_zero] at this
  have hsz : Std.Legacy.Range.size [:n] = n := by simp [Std.Legacy.Range.size]
  rw [hsz]
  erw [this]
  cases h : xs == ys <;> simp
theorem run_eql_ints {t e : TypeId} {n : Nat} {i : TypeInfo} (ht : P.underlying t = some (.array n e)) (he : P.underlying e = some (.int .i64)) (hi : P.info? e = some i) (hs : i.size = 1) (xs ys : List Int) (hx : xs.length = n) (hy : ys.length = n) (w : World) :
    (binOp .eql t (.agg (ints xs).toArray) (.agg (ints ys).toArray)).run P w = .ok (.bool (xs == ys)) w := by
  have := run_equalIn_ints (P := P) 9998 ht he hi hs xs ys hx hy w
  simp only [binOp]
  simp [Op.equal, Op.maxDepth, this]
theorem run_eqGuard_agg {t : TypeId} (h : P.eqGuardType P.depth t = false) (x y : Operand) (a b : Array Value) (w : World) : (eqGuard .eql t x y (.agg a) (.agg b)).run P w = .ok () w := by
  simp [eqGuard, h]
end

/-! ### whole arrays and structs, by value -/
theorem Chg.setCells {S : Nat → Prop} {a : World} {g : Nat} : ∀ (cs : List Value) (o : Nat) (w : World), Chg S a w → (g < a.heap.size → S g) → Chg S a (w.setCells g o cs) := by
  intro cs
  induction cs with
  | nil => intro o w h _; exact h
  | cons v cs ih =>
    intro o w h hp
    rw [World.setCells]
    exact ih _ _ (h.setCell (p := ⟨g, o, none⟩) hp v) hp
/-- the whole variable of type t at a is read; is written: names that the walk does not open -/
def LoadRow (t : TypeId) (a : Addr) : Sem Value := loadVar t a
def StoreRow (t : TypeId) (a : Addr) (v : Value) : Sem Unit := storeVar t a v
def LoadRowV (t : TypeId) (p : Value) : Sem Value := Instr.loadAt t p
def StoreRowV (t : TypeId) (p v : Value) : Sem Unit := Instr.storeAt t p v
theorem loadRowV_ptr (t : TypeId) (a : Addr) : LoadRowV t (.pointer (some a)) = LoadRow t a := rfl
theorem storeRowV_ptr (t : TypeId) (a : Addr) (v : Value) : StoreRowV t (.pointer (some a)) v = StoreRow t a v := rfl
attribute [go_sem] loadRowV_ptr storeRowV_ptr
section
variable {P : Program}
theorem run_LoadRow {t : TypeId} {n : Nat} {d : TypeDesc} (hu : P.underlying t = some d) (hd : d.isRow = true) (hi : (P.info? t).map (·.size) = some n) {w : World} {g o : Nat} {cs : List Value} (hl : cs.length = n) (h : w.rangeAt g o cs) :
    (LoadRow t ⟨g, o, none⟩).run P w = .ok (.agg cs.toArray) w :=
  run_loadVar_mid w g o t cs d h hu hd (by rw [hi, hl])
theorem run_LoadRow_at {t : TypeId} {n : Nat} {d : TypeDesc} (hu : P.underlying t = some d) (hd : d.isRow = true) (hi : (P.info? t).map (·.size) = some n) {w : World} {a : Addr} {cs : List Value} (hl : cs.length = n) (h : ∀ j v, cs[j]? = some v → w.cell? (a.add j) = some v) :
    (LoadRow t a).run P w = .ok (.agg cs.toArray) w := by
  have hl' : (loadCells a cs.length).run P w = .ok cs.toArray w := run_loadCells_list (P := P) w a cs h
  cases hq : P.info? t with
  | none => simp [hq] at hi
  | some i =>
    have hs : i.size = cs.length := by simp [hq] at hi; omega
    have hagg : (isAgg t).run P w = .ok true w := by
      unfold isAgg
      rw [Sem.run_bind, run_underlying hu w]
      cases d <;> simp_all
    simp [LoadRow, loadVar, Sem.run_bind, hagg, sizeOf, typeInfo, hq, hs, hl']
/-- element k of a slice of structs, as one value -/
theorem Reads.elem {w : World} {F : Nat → Prop} {s n k : Nat} {A : Option Addr} {xs : List Value} (h : Reads w F s A n xs) (hk : k < n) : ∃ ad, A = some ad ∧ F ad.block ∧ ∀ j v, ((xs.drop (k * s)).take s)[j]? = some v → w.cell? ((ad.add (k * s)).add j) = some v := by
  obtain ⟨ad, e, hF, hc⟩ := h.at0 (by omega)
  refine ⟨ad, e, hF, fun j v hv => ?_⟩
  rw [add_of_add]
  refine hc _ v ?_
  rw [List.getElem?_take] at hv
  split at hv
  · rw [List.getElem?_drop] at hv; exact hv
  · cases hv
theorem Reads.elem_len {w : World} {F : Nat → Prop} {s n k : Nat} {A : Option Addr} {xs : List Value} (h : Reads w F s A n xs) (hk : k < n) : ((xs.drop (k * s)).take s).length = s := by
  have h1 := h.len
  have : (k + 1) * s ≤ n * s := Nat.mul_le_mul_right _ hk
  rw [Nat.add_mul] at this
  rw [List.length_take, List.length_drop]
  omega
theorem Blk.range_all {w : World} {g : Nat} {t : TypeId} {cs : List Value} (h : Blk w g t cs.toArray) : w.rangeAt g 0 cs := h.range 0 cs (by simp)
theorem run_StoreRow {t : TypeId} {n : Nat} (hi : (P.info? t).map (·.size) = some n) {w : World} {g o : Nat} {e : TypeId} {old cs : List Value} (hl : cs.length = n) (h1 : ∀ v ∈ cs, v.oneCell' = true) (h : Blk w g e old.toArray) (ho : o + n ≤ old.length) :
    (StoreRow t ⟨g, o, none⟩ (.agg cs.toArray)).run P w = .ok () (w.setCells g o cs) := by
  have := run_storeVar_mid (P := P) w g o t cs.toArray (fun j hj => by
    have hj' : o + j < old.length := by simp at hj; omega
    rw [h.cell, h.frozen]
    simp [hj']) (by rw [hi]; simp [hl]) (all_oneCell_toArray h1)
  rw [List.toList_toArray] at this
  exact this
theorem Blk.setCells {e : TypeId} {g : Nat} : ∀ (cs : List Value) (o : Nat) (w : World) (old : List Value), Blk w g e old.toArray → o + cs.length ≤ old.length → Blk (w.setCells g o cs) g e (old.take o ++ cs ++ old.drop (o + cs.length)).toArray := by
  intro cs
  induction cs with
  | nil => intro o w old h _; rw [World.setCells]; simpa using h
  | cons v cs ih =>
    intro o w old h hl
    rw [List.length_cons] at hl
    rw [World.setCells]
    have h1 := h.set_ o v
    rw [setIfInBounds_toArray] at h1
    have := ih (o + 1) _ _ h1 (by rw [List.length_set]; omega)
    have e1 : (old.set o v).take (o + 1) = old.take o ++ [v] := by
      rw [List.take_succ_eq_append_getElem (by rw [List.length_set]; omega)]
      simp [List.take_set_of_le]
    rw [e1, List.drop_set_of_lt (by omega)] at this
    rw [List.length_cons, show o + (cs.length + 1) = o + 1 + cs.length by omega]
    simpa using this
end

theorem run_index_ints {P : Program} {t e : TypeId} {n : Nat} {i : TypeInfo} (ht : P.underlying t = some (.array n e)) (hi : P.info? e = some i) (hs : i.size = 1) (he : ∃ d, P.underlying e = some d ∧ d.isRow = false) {xs : List Int} (hl : xs.length = n) {k : Nat} (hk : k < n) (w : World) :
    (Instr.index t (.agg (ints xs).toArray) (.int .i64 (k : Int))).run P w = .ok (.int .i64 (xs.getD k 0)) w := by
  obtain ⟨d, hd, hr⟩ := he
  have hagg : (isAgg e).run P w = .ok false w := by
    unfold isAgg
    rw [Sem.run_bind, run_underlying hd w]
    cases d <;> simp_all
  have hg : (ints xs)[k]? = some (.int .i64 (xs.getD k 0)) := by
    rw [ints_get, List.getElem?_eq_getElem (by omega)]
    simp [List.getD, List.getElem?_eq_getElem (show k < xs.length by omega)]
  have hk' : ((k : Int) < (n : Int)) := by omega
  simp [Instr.index, run_underlying ht, asIntOf, hk, sizeOf, typeInfo, hi, hs, part, hagg, hg]

/-! ### bytes -/
/-- bytes as cells -/
def u8s (l : List UInt8) : List Value := l.map fun c => .int .u8 (c.toNat : Int)
theorem u8s_length (l : List UInt8) : (u8s l).length = l.length := by simp [u8s]
theorem u8s_get (l : List UInt8) (k : Nat) : (u8s l)[k]? = l[k]?.map fun c => .int .u8 (c.toNat : Int) := by simp [u8s]
theorem u8s_take (l : List UInt8) (k : Nat) : (u8s l).take k = u8s (l.take k) := by simp [u8s, List.map_take]
theorem u8s_drop (l : List UInt8) (k : Nat) : (u8s l).drop k = u8s (l.drop k) := by simp [u8s, List.map_drop]
theorem u8s_append (l m : List UInt8) : u8s (l ++ m) = u8s l ++ u8s m := by simp [u8s]
theorem u8s_set (l : List UInt8) (k : Nat) (c : UInt8) : (u8s l).set k (.int .u8 (c.toNat : Int)) = u8s (l.set k c) := by simp [u8s, List.map_set]
theorem u8s_one (l : List UInt8) : ∀ u ∈ u8s l, u.oneCell' = true := by
  intro u hu
  obtain ⟨c, _, rfl⟩ := List.mem_map.1 hu
  rfl

theorem Reads.byte {w : World} {F : Nat → Prop} {A : Option Addr} {n k : Nat} {l : List UInt8} (h : Reads w F 1 A n (u8s l)) (hk : k < n) :
    ∃ ad ch, A = some ad ∧ F ad.block ∧ l[k]? = some ch ∧ w.cell? (ad.add k) = some (.int .u8 (ch.toNat : Int)) := by
  obtain ⟨ad, u, rfl, hF, hu, hc⟩ := h.at_ hk
  rw [u8s_get] at hu
  obtain ⟨ch, hch, rfl⟩ := Option.map_eq_some_iff.1 hu
  exact ⟨ad, ch, rfl, hF, hch, hc⟩
theorem Reads.u8len {w : World} {F : Nat → Prop} {A : Option Addr} {n : Nat} {l : List UInt8} (h : Reads w F 1 A n (u8s l)) : l.length = n := by
  have := h.len
  rw [u8s_length] at this
  omega
/-- s[:k] and s[k:] of a slice -/
theorem run_slice_to {P : Program} {t e : TypeId} {i : TypeInfo} (ht : P.underlying t = some (.slice e)) (hi : P.info? e = some i) (A : Option Addr) (n c k : Nat) (hk : k ≤ c) (W : World) :
    (Instr.sliceAt t (.slice A n c) none (some (.int .i64 (k : Int))) none).run P W = .ok (.slice A k c) W := by
  have : (if c = 0 then A else A.map (·.add 0)) = A := by
    split
    · rfl
    · cases A <;> simp [Addr.add]
  simp [Instr.sliceAt, Instr.slice, Instr.sliceBounds, Instr.sliceBound, run_underlying ht, asIntOf, sizeOf, typeInfo, hi, hk]
  simpa using this
theorem run_slice_from {P : Program} {t e : TypeId} {i : TypeInfo} (ht : P.underlying t = some (.slice e)) (hi : P.info? e = some i) (A : Option Addr) (n c k : Nat) (hk : k ≤ n) (W : World) :
    (Instr.sliceAt t (.slice A n c) (some (.int .i64 (k : Int))) none none).run P W = .ok (.slice (if c = k then A else A.map (·.add (k * i.size))) (n - k) (c - k)) W := by
  simp [Instr.sliceAt, Instr.slice, Instr.sliceBounds, Instr.sliceBound, run_underlying ht, asIntOf, sizeOf, typeInfo, hi, hk]
theorem run_slice_mid {P : Program} {t e : TypeId} {i : TypeInfo} (ht : P.underlying t = some (.slice e)) (hi : P.info? e = some i) (A : Option Addr) (n c k m : Nat) (hk : k ≤ m) (hm : m ≤ c) (W : World) :
    (Instr.sliceAt t (.slice A n c) (some (.int .i64 (k : Int))) (some (.int .i64 (m : Int))) none).run P W = .ok (.slice (if c = k then A else A.map (·.add (k * i.size))) (m - k) (c - k)) W := by
  simp [Instr.sliceAt, Instr.slice, Instr.sliceBounds, Instr.sliceBound, run_underlying ht, asIntOf, sizeOf, typeInfo, hi, hk, hm]
theorem foldl_push_u8s (l : List UInt8) : (l.map fun c => (c.toNat : Int)).foldl (fun r n => r.push (UInt8.ofNat n.toNat)) ByteArray.empty = ⟨l.toArray⟩ := by
  rw [foldl_push_bytes]
  have : ((l.map fun c => (c.toNat : Int)).map fun n => UInt8.ofNat n.toNat) = l := by
    rw [List.map_map]
    conv => rhs; rw [← List.map_id l]
    refine List.map_congr_left fun c _ => ?_
    simp
  rw [this]
  simp [ByteArray.empty, ByteArray.emptyWithCapacity]
  rfl
/-- string(b) -/
theorem run_str {P : Program} {w : World} {F : Nat → Prop} {src dst e : TypeId} {A : Option Addr} {n : Nat} {l : List UInt8} (hs : P.underlying src = some (.slice e)) (he : P.underlying e = some (.int .u8)) (hd : P.underlying dst = some .string)
    (h : Reads w F 1 A n (u8s l)) (c : Nat) : (convert src dst (.slice A n c)).run P w = .ok (.string ⟨l.toArray⟩) w := by
  have hln : l.length = n := by have := h.len; rw [u8s_length] at this; omega
  rcases A with _ | ad
  · have hn : n = 0 := by
      rcases Nat.eq_zero_or_pos n with h0 | h0
      · exact h0
      · obtain ⟨ad, h1, _⟩ := h.at0 h0
        cases h1
    subst hn
    have hl : l = [] := List.eq_nil_of_length_eq_zero hln
    subst hl
    rw [run_convert_bytes_nil w src e hs he 0 c dst hd]
    rfl
  · have hl : (loadCells ad n).run P w = .ok ((l.map fun c => (c.toNat : Int)).map (Value.int .u8)).toArray w := by
      have hcell : ∀ j v, (u8s l)[j]? = some v → w.cell? (ad.add j) = some v := by
        intro j v hj
        have hp : 0 < n := by
          have : j < (u8s l).length := by
            rcases Nat.lt_or_ge j (u8s l).length with h1 | h1
            · exact h1
            · rw [List.getElem?_eq_none h1] at hj; cases hj
          rw [u8s_length] at this
          omega
        obtain ⟨ad', h1, _, h2⟩ := h.at0 hp
        injection h1 with h1
        subst h1
        exact h2 j v hj
      have := run_loadCells_list (P := P) w ad (u8s l) hcell
      rw [u8s_length, hln] at this
      rw [this]
      simp [u8s, List.map_map, Function.comp_def]
    rw [run_convert_bytes_string w src dst e _ n c hs he hd, run_bytesToString w _ n c _ hl, foldl_push_u8s]

section
variable {H : Type} {enc : TypeId × Value → H} {P : Program} {w : World} {base : Nat} {held : Bool}
theorem cells_slice {r : Reach} {b0 : Nat} {t e : TypeId} {v : Value} (ht : P.underlying t = some (.slice e)) (hv : Value.okWide P w r b0 t v) : v.cells = #[v] := by
  cases v <;> simp_all [Value.okWide, Cell.okWide, Cell.ok, Value.cells]
/-- an argument []byte, opened -/
theorem open_u8s {t e : TypeId} {v : Value} {d : DataW H} {ps : List MemPlace} (ht : P.underlying t = some (.slice e)) (he : P.underlying e = some (.int .u8)) (hc : P.cellsOf e = 1) (hb1 : P.bytesOf e = 1)
    (hv : v.cells = #[v]) (hw : ∀ x ∈ d.weights P t, x ≤ reachBytes) (hd : DataW.Trod enc P w base (fun _ => true) held t v d ps) :
    ∃ (A : Option Addr) (n c : Nat) (l : List UInt8), v = .slice A n c ∧ l.length = n ∧ n ≤ c ∧ c ≤ 140737488351232 ∧ Reads w (fun b => b < w.heap.size) 1 A n (u8s l) := by
  obtain ⟨fuel, hf⟩ := hd
  rw [hv] at hf
  rcases Deep.open_slice1 ht hc hf with ⟨h, _⟩ | ⟨a, len, cap, m, n, V, D, Pl, h, _, hl, hm, hmm, hdd, hx⟩
  · have hv' : v = .slice none 0 0 := by simpa using h
    exact ⟨none, 0, 0, [], hv', rfl, Nat.le_refl _, by omega, Reads.none_ _⟩
  · have hv' : v = .slice (some a) len cap := by simpa using h
    have hmc : m = cap := by simpa using hmm
    have hle : len ≤ m := by omega
    have hcap : cap ≤ 140737488351232 := by
      have hd' : d = .slice ((List.range len).map D) ((List.range (m - len)).map fun j => D (len + j)) := congrArg Prod.fst hdd
      have := hw (cap * P.bytesOf e) (by
        rw [hd']
        simp only [DataW.weights, ht]
        refine List.mem_cons.2 (.inl ?_)
        simp only [List.length_map, List.length_range]
        rw [show len + (m - len) = cap by omega])
      rw [hb1, Nat.mul_one] at this
      exact this
    have hone : ∀ i, i < len → ∃ c : UInt8, V i = .int .u8 (c.toNat : Int) := by
      intro i hi
      obtain ⟨n', hw, h1, h2⟩ := DataW.trod_int he (hx i (by omega)).2
      simp at hw
      simp [Lit.wf, IntKind.min, IntKind.max, IntKind.signed, IntKind.bits] at h2
      refine ⟨UInt8.ofNat n'.toNat, ?_⟩
      rw [hw]
      congr 1
      simp
      omega
    obtain ⟨f, hf'⟩ := Deep.choose_lt hone
    refine ⟨some a, len, cap, (List.range len).map f, hv', by simp, hl, hcap, ⟨by simp [u8s], fun hn => ⟨a, rfl, ?_, fun j u hu => ?_⟩⟩⟩
    · have := block_lt_of_cell (hx 0 (by omega)).1
      rwa [block_of_add] at this
    · rw [u8s_get] at hu
      have hj : j < len := by
        rcases Nat.lt_or_ge j len with h | h
        · exact h
        · rw [List.getElem?_eq_none (by simpa using h)] at hu
          cases hu
      rw [(hx j (by omega)).1, hf' j hj]
      simpa [hj] using hu
end

/-! ### append onto a row of the call's own, the source nil, empty or not -/
section
variable {P : Program} (w : World)
theorem run_append_of_nil (base : Nat) (t ty e : TypeId) (i : TypeInfo) (size : Nat) (ht : P.underlying t = some (.slice e)) (hi : P.info? e = some i)
    (v : Value) (n : Nat) (xs : List Value) (hown : w.ownsRow base e size v n xs) (c : Nat) : (Builtin.append_ #[t, t] ty #[v, .slice none 0 c]).run P w = .ok v w := by
  rcases hown.2 with ⟨rfl, rfl⟩ | ⟨g, cap, cur, rfl, _, _, hnc, _⟩
  · simp [Builtin.append_, run_underlying ht, sizeOf, typeInfo, hi, Builtin.lenOf, Builtin.firstCells]
  · simp [Builtin.append_, run_underlying ht, sizeOf, typeInfo, hi, Builtin.lenOf, Builtin.firstCells, hnc, storeCells]

theorem run_append_any (base : Nat) (t ty e : TypeId) (i : TypeInfo) (z : Value) (size bytes : Nat) (ht : P.underlying t = some (.slice e)) (hi : P.info? e = some i) (hz : i.zero = some z)
    (hsize : i.size = size) (hby : i.bytes = bytes) (hzs : z.cells.size = size) (hsz : 0 < size)
    (v : Value) (n : Nat) (xs : List Value) (hown : w.ownsRow base e size v n xs)
    (F : Nat → Prop) (A : Option Addr) (m c : Nat) (news : List Value) (hr : Reads w F size A m news) (h1 : ∀ u ∈ news, u.oneCell' = true)
    (h63 : n + m ≤ maxLen) (hbytes : (n + m) * bytes ≤ 140737488355328) (hbase : base ≤ w.heap.size) :
    ∃ v' w', (Builtin.append_ #[t, t] ty #[v, .slice A m c]).run P w = .ok v' w' ∧ w'.ownsRow base e size v' (n + m) (xs ++ news) ∧ w.grownBy w' v.ownBlock ∧
      (v'.ownBlock = v.ownBlock ∨ v'.ownBlock = some w.heap.size) := by
  rcases A with _ | ad
  · have hm : m = 0 := by
      rcases Nat.eq_zero_or_pos m with h0 | h0
      · exact h0
      · obtain ⟨ad, h, _⟩ := hr.at0 h0
        cases h
    subst hm
    have hn : news = [] := List.eq_nil_of_length_eq_zero (by simpa using hr.len)
    subst hn
    exact ⟨v, w, run_append_of_nil w base t ty e i size ht hi v n xs hown c, by simpa using hown, World.grownBy.refl w _, .inl rfl⟩
  · have hcells : ∀ j u, news[j]? = some u → w.cell? (ad.add j) = some u := by
      intro j u hu
      rcases Nat.eq_zero_or_pos m with h0 | h0
      · subst h0
        have hn : news = [] := List.eq_nil_of_length_eq_zero (by simpa using hr.len)
        subst hn
        simp at hu
      · obtain ⟨ad', h, _, hc⟩ := hr.at0 h0
        injection h with h
        subst h
        exact hc j u hu
    obtain ⟨v', w', hrun, h2, h3, _, h5⟩ := run_append_own_at (P := P) w base t ty e i z size bytes ht hi hz hsize hby hzs hsz v n xs hown ad m c news hr.len hcells h1 h63 hbytes hbase
    exact ⟨v', w', hrun, h2, h3, h5⟩

theorem wp_append_any {o : Oper} {a : Act} {K : Act → World → Prop} {Q : Exit → Act → World → Prop} (s x : Operand) (t : TypeId)
    (ho : o.op = .call { callee := .builtin .append, args := #[s, x], argTypes := #[t, t] })
    (base : Nat) (e : TypeId) (i : TypeInfo) (z : Value) (size bytes : Nat) (ht : P.underlying t = some (.slice e)) (hi : P.info? e = some i) (hz : i.zero = some z)
    (hsize : i.size = size) (hby : i.bytes = bytes) (hzs : z.cells.size = size) (hsz : 0 < size)
    (v : Value) (n : Nat) (xs : List Value) (hs : a.eval s = v) (hown : w.ownsRow base e size v n xs)
    (F : Nat → Prop) (A : Option Addr) (m c : Nat) (news : List Value) (hx : a.eval x = .slice A m c) (hr : Reads w F size A m news) (h1 : ∀ u ∈ news, u.oneCell' = true)
    (h63 : n + m ≤ maxLen) (hbytes : (n + m) * bytes ≤ 140737488355328) (hbase : base ≤ w.heap.size)
    (h : ∀ v' w', w'.ownsRow base e size v' (n + m) (xs ++ news) → w.grownBy w' v.ownBlock → (v'.ownBlock = v.ownBlock ∨ v'.ownBlock = some w.heap.size) → K (a.put o.dst v') w') : o.wp P a w K Q := by
  obtain ⟨v', w', hrun, h2, h3, h4⟩ := run_append_any (P := P) w base t o.type e i z size bytes ht hi hz hsize hby hzs hsz v n xs hown F A m c news hr h1 h63 hbytes hbase
  unfold Oper.wp execOp
  simp only [ho, resolve, invoke, builtin, Sem.run_bind, Sem.run_pure, Result.andThen_ok, List.map_toArray, List.map_cons, List.map_nil, hs, hx, hrun]
  exact h v' w' h2 h3 h4

theorem wpList_append_any {ops : Array Oper} {rest : List Oper} {o : Oper} {a : Act} {Q : Exit → Act → World → Prop} (hgd : o.guard = none) (s x : Operand) (t : TypeId)
    (ho : o.op = .call { callee := .builtin .append, args := #[s, x], argTypes := #[t, t] })
    (base : Nat) (e : TypeId) (i : TypeInfo) (z : Value) (size bytes : Nat) (ht : P.underlying t = some (.slice e)) (hi : P.info? e = some i) (hz : i.zero = some z)
    (hsize : i.size = size) (hby : i.bytes = bytes) (hzs : z.cells.size = size) (hsz : 0 < size)
    (v : Value) (n : Nat) (xs : List Value) (hs : a.eval s = v) (hown : w.ownsRow base e size v n xs)
    (F : Nat → Prop) (A : Option Addr) (m c : Nat) (news : List Value) (hx : a.eval x = .slice A m c) (hr : Reads w F size A m news) (h1 : ∀ u ∈ news, u.oneCell' = true)
    (h63 : n + m ≤ maxLen) (hbytes : (n + m) * bytes ≤ 140737488355328) (hbase : base ≤ w.heap.size)
    (h : ∀ v' w', w'.ownsRow base e size v' (n + m) (xs ++ news) → w.grownBy w' v.ownBlock → (v'.ownBlock = v.ownBlock ∨ v'.ownBlock = some w.heap.size) → wpList P ops Q rest (a.put o.dst v') w') : wpList P ops Q (o :: rest) a w :=
  wpList_plain hgd fun _ hK => wp_append_any w s x t ho base e i z size bytes ht hi hz hsize hby hzs hsz v n xs hs hown F A m c news hx hr h1 h63 hbytes hbase fun v' w' h2 h3 h4 => hK _ _ (h v' w' h2 h3 h4)
end

/-! ### regions that draw their order -/
/-- a world in which blocks outside S are as they were -/
structure ChgW (S : Nat → Prop) (w : World) where
  W : World
  chg : Chg S w W
instance {S : Nat → Prop} {w : World} : Nonempty (ChgW S w) := ⟨⟨w, Chg.refl S w⟩⟩
/-- a callee's contract, for wp_region_chg -/
theorem calls_chg {P : Program} {f : FuncId} {args : Array Value} {S T : Nat → Prop} {w : World} {x : ChgW S w} {v : Value}
    (h : Calls P f args x.W fun e w' => e = .returned v ∧ Chg T x.W w') (hT : ∀ i, i < w.heap.size → T i → S i) : Calls P f args x.W fun e w'' => e = .returned v ∧ ∃ y : ChgW S w, w'' = y.W :=
  h.mono fun _ w' ⟨he, hc⟩ => ⟨he, ⟨w', x.chg.trans hc hT⟩, rfl⟩
theorem calls_new {P : Program} {f : FuncId} {args : Array Value} {S : Nat → Prop} {w : World} {x : ChgW S w} {v : Value}
    (h : Calls P f args x.W fun e w' => e = .returned v ∧ New x.W w') : Calls P f args x.W fun e w'' => e = .returned v ∧ ∃ y : ChgW S w, w'' = y.W :=
  calls_chg h fun _ _ => False.elim
section
variable {P : Program} {id : Nat} {Q : Exit → Act → World → Prop} {a : Act} {w : World} {l : List Oper}
/-- n operations that only read, then the tail -/
theorem wp_region_tail (n : Nat) (hm : P.follows .mixedOrders = true) (hB : Region.lexTailB .any l.toArray n = true)
    (h : wpStill P l.toArray w.drew (fun a' => wpList P l.toArray Q (l.drop n) a' w.drew) (l.take n) a) : (Code.region id l.toArray true).wp P Q a w :=
  wp_region_still_tail n hm hB h
theorem wpStill_of_quiet {ops : Array Oper} {w : World} {Q : Act → Prop} : ∀ (l : List Oper) (a : Act), wpQuiet P ops (fun W => W = w) Q l a → wpStill P ops w Q l a
  | [], _, h => h
  | o :: rest, a, h => by
    unfold wpQuiet at h
    unfold wpStill
    split
    · next hw =>
      rw [if_pos hw] at h
      obtain ⟨v, hv, hn⟩ := h
      have hq := hv w rfl
      have hr := wpStill_of_quiet rest _ hn
      unfold Oper.quietAt at hq
      unfold Oper.still
      generalize (execOp a.eval o).run P w = r at hq
      cases r with
      | ok n w' =>
        cases n <;> simp only [Oper.quietUpon, Oper.stillUpon] at hq ⊢
        case enter f args => exact ⟨hq.1, v, hq.2, hr⟩
        all_goals first | exact hq.elim | (obtain ⟨h1, rfl⟩ := hq; exact ⟨h1, hr⟩)
      | _ => simp only [Oper.quietUpon] at hq
    · next hw =>
      rw [if_neg hw] at h
      exact wpStill_of_quiet rest _ h
/-- n operations that only read, some of them guarded, then the tail -/
theorem wp_region_tailq (n : Nat) (hm : P.follows .mixedOrders = true) (hB : Region.lexTailB .any l.toArray n = true)
    (h : wpQuiet P l.toArray (fun W => W = w.drew) (fun a' => wpList P l.toArray Q (l.drop n) a' w.drew) (l.take n) a) : (Code.region id l.toArray true).wp P Q a w :=
  wp_region_still_tail n hm hB (wpStill_of_quiet _ _ h)
/-- operations that only read, and calls that leave blocks outside S as they are: in one walk. A fact for it: ∀ x : ChgW S w, x.W.cell? .. = .. -/
theorem wp_region_chg (S : Nat → Prop) (hm : P.follows .mixedOrders = true) (hB : Region.lexB .any l.toArray = true)
    (h : wpQuiet P l.toArray (fun W => ∃ x : ChgW S w, W = x.W) (fun a' => ∀ x : ChgW S w, Q .normal a' x.W) l a) : (Code.region id l.toArray true).wp P Q a w := by
  refine wp_region_quiet (C := fun W => ∃ x : ChgW S w, W = x.W) hm hB ⟨⟨w.drew, (Chg.refl S w).drew⟩, rfl⟩ ?_
  have : (fun a' => ∀ w', (∃ x : ChgW S w, w' = x.W) → Q .normal a' w') = (fun a' => ∀ x : ChgW S w, Q .normal a' x.W) := by
    funext a'
    exact propext ⟨fun h x => h _ ⟨x, rfl⟩, fun h w' ⟨x, e⟩ => e ▸ h x⟩
  rw [this]
  simpa using h
/-- operations that only read -/
theorem wp_region_quiet1 (hm : P.follows .mixedOrders = true) (hB : Region.lexB .any l.toArray = true)
    (h : wpStill P l.toArray w.drew (fun a' => Q .normal a' w.drew) l a) : (Code.region id l.toArray true).wp P Q a w :=
  wp_region_still_lit hm hB h
end

/-! ### a region of reads and of calls that change none of the blocks outside T: the reads first, then the next call, and so on -/
section
variable {P : Program} {ops : Array Oper} {Q : Exit → Act → World → Prop} {md : Region.Mode} {T : Nat → Prop}
theorem wpAnyH_sub {S S' : World → Prop} (hS : ∀ w, S' w → S w) : ∀ (fuel : Nat) (listed : Array Bool) (a : Act) (w : World), wpAnyH P md ops Q S' fuel listed a w → wpAnyH P md ops Q S fuel listed a w
  | 0, _, _, _, h => h
  | fuel + 1, _, _, _, h => ⟨h.1, fun i hi => wpOp_mono (fun a' w' h' => ⟨hS _ h'.1, wpAnyH_sub hS fuel _ a' w' h'.2⟩) (h.2 i hi)⟩
theorem grow_start (T : Nat → Prop) {id : Nat} {a : Act} {w : World} (hm : P.follows .mixedOrders = true)
    (h : wpAnyH P .any ops (NoPanic Q) (Chg T w.drew) ops.size (Array.replicate ops.size false) a w.drew) : (Code.region id ops true).wp P Q a w :=
  wp_region_noPanic (wp_region_held_drew (S := Chg T w.drew) hm (Chg.refl _ _) fun _ => h)
/-- a read -/
theorem grow_take {i : Nat} {oi : Oper} {v : Value} {fuel : Nat} {listed : Array Bool} {a : Act} {w : World} (hi : ops[i]? = some oi)
    (hs : Region.noSelect ops = true) (hf : Region.free md ops listed i = true) (hr : (Region.ready md ops listed).contains i = true)
    (hw : Region.wanted oi (yielded ops a.tmps) = true) (hy : ∀ W, Chg T w W → (execOp a.eval oi).run P W = .ok (.value v) W)
    (h : wpAnyH P md ops (NoPanic Q) (Chg T w) fuel (listed.setIfInBounds i true) (a.put oi.dst v) w) : wpAnyH P md ops (NoPanic Q) (Chg T w) (fuel + 1) listed a w :=
  wpAnyH_take hi hs hf hr (fun _ _ _ h => h) (.inl ⟨hw, hy⟩) (Chg.refl _ _) h
/-- an operation that its guard bars -/
theorem grow_skip {i : Nat} {oi : Oper} {fuel : Nat} {listed : Array Bool} {a : Act} {w : World} (hi : ops[i]? = some oi)
    (hs : Region.noSelect ops = true) (hf : Region.free md ops listed i = true) (hr : (Region.ready md ops listed).contains i = true)
    (hw : Region.wanted oi (yielded ops a.tmps) = false)
    (h : wpAnyH P md ops (NoPanic Q) (Chg T w) fuel (listed.setIfInBounds i true) (a.put oi.dst undef) w) : wpAnyH P md ops (NoPanic Q) (Chg T w) (fuel + 1) listed a w :=
  wpAnyH_take hi hs hf hr (fun _ _ _ h => h) (.inr ⟨hw, rfl⟩) (Chg.refl _ _) h
/-- the one operation that may come up: a call, or one that makes memory -/
theorem grow_next {i : Nat} {oi : Oper} {fuel : Nat} {listed : Array Bool} {a : Act} {w : World} (hr : Region.ready md ops listed = [i]) (hi : ops[i]? = some oi)
    (hw : Region.wanted oi (yielded ops a.tmps) = true)
    (h : ∀ K : Act → World → Prop, (∀ a' w', Chg T w w' → wpAnyH P md ops (NoPanic Q) (Chg T w') fuel (listed.setIfInBounds i true) a' w' → K a' w') → Oper.wp P oi a w K (NoPanic Q)) :
    wpAnyH P md ops (NoPanic Q) (Chg T w) (fuel + 1) listed a w := by
  refine wpAnyH_ready hr (by simp) (AllReadyH.cons hi (fun K hK => ?_) AllReadyH.nil)
  rw [if_pos hw]
  exact h K fun a' w' hc hn => hK.out a' w' hc fun _ => wpAnyH_sub (fun W hW => hc.trans hW fun _ _ => id) _ _ _ _ hn
theorem grow_done {S : World → Prop} {listed : Array Bool} {a : Act} {w : World} (hr : Region.ready md ops listed = []) (h : Q .normal a w) (fuel : Nat) : wpAnyH P md ops (NoPanic Q) S fuel listed a w :=
  wpAnyH_done hr (NoPanic.normal h) fuel
end

/-! ### the last step of a law's row -/
section
variable {H : Type} {enc : TypeId × Value → H} {P : Program}
theorem post_of_below {f : Func} {s : ChangeSpec} {apart fresh handsOn again : Bool} {W W' : World} {args : Array Value} {v : Value} {ds gs : List (DataW H)} {before pa pv : List MemPlace}
    (hW : DataW.Whole enc P f.params.toList s.vars apart W args.toList ds gs before)
    (hres : ∀ (b : Nat) (sp : Nat → Bool) (hd : Bool), DataW.TrodAll enc P W' b sp hd f.resultTypes.toList (v.resultList f.resultTypes.size) (s.fn H (ds ++ gs)).results [])
    (hargs : ∀ sp : Nat → Bool, (∀ p ∈ before, sp p.block = true) → DataW.TrodAll enc P W' 0 sp true f.params.toList args.toList (s.fn H (ds ++ gs)).args pa)
    (hvars : ∀ sp : Nat → Bool, (∀ p ∈ before, sp p.block = true) → DataW.TrodVars enc P W' sp s.vars (s.fn H (ds ++ gs)).vars pv)
    (hps : before = pa ++ pv) (hb : Below W.heap.size W W')
    (hok : ∀ (j : Nat) (t : TypeId) (r : Value), f.resultTypes[j]? = some t → (v.resultList f.resultTypes.size)[j]? = some r → Value.okWide P W' .any 0 t r) :
    s.post enc P f apart fresh handsOn again W args v W' := by
  have hlt : ∀ p ∈ before, p.block < W.heap.size := fun p hp => hW.lt p hp
  have hold : ∀ p ∈ before, (fun b => decide (b < W.heap.size)) p.block = true := fun p hp => by simpa using hlt p hp
  refine ⟨ds, gs, before, [], pa, pv, hW, hres _ _ _, hargs _ hold, hvars _ hold, World.keptBut_mono (fun p hp => ⟨hp, ?_⟩) (hb.frame (· ∈ before)), fun _ => ?_⟩
  · rw [hps, List.mem_append] at hp
    exact Or.inr hp
  · obtain ⟨_, _, _, _, _, hz, hn⟩ := hW
    refine ⟨hok, _, _, ([] ++ pa) ++ pv, ⟨[] ++ pa, pv, trodAll_append (hargs _ (fun _ _ => rfl)) (hres _ _ _), hvars _ (fun _ _ => rfl), rfl, ?_, ?_⟩, ?_⟩
    · intro b off hp
      have hin : MemPlace.cell b off ∈ before := by rw [hps]; simpa using hp
      rw [hb.frozen (hlt _ hin)]
      exact hz b off hin
    · intro ha
      have := hn ha
      rw [hps] at this
      simpa using this
    · intro p hp _
      rw [hps]
      simpa using hp

/-- all arguments read as they did, where nothing below the old heap's end has changed -/
theorem trodAll_below (hl : laidOutB P = true) {W W' : World} (hb : Below W.heap.size W W') (sp : Nat → Bool) :
    ∀ (ts : List TypeId) (vs : List Value) (ds : List (DataW H)) (ps : List MemPlace), (∀ t ∈ ts, P.readableRec t = true ∧ t < P.types.size) → (∀ x ∈ ps, x.block < W.heap.size) → (∀ x ∈ ps, sp x.block = true) →
      DataW.TrodAll enc P W 0 (fun _ => true) true ts vs ds ps → DataW.TrodAll enc P W' 0 sp true ts vs ds ps
  | [], vs, ds, ps, _, _, _, h => by
    obtain ⟨rfl, rfl, rfl⟩ := trodAll_nil h
    exact trodAll_mk0
  | t :: ts, vs, ds, ps, ht, hlt, hsp, h => by
    obtain ⟨v, vs', d, ds', p, q, rfl, rfl, rfl, h0, h1⟩ := trodAll_cons h
    refine ⟨p, q, ?_, ?_, rfl⟩
    · exact WideElems.Trod_stays hl (ht t (List.mem_cons_self ..)).1 (ht t (List.mem_cons_self ..)).2 h0 (fun x hx => hb.same (hlt x (List.mem_append_left _ hx))) (fun x hx => hsp x (List.mem_append_left _ hx))
    · exact trodAll_below hl hb sp ts vs' ds' q (fun t' ht' => ht t' (List.mem_cons_of_mem _ ht')) (fun x hx => hlt x (List.mem_append_right _ hx)) (fun x hx => hsp x (List.mem_append_right _ hx)) h1

/-- A LAW: from its walk ('it returns true, and nothing that was there has changed') to the row's post. -/
theorem law_post (hl : laidOutB P = true) {f : Func} {s : ChangeSpec} {tb : TypeId} (hr : f.resultTypes = #[tb]) (htb : P.underlying tb = some .bool)
    (hps : ∀ t ∈ f.params.toList, P.readableRec t = true ∧ t < P.types.size) (hv : s.vars = [])
    {fresh handsOn again : Bool} {apart : Bool} {W W' : World} {args : Array Value} {ds gs : List (DataW H)} {before : List MemPlace}
    (hW : DataW.Whole enc P f.params.toList s.vars apart W args.toList ds gs before)
    (hs : s.fn H ds = { results := [.lit (.bool true)], args := ds })
    (hb : Below W.heap.size W W') : s.post enc P f apart fresh handsOn again W args (.bool true) W' := by
  have hW' := hW
  obtain ⟨p, q, hA, hV, rfl, hfz, hnd⟩ := hW
  rw [hv] at hV
  obtain ⟨rfl, rfl⟩ := trodVars_none hV
  have hlt : ∀ x ∈ p, x.block < W.heap.size := fun x hx => hW'.lt x (by simpa using hx)
  refine post_of_below (pa := p) (pv := []) hW' (fun b sp hd => ?_) (fun sp hsp => ?_) (fun sp _ => ?_) rfl hb ?_
  · rw [List.append_nil, hs, hr]
    exact trodAll_mk1 (shut_bool htb _)
  · rw [List.append_nil, hs]
    exact trodAll_below hl hb sp _ _ _ _ hps hlt (fun x hx => hsp x (by simpa using hx)) hA
  · rw [List.append_nil, hs, hv]
    rfl
  · exact ok_one hr rfl (okWide_bool_mk htb _)
end

/-- a walk's end for a law -/
abbrev LawEnd (w : World) (e : Ending) (w' : World) : Prop := e = .returned (.bool true) ∧ New w w'

end Go.Proofs.YtgfkopimjmggdaaDoor

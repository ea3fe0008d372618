/-
  Events as values of 27 cells, rows of them of the call's own, and as arguments (no condition beyond the sizes).
-/
import Derived.Test.YtgjlbifanjhcjaaKeys
import Derived.Test.YtgjlbifanjhcjaaRowsK
namespace Go.Proofs.Ytgjlbifanjhcjaa
open Go.ChangeShapes Go.WideShapes Go.RowKit Go.Deep
/-- an event: its dot, and 25 cells more -/
structure Ev where
  r : Int
  c : Int
  rest : List Value
  len : rest.length = 25
  one : ∀ v ∈ rest, v.oneCell' = true
instance : Inhabited Ev := ⟨⟨0, 0, List.replicate 25 (.int .i64 0), by simp, fun v hv => by rw [(List.mem_replicate.1 hv).2]; rfl⟩⟩
def Ev.cs (e : Ev) : List Value := .int .i64 e.r :: .int .i64 e.c :: e.rest
theorem Ev.cs_len (e : Ev) : e.cs.length = 27 := by simp [Ev.cs, e.len]
theorem Ev.cs_one (e : Ev) : ∀ v ∈ e.cs, v.oneCell' = true := by
  intro v hv
  simp only [Ev.cs, List.mem_cons] at hv
  rcases hv with rfl | rfl | hv
  · rfl
  · rfl
  · exact e.one v hv
abbrev Ev.val (e : Ev) : Value := .agg e.cs.toArray
/-- it is equal to itself -/
def Ev.Self (e : Ev) : Prop := ∀ W, (binOp .eql 35 e.val e.val).run Try.prog W = .ok (.bool true) W
def rowE (es : List Ev) : List Value := es.flatMap Ev.cs
theorem rowE_append (l k : List Ev) : rowE (l ++ k) = rowE l ++ rowE k := by simp [rowE]
theorem rowE_length (l : List Ev) : (rowE l).length = l.length * 27 := by
  induction l with
  | nil => rfl
  | cons e l ih =>
    unfold rowE at ih ⊢
    rw [List.flatMap_cons, List.length_append, ih, e.cs_len, List.length_cons]
    omega
theorem rowE_one (l : List Ev) : ∀ u ∈ rowE l, u.oneCell' = true := by
  intro u hu
  obtain ⟨e, _, h⟩ := List.mem_flatMap.1 hu
  exact e.cs_one u h
theorem rowE_get : ∀ {l : List Ev} {i j : Nat} {e : Ev}, l[i]? = some e → j < 27 → (rowE l)[i * 27 + j]? = e.cs[j]?
  | x :: l, 0, j, e, h, hj => by
    injection h with h
    subst h
    unfold rowE
    rw [List.flatMap_cons, List.getElem?_append_left (by rw [x.cs_len]; omega), Nat.zero_mul, Nat.zero_add]
  | x :: l, i + 1, j, e, h, hj => by
    have ih := rowE_get (l := l) (i := i) (j := j) (e := e) (by simpa using h) hj
    unfold rowE at ih ⊢
    rw [List.flatMap_cons, List.getElem?_append_right (by rw [x.cs_len]; omega), x.cs_len, show (i + 1) * 27 + j - 27 = i * 27 + j by omega]
    exact ih
theorem rowE_take (l : List Ev) (k : Nat) : (rowE l).take (k * 27) = rowE (l.take k) := by
  induction l generalizing k with
  | nil => simp [rowE]
  | cons e l ih =>
    cases k with
    | zero => simp [rowE]
    | succ k =>
      unfold rowE at ih ⊢
      rw [List.take_succ_cons, List.flatMap_cons, List.flatMap_cons, List.take_append, e.cs_len, List.take_of_length_le (by rw [e.cs_len]; omega), show (k + 1) * 27 - 27 = k * 27 by omega, ih]
/-- v is a slice of the call's own whose events are l -/
abbrev OwnE (w : World) (base : Nat) (v : Value) (l : List Ev) : Prop := w.ownsRow base 35 27 v l.length (rowE l)
theorem OwnE.form {w : World} {base : Nat} {v : Value} {l : List Ev} (h : OwnE w base v l) : ∃ A c, v = .slice A l.length c := by
  rcases h.2 with ⟨rfl, h0⟩ | ⟨g, cap, cur, rfl, _⟩
  · exact ⟨none, 0, by rw [h0]⟩
  · exact ⟨_, cap, rfl⟩
theorem OwnE.nil (w : World) (base : Nat) : OwnE w base (.slice none 0 0) [] := World.ownsRow_nil _ _ _ _
def zeroE : Array Value := (List.replicate 20 (Value.int .i64 0) ++ List.replicate 4 (Value.string ⟨#[]⟩) ++ [Value.int .i64 0, Value.int .i64 0, Value.string ⟨#[]⟩]).toArray
theorem evInfo : (Try.prog.info? 35).map (fun i => (i.zero, i.size, i.bytes)) = some (some (.agg zeroE), 27, 256) := by kernel_rfl
theorem append_ev (w : World) {ops : Array Oper} {rest : List Oper} {o : Oper} {a : Act} {Q : Exit → Act → World → Prop} (hgd : o.guard = none) (s x : Operand)
    (ho : o.op = .call { callee := .builtin .append, args := #[s, x], argTypes := #[22, 22] })
    (base : Nat) (v : Value) (l : List Ev) (hs : a.eval s = v) (hown : OwnE w base v l)
    (F : Nat → Prop) (A : Option Addr) (m c : Nat) (k : List Ev) (hx : a.eval x = .slice A m c) (hr : Reads w F 27 A m (rowE k))
    (hb : l.length + m ≤ 1000000000) (hbase : base ≤ w.heap.size)
    (h : ∀ v' w', OwnE w' base v' (l ++ k) → w.grownBy w' v.ownBlock → (v'.ownBlock = v.ownBlock ∨ v'.ownBlock = some w.heap.size) → wpList Try.prog ops Q rest (a.put o.dst v') w') : wpList Try.prog ops Q (o :: rest) a w := by
  obtain ⟨i, hi, hz0, hz1, hz2⟩ := info_parts evInfo
  refine wpList_append_any w hgd s x _ ho base _ i _ 27 256 Try.underlying22 hi hz0 hz1 hz2 rfl (by omega) v l.length (rowE l) hs hown F A m c (rowE k) hx hr (rowE_one k) (by simp only [maxLen]; omega) (by omega) hbase ?_
  intro v' w' ho' hg hat
  refine h v' w' ?_ hg hat
  have hl := hr.len
  rw [rowE_length] at hl
  unfold OwnE
  rw [rowE_append, List.length_append, show k.length = m by omega]
  exact ho'
theorem wp_append_ev (w : World) {o : Oper} {a : Act} {K : Act → World → Prop} {Q : Exit → Act → World → Prop} (s x : Operand)
    (ho : o.op = .call { callee := .builtin .append, args := #[s, x], argTypes := #[22, 22] })
    (base : Nat) (v : Value) (l : List Ev) (hs : a.eval s = v) (hown : OwnE w base v l)
    (F : Nat → Prop) (A : Option Addr) (m c : Nat) (k : List Ev) (hx : a.eval x = .slice A m c) (hr : Reads w F 27 A m (rowE k))
    (hb : l.length + m ≤ 1000000000) (hbase : base ≤ w.heap.size)
    (h : ∀ v' w', OwnE w' base v' (l ++ k) → w.grownBy w' v.ownBlock → (v'.ownBlock = v.ownBlock ∨ v'.ownBlock = some w.heap.size) → K (a.put o.dst v') w') : o.wp Try.prog a w K Q := by
  obtain ⟨i, hi, hz0, hz1, hz2⟩ := info_parts evInfo
  refine wp_append_any w s x _ ho base _ i _ 27 256 Try.underlying22 hi hz0 hz1 hz2 rfl (by omega) v l.length (rowE l) hs hown F A m c (rowE k) hx hr (rowE_one k) (by simp only [maxLen]; omega) (by omega) hbase ?_
  intro v' w' ho' hg hat
  refine h v' w' ?_ hg hat
  have hl := hr.len
  rw [rowE_length] at hl
  unfold OwnE
  rw [rowE_append, List.length_append, show k.length = m by omega]
  exact ho'
theorem step_append_ev {w : World} {ops : Array Oper} {o : Oper} {a : Act} {K : Act → World → Prop} {Q : Exit → Act → World → Prop} {E : Prop} (hgd : o.guard = none) (s x : Operand)
    (ho : o.op = .call { callee := .builtin .append, args := #[s, x], argTypes := #[22, 22] })
    (base : Nat) (v : Value) (l : List Ev) (hs : a.eval s = v) (hown : OwnE w base v l)
    (F : Nat → Prop) (A : Option Addr) (m c : Nat) (k : List Ev) (hx : a.eval x = .slice A m c) (hr : Reads w F 27 A m (rowE k))
    (hb : l.length + m ≤ 1000000000) (hbase : base ≤ w.heap.size)
    (h : ∀ v' w', OwnE w' base v' (l ++ k) → w.grownBy w' v.ownBlock → (v'.ownBlock = v.ownBlock ∨ v'.ownBlock = some w.heap.size) → K (a.put o.dst v') w') : if Region.wanted o (yielded ops a.tmps) = true then Oper.wp Try.prog o a w K Q else E := by
  have hw : Region.wanted o (yielded ops a.tmps) = true := by simp [Region.wanted, hgd]
  rw [if_pos hw]
  exact wp_append_ev w s x ho base v l hs hown F A m c k hx hr hb hbase h
/-- event i of a row that can be read -/
theorem ld_ev {w : World} {F : Nat → Prop} {A : Option Addr} {n : Nat} {l : List Ev} (h : Reads w F 27 A n (rowE l)) {i : Nat} {e : Ev} (he : l[i]? = some e) : ∃ ad, A = some ad ∧ (LoadRow 35 (ad.add (i * 27))).run Try.prog w = .ok e.val w := by
  have hl := h.len
  rw [rowE_length] at hl
  have hi := (List.getElem?_eq_some_iff.1 he).1
  obtain ⟨ad, rfl, _, hc⟩ := h.2 (by omega)
  refine ⟨ad, rfl, ?_⟩
  refine run_LoadRow_at (P := Try.prog) (t := 35) Try.underlying35 rfl (n := 27) (by kernel_rfl) e.cs_len fun j u hu => ?_
  have hj : j < 27 := by
    have := (List.getElem?_eq_some_iff.1 hu).1
    rwa [e.cs_len] at this
  rw [add_of_add]
  exact hc _ _ (by rw [rowE_get he hj]; exact hu)
section
variable {H : Type} {enc : TypeId × Value → H} {w : World} {base : Nat} {held : Bool}
theorem open_event {cs : List Value} {fuel : Nat} {x : DataW H × List MemPlace} (h : DataW.trod enc Try.prog w base (fun _ => true) held fuel 35 cs = some x) : ∃ e : Ev, cs = e.cs ∧ e.Self := by
  have hone := trod_flat 5 35 cs fuel x (by kernel_rfl) h
  have hlen : cs.length = 27 := by
    obtain ⟨_, _, _, _, hl, _⟩ := DataW.trod_struct Try.underlying35 h
    rw [hl]
    kernel_rfl
  have heq := trod_equal (P := Try.prog) (m := 5) (by omega) (by kernel_rfl) h (by
    simp only [Value.formed, Try.underlying35, List.size_toArray, hlen]
    kernel_rfl)
  obtain ⟨xs, n, _, _, _, hxl, hf⟩ := DataW.trod_struct Try.underlying35 h
  have h0 : DataW.trod enc Try.prog w base (fun _ => true) held n 29 ((cs.drop 0).take (Try.prog.cellsOf 29)) = xs[0]? := hf 0 _ rfl
  rw [show Try.prog.cellsOf 29 = 2 by kernel_rfl, List.drop_zero] at h0
  rw [List.getElem?_eq_getElem (by rw [hxl]; simp)] at h0
  obtain ⟨ys, m, _, _, hyc, hyl, hg⟩ := DataW.trod_struct Try.underlying29 h0
  have g0 : DataW.trod enc Try.prog w base (fun _ => true) held m 3 (((cs.take 2).drop 0).take (Try.prog.cellsOf 3)) = ys[0]? := hg 0 _ rfl
  have g1 : DataW.trod enc Try.prog w base (fun _ => true) held m 3 (((cs.take 2).drop 1).take (Try.prog.cellsOf 3)) = ys[1]? := hg 1 _ rfl
  rw [show Try.prog.cellsOf 3 = 1 by kernel_rfl] at g0 g1
  rw [List.getElem?_eq_getElem (by rw [hyl]; simp)] at g0 g1
  match cs, hlen with
  | a :: b :: rest, hlen =>
    obtain ⟨r, hr, _⟩ := DataW.trod_int Try.underlying3 g0
    obtain ⟨c, hc, _⟩ := DataW.trod_int Try.underlying3 g1
    have hr' : a = .int .i64 r := by simpa using hr
    have hc' : b = .int .i64 c := by simpa using hc
    subst hr' hc'
    refine ⟨⟨r, c, rest, by simpa using hlen, fun v hv => hone v (List.mem_cons_of_mem _ (List.mem_cons_of_mem _ hv))⟩, rfl, fun W => ?_⟩
    have := heq W
    simp only [binOp, Sem.run_bind]
    erw [this]
    rfl
/-- an argument []api.Event -/
theorem open_events {v : Value} {d : DataW H} {ps : List MemPlace} (hv : v.cells = #[v]) (hw : ∀ x ∈ d.weights Try.prog 22, x ≤ reachBytes) (hd : DataW.Trod enc Try.prog w base (fun _ => true) held 22 v d ps) :
    ∃ (A : Option Addr) (c : Nat) (es : List Ev), v = .slice A es.length c ∧ es.length ≤ 140737488351232 ∧ (∀ e ∈ es, e.Self) ∧ Reads w (fun b => b < w.heap.size) 27 A es.length (rowE es) := by
  obtain ⟨fuel, hf⟩ := hd
  rw [hv] at hf
  rcases open_slice Try.underlying22 hf with ⟨h, _⟩ | ⟨a, len, cap, m, n, D, Pl, h, _, hl, hm, hmm, hdd, hx⟩
  · have hv' : v = .slice none 0 0 := by simpa using h
    exact ⟨none, 0, [], hv', by simp, (fun e he => by cases he), Reads.none_ _⟩
  · have hv' : v = .slice (some a) len cap := by simpa using h
    have hmc : m = cap := by simpa using hmm
    have hcap : len ≤ 140737488351232 := by
      have hd' : d = .slice ((List.range len).map D) ((List.range (m - len)).map fun j => D (len + j)) := congrArg Prod.fst hdd
      have := hw (cap * Try.prog.bytesOf 35) (by
        rw [hd']
        simp only [DataW.weights, Try.underlying22]
        refine List.mem_cons.2 (.inl ?_)
        simp only [List.length_map, List.length_range]
        rw [show len + (m - len) = cap by omega])
      rw [show Try.prog.bytesOf 35 = 256 by kernel_rfl] at this
      simp [reachBytes] at this
      omega
    have hone : ∀ i, i < len → ∃ e : Ev, e.Self ∧ a.block < w.heap.size ∧ ∀ j u, e.cs[j]? = some u → w.cell? (a.add (i * 27 + j)) = some u := fun i hi => by
      obtain ⟨cs', hc, ht⟩ := hx i (by omega)
      rw [show Try.prog.cellsOf 35 = 27 by kernel_rfl] at hc
      obtain ⟨_, hcl, hat⟩ := World.cells?_some hc
      obtain ⟨e, rfl, hself⟩ := open_event ht
      have hcell : ∀ j u, e.cs[j]? = some u → w.cell? (a.add (i * 27 + j)) = some u := fun j u hu => by
        have hj : j < 27 := by
          have := (List.getElem?_eq_some_iff.1 hu).1
          rwa [e.cs_len] at this
        rw [← Go.Deep.add_add, hat j hj]
        exact hu
      refine ⟨e, hself, ?_, hcell⟩
      have := block_lt_of_cell (hcell 0 _ rfl)
      rwa [block_of_add] at this
    obtain ⟨f, hf'⟩ := Deep.choose_lt hone
    have hlen : ((List.range len).map f).length = len := by simp
    refine ⟨some a, cap, (List.range len).map f, by rw [hv', hlen], by rw [hlen]; exact hcap, fun e he => ?_, ⟨rowE_length _, fun hn => ⟨a, rfl, (hf' 0 (by rw [hlen] at hn; exact hn)).2.1, fun j u hu => ?_⟩⟩⟩
    · obtain ⟨i, hi, rfl⟩ := List.mem_map.1 he
      exact (hf' i (List.mem_range.1 hi)).1
    · have hj : j < len * 27 := by
        have := (List.getElem?_eq_some_iff.1 hu).1
        rwa [rowE_length, hlen] at this
      have hi : j / 27 < len := by omega
      have hdm : j / 27 * 27 + j % 27 = j := by omega
      have hg := rowE_get (l := (List.range len).map f) (i := j / 27) (j := j % 27) (e := f (j / 27)) (by simp [hi]) (by omega)
      rw [hdm] at hg
      have := (hf' _ hi).2.2 (j % 27) u (by rw [← hg]; exact hu)
      rwa [hdm] at this
end
end Go.Proofs.Ytgjlbifanjhcjaa

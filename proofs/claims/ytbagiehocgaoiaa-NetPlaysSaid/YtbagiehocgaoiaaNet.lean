/-
  What the program's net package computes: parcels under way, sent, counted and looked for (no condition beyond the sizes).
-/
import Derived.Test.YtbagiehocgaoiaaClone
import Derived.Test.YtbagiehocgaoiaaStructs
import Derived.Deep.RegionLaw
import Derived.Shelf.RegionOpenPlain
namespace Go.Proofs.Ytbagiehocgaoiaa
open Go.ChangeShapes Go.WideShapes Go.RowKit Go.Deep
namespace Net
theorem loadOnly0 (p : Value) : Instr.loadAt 52 p = LoadRowV 52 p := rfl
attribute [local go_sem ↓] loadOnly0
theorem loadOnly1 (p : Value) : Instr.loadAt 35 p = LoadRowV 35 p := rfl
attribute [local go_sem ↓] loadOnly1
abbrev ptr (b : Nat) : Value := .pointer (some ⟨b, 0, none⟩)
/-- a parcel under way: to whom, its bytes and where they lie, whether it was turned -/
structure Fl where
  to_ : Int
  u : Value
  b : List UInt8
  t : Bool
def flC (f : Fl) : List Value := [.int .i64 f.to_, f.u, .bool f.t]
def cells (fs : List Fl) : List Value := fs.flatMap flC
theorem cells_len : ∀ fs : List Fl, (cells fs).length = fs.length * 3
  | [] => rfl
  | f :: fs => by rw [cells, List.flatMap_cons, List.length_append, ← cells, cells_len fs]; simp [flC]; omega
theorem cells_append (fs gs : List Fl) : cells (fs ++ gs) = cells fs ++ cells gs := by simp [cells]
theorem cells_get : ∀ (fs : List Fl) (i : Nat) (f : Fl), fs[i]? = some f → (cells fs)[i * 3]? = some (.int .i64 f.to_) ∧ (cells fs)[i * 3 + 1]? = some f.u ∧ (cells fs)[i * 3 + 2]? = some (.bool f.t)
  | [], i, f, h => by simp at h
  | f' :: fs, 0, f, h => by
    simp at h
    subst h
    exact ⟨rfl, rfl, rfl⟩
  | f' :: fs, i + 1, f, h => by
    have := cells_get fs i f (by simpa using h)
    rw [show (i + 1) * 3 = i * 3 + 1 + 1 + 1 by omega]
    exact this
theorem cells_take : ∀ (fs : List Fl) (i : Nat), (cells fs).take (i * 3) = cells (fs.take i)
  | [], i => by simp [cells]
  | f :: fs, 0 => by simp [cells]
  | f :: fs, i + 1 => by
    rw [show (i + 1) * 3 = i * 3 + 1 + 1 + 1 by omega, List.take_succ_cons, show cells (f :: fs) = .int .i64 f.to_ :: f.u :: .bool f.t :: cells fs from rfl]
    simp only [List.take_succ_cons]
    rw [cells_take fs i]
    rfl
theorem cells_drop : ∀ (fs : List Fl) (i : Nat), (cells fs).drop (i * 3) = cells (fs.drop i)
  | [], i => by simp [cells]
  | f :: fs, 0 => by simp [cells]
  | f :: fs, i + 1 => by
    rw [show (i + 1) * 3 = i * 3 + 1 + 1 + 1 by omega, List.drop_succ_cons, show cells (f :: fs) = .int .i64 f.to_ :: f.u :: .bool f.t :: cells fs from rfl]
    simp only [List.drop_succ_cons]
    rw [cells_drop fs i]
abbrev OwnF (w : World) (base : Nat) (v : Value) (fs : List Fl) : Prop := w.ownsRow base 52 3 v fs.length (cells fs)
/-- what a call on the net may change -/
def Foot (b : Nat) (v : Value) (fs : List Fl) (k : Nat) : Prop := k = b ∨ v.ownBlock = some k ∨ ∃ f ∈ fs, f.u.ownBlock = some k
/-- the net of the parcels fs lies at block b, their row at v -/
structure At (w : World) (lo b : Nat) (v : Value) (fs : List Fl) : Prop where
  blk : Blk w b 49 #[v]
  own : OwnF w lo v fs
  bytes : ∀ (i : Nat) (f : Fl), fs[i]? = some f → OwnB w lo f.u f.b
  apart : ∀ (i j : Nat) (f g : Fl), fs[i]? = some f → fs[j]? = some g → i ≠ j → ∀ k, f.u.ownBlock = some k → g.u.ownBlock ≠ some k
  low : lo ≤ b
section
variable {w w' : World} {lo b : Nat} {v : Value} {fs : List Fl} {S : Nat → Prop}
theorem At.mem (h : At w lo b v fs) {f : Fl} (hf : f ∈ fs) : OwnB w lo f.u f.b := by
  obtain ⟨i, hi, rfl⟩ := List.mem_iff_getElem.1 hf
  exact h.bytes i _ (List.getElem?_eq_getElem hi)
theorem At.foot (h : At w lo b v fs) {k : Nat} (hk : Foot b v fs k) : lo ≤ k ∧ k < w.heap.size := by
  rcases hk with e | e | ⟨f, hf, e⟩
  · rw [e]; exact ⟨h.low, h.blk.lt⟩
  · exact own_lt h.own e
  · exact own_lt (h.mem hf) e
theorem At.chg (h : At w lo b v fs) (hc : Chg S w w') (hS : ∀ k, Foot b v fs k → ¬ S k) : At w' lo b v fs :=
  ⟨h.blk.chg hc (hS _ (.inl rfl)), own_chg h.own hc fun k hk => hS k (.inr (.inl hk)), fun i f hi => own_chg (h.bytes i f hi) hc fun k hk => hS k (.inr (.inr ⟨f, List.mem_of_getElem? hi, hk⟩)), h.apart, h.low⟩
theorem At.new (h : At w lo b v fs) (hc : New w w') : At w' lo b v fs := h.chg hc fun _ _ => id
theorem At.vb (h : At w lo b v fs) : v.ownBlock ≠ some b := own_ne h.own h.blk (by decide)
theorem At.ub (h : At w lo b v fs) {f : Fl} (hf : f ∈ fs) : f.u.ownBlock ≠ some b := own_ne (h.mem hf) h.blk (by decide)
end
theorem own_own {w : World} {base base' : Nat} {e e' : TypeId} {size size' n n' : Nat} {v v' : Value} {xs xs' : List Value} (h : w.ownsRow base e size v n xs) (h' : w.ownsRow base' e' size' v' n' xs') (hne : e ≠ e') {g : Nat} (hg : v.ownBlock = some g) : v'.ownBlock ≠ some g := by
  intro hg'
  rcases h'.2 with ⟨rfl, _⟩ | ⟨g', cap, cur, rfl, _, hh, _⟩
  · cases hg'
  · have : g' = g := by simpa [Value.ownBlock] using hg'
    subst this
    exact own_ne h hh hne hg
theorem At.uv {w : World} {lo b : Nat} {v : Value} {fs : List Fl} (h : At w lo b v fs) {f : Fl} (hf : f ∈ fs) {k : Nat} (hk : f.u.ownBlock = some k) : v.ownBlock ≠ some k := own_own (h.mem hf) h.own (by decide) hk
theorem own_form {w : World} {base : Nat} {e : TypeId} {size n : Nat} {v : Value} {xs : List Value} (h : w.ownsRow base e size v n xs) : ∃ A c, v = .slice A n c := by
  rcases h.2 with ⟨rfl, h0⟩ | ⟨g, cap, cur, rfl, _⟩
  · exact ⟨none, 0, by rw [h0]⟩
  · exact ⟨_, cap, rfl⟩
/-- a call's end: the net has the parcels fs' -/
def Post (w : World) (lo b : Nat) (v : Value) (fs fs' : List Fl) (w' : World) : Prop :=
  ∃ v', At w' lo b v' fs' ∧ Chg (Foot b v fs) w w' ∧ ∀ k, Foot b v' fs' k → Foot b v fs k ∨ w.heap.size ≤ k
theorem flInfo : (Try.prog.info? 52).map (fun i => (i.zero, i.size, i.bytes)) = some (some (.agg #[.int .i64 0, .slice none 0 0, .bool false]), 3, 40) := by kernel_rfl
set_option maxHeartbeats 400000 in
theorem new_ (w : World) : Calls Try.prog 7 #[] w fun e w' => e = .returned (ptr w.heap.size) ∧ At w' w.heap.size w.heap.size (.slice none 0 0) [] ∧ New w w' := by
  have hz : ∀ W : World, (zeroValue 49).run Try.prog W = .ok (.agg #[.slice none 0 0]) W := fun W => by kernel_rfl
  go_enter Try.func7, Try.ntmps7
  go_wp2
  go_ret
  exact ⟨rfl, ⟨Blk.new w _ _, World.ownsRow_nil _ _ _ _, (fun i f h => by simp at h), (fun i j f g h => by simp at h), Nat.le_refl _⟩, (Chg.refl _ _).alloc _⟩
theorem send_nil (w : World) (t u : Value) : Calls Try.prog 8 #[.pointer none, t, u] w fun e w' => e = .returned (.int .i64 1) ∧ w = w' := by
  go_enter Try.func8, Try.ntmps8
  go_wp2
  go_ret
  exact ⟨rfl, rfl⟩
theorem len_nil (w : World) : Calls Try.prog 13 #[.pointer none] w fun e w' => e = .returned (.int .i64 0) ∧ w = w' := by
  go_enter Try.func13, Try.ntmps13
  go_wp2
  go_ret
  exact ⟨rfl, rfl⟩
theorem len (w : World) (lo b : Nat) (v : Value) (fs : List Fl) (h : At w lo b v fs) : Calls Try.prog 13 #[ptr b] w fun e w' => e = .returned (.int .i64 (fs.length : Int)) ∧ w = w' := by
  have hc : w.cell? ⟨b, 0, none⟩ = some v := h.blk.cell 0
  obtain ⟨A, c, rfl⟩ : ∃ A c, v = .slice A fs.length c := own_form h.own
  clear h
  go_enter Try.func13, Try.ntmps13
  go_wp2
  go_ret
  exact ⟨rfl, rfl⟩
/-- is there such a parcel? -/
def has (n : Nat) (i : Int) : Bool := decide (0 ≤ i ∧ i < n)
theorem at_in (w : World) (lo b : Nat) (v : Value) (fs : List Fl) (h : At w lo b v fs) (i : Nat) (hi : i < fs.length) : Calls Try.prog 15 #[ptr b, .int .i64 (i : Int)] w fun e w' => e = .returned (.int .i64 0) ∧ w = w' := by
  have hc : w.cell? ⟨b, 0, none⟩ = some v := h.blk.cell 0
  obtain ⟨A, c, rfl⟩ : ∃ A c, v = .slice A fs.length c := own_form h.own
  generalize fs.length = n at *
  have h1 : (i : Int) < n := by omega
  clear h
  go_enter Try.func15, Try.ntmps15
  go_wp2
  go_ret
  exact ⟨rfl, rfl⟩
theorem at_out (w : World) (lo b : Nat) (v : Value) (fs : List Fl) (h : At w lo b v fs) (i : Int) (hi : i < 0 ∨ (fs.length : Int) ≤ i) : Calls Try.prog 15 #[ptr b, .int .i64 i] w fun e w' => e = .returned (.int .i64 5) ∧ w = w' := by
  have hc : w.cell? ⟨b, 0, none⟩ = some v := h.blk.cell 0
  obtain ⟨A, c, rfl⟩ : ∃ A c, v = .slice A fs.length c := own_form h.own
  generalize fs.length = n at *
  clear h
  by_cases h0 : i < 0
  · go_enter Try.func15, Try.ntmps15
    go_wp2
    go_ret
    exact ⟨rfl, rfl⟩
  · have h1 : (n : Int) ≤ i := by omega
    go_enter Try.func15, Try.ntmps15
    go_wp2
    go_ret
    exact ⟨rfl, rfl⟩
theorem step_append_fl {w : World} {ops : Array Oper} {o : Oper} {a : Act} {K : Act → World → Prop} {Q : Exit → Act → World → Prop} {E : Prop} (hgd : o.guard = none) (s x : Operand)
    (ho : o.op = .call { callee := .builtin .append, args := #[s, x], argTypes := #[47, 47] })
    (base : Nat) (v : Value) (fs : List Fl) (hs : a.eval s = v) (hown : OwnF w base v fs)
    (F : Nat → Prop) (A : Option Addr) (c : Nat) (f : Fl) (hx : a.eval x = .slice A 1 c) (hr : Reads w F 3 A 1 (flC f)) (hu : f.u.oneCell' = true)
    (hb : fs.length ≤ 1099511627776) (hbase : base ≤ w.heap.size)
    (h : ∀ v' w', OwnF w' base v' (fs ++ [f]) → w.grownBy w' v.ownBlock → (v'.ownBlock = v.ownBlock ∨ v'.ownBlock = some w.heap.size) → K (a.put o.dst v') w') : if Region.wanted o (yielded ops a.tmps) = true then Oper.wp Try.prog o a w K Q else E := by
  have hw : Region.wanted o (yielded ops a.tmps) = true := by simp [Region.wanted, hgd]
  rw [if_pos hw]
  obtain ⟨i, hi, hz0, hz1, hz2⟩ := info_parts flInfo
  refine wp_append_any w s x _ ho base _ i _ 3 40 Try.underlying47 hi hz0 hz1 hz2 rfl (by omega) v fs.length (cells fs) hs hown F A 1 c (flC f) hx hr (fun y hy => by
    simp only [flC, List.mem_cons, List.not_mem_nil, or_false] at hy
    rcases hy with h | h | h
    · rw [h]; rfl
    · rw [h]; exact hu
    · rw [h]; rfl) (by simp only [maxLen]; omega) (by omega) hbase ?_
  intro v' w' ho' hg hat
  refine h v' w' ?_ hg hat
  unfold OwnF
  rw [cells_append, List.length_append]
  have e : cells [f] = flC f := by simp [cells]
  rw [e]
  exact ho'
set_option maxHeartbeats 2000000 in
set_option maxRecDepth 20000 in
theorem put_full (w : World) (lo b : Nat) (v : Value) (fs : List Fl) (h : At w lo b v fs) (to_ : Int) (u : Value) (t : Bool) (hlt : 256 ≤ fs.length) :
    Calls Try.prog 14 #[ptr b, .agg #[.int .i64 to_, u, .bool t]] w fun e w' => e = .returned (.int .i64 6) ∧ New w w' := by
  have hc : w.cell? ⟨b, 0, none⟩ = some v := h.blk.cell 0
  have hbl := h.blk.lt
  obtain ⟨A', c', hv⟩ := own_form h.own
  generalize fs.length = m at *
  subst hv
  have hge : (256 : Int) ≤ m := by omega
  clear h
  go_enter Try.func14, Try.ntmps14
  go_wp2_with fail
  go_ret
  exact ⟨rfl, (Chg.refl _ _).alloc _⟩
set_option maxHeartbeats 8000000 in
set_option maxRecDepth 20000 in
theorem put_ok (w : World) (lo b : Nat) (v : Value) (fs : List Fl) (h : At w lo b v fs) (to_ : Int) (A : Option Addr) (n c : Nat) (t : Bool) (l : List UInt8) (F : Nat → Prop) (hr : Reads w F 1 A n (u8s l)) (hn : n ≤ 1048576) (hlt : fs.length < 256) :
    Calls Try.prog 14 #[ptr b, .agg #[.int .i64 to_, .slice A n c, .bool t]] w fun e w' => e = .returned (.int .i64 0) ∧ ∃ u, Post w lo b v fs (fs ++ [⟨to_, u, l, t⟩]) w' := by
  have hc : w.cell? ⟨b, 0, none⟩ = some v := h.blk.cell 0
  have hbl := h.blk.lt
  have hlo := h.low
  obtain ⟨A', c', hv⟩ := own_form h.own
  have m1 := (Chg.refl (fun _ => False) w).alloc (.cells #[.int .i64 to_, .slice A n c, .bool t] 52)
  have hbx := Blk.new w 52 #[.int .i64 to_, .slice A n c, .bool t]
  have C := Lib.hid (bytes_clone _ A n c l _ (hr.chg' m1 (fun _ _ => id) (by omega)) (by omega))
  have H := Lib.hid h
  have HX := Lib.hid (And.intro m1 hbx)
  obtain ⟨m, hm⟩ : ∃ m, fs.length = m := ⟨_, rfl⟩
  have HM := Lib.hid hm
  rw [hm] at hv hlt
  clear h m1 hbx hr hm
  subst hv
  have hge : (m : Int) < 256 := by omega
  go_enter Try.func14, Try.ntmps14
  go_wp2_with fail
  refine C.out.mono ?_
  rintro e w2 ⟨u1, rfl, ho, n2⟩
  obtain ⟨A1, c1, hu1, _, _, _, _⟩ := OwnB.form ho
  generalize l.length = L at hu1
  subst hu1
  have hbx2 := HX.out.2.chg n2 id
  have hbf := hbx2.frozen 1
  have hbc := hbx2.cell 1
  have hbx3 := hbx2.set_ 1 (.slice A1 L c1)
  have hbd : w.heap.size < w2.heap.size := by have := n2.size; rw [World.size_alloc] at this; omega
  have m2 := HX.out.1.trans n2 fun _ _ => id
  have m3 := m2.setCell (p := ⟨w.heap.size, 1, none⟩) (fun h => absurd h (Nat.lt_irrefl _)) (.slice A1 L c1)
  have h3 := H.out.new m3
  have hc3 : (w2.setCell ⟨w.heap.size, 1, none⟩ (.slice A1 L c1)).cell? ⟨b, 0, none⟩ = some (.slice A' m c') := h3.blk.cell 0
  have hld : (LoadRow 52 ⟨w.heap.size, 0, none⟩).run Try.prog (w2.setCell ⟨w.heap.size, 1, none⟩ (.slice A1 L c1)) = .ok (.agg #[.int .i64 to_, .slice A1 L c1, .bool t]) (w2.setCell ⟨w.heap.size, 1, none⟩ (.slice A1 L c1)) :=
    run_LoadRow (P := Try.prog) (t := 52) Try.underlying52 rfl (n := 3) (cs := [.int .i64 to_, .slice A1 L c1, .bool t]) (by kernel_rfl) rfl (hbx3.range_all (cs := [.int .i64 to_, .slice A1 L c1, .bool t]))
  have hldd : (LoadRow 52 ⟨w.heap.size, 0, none⟩).run Try.prog (w2.setCell ⟨w.heap.size, 1, none⟩ (.slice A1 L c1)).drew = .ok (.agg #[.int .i64 to_, .slice A1 L c1, .bool t]) (w2.setCell ⟨w.heap.size, 1, none⟩ (.slice A1 L c1)).drew :=
    run_LoadRow (P := Try.prog) (t := 52) Try.underlying52 rfl (n := 3) (cs := [.int .i64 to_, .slice A1 L c1, .bool t]) (by kernel_rfl) rfl (hbx3.drew.range_all (cs := [.int .i64 to_, .slice A1 L c1, .bool t]))
  have mixed : Try.prog.follows .mixedOrders = true := by kernel_rfl
  have ho3 := own_chg ho ((Chg.refl (fun k => k = w.heap.size) w2).setCell (p := ⟨w.heap.size, 1, none⟩) (fun _ => rfl) (.slice A1 L c1)) (fun k hk e => by have := (own_lt ho hk).1; rw [World.size_alloc] at this; omega)
  have HO := Lib.hid (show OwnB (w2.setCell ⟨w.heap.size, 1, none⟩ (.slice A1 L c1)) w.heap.size (.slice A1 L c1) l ∧ At (w2.setCell ⟨w.heap.size, 1, none⟩ (.slice A1 L c1)) lo b (.slice A' m c') fs ∧ New w (w2.setCell ⟨w.heap.size, 1, none⟩ (.slice A1 L c1)) from
    ⟨own_mono ho3 (by simp), h3, m3⟩)
  have hol := Lib.hid (fun g hg => (own_lt ho (k := g) hg).1)
  clear C ho n2 hbx2 hbx3 m2 m3 h3 ho3
  go_wp2_with fail
  generalize w2.setCell ⟨w.heap.size, 1, none⟩ (.slice A1 L c1) = w3 at *
  have s3 := HO.out.2.2.size
  have m4 := ((Chg.refl (fun _ => False) w3).alloc (.cells #[.int .i64 to_, .slice A1 L c1, .bool t] 52)).drew
  have hc4 := (m4.cell (p := ⟨b, 0, none⟩) HO.out.2.1.blk.lt id).trans (HO.out.2.1.blk.cell 0)
  have s4 : (w3.alloc (.cells #[.int .i64 to_, .slice A1 L c1, .bool t] 52)).drew.heap.size = w3.heap.size + 1 := World.size_alloc _ _
  have hc4' : (w3.alloc (.cells #[.int .i64 to_, .slice A1 L c1, .bool t] 52)).cell? ⟨b, 0, none⟩ = some (.slice A' m c') := hc4
  have S4 := Lib.hid s4
  clear s4 hc4
  go_region_law_o ((
      refine step_append_fl rfl (.tmp 21) (.tmp 23) rfl lo _ fs (by rfl) (own_chg HO.out.2.1.own m4 fun _ _ => id) _ _ 1 ⟨to_, .slice A1 L c1, l, t⟩ (by rfl) (Reads.of_row (w := (w3.alloc (.cells #[.int .i64 to_, .slice A1 L c1, .bool t] 52)).drew) (g := w3.heap.size) (n := 1) (size := 3) (heap_alloc_new w3 _) (by simp)) rfl (by have := HM.out; omega) (by rw [S4.out]; omega) ?_
      intro v5 w5 o5 g5 a5
      have h4 := HO.out.2.1.new m4
      have u4 := own_chg HO.out.1 m4 fun _ _ => id
      have c5 : Chg (fun k => (Value.slice A' m c').ownBlock = some k) w3 w5 := (((Chg.refl _ w3).alloc _).drew).grown g5 fun k e _ => e
      have b5 := h4.blk.grown g5 fun e => h4.vb e.symm
      have hul := fun g (hg : (Value.slice A1 L c1).ownBlock = some g) => own_lt HO.out.1 hg
      obtain ⟨A5, c5', hv5⟩ := own_form o5
      obtain ⟨L5, hL5⟩ : ∃ L5, (fs ++ [(⟨to_, .slice A1 L c1, l, t⟩ : Fl)]).length = L5 := ⟨_, rfl⟩
      rw [hL5] at hv5
      subst hv5
      have hf5 := b5.frozen 0
      have hc5 := b5.cell 0
      have hb6 := b5.set_ 0 (.slice A5 L5 c5')
      have c6 := (Chg.refl (fun k => k = b) w5).setCell (p := ⟨b, 0, none⟩) (fun _ => rfl) (.slice A5 L5 c5')
      have c56 : Chg (fun k => k = b ∨ (Value.slice A' m c').ownBlock = some k) w3 (w5.setCell ⟨b, 0, none⟩ (.slice A5 L5 c5')) := (c5.mono fun _ _ e => .inr e).trans (c6.mono fun _ _ e => .inl e) fun _ _ => id
      have hun : (Value.slice A1 L c1).ownBlock ≠ some b := own_ne HO.out.1 HO.out.2.1.blk (by decide)
      have huv : ∀ g, (Value.slice A1 L c1).ownBlock = some g → (Value.slice A' m c').ownBlock ≠ some g := fun g hg => own_own HO.out.1 HO.out.2.1.own (by decide) hg
      have hlt3 := HO.out.2.1.blk.lt
      have hP : Post w lo b (.slice A' m c') fs (fs ++ [⟨to_, .slice A1 L c1, l, t⟩]) (w5.setCell ⟨b, 0, none⟩ (.slice A5 L5 c5')) := by
        refine ⟨.slice A5 L5 c5', ⟨hb6, own_chg o5 c6 fun k hk e => own_ne o5 b5 (by decide) (e ▸ hk), fun i f hi => ?_, fun i j f g hi hj hij k hk hk2 => ?_, hlo⟩, ?_, fun k hk => ?_⟩
        · rw [List.getElem?_append] at hi
          split at hi
          · exact own_chg (HO.out.2.1.bytes i f hi) c56 fun k hk e => e.elim (fun e => HO.out.2.1.ub (List.mem_of_getElem? hi) (e ▸ hk)) (fun e => HO.out.2.1.uv (List.mem_of_getElem? hi) hk e)
          · have hf : f = ⟨to_, .slice A1 L c1, l, t⟩ := by
              have := List.mem_of_getElem? hi
              simpa using this
            subst hf
            exact own_mono (own_chg HO.out.1 c56 fun k hk e => e.elim (fun e => hun (e ▸ hk)) (fun e => huv k hk e)) (by omega)
        · have hold : ∀ (i : Nat) (f : Fl), (fs ++ [(⟨to_, .slice A1 L c1, l, t⟩ : Fl)])[i]? = some f → (fs[i]? = some f) ∨ (i = fs.length ∧ f = ⟨to_, .slice A1 L c1, l, t⟩) := fun i f hi => by
            rw [List.getElem?_append] at hi
            split at hi
            · exact .inl hi
            · rename_i hge
              refine .inr ?_
              have h0 : i - fs.length < 1 := by
                have := (List.getElem?_eq_some_iff.1 hi).1
                simpa using this
              have : i - fs.length = 0 := by omega
              rw [this] at hi
              simp at hi
              exact ⟨by omega, hi.symm⟩
          rcases hold i f hi with h1 | ⟨h1, rfl⟩ <;> rcases hold j g hj with h2 | ⟨h2, rfl⟩
          · exact HO.out.2.1.apart i j f g h1 h2 hij k hk hk2
          · have := (own_lt (H.out.mem (List.mem_of_getElem? h1)) hk).2
            have := (hul k hk2).1
            omega
          · have := (own_lt (H.out.mem (List.mem_of_getElem? h2)) hk2).2
            have := (hul k hk).1
            omega
          · omega
        · exact (HO.out.2.2.mono (S' := Foot b (.slice A' m c') fs) fun _ _ => False.elim).trans c56 fun k _ e => e.elim .inl fun e => .inr (.inl e)
        · rcases hk with e | e | ⟨f, hf, e⟩
          · exact .inl (.inl e)
          · rcases a5 with e2 | e2
            · exact .inl (.inr (.inl (e2 ▸ e)))
            · rw [e] at e2
              injection e2 with e2
              rw [S4.out] at e2
              exact .inr (by omega)
          · rcases List.mem_append.1 hf with hf | hf
            · exact .inl (.inr (.inr ⟨f, hf, e⟩))
            · rw [List.mem_singleton.1 hf] at e
              exact .inr (hul k e).1
      have HP := Lib.hid hP
      clear hP h4 u4 c5 hb6 c6 c56 hun huv o5 g5 a5 hul b5 hL5))
  all_goals
    go_wp2
    go_ret
    exact ⟨rfl, _, HP.out⟩
end Net
end Go.Proofs.Ytbagiehocgaoiaa

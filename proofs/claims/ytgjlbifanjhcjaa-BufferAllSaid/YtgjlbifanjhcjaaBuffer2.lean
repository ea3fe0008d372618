/-
  What the program's buffer package computes: an event that comes (no condition beyond the sizes).
-/
import Derived.Test.YtgjlbifanjhcjaaBuffer
import Derived.Deep.RegionLaw
import Derived.Shelf.RegionOpenPlain
namespace Go.Proofs.Ytgjlbifanjhcjaa
open Go.ChangeShapes Go.WideShapes Go.RowKit Go.Deep
namespace Buf
open Vec
attribute [local go_sem ↓] loadRow0 storeRow0
theorem loadOnly0 (p : Value) : Instr.loadAt 35 p = LoadRowV 35 p := rfl
attribute [local go_sem ↓] loadOnly0
theorem ev_blk {W : World} {g : Nat} {e : Ev} (h : Blk W g 35 e.cs.toArray) : (LoadRow 35 ⟨g, 0, none⟩).run Try.prog W = .ok e.val W :=
  run_LoadRow (P := Try.prog) (t := 35) Try.underlying35 rfl (n := 27) (by kernel_rfl) e.cs_len h.range_all
theorem fold_set : ∀ (xs pre old : List Value), old.length = xs.length → (xs.zipIdx pre.length).foldl (fun (cs : Array Value) (x : Value × Nat) => cs.setIfInBounds x.2 x.1) (pre ++ old).toArray = (pre ++ xs).toArray
  | [], pre, old, h => by
    have : old = [] := List.eq_nil_of_length_eq_zero h
    rw [this]
    rfl
  | x :: xs, pre, [], h => by simp at h
  | x :: xs, pre, o :: old, h => by
    have ih := fold_set xs (pre ++ [x]) old (by simpa using h)
    rw [List.zipIdx_cons, List.foldl_cons]
    have e : (pre ++ o :: old).toArray.setIfInBounds pre.length x = ((pre ++ [x]) ++ old).toArray := by simp
    simp only [e]
    rw [show pre.length + 1 = (pre ++ [x]).length by simp, ih]
    simp
theorem fold_all (Z X : Array Value) (h : Z.size = X.size) (n : Nat) (hn : n = X.size) : Array.foldl (fun (cs : Array Value) (x : Value × Nat) => cs.setIfInBounds x.snd x.fst) Z X.zipIdx 0 n = X := by
  have := fold_set X.toList [] Z.toList (by simpa using h)
  subst hn
  rw [show X.size = X.zipIdx.size by simp, ← Array.foldl_toList, Array.toList_zipIdx]
  simpa using this
theorem bufC_set (n me : Int) (acks : List (List Int)) (v v' : Value) (hr : ∀ a ∈ acks, a.length = 16) (ha : acks.length = 16) : (bufC n me acks v).toArray.setIfInBounds 258 v' = (bufC n me acks v').toArray := by
  have hl : (ints acks.flatten).length = 256 := by rw [ints_length, flat_len hr, ha]
  have : (bufC n me acks v).set 258 v' = bufC n me acks v' := by
    unfold bufC
    rw [List.set_cons_succ, List.set_cons_succ, List.set_append_right _ _ (by omega), hl]
    rfl
  rw [← this]
  simp
set_option maxHeartbeats 4000000 in
set_option maxRecDepth 100000 in
theorem add (w : World) (lo b n me : Nat) (acks : List (List Int)) (v : Value) (es : List Ev) (h : At w lo b n me acks v es) (e : Ev) (hnot : allF n me acks e.r e.c = false) (hlen : es.length ≤ 100000) :
    Calls Try.prog 6 #[ptr b, e.val] w fun x w' => x = .returned (.tuple #[]) ∧ ∃ v', At w' lo b n me acks v' (es ++ [e]) ∧ Chg (fun g => g = b ∨ v.ownBlock = some g) w w' := by
  have m1 := (Chg.refl (fun _ => False) w).alloc (.cells e.cs.toArray 35)
  have hbx := Blk.new w 35 e.cs.toArray
  have h1 := h.new m1
  have c0 : (w.alloc (.cells e.cs.toArray 35)).cell? ⟨w.heap.size, 0, none⟩ = some (.int .i64 e.r) := hbx.cell 0
  have c1 : (w.alloc (.cells e.cs.toArray 35)).cell? ⟨w.heap.size, 1, none⟩ = some (.int .i64 e.c) := hbx.cell 1
  have C := Lib.hid (all_ _ _ _ _ _ _ _ _ h1 e.r e.c)
  rw [hnot] at C
  have H := Lib.hid (And.intro h1 (And.intro hbx m1))
  obtain ⟨X, hX⟩ : ∃ X, e.cs.toArray = X := ⟨_, rfl⟩
  rw [show e.val = .agg X by rw [← hX]]
  rw [hX] at C c0 c1
  have HX := Lib.hid hX
  clear h m1 hbx h1 hnot hX
  go_enter Try.func6, Try.ntmps6
  go_wp2_with fail
  refine C.out.mono ?_
  rintro x w3 ⟨rfl, n3⟩
  rw [← HX.out] at n3
  have h3 := H.out.1.new n3
  have hbx3 := H.out.2.1.chg n3 id
  have N3 := H.out.2.2.trans n3 fun _ _ => id
  obtain ⟨A', c', hv⟩ := h3.own.form
  obtain ⟨L, hL⟩ : ∃ L, es.length = L := ⟨_, rfl⟩
  rw [hL] at hv hlen
  have HL := Lib.hid hL
  subst hv
  have hcE := h3.cellE
  have hld := ev_blk hbx3
  have hldd := ev_blk hbx3.drew
  have mixed : Try.prog.follows .mixedOrders = true := by kernel_rfl
  rw [show e.val = .agg X by rw [← HX.out]] at hld hldd
  have H3 := Lib.hid (And.intro h3 N3)
  have hlb := h3.blk.lt
  have hlow := h3.low
  have hXs : X.size = 27 := by rw [← HX.out]; simp [e.cs_len]
  have hfold := fold_all zeroE X (by rw [hXs]; rfl) 27 hXs.symm
  simp only [zeroE, List.replicate, List.cons_append, List.nil_append] at hfold
  clear h3 hbx3 n3 N3 C c0 c1 H hL
  go_wp2_with fail
  have m4 := ((Chg.refl (fun _ => False) w3).alloc (.cells X 35)).drew
  have hc4 := (m4.cell (p := ⟨b, 258, none⟩) hlb id).trans hcE
  have s4 : (w3.alloc (.cells X 35)).drew.heap.size = w3.heap.size + 1 := World.size_alloc _ _
  have hc4' : (w3.alloc (.cells X 35)).cell? ⟨b, 258, none⟩ = some (.slice A' L c') := hc4
  have S4 := Lib.hid s4
  have HRD : Hid (Reads (w3.alloc (.cells X 35)).drew (fun b => b = w3.heap.size) 27 (some ⟨w3.heap.size, 0, none⟩) 1 (rowE [e])) := by
    refine Lib.hid ?_
    have := Reads.of_row (w := (w3.alloc (.cells X 35)).drew) (g := w3.heap.size) (n := 1) (size := 27) (heap_alloc_new w3 _) (by rw [hXs])
    rw [← HX.out] at this ⊢
    simpa [rowE] using this
  clear s4 hc4
  go_region_law_o ((
      refine step_append_ev rfl (.tmp 17) (.tmp 19) rfl lo _ es (by rfl) (own_chg H3.out.1.own m4 fun _ _ => id) _ _ 1 _ [e] (by rfl) HRD.out (by rw [HL.out]; omega) (by rw [S4.out]; omega) ?_
      intro v5 w5 o5 g5 a5
      have h4 := H3.out.1.new m4
      have b5 := h4.blk.grown g5 fun e => h4.ne e.symm
      have c5 : Chg (fun g => g = b ∨ (Value.slice A' L c').ownBlock = some g) w3 w5 := (((Chg.refl _ w3).alloc _).drew).grown g5 fun k e _ => .inr e
      obtain ⟨A5, c5', hv5⟩ := o5.form
      obtain ⟨L5, hL5⟩ : ∃ L5, (es ++ [e]).length = L5 := ⟨_, rfl⟩
      rw [hL5] at hv5
      subst hv5
      have hf5 := b5.frozen 258
      have hb6 := b5.set_ 258 (.slice A5 L5 c5')
      rw [bufC_set _ _ _ _ _ h4.hr h4.ha] at hb6
      have hc5 : ∃ u, w5.cell? ⟨b, 258, none⟩ = some u := ⟨_, (b5.cell 258).trans (by
        have := h4.cellE
        rw [h4.blk.cell] at this
        exact this)⟩
      obtain ⟨u5, hc5⟩ := hc5
      have c6 := (Chg.refl (fun k => k = b) w5).setCell (p := ⟨b, 258, none⟩) (fun _ => rfl) (.slice A5 L5 c5')
      have hP : At (w5.setCell ⟨b, 258, none⟩ (.slice A5 L5 c5')) lo b n me acks (.slice A5 L5 c5') (es ++ [e]) ∧ Chg (fun g => g = b ∨ (Value.slice A' L c').ownBlock = some g) w (w5.setCell ⟨b, 258, none⟩ (.slice A5 L5 c5')) :=
        ⟨⟨hb6, own_chg o5 c6 fun k hk e => own_ne o5 b5 (by decide) (e ▸ hk), h4.ha, h4.hr, h4.hn, h4.low⟩, ((H3.out.2.mono fun _ _ => False.elim).trans c5 fun _ _ => id).trans c6 fun k _ e => .inl e⟩
      have HP := Lib.hid hP
      clear o5 g5 a5 h4 b5 c5 hb6 c6 hP hL5
      skip))
  all_goals
    go_wp2
    go_end0
    exact ⟨rfl, _, HP.out⟩
end Buf
end Go.Proofs.Ytgjlbifanjhcjaa

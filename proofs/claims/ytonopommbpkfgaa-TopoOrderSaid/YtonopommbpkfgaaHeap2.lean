/-
  What container/heap computes on topo's heap of numbers: one put, the least one taken (no condition beyond the sizes).
-/
import Derived.Test.YtonopommbpkfgaaHeap
namespace Go.Proofs.Ytonopommbpkfgaa
open Go.ChangeShapes Go.WideShapes Go.RowKit
namespace Heap
abbrev int (x : Int) : Value := .iface 3 (.int .i64 x)
set_option maxHeartbeats 2000000 in
theorem m_put (w : World) (lo b g c n : Nat) (l : List Int) (h : HAt w lo b g c n l) (hf : n ≤ 99999) (x : Int) :
    Calls Try.prog 41 #[ptr b, int x] w fun e w' => e = .returned (.tuple #[]) ∧ ∃ g' c', HAt w' lo b g' c' (n + 1) (l ++ [x]) ∧ (g' = g ∨ w.heap.size ≤ g') ∧ Chg (fun k => k = b ∨ k = g) w w' := by
  have hb := h.blk.cell 0
  simp only [List.getElem?_toArray, List.getElem?_cons_zero] at hb
  have H := Lib.hid h
  have hbl := h.blk.lt
  have hta : ∀ w k, (Instr.typeAssert (int x) k 3 true).run Try.prog w = .ok (.tuple #[.int .i64 x, .bool true]) w := fun w k => by
    kernel_rfl
  clear h
  go_enter Try.func41, Try.ntmps41
  go_wp2_with (at_builtin; refine stop ?_)
  delta Stop
  have m1 := (Chg.refl (fun _ => False) w).alloc (.cells #[.int .i64 x] 3)
  have h1 := H.out.new m1
  refine append_ints _ rfl _ _ 46 Try.underlying46 rfl lo _ l rfl h1.own _ _ _ _ [x] rfl (Reads.of_row (n := 1) (size := 1) (heap_alloc_new w _) (by simp)) (by rw [H.out.len]; omega) (by have := H.out.low; simp; omega) ?_
  intro v6 w6 o6 g6 a6
  obtain ⟨g', c', rfl, hlg, _⟩ := World.ownsRow.form o6 (by simp)
  have b6 := h1.blk.grown g6 (fun e => h1.ne (by injection e with e; exact e.symm))
  have c6 : Chg (fun k => k = b ∨ k = g) w w6 := ((Chg.refl _ w).alloc (.cells #[.int .i64 x] 3)).grown g6 fun k e hlt => by injection e with e; exact .inr e.symm
  have hl : (l ++ [x]).length = n + 1 := by rw [List.length_append, H.out.len]; rfl
  rw [hl] at o6 ⊢
  have hcell := b6.cell 0
  have hfz := b6.frozen 0
  have b7 := b6.set_ 0 (.slice (some ⟨g', 0, none⟩) (n + 1) c')
  simp only [List.getElem?_toArray, List.getElem?_cons_zero] at hcell
  rw [setIfInBounds_toArray, List.set_cons_zero] at b7
  have c7 := c6.setCell (p := ⟨b, 0, none⟩) (fun _ => .inl rfl) (.slice (some ⟨g', 0, none⟩) (n + 1) c')
  have cs := (Chg.refl (fun k => k = b) w6).setCell (p := ⟨b, 0, none⟩) (fun _ => rfl) (.slice (some ⟨g', 0, none⟩) (n + 1) c')
  have o6' : OwnI w6 lo (.slice (some ⟨g', 0, none⟩) (n + 1) c') (l ++ [x]) := o6
  have o7 := own_chg o6' cs (fun k hk e => own_ne o6' b6 (by decide) (by rw [hk, e]))
  have hg' : g' = g ∨ w.heap.size ≤ g' := by
    rcases a6 with e | e
    · left
      have : some g' = some g := e
      injection this
    · right
      have : some g' = some (w.alloc (.cells #[.int .i64 x] 3)).heap.size := e
      injection this with this
      rw [World.size_alloc] at this
      omega
  have HZ := Lib.hid (And.intro (HAt.mk (lo := lo) b7 o7 H.out.low hl) (And.intro hg' c7))
  clear o6 g6 a6 b6 c6 b7 c7 cs o6' o7 h1 m1 hg'
  go_wp2_with fail
  go_end0
  exact ⟨rfl, g', c', HZ.out⟩
set_option maxHeartbeats 2000000 in
theorem m_take (w : World) (lo b g c q : Nat) (l : List Int) (h : HAt w lo b g c (q + 1) l) (hf : q ≤ 99999) :
    Calls Try.prog 40 #[ptr b] w fun e w' => e = .returned (int (l.getD q 0)) ∧ HAt w' lo b g c q (l.take q) ∧ Chg (fun k => k = b) w w' := by
  have hb := h.blk.cell 0
  simp only [List.getElem?_toArray, List.getElem?_cons_zero] at hb
  have hc := h.own.cell (i := q) (by rw [h.len]; omega)
  have hfz := h.blk.frozen 0
  have hcap : q + 1 ≤ c := by
    rcases h.own.2 with ⟨h0, _⟩ | ⟨_, _, _, hv, _, _, h1, _⟩
    · cases h0
    · injection hv with _ _ hv
      rw [h.len] at h1
      omega
  obtain ⟨ti, hti, _⟩ := info_parts intInfo
  have hsl := run_slice_to (P := Try.prog) Try.underlying46 hti (some ⟨g, 0, none⟩) (q + 1) c q (by omega)
  have b7 := h.blk.set_ 0 (.slice (some ⟨g, 0, none⟩) q c)
  rw [setIfInBounds_toArray, List.set_cons_zero] at b7
  have cs := (Chg.refl (fun k => k = b) w).setCell (p := ⟨b, 0, none⟩) (fun _ => rfl) (.slice (some ⟨g, 0, none⟩) q c)
  have o7 := own_chg (h.own.cut (k := q) (by rw [h.len]; omega)) cs (fun k hk e => by have h1 : g = k := (by simpa [Value.ownBlock] using hk); exact h.ne (h1.trans e))
  have HZ := Lib.hid (And.intro (HAt.mk (lo := lo) b7 o7 h.low (by rw [List.length_take, h.len]; omega)) cs)
  generalize l.getD q 0 = x at *
  clear h b7 cs o7
  go_enter Try.func40, Try.ntmps40
  go_wp2_with fail
  go_ret
  exact ⟨rfl, HZ.out⟩
set_option maxHeartbeats 2000000 in
theorem put (w : World) (lo b g c n : Nat) (l : List Int) (h : HAt w lo b g c n l) (hf : n ≤ 99998) (ho : OK l n) (x : Int) :
    Calls Try.prog 17 #[face b, int x] w fun e w' => e = .returned (.tuple #[]) ∧ ∃ g' c' l', HAt w' lo b g' c' (n + 1) l' ∧ l'.Perm (l ++ [x]) ∧ OK l' (n + 1) ∧ (g' = g ∨ w.heap.size ≤ g') ∧ Chg (fun k => k = b ∨ k = g) w w' := by
  have hm := m_push w b
  have C := Lib.hid (m_put w lo b g c n l h (by omega) x)
  have H := Lib.hid (And.intro h ho)
  have hl := h.len
  clear h ho
  go_enter Try.func17, Try.ntmps17
  go_wp2_with fail
  refine C.out.mono ?_
  rintro e w1 ⟨rfl, g', c', h1, hg', c1⟩
  have hm2 := m_len w1 b (some ⟨g', 0, none⟩) (n + 1) c' h1.blk
  have CU := Lib.hid (up w1 lo b g' c' (n + 1) (l ++ [x]) h1 n (by omega) (by omega) (by rw [← hl]; exact up_new (by rw [hl]; exact H.out.2) x))
  have H1 := Lib.hid (And.intro h1 (And.intro hg' c1))
  clear h1 hg' c1 C hm
  go_wp2_with fail
  refine (len_ _ _ _ _).mono ?_
  rintro e w2 ⟨rfl, rfl⟩
  go_wp2_with fail
  refine CU.out.mono ?_
  rintro e w3 ⟨rfl, l', h3, hp, ho, c3⟩
  have HZ := Lib.hid (And.intro h3 (And.intro hp (And.intro ho (And.intro H1.out.2.1 (H1.out.2.2.trans c3 fun k hk e => by
    rcases H1.out.2.1 with e2 | e2
    · exact .inr (by omega)
    · omega)))))
  clear h3 hp ho c3 CU
  go_wp2_with fail
  go_end0
  exact ⟨rfl, g', c', l', HZ.out⟩
theorem take_ok {l : List Int} {q : Nat} (h : OK l q) : OK (l.take q) q := fun i h0 hi => by
  have := par_lt h0
  have hg : ∀ k, k < q → (l.take q).getD k 0 = l.getD k 0 := fun k hk => by simp [List.getD_eq_getElem?_getD, List.getElem?_take_of_lt hk]
  rw [hg _ (by omega), hg _ hi]
  exact h i h0 hi
theorem take_last {l : List Int} {q : Nat} (h : l.length = q + 1) : l.take q ++ [l.getD q 0] = l := by
  have hq : q < l.length := by omega
  rw [show l.getD q 0 = l[q] by simp [List.getD_eq_getElem?_getD, List.getElem?_eq_getElem hq], List.take_append_getElem, List.take_of_length_le (by omega)]
set_option maxHeartbeats 2000000 in
theorem pop (w : World) (lo b g c q : Nat) (l : List Int) (h : HAt w lo b g c (q + 1) l) (hf : q ≤ 99998) (ho : OK l (q + 1)) :
    Calls Try.prog 19 #[face b] w fun e w' => ∃ x, e = .returned (int x) ∧ ∃ l', HAt w' lo b g c q l' ∧ (l' ++ [x]).Perm l ∧ OK l' q ∧ (∀ y ∈ l, x ≤ y) ∧ Chg (fun k => k = b ∨ k = g) w w' := by
  have hm := m_len w b (some ⟨g, 0, none⟩) (q + 1) c h.blk
  have hl := h.len
  have CS := Lib.hid (swap w lo b g c (q + 1) l h 0 q (by omega) (by omega) (by omega))
  have hms := m_swap w b (some ⟨g, 0, none⟩) (q + 1) c h.blk
  have H := Lib.hid ho
  clear h ho
  go_enter Try.func19, Try.ntmps19
  go_wp2_with fail
  refine (len_ _ _ _ _).mono ?_
  rintro e w1 ⟨rfl, rfl⟩
  clear hm
  go_wp2_with fail
  refine CS.out.mono ?_
  rintro e w2 ⟨rfl, h2, c2⟩
  have CD := Lib.hid (down w2 lo b g c (q + 1) _ h2 q (by omega) (by omega) (down_start H.out (by omega)))
  have H2 := Lib.hid c2
  clear h2 c2 CS hms
  go_wp2_with fail
  refine CD.out.mono ?_
  rintro e w3 ⟨r, rfl, l3, h3, hp3, ho3, hs3, c3⟩
  have hm := m_pop w3 b
  have CT := Lib.hid (m_take w3 lo b g c q l3 h3 (by omega))
  have hx : l3.getD q 0 = l.getD 0 0 := by
    rw [hs3 q (Nat.le_refl _), swap_get (by omega) (by omega), if_pos rfl]
  have hperm : (l3.take q ++ [l3.getD q 0]).Perm l := by
    rw [take_last h3.len]
    exact hp3.trans (swap_perm (by omega) (by omega))
  have hmin : ∀ y ∈ l, l3.getD q 0 ≤ y := fun y hy => by
    rw [hx]
    obtain ⟨i, hi, rfl⟩ := List.mem_iff_getElem.1 hy
    have := ok_root H.out i (by omega)
    rwa [show l.getD i 0 = l[i] by simp [List.getD_eq_getElem?_getD, List.getElem?_eq_getElem hi]] at this
  have H3 := Lib.hid (And.intro hperm (And.intro hmin (And.intro ho3 ((H2.out.mono (S' := fun k => k = b ∨ k = g) fun _ _ e => .inr e).trans c3 fun _ _ e => .inr e))))
  clear h3 hp3 ho3 hs3 c3 CD hx hperm hmin
  go_wp2_with fail
  refine CT.out.mono ?_
  rintro e w4 ⟨rfl, h4, c4⟩
  have HZ := Lib.hid (And.intro h4 (H3.out.2.2.2.trans c4 fun _ _ e => .inl e))
  clear h4 c4 CT hm
  generalize l3.getD q 0 = x at *
  go_wp2_with fail
  go_ret
  exact ⟨x, rfl, _, HZ.out.1, H3.out.1, take_ok H3.out.2.2.1, H3.out.2.1, HZ.out.2⟩
end Heap
end Go.Proofs.Ytonopommbpkfgaa

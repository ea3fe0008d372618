/-
  What the program's buffer package computes: all events, how many, those that a vector lacks (no condition beyond the sizes).
-/
import Derived.Test.YtgjlbifanjhcjaaBuffer2
import Derived.Deep.WholeRow
namespace Go.Proofs.Ytgjlbifanjhcjaa
open Go.ChangeShapes Go.WideShapes Go.RowKit Go.Deep
namespace Buf
open Vec
attribute [local go_sem ↓] loadOnly0 loadRow0 storeRow0
theorem hb_ld {w : World} {b : Nat} {t : TypeId} {xs : List Int} (hl : xs.length = 16) (h : Blk w b t (ints xs).toArray) (W : World) (hW : New w W) : (LoadRow 27 ⟨b, 0, none⟩).run Try.prog W = .ok (vec xs) W := ldB hl (h.chg hW id)
theorem OwnE.empty {w : World} {base : Nat} (hb : base ≤ w.heap.size) : OwnE (w.alloc (.cells #[] 35)) base (.slice (some ⟨w.heap.size, 0, none⟩) 0 0) [] := by
  have := World.ownsRow_lit (e := 35) (size := 27) w #[] 0 hb (by simp) (by simp)
  simp at this
  exact this
set_option maxHeartbeats 2000000 in
theorem clone (w : World) (A : Option Addr) (n c : Nat) (es : List Ev) (F : Nat → Prop) (hr : Reads w F 27 A n (rowE es)) (hn : n ≤ 1000000) :
    Calls Try.prog 15 #[.slice A n c] w fun e w' => ∃ v, e = .returned v ∧ OwnE w' w.heap.size v es ∧ New w w' := by
  have hq := fun (w : World) (a : Option Addr) (n c n' c' : Nat) => Lib.run_eql_slice_nil (P := Try.prog) w 22 35 a n c n' c' Try.underlying22
  have hlen := hr.len
  rw [rowE_length] at hlen
  rcases A with _ | ad
  · have h0 : n = 0 := by
      rcases Nat.eq_zero_or_pos n with h | h
      · exact h
      · obtain ⟨_, h, _⟩ := hr.at0 h
        cases h
    have hx : es = [] := List.eq_nil_of_length_eq_zero (by omega)
    subst hx
    clear hr
    go_enter Try.func15, Try.ntmps15
    go_wp2
    go_ret
    exact ⟨_, rfl, OwnE.nil _ _, Chg.refl _ _⟩
  · have HR := Lib.hid hr
    clear hr hlen
    go_enter Try.func15, Try.ntmps15
    go_wp2_with (at_builtin; refine stop ?_)
    delta Stop
    refine append_ev _ rfl _ _ rfl w.heap.size _ [] rfl (OwnE.empty (Nat.le_refl _)) F (some ad) n c es rfl ?_ (by simp; omega) (by simp) ?_
    · exact HR.out.chg' ((Chg.refl (fun _ => False) w).alloc _) (fun _ _ => id) (by omega)
    · intro v w1 ho hg hat
      rw [List.nil_append] at ho
      go_wp2
      go_ret
      refine ⟨_, rfl, ho, ((Chg.refl _ _).alloc _).grown hg fun g e h => ?_⟩
      have := (OwnE.empty (w := w) (Nat.le_refl _)).lt g e
      omega
set_option maxHeartbeats 2000000 in
theorem all (w : World) (lo b n me : Nat) (acks : List (List Int)) (v : Value) (es : List Ev) (h : At w lo b n me acks v es) (hlen : es.length ≤ 100000) :
    Calls Try.prog 8 #[ptr b] w fun e w' => ∃ u, e = .returned u ∧ OwnE w' w.heap.size u es ∧ New w w' := by
  obtain ⟨A, c, rfl⟩ := h.own.form
  have hcE := h.cellE
  obtain ⟨L, hL⟩ : ∃ L, es.length = L := ⟨_, rfl⟩
  have ho := h.own
  unfold OwnE at ho
  rw [hL] at hcE ho
  have C := Lib.hid (clone w A L c es _ (Reads.of_own ho) (by omega))
  clear h ho hL
  go_enter Try.func8, Try.ntmps8
  go_wp2_with fail
  refine C.out.mono ?_
  rintro e w1 ⟨u, rfl, o1, n1⟩
  have HZ := Lib.hid (And.intro o1 n1)
  clear o1 n1 C
  go_wp2
  go_ret
  exact ⟨_, rfl, HZ.out⟩
set_option maxHeartbeats 2000000 in
theorem len_ (w : World) (lo b n me : Nat) (acks : List (List Int)) (v : Value) (es : List Ev) (h : At w lo b n me acks v es) (hlen : es.length ≤ 100000) :
    Calls Try.prog 10 #[ptr b] w fun e w' => e = .returned (.int .i64 (es.length : Int)) ∧ New w w' := by
  have C := Lib.hid (all w lo b n me acks v es h hlen)
  clear h
  go_enter Try.func10, Try.ntmps10
  go_wp2_with fail
  refine C.out.mono ?_
  rintro e w1 ⟨u, rfl, o1, n1⟩
  obtain ⟨A, c, rfl⟩ := o1.form
  have HZ := Lib.hid n1
  clear o1 n1 C
  go_wp2
  go_ret
  exact ⟨rfl, HZ.out⟩
set_option maxHeartbeats 4000000 in
set_option maxRecDepth 100000 in
theorem lacks (w : World) (lo b n me : Nat) (acks : List (List Int)) (v : Value) (es : List Ev) (h : At w lo b n me acks v es) (hlen : es.length ≤ 100000) (xs : List Int) (hx : xs.length = 16) (hno : ∀ e ∈ es, knowsF xs e.r e.c = false) (m : Int) (hm : (es.length : Int) ≤ m) :
    Calls Try.prog 9 #[ptr b, vec xs, .int .i64 m] w fun e w' => ∃ u, e = .returned u ∧ OwnE w' w.heap.size u es ∧ New w w' := by
  obtain ⟨A, c, rfl⟩ := h.own.form
  have m1 := (Chg.refl (fun _ => False) w).alloc (.cells (ints xs).toArray 27)
  have hb1 := Blk.new w 27 (ints xs).toArray
  have h1 := h.new m1
  have hcE := h1.cellE
  obtain ⟨L, hL⟩ : ∃ L, es.length = L := ⟨_, rfl⟩
  have H := Lib.hid (And.intro h1 (And.intro hb1 (And.intro m1 (And.intro hno hL))))
  have HX := Lib.hid hx
  rw [hL] at hcE hm hlen
  clear h m1 hb1 h1 hL hno hx
  go_enter Try.func9, Try.ntmps9
  go_wp2_with fail
  go_loopw [7, 9, 17] (fun u _ i wr => ∃ (k : Nat), k ≤ L ∧ i = .int .i64 k ∧ OwnE wr (w.heap.size + 1) u (es.take k) ∧ New (w.alloc (.cells (ints xs).toArray 27)) wr) (fun _ _ i _ => L - (intOf i).toNat)
  case atStart => exact ⟨0, by omega, rfl, OwnE.nil _ _, Chg.refl _ _⟩
  case round =>
    clear hcE
    obtain ⟨k, hk, rfl, ou, nw⟩ := hrel
    by_cases hlt : k < L
    · obtain ⟨e, he⟩ : ∃ e, es[k]? = some e := ⟨_, List.getElem?_eq_getElem (by have := H.out.2.2.2.2; omega)⟩
      have hwr := H.out.1.new nw
      obtain ⟨ad, rfl, hld⟩ := ld_ev (Reads.of_own (by have := hwr.own; exact this)) he
      obtain ⟨X, hX⟩ : ∃ X, e.cs.toArray = X := ⟨_, rfl⟩
      have HXX := Lib.hid hX
      rw [show e.val = .agg X by rw [← hX]] at hld
      have hXs : X.size = 27 := by rw [← hX]; simp [e.cs_len]
      have hvec := hb_ld HX.out (H.out.2.1.chg nw id)
      have mb := (Chg.refl (fun _ => False) wr).alloc (.cells X 35)
      have hbb := Blk.new wr 35 X
      have c0 : (wr.alloc (.cells X 35)).cell? ⟨wr.heap.size, 0, none⟩ = some (.int .i64 e.r) := by rw [hbb.cell, ← hX]; rfl
      have c1 : (wr.alloc (.cells X 35)).cell? ⟨wr.heap.size, 1, none⟩ = some (.int .i64 e.c) := by rw [hbb.cell, ← hX]; rfl
      have hutk : (es.take k).length = k := by rw [List.length_take, Nat.min_eq_left (by have := H.out.2.2.2.2; omega)]
      obtain ⟨Au, cu, rfl⟩ := ou.form
      rw [hutk]
      have C := knows_ (wr.alloc (.cells X 35)) xs e.r e.c HX.out
      rw [H.out.2.2.2.1 e (List.mem_of_getElem? he)] at C
      have C := Lib.hid C
      have hvb := hvec _ mb
      have hkL : (k : Int) < L := by omega
      have hkm : (k : Int) < m := by omega
      have hfold := fold_all zeroE X (by rw [hXs]; rfl) 27 hXs.symm
      have hst := run_storeCells_new (P := Try.prog) wr 35 zeroE X (by rw [hXs]; kernel_rfl) (by rw [hXs]; rfl) (by rw [← hX]; exact all_oneCell_toArray e.cs_one)
      simp only [zeroE, List.replicate, List.cons_append, List.nil_append] at hfold hst
      have ob := own_chg ou mb fun _ _ => id
      have hsz := nw.size
      have htk : es.take (k + 1) = es.take k ++ [e] := by rw [List.take_add_one, he]; rfl
      have HS := Lib.hid (And.intro ob (And.intro hbb (And.intro (nw.trans mb fun _ _ => id) (And.intro htk hutk))))
      rw [World.size_alloc] at hsz
      clear ou ob hbb mb nw hwr hvec hX he htk hutk
      go_wp2_with fail
      refine C.out.mono ?_
      rintro x w4 ⟨rfl, n4⟩
      have hb4 := HS.out.2.1.chg n4 id
      have hld4 : (LoadRow 35 ⟨wr.heap.size, 0, none⟩).run Try.prog w4 = .ok (.agg X) w4 := by
        have := ev_blk (e := e) (by rw [HXX.out]; exact hb4)
        rwa [show e.val = .agg X by rw [← HXX.out]] at this
      have o4 := own_chg HS.out.1 n4 fun _ _ => id
      rw [HS.out.2.2.2.2] at o4
      have H4 := Lib.hid (And.intro o4 (HS.out.2.2.1.trans n4 fun _ _ => id))
      have hs4 : w.heap.size + 1 ≤ w4.heap.size := by have := n4.size; rw [World.size_alloc] at this; omega
      clear C c0 c1 hvb hld hb4 o4 n4 hst
      go_wp2_with (at_builtin; refine stop ?_)
      delta Stop
      have HRD : Reads (w4.alloc (.cells X 35)) (fun b => b = w4.heap.size) 27 (some ⟨w4.heap.size, 0, none⟩) 1 (rowE [e]) := by
        have := Reads.of_row (w := w4.alloc (.cells X 35)) (g := w4.heap.size) (n := 1) (size := 27) (heap_alloc_new w4 _) (by rw [hXs])
        rw [← HXX.out] at this ⊢
        simpa [rowE] using this
      refine append_ev _ rfl _ _ rfl (w.heap.size + 1) _ (es.take k) rfl (World.ownsRow.alloc (by rw [HS.out.2.2.2.2]; exact H4.out.1) _) _ _ _ _ [e] rfl HRD (by rw [HS.out.2.2.2.2]; omega) (by simp; omega) ?_
      intro v6 w6 o6 g6 a6
      rw [← HS.out.2.2.2.1] at o6
      have n6 := (H4.out.2.alloc (.cells X 35)).grown g6 fun g e hlt => by
        have := (own_lt H4.out.1 e).1
        rw [World.size_alloc] at hlt
        omega
      have H6 := Lib.hid (And.intro o6 n6)
      clear o6 n6 g6 a6 HRD
      go_wp2_with fail
      go_roundw
      case rel => exact ⟨k + 1, by omega, by go_num, H6.out.1, H6.out.2⟩
      case measure => simp [intOf]; omega
    · obtain rfl : k = L := by omega
      rw [List.take_of_length_le (by have := H.out.2.2.2.2; omega)] at ou
      have HZ := Lib.hid (And.intro (own_mono ou (Nat.le_succ _)) (H.out.2.2.1.trans nw fun _ _ => id))
      clear ou nw
      go_wp2_with fail
      go_ret
      exact ⟨_, rfl, HZ.out⟩
end Buf
end Go.Proofs.Ytgjlbifanjhcjaa

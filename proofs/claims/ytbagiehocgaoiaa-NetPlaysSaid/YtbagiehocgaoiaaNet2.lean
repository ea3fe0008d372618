/-
  What the program's net package computes: parcels sent, doubled and taken out (no condition beyond the sizes).
-/
import Derived.Test.YtbagiehocgaoiaaNet
import Derived.Laws.ResultCell
namespace Go.Proofs.Ytbagiehocgaoiaa
open Go.ChangeShapes Go.WideShapes Go.RowKit Go.Deep
namespace Net
attribute [local go_sem ↓] loadOnly0 loadOnly1
set_option maxHeartbeats 800000 in
theorem send_ok (w : World) (lo b : Nat) (v : Value) (fs : List Fl) (h : At w lo b v fs) (to_ : Int) (A : Option Addr) (n c : Nat) (l : List UInt8) (F : Nat → Prop) (hr : Reads w F 1 A n (u8s l)) (hn : n ≤ 1048576) (hlt : fs.length < 256) :
    Calls Try.prog 8 #[ptr b, .int .i64 to_, .slice A n c] w fun e w' => e = .returned (.int .i64 0) ∧ ∃ u, Post w lo b v fs (fs ++ [⟨to_, u, l, false⟩]) w' := by
  have C := Lib.hid (put_ok w lo b v fs h to_ A n c false l F hr hn hlt)
  clear h hr
  go_enter Try.func8, Try.ntmps8
  go_wp2_with fail
  refine C.out.mono ?_
  rintro e w2 ⟨rfl, hp⟩
  have HP := Lib.hid hp
  clear hp
  go_wp2
  go_ret
  exact ⟨rfl, HP.out⟩
set_option maxHeartbeats 800000 in
theorem send_full (w : World) (lo b : Nat) (v : Value) (fs : List Fl) (h : At w lo b v fs) (to_ : Int) (u : Value) (hlt : 256 ≤ fs.length) (h1 : ∃ A n c, u = .slice A n c) :
    Calls Try.prog 8 #[ptr b, .int .i64 to_, u] w fun e w' => e = .returned (.int .i64 6) ∧ New w w' := by
  obtain ⟨A, n, c, rfl⟩ := h1
  have C := Lib.hid (put_full w lo b v fs h to_ (.slice A n c) false hlt)
  clear h
  go_enter Try.func8, Try.ntmps8
  go_wp2_with fail
  refine C.out.mono ?_
  rintro e w2 ⟨rfl, hp⟩
  go_wp2
  go_ret
  exact ⟨rfl, hp⟩
/-- parcel i's cells, and the parcel read whole -/
theorem row_at {w : World} {base : Nat} {v : Value} {fs : List Fl} (h : OwnF w base v fs) {i : Nat} {f : Fl} (hi : fs[i]? = some f) : ∃ g c, v = .slice (some ⟨g, 0, none⟩) fs.length c ∧ base ≤ g ∧ g < w.heap.size ∧ ∀ W, (W.heap[g]? = w.heap[g]?) →
    W.cell? ⟨g, i * 3, none⟩ = some (.int .i64 f.to_) ∧ W.cell? ⟨g, i * 3 + 1, none⟩ = some f.u ∧ W.cell? ⟨g, i * 3 + 2, none⟩ = some (.bool f.t) ∧ W.frozen? ⟨g, i * 3 + 2, none⟩ = false ∧
    (LoadRow 52 ⟨g, i * 3, none⟩).run Try.prog W = .ok (.agg #[.int .i64 f.to_, f.u, .bool f.t]) W ∧ (LoadRow 35 ⟨g, i * 3, none⟩).run Try.prog W = .ok (.agg #[.int .i64 f.to_, f.u]) W := by
  have hlt : i < fs.length := (List.getElem?_eq_some_iff.1 hi).1
  obtain ⟨g, c, rfl, hb, hg⟩ := World.ownsRow.form h (by omega)
  refine ⟨g, c, rfl, hb, hg, fun W hW => ?_⟩
  obtain ⟨e0, e1, e2⟩ := cells_get fs i f hi
  have c0 := World.ownsRow.cellAt h (i * 3) (by omega)
  have c1 := World.ownsRow.cellAt h (i * 3 + 1) (by omega)
  have c2 := World.ownsRow.cellAt h (i * 3 + 2) (by omega)
  have f2 := World.ownsRow.frozenAt h (i * 3 + 2)
  rw [← World.cell?_of_block (w := w) (w' := W) (a := ⟨g, _, none⟩) hW] at c0 c1 c2
  rw [← World.frozen?_of_block (w := w) (w' := W) (a := ⟨g, _, none⟩) hW] at f2
  rw [e0] at c0
  rw [e1] at c1
  rw [e2] at c2
  refine ⟨c0, c1, c2, f2, ?_, ?_⟩
  · refine run_LoadRow_at (P := Try.prog) (t := 52) Try.underlying52 rfl (n := 3) (cs := [_, _, _]) (by kernel_rfl) rfl fun j u hj => ?_
    rw [add_plain]
    match j, hj with
    | 0, hj => injection hj with hj; subst hj; exact c0
    | 1, hj => injection hj with hj; subst hj; exact c1
    | 2, hj => injection hj with hj; subst hj; exact c2
    | j + 3, hj => simp at hj
  · refine run_LoadRow_at (P := Try.prog) (t := 35) Try.underlying35 rfl (n := 2) (cs := [_, _]) (by kernel_rfl) rfl fun j u hj => ?_
    rw [add_plain]
    match j, hj with
    | 0, hj => injection hj with hj; subst hj; exact c0
    | 1, hj => injection hj with hj; subst hj; exact c1
    | j + 2, hj => simp at hj
set_option maxHeartbeats 2000000 in
theorem double_full (w : World) (lo b : Nat) (v : Value) (fs : List Fl) (h : At w lo b v fs) (i : Nat) (hi : i < fs.length) (hlt : 256 ≤ fs.length) :
    Calls Try.prog 10 #[ptr b, .int .i64 (i : Int)] w fun e w' => e = .returned (.int .i64 6) ∧ New w w' := by
  obtain ⟨f, hf⟩ : ∃ f, fs[i]? = some f := ⟨_, List.getElem?_eq_getElem hi⟩
  have hc : w.cell? ⟨b, 0, none⟩ = some v := h.blk.cell 0
  obtain ⟨g, c, rfl, _, _, hall⟩ := row_at h.own hf
  obtain ⟨_, _, _, _, hld, _⟩ := hall w rfl
  have K := Lib.hid (at_in w lo b _ fs h i hi)
  have C := Lib.hid (put_full w lo b _ fs h f.to_ f.u f.t hlt)
  obtain ⟨A, n, hu⟩ := own_form (h.mem (List.mem_of_getElem? hf))
  rw [hu] at C hld
  generalize f.b.length = m at *
  generalize fs.length = L at *
  have hiL : (i : Int) < L := by omega
  clear h hall hf hu hlt hi
  go_enter Try.func10, Try.ntmps10
  go_wp2_with fail
  refine K.out.mono ?_
  rintro e w1 ⟨rfl, rfl⟩
  go_wp2_with fail
  refine C.out.mono ?_
  rintro e w2 ⟨rfl, hp⟩
  go_wp2
  go_ret
  exact ⟨rfl, hp⟩
set_option maxHeartbeats 2000000 in
theorem double_ok (w : World) (lo b : Nat) (v : Value) (fs : List Fl) (h : At w lo b v fs) (i : Nat) (f : Fl) (hf : fs[i]? = some f) (hlt : fs.length < 256) (hm : f.b.length ≤ 1048576) :
    Calls Try.prog 10 #[ptr b, .int .i64 (i : Int)] w fun e w' => e = .returned (.int .i64 0) ∧ ∃ u, Post w lo b v fs (fs ++ [⟨f.to_, u, f.b, f.t⟩]) w' := by
  have hi : i < fs.length := (List.getElem?_eq_some_iff.1 hf).1
  have hc : w.cell? ⟨b, 0, none⟩ = some v := h.blk.cell 0
  obtain ⟨g, c, rfl, _, _, hall⟩ := row_at h.own hf
  obtain ⟨_, _, _, _, hld, _⟩ := hall w rfl
  have K := Lib.hid (at_in w lo b _ fs h i hi)
  obtain ⟨A, n, hu, _, _, _, hr⟩ := OwnB.form (h.mem (List.mem_of_getElem? hf))
  have C := put_ok w lo b _ fs h f.to_ A f.b.length n f.t f.b _ hr hm hlt
  rw [hu] at hld
  have C := Lib.hid C
  generalize f.b.length = m at *
  generalize fs.length = L at *
  have hiL : (i : Int) < L := by omega
  clear h hall hf hu hlt hi hr hm
  go_enter Try.func10, Try.ntmps10
  go_wp2_with fail
  refine K.out.mono ?_
  rintro e w1 ⟨rfl, rfl⟩
  go_wp2_with fail
  refine C.out.mono ?_
  rintro e w2 ⟨rfl, hp⟩
  have HP := Lib.hid hp
  clear hp
  go_wp2
  go_ret
  exact ⟨rfl, HP.out⟩
theorem double_none (w : World) (lo b : Nat) (v : Value) (fs : List Fl) (h : At w lo b v fs) (i : Int) (hi : i < 0 ∨ (fs.length : Int) ≤ i) :
    Calls Try.prog 10 #[ptr b, .int .i64 i] w fun e w' => e = .returned (.int .i64 5) ∧ w = w' := by
  have K := Lib.hid (at_out w lo b _ fs h i hi)
  clear h hi
  go_enter Try.func10, Try.ntmps10
  go_wp2_with fail
  refine K.out.mono ?_
  rintro e w1 ⟨rfl, rfl⟩
  go_wp2
  go_ret
  exact ⟨rfl, rfl⟩
theorem run_slice_three {P : Program} {t e : TypeId} {i : TypeInfo} (ht : P.underlying t = some (.slice e)) (hi : P.info? e = some i) (A : Option Addr) (n c k m q : Nat) (hk : k ≤ m) (hm : m ≤ q) (hq : q ≤ c) (W : World) :
    (Instr.sliceAt t (.slice A n c) (some (.int .i64 (k : Int))) (some (.int .i64 (m : Int))) (some (.int .i64 (q : Int)))).run P W = .ok (.slice (if q = k then A else A.map (·.add (k * i.size))) (m - k) (q - k)) W := by
  simp [Instr.sliceAt, Instr.slice, Instr.sliceBounds, Instr.sliceBound, run_underlying ht, asIntOf, sizeOf, typeInfo, hi, hk, hm, hq]
/-- clear of one element of several cells -/
theorem run_clear_one {P : Program} (w : World) (t e ty : TypeId) (z : Value) (zs : List Value) (ht : P.underlying t = some (.slice e)) (hv : ∀ w, (zeroValue e).run P w = .ok z w) (hz : z.cells.toList = zs) (hpos : 0 < zs.length) (h1 : ∀ u ∈ zs, u.oneCell' = true) (b o c : Nat)
    (hc : ∀ j, j < zs.length → (w.cell? ⟨b, o + j, none⟩).isSome = true) (hf : ∀ j, j < zs.length → w.frozen? ⟨b, o + j, none⟩ = false) :
    (Builtin.clear_ #[t] ty #[.slice (some ⟨b, o, none⟩) 1 c]).run P w = .ok (.tuple #[]) (w.setCells b o zs) := by
  have hzc : (Builtin.zeroCells z.cells 1).toList = zs := by
    rw [← hz]
    simp only [Builtin.zeroCells, Nat.one_mul]
    apply List.ext_getElem
    · simp
    · intro i h1 h2
      have hlt : i < z.cells.size := by simpa using h2
      simp [Nat.mod_eq_of_lt hlt, hlt]
  have hst := run_storeCells_cells (P := P) b o zs 0 w (by simpa using hc) (by simpa using hf) h1
  simp only [Nat.add_zero] at hst
  simp [Builtin.clear_, run_underlying ht, hv, hzc, hst]
set_option maxHeartbeats 8000000 in
set_option maxRecDepth 100000 in
theorem delete1 (w : World) (lo : Nat) (v : Value) (fs : List Fl) (i : Nat) (f : Fl) (h : OwnF w lo v fs) (hone : ∀ f ∈ fs, f.u.oneCell' = true) (hi : fs[i]? = some f) :
    Calls Try.prog 16 #[v, .int .i64 (i : Int), .int .i64 ((i : Int) + 1)] w fun e w' => ∃ v', e = .returned v' ∧ v'.ownBlock = v.ownBlock ∧ OwnF w' lo v' (fs.eraseIdx i) ∧ Chg (fun k => v.ownBlock = some k) w w' := by
  have hlt : i < fs.length := (List.getElem?_eq_some_iff.1 hi).1
  obtain ⟨m, hm⟩ : ∃ m, fs.length = i + 1 + m := ⟨fs.length - (i + 1), by omega⟩
  have hlen := h.1
  rcases h.2 with ⟨_, h0⟩ | ⟨g, c, cur, rfl, hb, hg, h1, h2, h3, h4⟩
  · omega
  obtain ⟨ti, hti, hz0, hz1, hz2⟩ := info_parts flInfo
  have hblk : Blk w g 52 cur.toList.toArray := by unfold Blk; rw [Array.toArray_toList]; exact hg
  obtain ⟨n, hn⟩ : ∃ n, fs.length = n := ⟨_, rfl⟩
  have hc9 : c ≤ 9223372036854775807 := h2
  rw [hn] at hm h1 h4 hlt ⊢
  have hdl : (cells (fs.drop (i + 1))).length = m * 3 := by rw [cells_len, List.length_drop]; omega
  -- what the reslicings give
  have s3 := run_slice_three (P := Try.prog) Try.underlying47 hti (some ⟨g, 0, none⟩) n c i (i + 1) n (by omega) (by omega) (by omega)
  have s1 := run_slice_to (P := Try.prog) Try.underlying47 hti (some ⟨g, 0, none⟩) n c i (by omega)
  have s2 := run_slice_from (P := Try.prog) Try.underlying47 hti (some ⟨g, 0, none⟩) n c (i + 1) (by omega)
  have s4 := run_slice_mid (P := Try.prog) Try.underlying47 hti (some ⟨g, 0, none⟩) (i + m) c (i + m) n (by omega) (by omega)
  rw [hz1] at s3 s2 s4
  rw [Int.natCast_add, Int.natCast_one] at s3 s2
  rw [if_neg (by omega), Option.map_some, add_plain, Nat.zero_add, show n - (i + m) = 1 by omega] at s4
  rw [show n - (i + 1) = m by omega] at s2
  obtain ⟨X, hX⟩ : ∃ X, (Value.slice (if n = i then some ⟨g, 0, none⟩ else (some (⟨g, 0, none⟩ : Addr)).map (·.add (i * 3))) (i + 1 - i) (n - i)) = X := ⟨_, rfl⟩
  simp only [hX] at s3
  obtain ⟨ad, hA, hsrc⟩ : ∃ ad : Addr, (if c = i + 1 then (some (⟨g, 0, none⟩ : Addr)) else (some (⟨g, 0, none⟩ : Addr)).map (·.add ((i + 1) * 3))) = some ad ∧ ∀ j u, (cells (fs.drop (i + 1)))[j]? = some u → w.drew.cell? (ad.add j) = some u := by
    by_cases hce : c = i + 1
    · refine ⟨⟨g, 0, none⟩, by rw [if_pos hce], fun j u hu => ?_⟩
      have := (List.getElem?_eq_some_iff.1 hu).1
      rw [hdl] at this
      omega
    · refine ⟨⟨g, (i + 1) * 3, none⟩, by rw [if_neg hce, Option.map_some, add_plain, Nat.zero_add], fun j u hu => ?_⟩
      have hj := (List.getElem?_eq_some_iff.1 hu).1
      rw [hdl] at hj
      rw [← cells_drop, List.getElem?_drop] at hu
      rw [add_plain]
      exact (World.ownsRow.cellAt h ((i + 1) * 3 + j) (by omega)).trans hu
  simp only [hA] at s2
  have t1 : (cells (fs.drop (i + 1))).length = m * 3 := hdl
  have t2 : ∀ u ∈ cells (fs.drop (i + 1)), u.oneCell' = true := fun u hu => by
    obtain ⟨q, hq, hu⟩ := List.mem_flatMap.1 hu
    have := hone q (List.mem_of_mem_drop hq)
    simp only [flC, List.mem_cons, List.not_mem_nil, or_false] at hu
    rcases hu with h | h | h
    · rw [h]; rfl
    · rw [h]; exact this
    · rw [h]; rfl
  obtain ⟨news, hnews⟩ : ∃ news, cells (fs.drop (i + 1)) = news := ⟨_, rfl⟩
  rw [hnews] at hsrc t1 t2
  have hcs : cur.toList.length = c * 3 := by rw [Array.length_toList]; exact h3
  have hb1 := Blk.setCells news (0 + i * 3) w.drew cur.toList hblk.drew (by rw [t1, hcs]; omega)
  have t3 : ∀ j, j < news.length → (w.drew.cell? ⟨g, 0 + i * 3 + j, none⟩).isSome = true ∧ w.drew.frozen? ⟨g, 0 + i * 3 + j, none⟩ = false := fun j hj => by
    rw [t1] at hj
    refine ⟨?_, hblk.frozen _⟩
    have := hblk.cell (0 + i * 3 + j)
    show (w.cell? _).isSome = true
    rw [this, List.getElem?_toArray, List.getElem?_eq_getElem (by omega)]
    rfl
  obtain ⟨zs, hzs⟩ : ∃ zs, ([.int .i64 0, .slice none 0 0, .bool false] : List Value) = zs := ⟨_, rfl⟩
  have hzl : zs.length = 3 := by rw [← hzs]; rfl
  obtain ⟨cur1, hcur1⟩ : ∃ cur1, cur.toList.take (0 + i * 3) ++ news ++ cur.toList.drop (0 + i * 3 + news.length) = cur1 := ⟨_, rfl⟩
  have hl1 : cur1.length = c * 3 := by rw [← hcur1, List.length_append, List.length_append, List.length_take, List.length_drop, hcs, t1]; omega
  rw [hcur1] at hb1
  have hb2 := Blk.setCells zs ((i + m) * 3) _ cur1 hb1 (by rw [hzl, hl1]; omega)
  have hcl : ∀ ty, (Builtin.clear_ #[47] ty #[.slice (some ⟨g, (i + m) * 3, none⟩) 1 (c - (i + m))]).run Try.prog (w.drew.setCells g (0 + i * 3) news) = .ok (.tuple #[]) ((w.drew.setCells g (0 + i * 3) news).setCells g ((i + m) * 3) zs) := fun ty =>
    run_clear_one _ _ 52 ty (.agg #[.int .i64 0, .slice none 0 0, .bool false]) zs Try.underlying47 (fun W => by kernel_rfl) (by rw [← hzs]; rfl) (by omega) (fun u hu => by rw [← hzs] at hu; simp at hu; rcases hu with h | h | h <;> rw [h] <;> rfl) g _ _ (fun j hj => by
      rw [hb1.cell, List.getElem?_toArray, List.getElem?_eq_getElem (by omega)]; rfl) (fun j _ => hb1.frozen _)
  have hfin : OwnF ((w.drew.setCells g (0 + i * 3) news).setCells g ((i + m) * 3) zs) lo (.slice (some ⟨g, 0, none⟩) (i + m) c) (fs.eraseIdx i) := by
    have hel : (fs.eraseIdx i).length = i + m := by rw [List.length_eraseIdx_of_lt (by omega)]; omega
    unfold OwnF
    rw [hel]
    refine ⟨by rw [cells_len, hel], .inr ⟨g, c, _, rfl, hb, hb2, by omega, h2, ?_, ?_⟩⟩
    · rw [List.size_toArray, List.length_append, List.length_append, List.length_take, List.length_drop, hzl, hl1]; omega
    · rw [List.take_append_of_le_length (by rw [List.length_append, List.length_take, hl1]; omega), List.take_append_of_le_length (by rw [List.length_take, hl1]; omega), List.take_take, Nat.min_self, ← hcur1,
        List.take_append_of_le_length (by rw [List.length_append, List.length_take, hcs, t1]; omega), List.take_of_length_le (by rw [List.length_append, List.length_take, hcs, t1]; omega), Nat.zero_add, ← hnews, List.eraseIdx_eq_take_drop_succ, cells_append, ← cells_take, ← h4, List.take_take, Nat.min_eq_left (by omega)]
  have hchg : Chg (fun k => (Value.slice (some ⟨g, 0, none⟩) n c).ownBlock = some k) w ((w.drew.setCells g (0 + i * 3) news).setCells g ((i + m) * 3) zs) :=
    Chg.setCells _ _ _ (Chg.setCells _ _ _ (Chg.refl _ w).drew (fun _ => rfl)) (fun _ => rfl)
  have HF := Lib.hid (And.intro hfin hchg)
  have T1 := Lib.hid t1
  have T2 := Lib.hid t2
  have T3 := Lib.hid t3
  have HS := Lib.hid hsrc
  have HI := Lib.hid (And.intro hti hz1)
  have mixed : Try.prog.follows .mixedOrders = true := by kernel_rfl
  have hne : ((i : Int) == (i : Int) + 1) = false := by simp; omega
  have hil : (i : Int) + 1 ≤ n := by omega
  clear h h4 hg hblk hfin hchg hb1 hb2 t1 t2 t3 hsrc hdl hnews hcs hzs hzl hcur1 hl1 hX hA hz0 hz1 hz2 hti hi hn hlen h3
  obtain ⟨W1, hW1⟩ : ∃ W1, w.drew.setCells g (0 + i * 3) news = W1 := ⟨_, rfl⟩
  rw [hW1] at HF
  simp only [hW1] at hcl
  obtain ⟨k, hk⟩ : ∃ k, i + m = k := ⟨_, rfl⟩
  have hic : i ≤ c := by omega
  have hkn : k ≤ n := by omega
  have hicm : i + m ≤ c := by omega
  rw [hk] at HF
  simp only [hk] at hcl s4
  have HW := Lib.hid (And.intro hW1 hk)
  have HC := Lib.hid hicm
  clear hW1 hk hm hicm
  go_enter Try.func16, Try.ntmps16
  go_wp2_with fail
  go_region_law_o (refine step_append_room rfl (.tmp 22) (.tmp 25) 47 rfl 52 ti 3 Try.underlying47 HI.out.1 HI.out.2 g 0 i c (by simp [Act.eval, Act.put]) ad m (c - (i + 1)) news (by simp [Act.eval, Act.put]) T1.out HS.out T2.out HC.out T3.out ?_; rw [HW.out.1, HW.out.2])
  all_goals
    go_wp2
    go_ret
    exact ⟨_, rfl, rfl, HF.out⟩
end Net
end Go.Proofs.Ytbagiehocgaoiaa

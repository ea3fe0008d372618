/-
  bytes.Clone, and rows of the call's own over changes elsewhere (no condition beyond the sizes).
-/
import Derived.Test.YtkmkpdmjdfbpjaaGreatDoorJ8
import Derived.Test.YtkmkpdmjdfbpjaaGreatDoorRows
import Derived.Outline
/- Messages' laws: a message as an argument, opened (no condition beyond the sizes). -/
namespace Go.Proofs.YtkmkpdmjdfbpjaaGreatDoor
set_option linter.unusedSimpArgs false
set_option linter.unusedVariables false
open Go.ChangeShapes Go.WideShapes Go.RowKit Go.Deep
namespace Msg
open Num Evt Vec
theorem weights_all {H : Type} {P : Program} {e : TypeId} : ∀ {l : List (DataW H)} {d : DataW H}, d ∈ l → ∀ y ∈ d.weights P e, y ∈ DataW.weightsAll P e l
  | x :: l, d, h, y, hy => by
    simp only [DataW.weightsAll, List.mem_append]
    rcases List.mem_cons.1 h with rfl | h
    · exact .inl hy
    · exact .inr (weights_all h y hy)
section
variable {H : Type} {enc : TypeId × Value → H} {w : World} {base : Nat} {held : Bool}
set_option maxRecDepth 100000 in
/-- an argument []api.Event -/
theorem open_evs {v : Value} {fuel : Nat} {x : DataW H × List MemPlace} (hf : DataW.trod enc Tryz.prog w base (fun _ => true) held fuel 24 [v] = some x) (hw : ∀ y ∈ x.1.weights Tryz.prog 24, y ≤ 140737488351232) :
    ∃ es : List Ev, RowE w (fun b => b < w.heap.size) v es ∧ es.length ≤ 140737488351232 ∧ (∀ e ∈ es, Came e) := by
  rcases open_slice Tryz.underlying24 hf with ⟨h, _⟩ | ⟨a, len, cap, m, n, D, Pl, h, _, hl, hm, hmm, hdd, hx⟩
  · have hv' : v = .slice none 0 0 := by simpa using h
    exact ⟨[], by rw [hv']; exact RowE.nil _ _, by simp, fun e he => by cases he⟩
  · have hv' : v = .slice (some a) len cap := by simpa using h
    have hmc : m = cap := by simpa using hmm
    have hd' : x.1 = .slice ((List.range len).map D) ((List.range (m - len)).map fun j => D (len + j)) := congrArg Prod.fst hdd
    have hcap : len ≤ 140737488351232 := by
      have := hw (cap * Tryz.prog.bytesOf 48) (by
        rw [hd']
        simp only [DataW.weights, Tryz.underlying24]
        refine List.mem_cons.2 (.inl ?_)
        simp only [List.length_map, List.length_range]
        rw [show len + (m - len) = cap by omega])
      rw [show Tryz.prog.bytesOf 48 = 256 by kernel_rfl] at this
      omega
    have hone : ∀ i, i < len → ∃ e : Ev, Came e ∧ a.block < w.heap.size ∧ ∀ j u, e.cs[j]? = some u → w.cell? (a.add (i * 27 + j)) = some u := fun i hi => by
      obtain ⟨cs', hc, ht⟩ := hx i (by omega)
      rw [show Tryz.prog.cellsOf 48 = 27 by kernel_rfl] at hc
      obtain ⟨_, hcl, hat⟩ := World.cells?_some hc
      obtain ⟨e, rfl, hself⟩ := open_cells27 ht fun y hy => hw y (by
        rw [hd']
        simp only [DataW.weights, Tryz.underlying24]
        refine List.mem_cons_of_mem _ (List.mem_append_left _ (weights_all (List.mem_map.2 ⟨i, List.mem_range.2 hi, rfl⟩) y hy)))
      have hcell : ∀ j u, e.cs[j]? = some u → w.cell? (a.add (i * 27 + j)) = some u := fun j u hu => by
        have hj : j < 27 := by
          have := (List.getElem?_eq_some_iff.1 hu).1
          rwa [e.cs_len] at this
        rw [← Go.Deep.add_add, hat j hj]
        exact hu
      refine ⟨e, hself, ?_, hcell⟩
      have := block_lt_of_cell (hcell 0 _ rfl)
      rwa [block_of_add] at this
    obtain ⟨f, hf'⟩ := Deep.choose_lt hone
    have hlen : ((List.range len).map f).length = len := by simp
    refine ⟨(List.range len).map f, ⟨some a, cap, by rw [hv', hlen], ⟨rowE_length _, fun hn => ⟨a, rfl, (hf' 0 (by rw [hlen] at hn; exact hn)).2.1, fun j u hu => ?_⟩⟩⟩, by rw [hlen]; exact hcap, fun e he => ?_⟩
    · have hj : j < len * 27 := by
        have := (List.getElem?_eq_some_iff.1 hu).1
        rwa [rowE_length, hlen] at this
      have hi : j / 27 < len := by omega
      have hdm : j / 27 * 27 + j % 27 = j := by omega
      have hg := rowE_get (l := (List.range len).map f) (i := j / 27) (j := j % 27) (e := f (j / 27)) (by simp [hi]) (by omega)
      rw [hdm] at hg
      have := (hf' _ hi).2.2 (j % 27) u (by rw [← hg]; exact hu)
      rwa [hdm] at this
    · obtain ⟨i, hi, rfl⟩ := List.mem_map.1 he
      exact (hf' i (List.mem_range.1 hi)).1
set_option maxHeartbeats 4000000 in
set_option maxRecDepth 100000 in
theorem open_cells20 {cs : List Value} {fuel : Nat} {x : DataW H × List MemPlace} (h : DataW.trod enc Tryz.prog w base (fun _ => true) held fuel 26 cs = some x) (hw : ∀ y ∈ x.1.weights Tryz.prog 26, y ≤ 140737488351232) :
    ∃ (m : Ms) (u : Value), cs = m.cs u ∧ RowE w (fun b => b < w.heap.size) u m.es ∧ m.es.length ≤ 140737488351232 ∧ (∀ e ∈ m.es, Came e) := by
  obtain ⟨xs, m, _, rfl, hl, hxl, hf⟩ := DataW.trod_struct Tryz.underlying26 h
  have hlen : cs.length = 20 := by rw [hl]; kernel_rfl
  have hxl5 : xs.length = 5 := hxl
  have k1 : Tryz.prog.cellsOf 3 = 1 := by kernel_rfl
  have k4 : Tryz.prog.cellsOf 23 = 16 := by kernel_rfl
  have k5 : Tryz.prog.cellsOf 24 = 1 := by kernel_rfl
  have e0 : DataW.trod enc Tryz.prog w base (fun _ => true) held m 3 ((cs.drop 0).take (Tryz.prog.cellsOf 3)) = xs[0]? := hf 0 _ rfl
  have e1 : DataW.trod enc Tryz.prog w base (fun _ => true) held m 3 ((cs.drop 1).take (Tryz.prog.cellsOf 3)) = xs[1]? := hf 1 _ rfl
  have e2 : DataW.trod enc Tryz.prog w base (fun _ => true) held m 3 ((cs.drop 2).take (Tryz.prog.cellsOf 3)) = xs[2]? := hf 2 _ rfl
  have e3 : DataW.trod enc Tryz.prog w base (fun _ => true) held m 23 ((cs.drop 3).take (Tryz.prog.cellsOf 23)) = xs[3]? := hf 3 _ rfl
  have e4 : DataW.trod enc Tryz.prog w base (fun _ => true) held m 24 ((cs.drop 19).take (Tryz.prog.cellsOf 24)) = xs[4]? := hf 4 _ rfl
  rw [k1] at e0 e1 e2
  rw [k4] at e3
  rw [k5] at e4
  match xs, hxl5, cs, hlen with
  | [x0, x1, x2, x3, x4], _, [c0, c1, c2, c3, c4, c5, c6, c7, c8, c9, c10, c11, c12, c13, c14, c15, c16, c17, c18, c19], _ =>
    obtain ⟨a0, hh0, _⟩ := trod_i (show DataW.trod enc Tryz.prog w base (fun _ => true) held m 3 [c0] = some x0 from e0)
    obtain ⟨a1, hh1, _⟩ := trod_i (show DataW.trod enc Tryz.prog w base (fun _ => true) held m 3 [c1] = some x1 from e1)
    obtain ⟨a2, hh2, _⟩ := trod_i (show DataW.trod enc Tryz.prog w base (fun _ => true) held m 3 [c2] = some x2 from e2)
    obtain ⟨zs, q, _, rfl, _, hzl, hk⟩ := DataW.trod_array Tryz.underlying23 (show DataW.trod enc Tryz.prog w base (fun _ => true) held m 23 [c3, c4, c5, c6, c7, c8, c9, c10, c11, c12, c13, c14, c15, c16, c17, c18] = some x3 from e3)
    rw [k1] at hk
    have r0 := hk 0 (by decide)
    rw [List.getElem?_eq_getElem (by rw [hzl]; decide)] at r0
    obtain ⟨a3, hh3, _⟩ := trod_i (show DataW.trod enc Tryz.prog w base (fun _ => true) held q 3 [c3] = some _ from r0)
    have r1 := hk 1 (by decide)
    rw [List.getElem?_eq_getElem (by rw [hzl]; decide)] at r1
    obtain ⟨a4, hh4, _⟩ := trod_i (show DataW.trod enc Tryz.prog w base (fun _ => true) held q 3 [c4] = some _ from r1)
    have r2 := hk 2 (by decide)
    rw [List.getElem?_eq_getElem (by rw [hzl]; decide)] at r2
    obtain ⟨a5, hh5, _⟩ := trod_i (show DataW.trod enc Tryz.prog w base (fun _ => true) held q 3 [c5] = some _ from r2)
    have r3 := hk 3 (by decide)
    rw [List.getElem?_eq_getElem (by rw [hzl]; decide)] at r3
    obtain ⟨a6, hh6, _⟩ := trod_i (show DataW.trod enc Tryz.prog w base (fun _ => true) held q 3 [c6] = some _ from r3)
    have r4 := hk 4 (by decide)
    rw [List.getElem?_eq_getElem (by rw [hzl]; decide)] at r4
    obtain ⟨a7, hh7, _⟩ := trod_i (show DataW.trod enc Tryz.prog w base (fun _ => true) held q 3 [c7] = some _ from r4)
    have r5 := hk 5 (by decide)
    rw [List.getElem?_eq_getElem (by rw [hzl]; decide)] at r5
    obtain ⟨a8, hh8, _⟩ := trod_i (show DataW.trod enc Tryz.prog w base (fun _ => true) held q 3 [c8] = some _ from r5)
    have r6 := hk 6 (by decide)
    rw [List.getElem?_eq_getElem (by rw [hzl]; decide)] at r6
    obtain ⟨a9, hh9, _⟩ := trod_i (show DataW.trod enc Tryz.prog w base (fun _ => true) held q 3 [c9] = some _ from r6)
    have r7 := hk 7 (by decide)
    rw [List.getElem?_eq_getElem (by rw [hzl]; decide)] at r7
    obtain ⟨a10, hh10, _⟩ := trod_i (show DataW.trod enc Tryz.prog w base (fun _ => true) held q 3 [c10] = some _ from r7)
    have r8 := hk 8 (by decide)
    rw [List.getElem?_eq_getElem (by rw [hzl]; decide)] at r8
    obtain ⟨a11, hh11, _⟩ := trod_i (show DataW.trod enc Tryz.prog w base (fun _ => true) held q 3 [c11] = some _ from r8)
    have r9 := hk 9 (by decide)
    rw [List.getElem?_eq_getElem (by rw [hzl]; decide)] at r9
    obtain ⟨a12, hh12, _⟩ := trod_i (show DataW.trod enc Tryz.prog w base (fun _ => true) held q 3 [c12] = some _ from r9)
    have r10 := hk 10 (by decide)
    rw [List.getElem?_eq_getElem (by rw [hzl]; decide)] at r10
    obtain ⟨a13, hh13, _⟩ := trod_i (show DataW.trod enc Tryz.prog w base (fun _ => true) held q 3 [c13] = some _ from r10)
    have r11 := hk 11 (by decide)
    rw [List.getElem?_eq_getElem (by rw [hzl]; decide)] at r11
    obtain ⟨a14, hh14, _⟩ := trod_i (show DataW.trod enc Tryz.prog w base (fun _ => true) held q 3 [c14] = some _ from r11)
    have r12 := hk 12 (by decide)
    rw [List.getElem?_eq_getElem (by rw [hzl]; decide)] at r12
    obtain ⟨a15, hh15, _⟩ := trod_i (show DataW.trod enc Tryz.prog w base (fun _ => true) held q 3 [c15] = some _ from r12)
    have r13 := hk 13 (by decide)
    rw [List.getElem?_eq_getElem (by rw [hzl]; decide)] at r13
    obtain ⟨a16, hh16, _⟩ := trod_i (show DataW.trod enc Tryz.prog w base (fun _ => true) held q 3 [c16] = some _ from r13)
    have r14 := hk 14 (by decide)
    rw [List.getElem?_eq_getElem (by rw [hzl]; decide)] at r14
    obtain ⟨a17, hh17, _⟩ := trod_i (show DataW.trod enc Tryz.prog w base (fun _ => true) held q 3 [c17] = some _ from r14)
    have r15 := hk 15 (by decide)
    rw [List.getElem?_eq_getElem (by rw [hzl]; decide)] at r15
    obtain ⟨a18, hh18, _⟩ := trod_i (show DataW.trod enc Tryz.prog w base (fun _ => true) held q 3 [c18] = some _ from r15)
    obtain ⟨es, h1, h2, h3⟩ := open_evs (show DataW.trod enc Tryz.prog w base (fun _ => true) held m 24 [c19] = some x4 from e4) fun y hy => hw y (by
      simp only [DataW.weights, Tryz.underlying26, List.map_cons, List.map_nil, DataW.weightsEach, List.mem_append]
      exact .inr (.inr (.inr (.inr (.inl hy)))))
    subst hh0 hh1 hh2 hh3 hh4 hh5 hh6 hh7 hh8 hh9 hh10 hh11 hh12 hh13 hh14 hh15 hh16 hh17 hh18
    exact ⟨⟨fun i => match i with | 0 => a0 | 1 => a1 | 2 => a2 | 3 => a3 | 4 => a4 | 5 => a5 | 6 => a6 | 7 => a7 | 8 => a8 | 9 => a9 | 10 => a10 | 11 => a11 | 12 => a12 | 13 => a13 | 14 => a14 | 15 => a15 | 16 => a16 | 17 => a17 | 18 => a18 | _ => 0, es⟩, c19, rfl, h1, h2, h3⟩
set_option maxRecDepth 100000 in
/-- an argument api.Message -/
theorem open_ms {w0 : World} {r : Reach} {b0 : Nat} {v : Value} {d : DataW H} {ps : List MemPlace} (hval : Value.okWide Tryz.prog w0 r b0 26 v) (hw : ∀ x ∈ d.weights Tryz.prog 26, x ≤ reachBytes) (hd : DataW.Trod enc Tryz.prog w base (fun _ => true) held 26 v d ps) :
    ∃ (m : Ms) (u : Value), v = m.val u ∧ RowE w (fun b => b < w.heap.size) u m.es ∧ m.es.length ≤ 140737488351232 ∧ (∀ e ∈ m.es, Came e) := by
  obtain ⟨cs, rfl⟩ := Evt.okWide_struct Tryz.underlying26 hval
  obtain ⟨fuel, hf⟩ := hd
  have hcs : (Value.agg cs).cells.toList = cs.toList := rfl
  rw [hcs] at hf
  obtain ⟨m, u, he, hc⟩ := open_cells20 hf hw
  refine ⟨m, u, ?_, hc⟩
  unfold Ms.val
  rw [← he]
end
end Msg
end Go.Proofs.YtkmkpdmjdfbpjaaGreatDoor

/- message.Right: which messages may be (no condition beyond the sizes, and that MaxLen holds a number). -/
namespace Go.Proofs.YtkmkpdmjdfbpjaaGreatDoor
set_option linter.unusedSimpArgs false
set_option linter.unusedVariables false
open Go.ChangeShapes Go.WideShapes Go.RowKit Go.Deep
namespace Msg
open Val (JoinC)
open Num Evt Vec
attribute [local go_sem ↓] loadRow0 storeRow0
attribute [local go_sem ↓] Evt.loadDot Evt.loadVec Evt.loadRow0 Evt.storeRow0 Evt.loadOnly0 Evt.loadOnly1 Evt.loadOnly2
set_option maxHeartbeats 8000000 in
set_option maxRecDepth 20000 in
theorem right_ (hJ : JoinC) (w : World) (F : Nat → Prop) (m : Ms) (v : Value) (hv : RowE w F v m.es) (hs : ∀ e ∈ m.es, Fit e) (hm : Val.MaxAt w) (hl : m.es.length ≤ 1000000) :
    Calls Tryz.prog 11 #[m.val v] w fun x w' => x = .returned (.int .i64 (if rightM m = true then 0 else 1)) ∧ New w w' := by
  have n1 := (Chg.refl (fun _ => False) w).alloc (.cells (m.cs v).toArray 26)
  have B1 := Blk.new w 26 (m.cs v).toArray
  have N1 := Lib.hid n1
  have g1 := B1.lt
  have f1 := fun x : ChgW (fun _ => False) (w.alloc (.cells (m.cs v).toArray 26)) => (blk_ms (B1.chg x.chg id)).1
  have f2 := fun x : ChgW (fun _ => False) (w.alloc (.cells (m.cs v).toArray 26)) => (blk_ms (B1.chg x.chg id)).2.1
  have f3 := fun x : ChgW (fun _ => False) (w.alloc (.cells (m.cs v).toArray 26)) => (blk_ms (B1.chg x.chg id)).2.2.1
  have f4 := fun x : ChgW (fun _ => False) (w.alloc (.cells (m.cs v).toArray 26)) => (blk_ms (B1.chg x.chg id)).2.2.2.2.2
  have HT := Lib.hid (fun W (hW : New w W) (hB : Blk W w.heap.size 26 (m.cs v).toArray) => contains_ W F v m.es (hv.new hW) (.pointer (some ⟨w.heap.size, 0, none⟩)) (oddB m) (fun e he W' hW' => odd_ hJ W' w.heap.size m v (hB.chg hW' id) e (hs e he) (hm.new (hW.trans hW' fun _ _ => id))) hl)
  have HB := Lib.hid B1
  have CE := fun W => ends_ W m v
  have CV : ∀ W, Calls Tryz.prog 23 #[m.knownV] W fun x w' => x = .returned (.bool (rightF (known m))) ∧ New W w' := fun W => Vec.right_ W (known m) rfl
  have CM : ∀ W, Calls Tryz.prog 24 #[.int .i64 (m.n 0)] W fun x w' => x = .returned (.int .i64 (mostB (m.n 0))) ∧ New W w' := fun W => (most_ W (m.n 0)).mono fun x w' h => ⟨h.1, by rw [h.2]; exact Chg.refl _ _⟩
  obtain ⟨a, ha⟩ : ∃ a, endsB (m.n 1) (m.n 2) = a := ⟨_, rfl⟩
  obtain ⟨b, hb⟩ : ∃ b, rightF (known m) = b := ⟨_, rfl⟩
  obtain ⟨k, hk⟩ : ∃ k, mostB (m.n 0) = k := ⟨_, rfl⟩
  obtain ⟨d, hd⟩ : ∃ d, m.es.any (oddB m) = d := ⟨_, rfl⟩
  obtain ⟨n, hn⟩ : ∃ n, m.es.length = n := ⟨_, rfl⟩
  have HR := Lib.hid (show rightM m = (a && b && decide ((n : Int) ≤ k) && !d) by unfold rightM; rw [ha, hb, hk, hd, hn])
  rw [HR.out]
  simp only [ha] at CE
  simp only [hb] at CV
  simp only [hk] at CM
  rw [hd] at HT
  obtain ⟨A, c, hvv, _⟩ := hv
  rw [hn] at hvv
  subst hvv
  have CE := Lib.hid CE
  have CV := Lib.hid CV
  have CM := Lib.hid CM
  obtain ⟨q, hq⟩ : ∃ q : Int, (if (a && b && decide ((n : Int) ≤ k) && !d) = true then 0 else 1) = q := ⟨_, rfl⟩
  rw [hq]
  have HQ := Lib.hid hq
  clear n1 B1 hs hm hl ha hb hk hd hn hq HR
  cases a
  · go_enter Tryz.func11, Tryz.ntmps11
    go_wp2_with fail
    refine wp_region_chg (fun _ => False) (by kernel_rfl) (by kernel_rfl) ?_
    repeat (go_big_quiet_step (first | (go_at_call 22; with_reducible exact calls_new (CE.out _)) | (go_at_call 23; with_reducible exact calls_new (CV.out _)) | (go_at_call 24; with_reducible exact calls_new (CM.out _))))
    refine wpQuiet_nil ?_
    rintro ⟨wq, hq⟩
    simp only []
    go_wp2_with fail
    go_ret
    exact ⟨by rw [← HQ.out] <;> simp, N1.out.trans hq fun _ _ => id⟩
  cases b
  · go_enter Tryz.func11, Tryz.ntmps11
    go_wp2_with fail
    refine wp_region_chg (fun _ => False) (by kernel_rfl) (by kernel_rfl) ?_
    repeat (go_big_quiet_step (first | (go_at_call 22; with_reducible exact calls_new (CE.out _)) | (go_at_call 23; with_reducible exact calls_new (CV.out _)) | (go_at_call 24; with_reducible exact calls_new (CM.out _))))
    refine wpQuiet_nil ?_
    rintro ⟨wq, hq⟩
    simp only []
    go_wp2_with fail
    go_ret
    exact ⟨by rw [← HQ.out] <;> simp, N1.out.trans hq fun _ _ => id⟩
  by_cases hkn : (n : Int) ≤ k
  · have hkn' : ¬ (k < (n : Int)) := by omega
    go_enter Tryz.func11, Tryz.ntmps11
    go_wp2_with fail
    refine wp_region_chg (fun _ => False) (by kernel_rfl) (by kernel_rfl) ?_
    repeat (go_big_quiet_step (first | (go_at_call 22; with_reducible exact calls_new (CE.out _)) | (go_at_call 23; with_reducible exact calls_new (CV.out _)) | (go_at_call 24; with_reducible exact calls_new (CM.out _))))
    refine wpQuiet_nil ?_
    rintro ⟨wq, hq⟩
    simp only []
    have N2 := Lib.hid (N1.out.trans hq fun _ _ => id)
    have l4 := (blk_ms (HB.out.chg hq id)).2.2.2.2.2
    have CT := Lib.hid (HT.out wq N2.out (HB.out.chg hq id))
    cases d
    · go_wp2_with fail
      with_reducible refine CT.out.mono ?_
      rintro x w3 ⟨rfl, n3⟩
      go_wp2_with fail
      go_ret
      exact ⟨by rw [← HQ.out] <;> simp [hkn], N2.out.trans n3 fun _ _ => id⟩
    · go_wp2_with fail
      with_reducible refine CT.out.mono ?_
      rintro x w3 ⟨rfl, n3⟩
      go_wp2_with fail
      go_ret
      exact ⟨by rw [← HQ.out] <;> simp [hkn], N2.out.trans n3 fun _ _ => id⟩
  · have hkn' : k < (n : Int) := by omega
    go_enter Tryz.func11, Tryz.ntmps11
    go_wp2_with fail
    refine wp_region_chg (fun _ => False) (by kernel_rfl) (by kernel_rfl) ?_
    repeat (go_big_quiet_step (first | (go_at_call 22; with_reducible exact calls_new (CE.out _)) | (go_at_call 23; with_reducible exact calls_new (CV.out _)) | (go_at_call 24; with_reducible exact calls_new (CM.out _))))
    refine wpQuiet_nil ?_
    rintro ⟨wq, hq⟩
    simp only []
    go_wp2_with fail
    go_ret
    exact ⟨by rw [← HQ.out] <;> simp <;> intros <;> omega, N1.out.trans hq fun _ _ => id⟩
end Msg
end Go.Proofs.YtkmkpdmjdfbpjaaGreatDoor

/- The sum of bytes as plain numbers: one step of a bit, the table, the register after bytes; the table's way is the bit by bit way (no condition beyond the numbers' sizes). -/
namespace Go.Proofs.YtkmkpdmjdfbpjaaGreatDoor
namespace Crc

/-- one bit's step -/
def stp (r : Nat) : Nat := (r / 2) ^^^ (if r % 2 = 1 then 3988292384 else 0)
def stpN : Nat → Nat → Nat
  | 0, r => r
  | n + 1, r => stp (stpN n r)
/-- the table's entry -/
def tbl (j : Nat) : Nat := stpN 8 j
/-- a byte's step, by the table -/
def upd (r : Nat) (c : UInt8) : Nat := (r / 256) ^^^ tbl ((r % 256) ^^^ c.toNat)
def updL (r : Nat) (l : List UInt8) : Nat := l.foldl upd r
/-- the sum of bytes -/
def sum (l : List UInt8) : Nat := 4294967295 - updL 4294967295 l

theorem stp_lt {r : Nat} (h : r < 4294967296) : stp r < 4294967296 := by
  unfold stp
  refine Nat.xor_lt_two_pow (n := 32) (by omega) ?_
  split <;> omega
theorem stpN_lt (n : Nat) {r : Nat} (h : r < 4294967296) : stpN n r < 4294967296 := by
  induction n with
  | zero => exact h
  | succ n ih => exact stp_lt ih
theorem stpN_succ' (n r : Nat) : stpN (n + 1) r = stpN n (stp r) := by
  induction n with
  | zero => rfl
  | succ n ih =>
    show stp (stpN (n + 1) r) = stp (stpN n (stp r))
    rw [ih]
theorem stpN_add (a b r : Nat) : stpN (a + b) r = stpN a (stpN b r) := by
  induction a with
  | zero => rw [Nat.zero_add]; rfl
  | succ a ih =>
    rw [show a + 1 + b = (a + b) + 1 by omega]
    show stp _ = stp _
    rw [ih]
theorem tbl_lt {j : Nat} (h : j < 256) : tbl j < 4294967296 := stpN_lt 8 (by omega)
theorem idx_lt (r : Nat) (c : UInt8) : (r % 256) ^^^ c.toNat < 256 := Nat.xor_lt_two_pow (n := 8) (by omega) (UInt8.toNat_lt c)
theorem upd_lt {r : Nat} (c : UInt8) (h : r < 4294967296) : upd r c < 4294967296 :=
  Nat.xor_lt_two_pow (n := 32) (by omega) (tbl_lt (idx_lt r c))
theorem updL_lt {r : Nat} (l : List UInt8) (h : r < 4294967296) : updL r l < 4294967296 := by
  induction l generalizing r with
  | nil => exact h
  | cons c l ih => exact ih (upd_lt c h)
theorem sum_lt (l : List UInt8) : sum l < 4294967296 := by unfold sum; omega
theorem updL_append (r : Nat) (l m : List UInt8) : updL r (l ++ m) = updL (updL r l) m := by simp [updL]
theorem updL_snoc (r : Nat) (l : List UInt8) (c : UInt8) : updL r (l ++ [c]) = upd (updL r l) c := by simp [updL]

/-! ### linear -/
theorem xor_div2 (a b : Nat) : (a ^^^ b) / 2 = (a / 2) ^^^ (b / 2) := Nat.xor_div_two
theorem xor_mod2 (a b : Nat) : (a ^^^ b) % 2 = (a + b) % 2 := by
  have h := Nat.testBit_xor a b 0
  simp only [Nat.testBit_zero] at h
  have ha := Nat.mod_two_eq_zero_or_one a
  have hb := Nat.mod_two_eq_zero_or_one b
  have hc := Nat.mod_two_eq_zero_or_one (a ^^^ b)
  rcases ha with ha | ha <;> rcases hb with hb | hb <;> rcases hc with hc | hc <;> simp [ha, hb, hc] at h <;> omega
theorem stp_xor (a b : Nat) : stp (a ^^^ b) = stp a ^^^ stp b := by
  unfold stp
  rw [xor_div2]
  have h := xor_mod2 a b
  have ha := Nat.mod_two_eq_zero_or_one a
  have hb := Nat.mod_two_eq_zero_or_one b
  have hx : ∀ x y p : Nat, (x ^^^ p) ^^^ (y ^^^ p) = x ^^^ y := by
    intro x y p
    rw [Nat.xor_comm y p, Nat.xor_assoc, ← Nat.xor_assoc p p y, Nat.xor_self, Nat.zero_xor]
  rcases ha with ha | ha <;> rcases hb with hb | hb
  · have : (a ^^^ b) % 2 = 0 := by omega
    simp [ha, hb, this]
  · have : (a ^^^ b) % 2 = 1 := by omega
    simp [ha, hb, this, Nat.xor_assoc]
  · have : (a ^^^ b) % 2 = 1 := by omega
    simp only [ha, hb, this, if_true, if_neg (show ¬ (0 : Nat) = 1 by decide), Nat.xor_zero]
    rw [Nat.xor_assoc, Nat.xor_comm (b / 2), ← Nat.xor_assoc]
  · have : (a ^^^ b) % 2 = 0 := by omega
    simp only [ha, hb, this, if_true, if_neg (show ¬ (0 : Nat) = 1 by decide), Nat.xor_zero]
    exact (hx _ _ _).symm
theorem stpN_xor (n a b : Nat) : stpN n (a ^^^ b) = stpN n a ^^^ stpN n b := by
  induction n with
  | zero => rfl
  | succ n ih => show stp _ = _; rw [ih, stp_xor]; rfl
theorem stp_double (x : Nat) : stp (2 * x) = x := by
  unfold stp
  have : (2 * x) % 2 = 0 := by omega
  rw [if_neg (by omega)]
  simp
theorem stpN_shift (n x : Nat) : stpN n (2 ^ n * x) = x := by
  induction n with
  | zero => simp [stpN]
  | succ n ih =>
    rw [stpN_succ', show 2 ^ (n + 1) * x = 2 * (2 ^ n * x) by rw [Nat.pow_succ, Nat.mul_comm (2 ^ n) 2, Nat.mul_assoc], stp_double, ih]
theorem split256 (r : Nat) : r = (256 * (r / 256)) ^^^ (r % 256) := by
  have h : (256 * (r / 256)) ^^^ (r % 256) = 2 ^ 8 * (r / 2 ^ 8) + r % 2 ^ 8 := by
    rw [Nat.two_pow_add_eq_or_of_lt (Nat.mod_lt _ (by decide))]
    apply Nat.eq_of_testBit_eq
    intro i
    simp only [Nat.testBit_xor, Nat.testBit_or, Nat.testBit_mod_two_pow, show (256 : Nat) = 2 ^ 8 from rfl, Nat.testBit_two_pow_mul]
    by_cases hi : i < 8
    · have : ¬ 8 ≤ i := by omega
      simp [this]
    · simp [hi]
  rw [h]
  exact (Nat.div_add_mod r (2 ^ 8)).symm
/-- bit by bit it is the same -/
theorem upd_bits (r : Nat) (c : UInt8) : upd r c = stpN 8 (r ^^^ c.toNat) := by
  have h := split256 r
  have h2 : r ^^^ c.toNat = (2 ^ 8 * (r / 256)) ^^^ ((r % 256) ^^^ c.toNat) := by
    rw [← Nat.xor_assoc]
    exact congrArg (· ^^^ c.toNat) h
  rw [h2, stpN_xor, stpN_shift]
  rfl

end Crc
end Go.Proofs.YtkmkpdmjdfbpjaaGreatDoor

/- What the program's crc package computes: the table, New, Add, Value, Of and Bytes, each for every input that can be read (Add: bytes that lie in another block than the sum). -/
namespace Go.Proofs.YtkmkpdmjdfbpjaaGreatDoor
open Go.ChangeShapes Go.WideShapes Go.RowKit
namespace Crc

abbrev ptr (b : Nat) : Value := .pointer (some ⟨b, 0, none⟩)
def tabC (k : Nat) : Array Value := ((List.range 256).map fun j => Value.int .u32 (if j < k then ((tbl j : Nat) : Int) else 0)).toArray
theorem zero_tab (w : World) : (zeroValue 119).run Tryz.prog w = .ok (.agg (tabC 0)) w := by kernel_rfl
theorem tabC_get (k j : Nat) (h : j < 256) : (tabC k)[j]? = some (.int .u32 (if j < k then ((tbl j : Nat) : Int) else 0)) := by
  simp [tabC, h]
theorem tabC_size (k : Nat) : (tabC k).size = 256 := by simp [tabC]
theorem tabC_set (k : Nat) (h : k < 256) : (tabC k).setIfInBounds k (.int .u32 ((tbl k : Nat) : Int)) = tabC (k + 1) := by
  apply Array.ext_getElem?
  intro i
  rw [Array.getElem?_setIfInBounds, tabC_size]
  by_cases hi : i < 256
  · by_cases hk : k = i
    · subst hk
      rw [if_pos rfl, if_pos h, tabC_get _ _ hi]
      simp
    · rw [if_neg hk, tabC_get _ _ hi, tabC_get _ _ hi]
      have : i < k ↔ i < k + 1 := by omega
      simp [this]
  · rw [if_neg (by omega), Array.getElem?_eq_none (by rw [tabC_size]; omega), Array.getElem?_eq_none (by rw [tabC_size]; omega)]

theorem step_eq (r : Nat) (h : r < 4294967296) : bits .xor .u32 ((r : Int) / 2) (3988292384 * bits .and .u32 (r : Int) 1 % 4294967296) = ((stp r : Nat) : Int) := by
  have h1 : bits .and .u32 (r : Int) 1 = ((r % 2 : Nat) : Int) := by
    have := u32_and_nat r 1 h (by omega)
    rw [show ((1 : Nat) : Int) = 1 from rfl] at this
    rw [this, Nat.and_one_is_mod]
  rw [h1]
  unfold stp
  have hm := Nat.mod_two_eq_zero_or_one r
  have := u32_xor_nat (r / 2) (if r % 2 = 1 then 3988292384 else 0) (by omega) (by split <;> omega)
  rw [← this]
  congr 1
  rcases hm with hm | hm <;> simp [hm]

set_option maxHeartbeats 800000 in
set_option maxRecDepth 100000 in
theorem made (w : World) : Calls Tryz.prog 75 #[] w fun e w' => e = .returned (ptr w.heap.size) ∧ w.alloc (.cells (tabC 256) 119) = w' := by
  have hz := zero_tab
  go_enter Tryz.func75, Tryz.ntmps75
  go_wp2
  go_loopw [7] (fun i wr => ∃ k : Nat, k ≤ 256 ∧ i = .int .i64 k ∧ wr = w.alloc (.cells (tabC k) 119)) (fun i _ => 256 - (intOf i).toNat)
  case atStart => exact ⟨0, by omega, rfl, rfl⟩
  case round =>
    clear hz
    obtain ⟨k, hk, rfl, rfl⟩ := hrel
    by_cases hlt : k < 256
    · go_wp2
      go_loop [3, 12] (fun r i => ∃ j : Nat, j ≤ 8 ∧ i = .int .i64 j ∧ r = .int .u32 ((stpN j k : Nat) : Int)) (fun _ i => 8 - (intOf i).toNat)
      case atStart => exact ⟨0, by omega, rfl, rfl⟩
      case round =>
        obtain ⟨j, hj, rfl, rfl⟩ := hrel
        have hb := stpN_lt j (show k < 4294967296 by omega)
        have HS : Hid (bits .xor .u32 (((stpN j k : Nat) : Int) / 2) (3988292384 * bits .and .u32 ((stpN j k : Nat) : Int) 1 % 4294967296) = ((stpN (j + 1) k : Nat) : Int)) := step_eq _ hb
        by_cases hlj : j < 8
        · go_wp2
          go_round
          case rel => exact ⟨j + 1, by omega, by go_num, by rw [HS.out]⟩
          case measure => simp [intOf]; omega
        · obtain rfl : j = 8 := by omega
          have hg := tabC_get k k hlt
          go_wp2
          go_roundw
          case rel => exact ⟨k + 1, by omega, by go_num, by rw [← tabC_set k hlt]; rfl⟩
          case measure => simp [intOf]; omega
    · obtain rfl : k = 256 := by omega
      go_wp2
      go_ret
      exact ⟨rfl, rfl⟩

/-- a sum at block s whose register is r -/
def SumAt (w : World) (s : Nat) (r : Nat) : Prop := ∃ t, Blk w s 109 #[.int .u32 (r : Int), ptr t] ∧ Blk w t 119 (tabC 256)
theorem SumAt.lt {w : World} {s r : Nat} (h : SumAt w s r) : s < w.heap.size := by
  obtain ⟨t, h1, _⟩ := h
  exact h1.lt
theorem SumAt.chg {w w' : World} {s r : Nat} {S : Nat → Prop} (h : SumAt w s r) (hc : Chg S w w') (hs : ¬ S s) (ht : ∀ t cs, Blk w t 119 cs → ¬ S t) : SumAt w' s r := by
  obtain ⟨t, h1, h2⟩ := h
  exact ⟨t, h1.chg hc hs, h2.chg hc (ht t _ h2)⟩
theorem SumAt.new {w w' : World} {s r : Nat} (h : SumAt w s r) (hc : New w w') : SumAt w' s r := h.chg hc id fun _ _ _ => id
theorem SumAt.other {w w' : World} {s r s' r' : Nat} (h : SumAt w s r) (h' : SumAt w s' r') (hne : s ≠ s') (hc : Upd s' w w') : SumAt w' s r := by
  obtain ⟨t', h1, h2⟩ := h'
  refine h.chg hc hne fun t cs ht => ?_
  rintro rfl
  exact ht.ne_ h1 (by decide) rfl

set_option maxHeartbeats 400000 in
theorem new_ (w : World) : Calls Tryz.prog 62 #[] w fun e w' => ∃ s, e = .returned (ptr s) ∧ w.heap.size ≤ s ∧ SumAt w' s 4294967295 ∧ New w w' := by
  go_enter Tryz.func62, Tryz.ntmps62
  go_wp2_with (go_at_call 75; refine (made _).mono ?_; rintro e w' ⟨rfl, rfl⟩)
  go_ret
  refine ⟨w.heap.size + 1, rfl, by omega, ⟨w.heap.size, ?_, ?_⟩, ((Chg.refl _ _).alloc _).alloc _⟩
  · have := Blk.new (w.alloc (.cells (tabC 256) 119)) 109 #[.int .u32 4294967295, ptr w.heap.size]
    simpa using this
  · exact (Blk.new w 119 (tabC 256)).alloc _

theorem not32 (r : Nat) (h : r < 4294967296) : 4294967295 ^^^ r = 4294967295 - r := by
  apply Nat.eq_of_testBit_eq
  intro i
  rw [show 4294967295 - r = 2 ^ 32 - (r + 1) by omega, Nat.testBit_two_pow_sub_succ h, Nat.testBit_xor, show 4294967295 = 2 ^ 32 - 1 by rfl, Nat.testBit_two_pow_sub_one]
  by_cases hi : i < 32
  · simp [hi]
  · have : r.testBit i = false := Nat.testBit_lt_two_pow (Nat.lt_of_lt_of_le (m := 2 ^ 32) h (Nat.pow_le_pow_right (by omega) (show 32 ≤ i from Nat.le_of_not_lt hi)))
    simp [hi, this]
theorem value_nil (w : World) : Calls Tryz.prog 64 #[.pointer none] w fun e w' => e = .returned (.int .u32 0) ∧ w = w' := by
  go_enter Tryz.func64, Tryz.ntmps64
  go_wp2
  go_ret
  exact ⟨rfl, rfl⟩
theorem value (w : World) (s r : Nat) (h : SumAt w s r) (hr : r < 4294967296) :
    Calls Tryz.prog 64 #[ptr s] w fun e w' => e = .returned (.int .u32 ((4294967295 - r : Nat) : Int)) ∧ w = w' := by
  obtain ⟨t, h1, _⟩ := h
  have c0 := h1.cell 0
  simp only [List.getElem?_toArray, List.getElem?_cons_zero] at c0
  clear h1
  go_enter Tryz.func64, Tryz.ntmps64
  have hx : bits .xor .u32 IntKind.u32.max (r : Int) = ((4294967295 - r : Nat) : Int) := by
    rw [show IntKind.u32.max = ((4294967295 : Nat) : Int) from rfl, u32_xor_nat _ _ (by omega) hr, not32 r hr]
  have HX := Lib.hid hx
  clear hx
  go_wp2
  all_goals first | (exfalso; revert ‹IntKind.u32.signed = true›; decide) | skip
  go_ret
  exact ⟨by simp [HX.out], rfl⟩

theorem add_nil (w : World) (v : Value) : Calls Tryz.prog 63 #[.pointer none, v] w fun e w' => e = .returned (.pointer none) ∧ w = w' := by
  go_enter Tryz.func63, Tryz.ntmps63
  go_wp2
  go_ret
  exact ⟨rfl, rfl⟩

set_option maxHeartbeats 800000 in
set_option maxRecDepth 100000 in
theorem add (w : World) (s r : Nat) (F : Nat → Prop) (A : Option Addr) (n c : Nat) (l : List UInt8) (h : SumAt w s r) (hr : r < 4294967296) (hl : Reads w F 1 A n (u8s l)) (hF : ¬ F s) (hn : n ≤ maxLen) :
    Calls Tryz.prog 63 #[ptr s, .slice A n c] w fun e w' => e = .returned (ptr s) ∧ SumAt w' s (updL r l) ∧ Upd s w w' := by
  unfold maxLen at hn
  have hlen : l.length = n := by have := hl.len; rw [u8s_length] at this; omega
  have HL := Lib.hid hlen
  clear hlen
  go_enter Tryz.func63, Tryz.ntmps63
  go_wp2
  go_loopw [11] (fun i wr => ∃ k : Nat, k ≤ n ∧ i = .int .i64 k ∧ SumAt wr s (updL r (l.take k)) ∧ Upd s w wr) (fun i _ => n - (intOf i).toNat)
  case atStart => exact ⟨0, by omega, rfl, by simpa [updL] using h, Chg.refl _ _⟩
  case round =>
    obtain ⟨k, hk, rfl, hs, hu⟩ := hrel
    by_cases hlt : k < n
    · have hlr := hl.chg' hu (fun b hb e => hF (e ▸ hb)) (by omega)
      obtain ⟨ad, u, rfl, hFa, hu1, hcell⟩ := hlr.at_ hlt
      obtain ⟨t, h1, h2⟩ := hs
      have hk' : k < l.length := by rw [HL.out]; exact hlt
      rw [u8s_get, List.getElem?_eq_getElem hk'] at hu1
      obtain rfl : u = .int .u8 ((l[k].toNat : Nat) : Int) := by simpa using hu1.symm
      have hrb := updL_lt (l.take k) hr
      have hts : l.take (k + 1) = l.take k ++ [l[k]] := by rw [List.take_succ_eq_append_getElem hk']
      have hup : updL r (l.take (k + 1)) = upd (updL r (l.take k)) l[k] := by rw [hts, updL_snoc]
      have HU := Lib.hid hup
      clear hts hup hu1 hlr
      have hcb := UInt8.toNat_lt l[k]
      generalize l[k] = ch at *
      generalize updL r (l.take k) = q at *
      have c0 := h1.cell 0
      have c1 := h1.cell 1
      have f0 := h1.frozen 0
      simp only [List.getElem?_toArray, List.getElem?_cons_zero, List.getElem?_cons_succ] at c0 c1
      have hi := idx_lt q ch
      have hi' : (((q % 256) ^^^ ch.toNat : Nat) : Int) < 256 := by exact_mod_cast hi
      have ct := h2.cell ((q % 256) ^^^ ch.toNat)
      rw [tabC_get _ _ hi, if_pos hi] at ct
      have e1 : bits .xor .u8 (IntKind.u8.wrap ((q : Nat) : Int)) ((ch.toNat : Nat) : Int) = (((q % 256) ^^^ ch.toNat : Nat) : Int) := by
        rw [IntKind.wrap_u8']
        have := u8_xor_nat (q % 256) ch.toNat (by omega) hcb
        rw [← this]; congr 1
      have e2 : bits .xor .u32 (((q : Nat) : Int) / 256) ((tbl ((q % 256) ^^^ ch.toNat) : Nat) : Int) = ((upd q ch : Nat) : Int) := by
        have := u32_xor_nat (q / 256) (tbl ((q % 256) ^^^ ch.toNat)) (by omega) (tbl_lt hi)
        unfold upd
        rw [← this]; congr 1
      have H1 := h1
      have H2 := h2
      go_wp2
      refine wp_region_tail 23 (by kernel_rfl) (by kernel_rfl) ?_
      simp only [List.take_succ_cons, List.take_zero, List.drop_succ_cons, List.drop_zero]
      repeat still_step
      refine wpStill_nil ?_
      go_wp2
      go_roundw
      case rel => exact ⟨k + 1, by omega, by go_num, by rw [HU.out]; exact ⟨t, (H1.set_ 0 _).drew, (H2.far (H2.ne_ H1 (by decide)) _).drew⟩, (hu.setCell (fun _ => rfl) _).drew⟩
      case measure => simp [intOf]; omega
    · obtain rfl : k = n := by omega
      go_wp2
      go_ret
      have : l.take k = l := List.take_of_length_le (by rw [HL.out]; omega)
      rw [this] at hs
      exact ⟨rfl, hs, hu⟩

set_option maxHeartbeats 400000 in
theorem of_ (w : World) (F : Nat → Prop) (A : Option Addr) (n c : Nat) (l : List UInt8) (hl : Reads w F 1 A n (u8s l)) (hF : ∀ b, F b → b < w.heap.size) (hn : n ≤ maxLen) :
    Calls Tryz.prog 41 #[.slice A n c] w fun e w' => e = .returned (.int .u32 ((sum l : Nat) : Int)) ∧ New w w' := by
  go_enter Tryz.func41, Tryz.ntmps41
  go_wp2_with fail
  refine (new_ _).mono ?_
  rintro e w1 ⟨s, rfl, hs, hsum, hn1⟩
  have hr := hl.chg hn1 (fun b hb => ⟨hF b hb, id⟩)
  go_wp2_with fail
  refine (add w1 s 4294967295 F A n c l hsum (by omega) hr (fun h => by have := hF _ h; omega) hn).mono ?_
  rintro e w2 ⟨rfl, hsum2, hn2⟩
  go_wp2_with fail
  refine (value w2 s _ hsum2 (updL_lt l (by omega))).mono ?_
  rintro e w3 ⟨rfl, rfl⟩
  go_wp2
  go_ret
  exact ⟨rfl, hn1.trans hn2 (fun i hi e => by omega)⟩

/-- a sum's bytes -/
def sumBytes (s : Nat) : List UInt8 := [UInt8.ofNat s, UInt8.ofNat (s / 256), UInt8.ofNat (s / 65536), UInt8.ofNat (s / 16777216)]
def bytesC (s k : Nat) : Array Value := ((List.range 4).map fun j => Value.int .u8 (if j < k then ((s / 256 ^ j % 256 : Nat) : Int) else 0)).toArray
theorem bytesC_get (s k j : Nat) (h : j < 4) : (bytesC s k)[j]? = some (.int .u8 (if j < k then ((s / 256 ^ j % 256 : Nat) : Int) else 0)) := by
  simp [bytesC, h]
theorem bytesC_size (s k : Nat) : (bytesC s k).size = 4 := by simp [bytesC]
theorem bytesC_set (s k : Nat) (h : k < 4) (x : Int) (hx : x = ((s / 256 ^ k % 256 : Nat) : Int)) : (bytesC s k).setIfInBounds k (.int .u8 x) = bytesC s (k + 1) := by
  apply Array.ext_getElem?
  intro i
  rw [Array.getElem?_setIfInBounds, bytesC_size]
  by_cases hi : i < 4
  · by_cases hk : k = i
    · subst hk
      rw [if_pos rfl, if_pos h, bytesC_get _ _ _ hi, hx, if_pos (by omega)]
    · rw [if_neg hk, bytesC_get _ _ _ hi, bytesC_get _ _ _ hi]
      have : i < k ↔ i < k + 1 := by omega
      simp [this]
  · rw [if_neg (by omega), Array.getElem?_eq_none (by rw [bytesC_size]; omega), Array.getElem?_eq_none (by rw [bytesC_size]; omega)]
theorem bytesC_all (s : Nat) : bytesC s 4 = (u8s (sumBytes s)).toArray := by
  unfold bytesC u8s sumBytes
  simp [List.range_succ]

set_option maxHeartbeats 800000 in
theorem bytes (w : World) (s : Nat) (hs : s < 4294967296) :
    Calls Tryz.prog 40 #[.int .u32 (s : Int)] w fun e w' => e = .returned (.slice (some ⟨w.heap.size, 0, none⟩) 4 4) ∧ w.alloc (.cells (u8s (sumBytes s)).toArray 94) = w' := by
  go_enter Tryz.func40, Tryz.ntmps40
  go_wp2
  go_loopw [5] (fun i wr => ∃ k : Nat, k ≤ 4 ∧ i = .int .i64 k ∧ wr = w.alloc (.cells (bytesC s k) 94)) (fun i _ => 4 - (intOf i).toNat)
  case atStart => exact ⟨0, by omega, rfl, rfl⟩
  case round =>
    obtain ⟨k, hk, rfl, rfl⟩ := hrel
    have hc : k = 0 ∨ k = 1 ∨ k = 2 ∨ k = 3 ∨ k = 4 := by omega
    rcases hc with rfl | rfl | rfl | rfl | rfl
    · go_wp2
      go_roundw
      case rel => exact ⟨1, by omega, by go_num, by rw [bytesC_set s 0 (by omega) _ (by omega)]⟩
      case measure => simp [intOf]
    · go_wp2
      go_roundw
      case rel => exact ⟨2, by omega, by go_num, by rw [bytesC_set s 1 (by omega) _ (by omega)]⟩
      case measure => simp [intOf]
    · go_wp2
      go_roundw
      case rel => exact ⟨3, by omega, by go_num, by rw [bytesC_set s 2 (by omega) _ (by omega)]⟩
      case measure => simp [intOf]
    · go_wp2
      go_roundw
      case rel => exact ⟨4, by omega, by go_num, by rw [bytesC_set s 3 (by omega) _ (by omega)]⟩
      case measure => simp [intOf]
    · go_wp2
      go_ret
      exact ⟨rfl, by rw [bytesC_all s]⟩
end Crc
end Go.Proofs.YtkmkpdmjdfbpjaaGreatDoor

/- What the reference's crc functions compute: Of, the sum bit by bit, is the same sum; Bytes are the same bytes (no condition beyond what can be read). -/
namespace Go.Proofs.YtkmkpdmjdfbpjaaGreatDoor
open Go.ChangeShapes Go.WideShapes Go.RowKit
namespace Crc

theorem stp_odd (r : Nat) (h : r % 2 = 1) : stp r = (r / 2) ^^^ 3988292384 := by simp [stp, h]
theorem stp_even (r : Nat) (h : r % 2 = 0) : stp r = r / 2 := by simp [stp, h]

set_option maxHeartbeats 800000 in
set_option maxRecDepth 100000 in
theorem ref_of (w : World) (F : Nat → Prop) (A : Option Addr) (n c : Nat) (l : List UInt8) (hl : Reads w F 1 A n (u8s l)) (hn : n ≤ maxLen) :
    Calls Tryz.prog 56 #[.slice A n c] w fun e w' => e = .returned (.int .u32 ((sum l : Nat) : Int)) ∧ w = w' := by
  unfold maxLen at hn
  have hlen : l.length = n := by have := hl.len; rw [u8s_length] at this; omega
  have HL := Lib.hid hlen
  clear hlen
  go_enter Tryz.func56, Tryz.ntmps56
  go_wp2
  go_loop [3, 10] (fun r i => ∃ k : Nat, k ≤ n ∧ i = .int .i64 k ∧ r = .int .u32 ((updL 4294967295 (l.take k) : Nat) : Int)) (fun _ i => n - (intOf i).toNat)
  case atStart => exact ⟨0, by omega, rfl, rfl⟩
  case round =>
    obtain ⟨k, hk, rfl, rfl⟩ := hrel
    have hrb := updL_lt (l.take k) (show 4294967295 < 4294967296 by omega)
    by_cases hlt : k < n
    · obtain ⟨ad, u, rfl, hFa, hu1, hcell⟩ := hl.at_ hlt
      have hk' : k < l.length := by rw [HL.out]; exact hlt
      rw [u8s_get, List.getElem?_eq_getElem hk'] at hu1
      obtain rfl : u = .int .u8 ((l[k].toNat : Nat) : Int) := by simpa using hu1.symm
      have hts : l.take (k + 1) = l.take k ++ [l[k]] := by rw [List.take_succ_eq_append_getElem hk']
      have hup : updL 4294967295 (l.take (k + 1)) = stpN 8 (updL 4294967295 (l.take k) ^^^ l[k].toNat) := by rw [hts, updL_snoc, upd_bits]
      have HU := Lib.hid hup
      clear hts hup hu1
      have hcb := UInt8.toNat_lt l[k]
      generalize l[k] = ch at *
      generalize updL 4294967295 (l.take k) = q at *
      have e1 : bits .xor .u32 ((q : Nat) : Int) ((ch.toNat : Nat) : Int) = ((q ^^^ ch.toNat : Nat) : Int) := u32_xor_nat _ _ hrb (by omega)
      have hx : q ^^^ ch.toNat < 4294967296 := Nat.xor_lt_two_pow (n := 32) hrb (by omega)
      go_wp2
      go_loop [3, 6, 7] (fun r i _ => ∃ j : Nat, j ≤ 8 ∧ i = .int .i64 j ∧ r = .int .u32 ((stpN j (q ^^^ ch.toNat) : Nat) : Int)) (fun _ i _ => 8 - (intOf i).toNat)
      case atStart => exact ⟨0, by omega, rfl, rfl⟩
      case round =>
        obtain ⟨j, hj, rfl, rfl⟩ := hrel
        have hb := stpN_lt j hx
        have HS := Lib.hid (show stpN (j + 1) (q ^^^ ch.toNat) = stp (stpN j (q ^^^ ch.toNat)) from rfl)
        clear e1
        generalize hgr : stpN j (q ^^^ ch.toNat) = r at *
        have HG := Lib.hid hgr
        clear hgr
        by_cases hlj : j < 8
        · rcases Nat.mod_two_eq_zero_or_one r with hm | hm
          · have HE := Lib.hid (stp_even r hm)
            have hm' : (((r : Nat) : Int) % 2 == 1) = false := by simp; omega
            clear hm
            go_wp2
            go_round
            case rel => exact ⟨j + 1, by omega, by go_num, by rw [HS.out, HE.out]; rfl⟩
            case measure => simp [intOf]; omega
          · have HE := Lib.hid (stp_odd r hm)
            have hm' : (((r : Nat) : Int) % 2 == 1) = true := by simp; omega
            clear hm
            have e2 : bits .xor .u32 (((r : Nat) : Int) / 2) 3988292384 = ((r / 2 ^^^ 3988292384 : Nat) : Int) := by
              rw [← u32_xor_nat _ _ (by omega) (by omega)]; rfl
            go_wp2
            go_round
            case rel => exact ⟨j + 1, by omega, by go_num, by rw [HS.out, HE.out]⟩
            case measure => simp [intOf]; omega
        · obtain rfl : j = 8 := by omega
          go_wp2
          go_round
          case rel => exact ⟨k + 1, by omega, by go_num, by rw [HU.out, HG.out]⟩
          case measure => simp [intOf]; omega
    · obtain rfl : k = n := by omega
      have hx : bits .xor .u32 ((updL 4294967295 (l.take k) : Nat) : Int) 4294967295 = ((4294967295 - updL 4294967295 (l.take k) : Nat) : Int) := by
        rw [← not32 _ hrb, Nat.xor_comm, ← u32_xor_nat _ _ hrb (by omega)]; rfl
      have HX := Lib.hid hx
      clear hx
      go_wp2
      go_ret
      have : l.take k = l := List.take_of_length_le (by rw [HL.out]; omega)
      refine ⟨?_, rfl⟩
      rw [this] at HX
      simp [this, HX.out, sum]

set_option maxHeartbeats 400000 in
theorem ref_bytes (w : World) (s : Nat) (hs : s < 4294967296) :
    Calls Tryz.prog 55 #[.int .u32 (s : Int)] w fun e w' => e = .returned (.slice (some ⟨w.heap.size, 0, none⟩) 4 4) ∧ w.alloc (.cells (u8s (sumBytes s)).toArray 5) = w' := by
  go_enter Tryz.func55, Tryz.ntmps55
  go_wp2
  go_ret
  refine ⟨rfl, ?_⟩
  congr 2
  simp [u8s, sumBytes]
  omega
end Crc
end Go.Proofs.YtkmkpdmjdfbpjaaGreatDoor

/- Frames as lists of bytes: a length's head, a payload's frame, and what is told of any bytes (plain lists; no program). -/
namespace Go.Proofs.YtkmkpdmjdfbpjaaGreatDoor
namespace Frame
/-- a sum's bytes -/
def sumL (s : Nat) : List UInt8 := [UInt8.ofNat s, UInt8.ofNat (s / 256), UInt8.ofNat (s / 65536), UInt8.ofNat (s / 16777216)]
/-- a length's head -/
def headL (n : Nat) : List UInt8 := [UInt8.ofNat n, UInt8.ofNat (n / 256), UInt8.ofNat (n / 65536), 165 ^^^ UInt8.ofNat n ^^^ UInt8.ofNat (n / 256) ^^^ UInt8.ofNat (n / 65536)]
theorem headL_length (n : Nat) : (headL n).length = 4 := rfl
theorem sumL_length (n : Nat) : (sumL n).length = 4 := rfl
/-- the sum of bytes, as bytes -/
def crcL (p : List UInt8) : List UInt8 := sumL (Crc.sum p)
theorem crcL_length (p : List UInt8) : (crcL p).length = 4 := rfl
/-- a payload's frame -/
def frameL (p : List UInt8) : List UInt8 := headL p.length ++ p ++ crcL p
theorem frameL_length (p : List UInt8) : (frameL p).length = p.length + 8 := by
  simp only [frameL, List.length_append, headL_length, crcL_length]
  omega
def lenOf (l : List UInt8) : Nat := (l.getD 0 0).toNat + 256 * (l.getD 1 0).toNat + 65536 * (l.getD 2 0).toNat
theorem lenOf_lt (l : List UInt8) : lenOf l < 16777216 := by
  have h0 := UInt8.toNat_lt (l.getD 0 0)
  have h1 := UInt8.toNat_lt (l.getD 1 0)
  have h2 := UInt8.toNat_lt (l.getD 2 0)
  unfold lenOf
  omega
/-- what is wrong at the beginning -/
def takeE (l : List UInt8) : Int :=
  if l.length < 4 then 2
  else if headL (lenOf l) ≠ l.take 4 then 7
  else if 1048576 < lenOf l then 3
  else if l.length < lenOf l + 8 then 2
  else if crcL ((l.take (lenOf l + 4)).drop 4) ≠ (l.take (lenOf l + 8)).drop (lenOf l + 4) then 7
  else 0
def takeN (l : List UInt8) : Nat := if takeE l = 0 then lenOf l + 8 else 0
def takeP (l : List UInt8) : List UInt8 := if takeE l = 0 then (l.take (lenOf l + 4)).drop 4 else []
theorem takeN_le (l : List UInt8) : takeN l ≤ l.length := by
  unfold takeN
  split
  · rename_i h
    unfold takeE at h
    split at h
    · cases h
    · split at h
      · cases h
      · split at h
        · cases h
        · split at h
          · cases h
          · omega
  · omega
theorem takeE_short {l : List UInt8} (h : l.length < 4) : takeE l = 2 := by unfold takeE; rw [if_pos h]
theorem takeE_head {l : List UInt8} (h : ¬ l.length < 4) (h1 : headL (lenOf l) ≠ l.take 4) : takeE l = 7 := by unfold takeE; rw [if_neg h, if_pos h1]
theorem takeE_long {l : List UInt8} (h : ¬ l.length < 4) (h1 : headL (lenOf l) = l.take 4) (h2 : 1048576 < lenOf l) : takeE l = 3 := by unfold takeE; rw [if_neg h, if_neg (fun x => x h1), if_pos h2]
theorem takeE_cut {l : List UInt8} (h : ¬ l.length < 4) (h1 : headL (lenOf l) = l.take 4) (h2 : ¬ 1048576 < lenOf l) (h3 : l.length < lenOf l + 8) : takeE l = 2 := by
  unfold takeE; rw [if_neg h, if_neg (fun x => x h1), if_neg h2, if_pos h3]
theorem takeE_sum {l : List UInt8} (h : ¬ l.length < 4) (h1 : headL (lenOf l) = l.take 4) (h2 : ¬ 1048576 < lenOf l) (h3 : ¬ l.length < lenOf l + 8) (h4 : crcL ((l.take (lenOf l + 4)).drop 4) ≠ (l.take (lenOf l + 8)).drop (lenOf l + 4)) : takeE l = 7 := by
  unfold takeE; rw [if_neg h, if_neg (fun x => x h1), if_neg h2, if_neg h3, if_pos h4]
theorem takeE_ok {l : List UInt8} (h : ¬ l.length < 4) (h1 : headL (lenOf l) = l.take 4) (h2 : ¬ 1048576 < lenOf l) (h3 : ¬ l.length < lenOf l + 8) (h4 : crcL ((l.take (lenOf l + 4)).drop 4) = (l.take (lenOf l + 8)).drop (lenOf l + 4)) : takeE l = 0 := by
  unfold takeE; rw [if_neg h, if_neg (fun x => x h1), if_neg h2, if_neg h3, if_neg (fun x => x h4)]
theorem bad {l : List UInt8} {e : Int} (h : takeE l = e) (h0 : e ≠ 0) : takeN l = 0 ∧ takeP l = [] := by
  unfold takeN takeP
  rw [if_neg (by rw [h]; exact h0), if_neg (by rw [h]; exact h0)]
  exact ⟨rfl, rfl⟩
/-- all frames from a place on -/
def allGo (l : List UInt8) : Nat → Nat → List (List UInt8) → List (List UInt8) × Nat × Int
  | 0, at_, out => (out, at_, 0)
  | f + 1, at_, out => if l.length ≤ at_ then (out, at_, 0) else if takeE (l.drop at_) ≠ 0 then (out, at_, takeE (l.drop at_)) else allGo l f (at_ + takeN (l.drop at_)) (out ++ [takeP (l.drop at_)])
def allF (l : List UInt8) : List (List UInt8) × Nat × Int := allGo l (l.length + 1) 0 []
theorem allGo_end {l : List UInt8} {f at_ : Nat} {out : List (List UInt8)} (hf : l.length < at_ + f) (h : l.length ≤ at_) : allGo l f at_ out = (out, at_, 0) := by
  match f with
  | 0 => rfl
  | f + 1 => rw [allGo, if_pos h]
theorem allGo_bad {l : List UInt8} {f at_ : Nat} {out : List (List UInt8)} (hf : l.length < at_ + f) (h : at_ < l.length) (he : takeE (l.drop at_) ≠ 0) : allGo l f at_ out = (out, at_, takeE (l.drop at_)) := by
  match f, hf with
  | 0, hf => omega
  | f + 1, _ => rw [allGo, if_neg (by omega), if_pos he]
theorem allGo_more {l : List UInt8} {f at_ : Nat} {out : List (List UInt8)} (hf : l.length < at_ + f) (h : at_ < l.length) (he : takeE (l.drop at_) = 0) :
    ∃ f', l.length < at_ + takeN (l.drop at_) + f' ∧ allGo l f at_ out = allGo l f' (at_ + takeN (l.drop at_)) (out ++ [takeP (l.drop at_)]) := by
  match f, hf with
  | 0, hf => omega
  | f + 1, hf =>
    refine ⟨f, ?_, by rw [allGo, if_neg (by omega), if_neg (fun x => x he)]⟩
    have : takeN (l.drop at_) = lenOf (l.drop at_) + 8 := by unfold takeN; rw [if_pos he]
    omega
theorem allGo_len (l : List UInt8) : ∀ (f at_ : Nat) (out : List (List UInt8)), (allGo l f at_ out).1.length ≤ out.length + f
  | 0, _, _ => Nat.le_refl _
  | f + 1, at_, out => by
    rw [allGo]
    split
    · simp only; omega
    · split
      · simp only; omega
      · refine Nat.le_trans (allGo_len l f _ _) ?_
        simp only [List.length_append, List.length_cons, List.length_nil]
        omega
theorem allF_len (l : List UInt8) : (allF l).1.length ≤ l.length + 1 := by
  have := allGo_len l (l.length + 1) 0 []
  simpa [allF] using this
/-- the marks that the head's last byte goes through -/
def mk (n : Nat) : Nat → UInt8
  | 0 => 165
  | 1 => 165 ^^^ UInt8.ofNat n
  | 2 => 165 ^^^ UInt8.ofNat n ^^^ UInt8.ofNat (n / 256)
  | _ => 165 ^^^ UInt8.ofNat n ^^^ UInt8.ofNat (n / 256) ^^^ UInt8.ofNat (n / 65536)
def headK (n k : Nat) : List UInt8 := [UInt8.ofNat n, UInt8.ofNat (n / 256), UInt8.ofNat (n / 65536), mk n k]
end Frame
end Go.Proofs.YtkmkpdmjdfbpjaaGreatDoor

/- What the program's frame package computes, the first part: heads, sizes, bytes held against each other, a payload's frame (no condition beyond the sizes). -/
namespace Go.Proofs.YtkmkpdmjdfbpjaaGreatDoor
open Go.ChangeShapes Go.WideShapes Go.RowKit
namespace Frame
theorem u8_wrap (n : Nat) : IntKind.u8.wrap (n : Int) = ((UInt8.ofNat n).toNat : Int) := by
  rw [IntKind.wrap_u8']
  simp
theorem xor_u8 (x y : UInt8) : bits .xor .u8 (x.toNat : Int) (y.toNat : Int) = ((x ^^^ y).toNat : Int) := by
  rw [u8_xor_nat x.toNat y.toNat (UInt8.toNat_lt x) (UInt8.toNat_lt y)]
  simp
def HeadAt (w : World) (a b c y1 y2 y3 : UInt8) (i : Value) (wr : World) : Prop :=
  (i = .int .i64 0 ∧ wr = w.alloc (.cells #[.int .u8 (a.toNat : Int), .int .u8 (b.toNat : Int), .int .u8 (c.toNat : Int), .int .u8 165] 5)) ∨
    (i = .int .i64 1 ∧ wr = w.alloc (.cells #[.int .u8 (a.toNat : Int), .int .u8 (b.toNat : Int), .int .u8 (c.toNat : Int), .int .u8 (y1.toNat : Int)] 5)) ∨
    (i = .int .i64 2 ∧ wr = w.alloc (.cells #[.int .u8 (a.toNat : Int), .int .u8 (b.toNat : Int), .int .u8 (c.toNat : Int), .int .u8 (y2.toNat : Int)] 5)) ∨
    (i = .int .i64 3 ∧ wr = w.alloc (.cells #[.int .u8 (a.toNat : Int), .int .u8 (b.toNat : Int), .int .u8 (c.toNat : Int), .int .u8 (y3.toNat : Int)] 5))
set_option maxHeartbeats 800000 in
theorem head (w : World) (n : Nat) : Calls Tryz.prog 39 #[.int .i64 (n : Int)] w fun e w' => e = .returned (.slice (some ⟨w.heap.size, 0, none⟩) 4 4) ∧ w.alloc (.cells (u8s (headL n)).toArray 5) = w' := by
  have e0 : (n : Int) % 256 = ((UInt8.ofNat n).toNat : Int) := by simp
  have e1 : (n : Int) / 256 % 256 = ((UInt8.ofNat (n / 256)).toNat : Int) := by simp
  have e2 : (n : Int) / 65536 % 256 = ((UInt8.ofNat (n / 65536)).toNat : Int) := by simp
  have E := Lib.hid (And.intro e0 (And.intro e1 e2))
  clear e0 e1 e2
  have hh : headL n = [UInt8.ofNat n, UInt8.ofNat (n / 256), UInt8.ofNat (n / 65536), 165 ^^^ UInt8.ofNat n ^^^ UInt8.ofNat (n / 256) ^^^ UInt8.ofNat (n / 65536)] := rfl
  rw [hh]
  clear hh
  go_enter Tryz.func39, Tryz.ntmps39
  go_wp2
  rw [E.out.1, E.out.2.1, E.out.2.2]
  generalize ha : UInt8.ofNat n = a at *
  generalize hb : UInt8.ofNat (n / 256) = b at *
  generalize hc : UInt8.ofNat (n / 65536) = c at *
  have HA := Lib.hid (And.intro ha (And.intro hb hc))
  clear ha hb hc
  have x1 := xor_u8 165 a
  have x2 := xor_u8 (165 ^^^ a) b
  have x3 := xor_u8 (165 ^^^ a ^^^ b) c
  rw [show ((165 : UInt8).toNat : Int) = 165 from rfl] at x1
  have X := Lib.hid (And.intro x1 (And.intro x2 x3))
  clear x1 x2 x3
  generalize hy1 : (165 : UInt8) ^^^ a = y1 at *
  generalize hy2 : y1 ^^^ b = y2 at *
  generalize hy3 : y2 ^^^ c = y3 at *
  have HY := Lib.hid (And.intro hy1 (And.intro hy2 hy3))
  clear hy1 hy2 hy3
  have x1 := X.out.1
  have x2 := X.out.2.1
  have x3 := X.out.2.2
  go_loopw [5, 18] (fun _ i wr => HeadAt w a b c y1 y2 y3 i wr) (fun _ i _ => 3 - (intOf i).toNat)
  case atStart => exact .inl ⟨rfl, rfl⟩
  case round =>
    unfold HeadAt at hrel
    rcases hrel with ⟨rfl, rfl⟩ | ⟨rfl, rfl⟩ | ⟨rfl, rfl⟩ | ⟨rfl, rfl⟩
    · go_wp2
      go_roundw
      case rel => exact .inr (.inl ⟨rfl, rfl⟩)
      case measure => simp [intOf]
    · go_wp2
      go_roundw
      case rel => exact .inr (.inr (.inl ⟨rfl, rfl⟩))
      case measure => simp [intOf]
    · go_wp2
      go_roundw
      case rel => exact .inr (.inr (.inr ⟨rfl, rfl⟩))
      case measure => simp [intOf]
    · go_wp2
      go_ret
      refine ⟨rfl, ?_⟩
      rw [HA.out.1, HA.out.2.1, HA.out.2.2, HY.out.1, HY.out.2.1, HY.out.2.2]
      rfl

theorem ref_head (w : World) (n : Nat) (hn : (n : Int) ≤ 1099511627776) : Calls Tryz.prog 54 #[.int .i64 (n : Int)] w fun e w' => e = .returned (.slice (some ⟨w.heap.size, 0, none⟩) 4 4) ∧ w.alloc (.cells (u8s (headL n)).toArray 5) = w' := by
  have hh : headL n = [UInt8.ofNat n, UInt8.ofNat (n / 256), UInt8.ofNat (n / 65536), 165 ^^^ UInt8.ofNat n ^^^ UInt8.ofNat (n / 256) ^^^ UInt8.ofNat (n / 65536)] := rfl
  rw [hh]
  have e0 : (n : Int) % 256 = ((UInt8.ofNat n).toNat : Int) := by simp
  have e1 : (n : Int) / 256 % 256 = ((UInt8.ofNat (n / 256)).toNat : Int) := by simp
  have e2 : (n : Int) / 65536 % 256 = ((UInt8.ofNat (n / 65536)).toNat : Int) := by simp
  have E := Lib.hid (And.intro e0 (And.intro e1 e2))
  clear e0 e1 e2 hh
  go_enter Tryz.func54, Tryz.ntmps54
  go_wp2
  go_ret
  refine ⟨rfl, ?_⟩
  rw [E.out.1, E.out.2.1, E.out.2.2, show (165 : Int) = ((165 : UInt8).toNat : Int) from rfl, xor_u8, xor_u8, xor_u8]
  rfl
/-- bytes.Equal -/
theorem equal (w : World) (F G : Nat → Prop) (A B : Option Addr) (n c m d : Nat) (xs ys : List UInt8) (h1 : Reads w F 1 A n (u8s xs)) (h2 : Reads w G 1 B m (u8s ys)) :
    Calls Tryz.prog 68 #[.slice A n c, .slice B m d] w fun e w' => e = .returned (.bool (xs == ys)) ∧ w = w' := by
  have s1 := run_str (P := Tryz.prog) Tryz.underlying29 Tryz.underlying5 Tryz.underlying9 h1 c
  have s2 := run_str (P := Tryz.prog) Tryz.underlying29 Tryz.underlying5 Tryz.underlying9 h2 d
  clear h1 h2
  go_enter Tryz.func68, Tryz.ntmps68
  go_wp2
  go_ret
  exact ⟨rfl, rfl⟩
end Frame
end Go.Proofs.YtkmkpdmjdfbpjaaGreatDoor

/- bytes.Clone, and rows of the call's own over changes elsewhere (no condition beyond the sizes). -/
namespace Go.Proofs.YtkmkpdmjdfbpjaaGreatDoor
open Go.ChangeShapes Go.WideShapes Go.RowKit
/-- bytes.Clone -/
theorem bytes_clone (w : World) (A : Option Addr) (n c : Nat) (xs : List UInt8) (F : Nat → Prop) (hr : Reads w F 1 A n (u8s xs)) (hn : n ≤ 1099511627776) :
    Calls Tryz.prog 69 #[.slice A n c] w fun e w' => ∃ v, e = .returned v ∧ OwnB w' w.heap.size v xs ∧ New w w' := by
  have hq := fun (w : World) (a : Option Addr) (n c n' c' : Nat) => Lib.run_eql_slice_nil (P := Tryz.prog) w 29 5 a n c n' c' Tryz.underlying29
  have hlen := hr.u8len
  rcases A with _ | ad
  · have h0 : n = 0 := by
      rcases Nat.eq_zero_or_pos n with h | h
      · exact h
      · obtain ⟨_, h, _⟩ := hr.at0 h
        cases h
    have hx : xs = [] := List.eq_nil_of_length_eq_zero (by omega)
    subst hx
    clear hr
    go_enter Tryz.func69, Tryz.ntmps69
    go_wp2
    go_ret
    exact ⟨_, rfl, OwnB.nil, Chg.refl _ _⟩
  · have HR := Lib.hid hr
    clear hr hlen
    go_enter Tryz.func69, Tryz.ntmps69
    go_wp2_with (at_builtin; refine stop ?_)
    delta Stop
    refine append_u8 _ rfl _ _ rfl w.heap.size _ [] rfl (OwnB.empty (Nat.le_refl _)) F (some ad) n c xs rfl ?_ (by simp; omega) (by simp) ?_
    · exact HR.out.chg' ((Chg.refl (fun _ => False) w).alloc _) (fun _ _ => id) (by omega)
    · intro v w1 ho hg hat
      rw [List.nil_append] at ho
      go_wp2
      go_ret
      refine ⟨_, rfl, ho, ((Chg.refl _ _).alloc _).grown hg fun g e h => ?_⟩
      have := (OwnB.empty (w := w) (Nat.le_refl _)).lt g e
      omega
end Go.Proofs.YtkmkpdmjdfbpjaaGreatDoor

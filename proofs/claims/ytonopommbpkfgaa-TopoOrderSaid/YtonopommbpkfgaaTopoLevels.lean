/-
  hedgerowlaw32.TopoLevels returns true for every input: a number's level is one more than the greatest of those ahead of it (no condition).
-/
import Derived.Test.YtonopommbpkfgaaTopoFixed
namespace Go.Proofs.Ytonopommbpkfgaa
open Go.ChangeShapes Go.WideShapes Go.RowKit Go.Deep Heap
namespace Topo
attribute [local go_sem ↓] loadOnly0
theorem own_at {w : World} {lo : Nat} {A : Option Addr} {n c : Nat} {l : List Int} (h : OwnI w lo (.slice A n c) l) (hl : 0 < l.length) : ∃ g, A = some ⟨g, 0, none⟩ ∧ lo ≤ g ∧ g < w.heap.size := by
  rcases h.2 with ⟨e, h0⟩ | ⟨g, cap, cur, e, hb, _⟩
  · omega
  · injection e with e
    subst e
    exact ⟨g, rfl, (own_lt h rfl).1, (own_lt h rfl).2⟩
theorem ints_cell {w : World} {g : Nat} {t : TypeId} {l : List Int} (h : Blk w g t (ints l).toArray) {k : Nat} (hk : k < l.length) : w.cell? ⟨g, k, none⟩ = some (.int .i64 (l.getD k 0)) := by
  rw [h.cell, List.getElem?_toArray, ints_get, List.getElem?_eq_getElem hk]
  simp [List.getD_eq_getElem?_getD, List.getElem?_eq_getElem hk]
set_option maxHeartbeats 4000000 in
set_option maxRecDepth 20000 in
theorem lawLevels (w : World) (n : Int) (m c : Nat) (A : Option Addr) (ps : List (Int × Int)) (hP : PAt w A ps) (hm : ps.length = m) :
    Calls Try.prog 5 #[.int .i64 n, .slice A m c] w fun e w' => LawEnd w e w' := by
  have HP := Lib.hid (And.intro hP hm)
  clear hP hm
  by_cases h60 : 60 < n
  · go_enter Try.func5, Try.ntmps5
    go_wp2_with fail
    refine (fixed _).mono ?_
    rintro e w1 ⟨rfl, n1⟩
    go_wp2_with fail
    go_ret
    exact ⟨rfl, n1⟩
  by_cases h0 : n < 0
  · go_enter Try.func5, Try.ntmps5
    go_wp2_with fail
    refine (fixed _).mono ?_
    rintro e w1 ⟨rfl, n1⟩
    go_wp2_with fail
    go_ret
    exact ⟨rfl, n1⟩
  by_cases h200 : (200 : Int) < m
  · go_enter Try.func5, Try.ntmps5
    go_wp2_with fail
    refine (fixed _).mono ?_
    rintro e w1 ⟨rfl, n1⟩
    go_wp2_with fail
    go_ret
    exact ⟨rfl, n1⟩
  obtain ⟨n, rfl⟩ : ∃ k : Nat, n = (k : Int) := ⟨n.toNat, by omega⟩
  have hn : n ≤ 60 := by omega
  have hm2 : m ≤ 200 := by omega
  have hk := make_int n (by omega)
  go_enter Try.func5, Try.ntmps5
  go_wp2_with fail
  refine (fixed _).mono ?_
  rintro e w1 ⟨rfl, n1⟩
  have CL := Lib.hid (levels w1 n m c (by omega) A ps (HP.out.1.new n1) HP.out.2 hm2)
  have N1 := Lib.hid n1
  clear n1
  go_wp2_with fail
  refine CL.out.mono ?_
  rintro e w2 ⟨v, out, x, a, V, V2, rfl, o2, inv, h2, n2⟩
  have CO := Lib.hid (order w2 n m c (by omega) A ps ((HP.out.1.new N1.out).new n2) HP.out.2 hm2)
  have H2 := Lib.hid (And.intro o2 (And.intro inv (And.intro h2 (N1.out.trans n2 fun _ _ => id))))
  clear CL o2 inv h2 n2
  go_wp2_with fail
  refine CO.out.mono ?_
  rintro e w3 ⟨v', out', x', a', V', rfl, _, inv', n3⟩
  have hfull : out'.length = n ↔ out.length = n := inv'.full_iff.trans H2.out.2.1.full_iff.symm
  by_cases hf : out.length = n
  · rw [decide_eq_true hf, decide_eq_true (hfull.2 hf)]
    obtain ⟨hV2, out2, x2, a2, inv2⟩ := H2.out.2.2.1 hf
    have hf2 : out2.length = n := inv2.full_iff.2 (H2.out.2.1.full_iff.1 hf)
    have ow := H2.out.1
    rw [if_pos hf] at ow
    have ow3 := own_chg ow n3 fun _ _ => id
    obtain ⟨Av, cv, rfl⟩ := ow.form
    have H3 := Lib.hid (And.intro ow3 (And.intro inv2 (And.intro hf2 (And.intro hV2 (H2.out.2.2.2.trans n3 fun _ _ => id)))))
    rw [hV2]
    clear CO H2 N1 inv' n3 hfull hf hV2 inv2 hf2 ow ow3
    have hb := Blk.new w3 3 (ints (List.replicate n 0)).toArray
    rw [← wantL_nil n (fun k => V2.getD k 0)] at hb
    have HB := Lib.hid hb
    have hbl := hb.lt
    clear hb
    obtain ⟨g, hg⟩ : ∃ g, w3.heap.size = g := ⟨_, rfl⟩
    rw [hg] at HB hbl
    go_wp2_with fail
    go_loopw [11, 51] (fun _ iv wr => ∃ i : Nat, i ≤ m ∧ iv = .int .i64 i ∧ Blk wr g 3 (ints (wantL n (fun k => V2.getD k 0) (ps.take i))).toArray ∧ New w3 wr) (fun _ iv _ => m - (intOf iv).toNat)
    case atStart => exact ⟨0, by omega, by go_num, by rw [← wantL_nil n (fun k => V2.getD k 0)]; exact HB.out, (Chg.refl _ _).alloc _⟩
    case round =>
      clear HB
      obtain ⟨i, hi, rfl, h, nw⟩ := hrel
      by_cases hlt : i < m
      · obtain ⟨q, hq⟩ : ∃ q, ps[i]? = some q := ⟨_, List.getElem?_eq_getElem (by have := HP.out.2; omega)⟩
        obtain ⟨ad, rfl, hload⟩ := HP.out.1 i q hq
        have hld := hload wr (H3.out.2.2.2.2.trans nw fun _ _ => id)
        have htk : ps.take (i + 1) = ps.take i ++ [q] := by rw [List.take_add_one, hq]; rfl
        have hqm : q ∈ ps := List.mem_of_getElem? hq
        obtain ⟨x, y⟩ := q
        have m1 := (Chg.refl (fun _ => False) wr).alloc (.cells #[.int .i64 x, .int .i64 y] 35)
        have hbx := Blk.new wr 35 #[.int .i64 x, .int .i64 y]
        have h1 := h.chg m1 id
        have cx := hbx.cell 0
        have cy := hbx.cell 1
        simp only [List.getElem?_toArray, List.getElem?_cons_zero, List.getElem?_cons_succ] at cx cy
        have n1 := nw.trans m1 fun _ _ => id
        have hii : (i : Int) < m := by omega
        by_cases hok : okP n (x, y) = true
        · obtain ⟨hx0, hx1, hy0, hy1⟩ := okP_iff.1 hok
          obtain ⟨p, rfl⟩ : ∃ p : Nat, x = (p : Int) := ⟨x.toNat, by omega⟩
          obtain ⟨z, rfl⟩ : ∃ z : Nat, y = (z : Int) := ⟨y.toNat, by omega⟩
          simp only at hx0 hx1 hy0 hy1
          have hp : p < n := by omega
          have hz : z < n := by omega
          have hyes := wantL_yes (fun k => V2.getD k 0) (ps := ps.take i) hz hok
          rw [← htk] at hyes
          have hbd := H3.out.2.1.lvl_bd H3.out.2.2.1 hp
          have hV := H3.out.2.2.2.1
          obtain ⟨gv, rfl, hgv, hgl⟩ := own_at H3.out.1 (by omega)
          have cv1 : (wr.alloc (.cells #[.int .i64 (p : Int), .int .i64 (z : Int)] 35)).cell? ⟨gv, p, none⟩ = some (.int .i64 (V2.getD p 0)) := OwnI.cell (own_chg H3.out.1 n1 fun _ _ => id) (by omega)
          have cw : (wr.alloc (.cells #[.int .i64 (p : Int), .int .i64 (z : Int)] 35)).cell? ⟨g, z, none⟩ = some (.int .i64 (wantF n (fun k => V2.getD k 0) (ps.take i) z)) := by
            have := ints_cell h1 (k := z) (by rw [wantL_len]; exact hz)
            rwa [wantL_get _ _ hz] at this
          have hfz := h1.frozen z
          have h2 := h1.set_ z (.int .i64 (max (wantF n (fun k => V2.getD k 0) (ps.take i) z) (V2.getD p 0 + 1)))
          rw [setIfInBounds_toArray, ints_set] at h2
          have hyes2 : (wantL n (fun k => V2.getD k 0) (ps.take i)).set z (max (wantF n (fun k => V2.getD k 0) (ps.take i) z) (V2.getD p 0 + 1)) = wantL n (fun k => V2.getD k 0) (ps.take (i + 1)) := hyes.symm
          rw [hyes2] at h2
          have c2 := (Chg.refl (fun k => k = g) (wr.alloc (.cells #[.int .i64 (p : Int), .int .i64 (z : Int)] 35))).setCell (p := ⟨g, z, none⟩) (fun _ => rfl) (.int .i64 (max (wantF n (fun k => V2.getD k 0) (ps.take i) z) (V2.getD p 0 + 1)))
          have n2 := n1.trans c2 fun k hk e => by omega
          obtain ⟨W, hW⟩ : ∃ W, wantF n (fun k => V2.getD k 0) (ps.take i) z = W := ⟨_, rfl⟩
          rw [hW] at cw h2 n2
          have hpV : p < V2.length := by omega
          obtain ⟨u, hu⟩ : ∃ u, V2.getD p 0 = u := ⟨_, rfl⟩
          rw [hu] at cv1 h2 n2 hbd
          have hwr : IntKind.i64.wrap (u + 1) = u + 1 := IntWalk.i64_in _ (by omega)
          by_cases hlu : W < u + 1
          · rw [show max W (u + 1) = u + 1 by omega] at h2 n2
            have HZ := Lib.hid (And.intro h2 n2)
            have HX := Lib.hid (And.intro hV hpV)
            clear h h1 h2 hyes hyes2 c2 n1 n2 nw m1 hbx hload htk hqm hok hx0 hy0 hW hu hV hpV
            go_wp2_with fail
            refine wp_region_tailq 16 (by kernel_rfl) (by kernel_rfl) ?_
            simp only [List.take_succ_cons, List.take_zero, List.drop_succ_cons, List.drop_zero]
            repeat (go_big_quiet_step (fail))
            refine wpQuiet_nil ?_
            go_wp2_with fail
            go_roundw
            case rel => exact ⟨i + 1, by omega, by go_num, HZ.out.1.drew, HZ.out.2.drew⟩
            case measure => simp [intOf]; omega
          · rw [show max W (u + 1) = W by omega] at h2 n2
            have HZ := Lib.hid (And.intro h2 n2)
            have HX := Lib.hid (And.intro hV hpV)
            clear h h1 h2 hyes hyes2 c2 n1 n2 nw m1 hbx hload htk hqm hok hx0 hy0 hW hu hV hpV
            go_wp2_with fail
            refine wp_region_tailq 16 (by kernel_rfl) (by kernel_rfl) ?_
            simp only [List.take_succ_cons, List.take_zero, List.drop_succ_cons, List.drop_zero]
            repeat (go_big_quiet_step (fail))
            refine wpQuiet_nil ?_
            go_wp2_with fail
            go_roundw
            case rel => exact ⟨i + 1, by omega, by go_num, HZ.out.1.drew, HZ.out.2.drew⟩
            case measure => simp [intOf]; omega
        · have hok : okP n (x, y) = false := by simpa using hok
          have i2 := wantL_not (fun k => V2.getD k 0) (ps := ps.take i) hok
          rw [← htk] at i2
          rw [← i2] at h1
          have HZ := Lib.hid (And.intro h1 n1)
          clear h h1 i2 n1 m1 hbx nw hq htk hload hqm
          by_cases h1 : 0 ≤ x
          · by_cases h2 : x < n
            · by_cases h3 : 0 ≤ y
              · have h4 : ¬ y < n := fun h4 => by rw [okP_iff.2 ⟨h1, h2, h3, h4⟩] at hok; cases hok
                clear hok
                go_wp2_with fail
                go_roundw
                case rel => exact ⟨i + 1, by omega, by go_num, HZ.out.1, HZ.out.2⟩
                case measure => simp [intOf]; omega
              · clear hok
                go_wp2_with fail
                go_roundw
                case rel => exact ⟨i + 1, by omega, by go_num, HZ.out.1, HZ.out.2⟩
                case measure => simp [intOf]; omega
            · clear hok
              go_wp2_with fail
              go_roundw
              case rel => exact ⟨i + 1, by omega, by go_num, HZ.out.1, HZ.out.2⟩
              case measure => simp [intOf]; omega
          · clear hok
            go_wp2_with fail
            go_roundw
            case rel => exact ⟨i + 1, by omega, by go_num, HZ.out.1, HZ.out.2⟩
            case measure => simp [intOf]; omega
      · obtain rfl : m = i := by omega
        rw [List.take_of_length_le (by rw [HP.out.2]; exact Nat.le_refl _)] at h
        have H4 := Lib.hid (And.intro h nw)
        clear h nw hk
        generalize wr = w4 at *
        go_wp2_with fail
        go_loopw [12, 94] (fun _ iv wr => ∃ i : Nat, i ≤ n ∧ iv = .int .i64 i ∧ New w4 wr) (fun _ iv _ => n - (intOf iv).toNat)
        case atStart => exact ⟨0, by omega, by go_num, Chg.refl _ _⟩
        case round =>
          obtain ⟨i, hi, rfl, nw⟩ := hrel
          by_cases hlt : i < n
          · have hw := H3.out.2.1.want H3.out.2.2.1 hlt
            have hV := H3.out.2.2.2.1
            obtain ⟨gv, rfl, hgv, hgl⟩ := own_at H3.out.1 (by omega)
            have n4 := H4.out.2.trans nw fun _ _ => id
            have cv1 : wr.cell? ⟨gv, i, none⟩ = some (.int .i64 (V2.getD i 0)) := OwnI.cell (own_chg H3.out.1 n4 fun _ _ => id) (by omega)
            have cw : wr.cell? ⟨g, i, none⟩ = some (.int .i64 (V2.getD i 0)) := by
              rw [(H4.out.1.chg nw id).cell, List.getElem?_toArray, ints_get, List.getElem?_eq_getElem (by rw [wantL_len]; exact hlt)]
              have := wantL_get (fun k => V2.getD k 0) ps hlt
              rw [List.getD_eq_getElem?_getD, List.getElem?_eq_getElem (by rw [wantL_len]; exact hlt), Option.getD_some] at this
              rw [this, ← hw]
              rfl
            obtain ⟨u, hu⟩ : ∃ u, V2.getD i 0 = u := ⟨_, rfl⟩
            rw [hu] at cv1 cw
            have hii : (i : Int) < n := by omega
            have HX := Lib.hid (And.intro hV (And.intro nw (And.intro hw hu)))
            clear hV nw hw hu n4
            go_wp2_with fail
            refine wp_region_quiet1 (by kernel_rfl) (by kernel_rfl) ?_
            repeat still_step
            refine wpStill_nil ?_
            go_wp2_with fail
            go_roundw
            case rel => exact ⟨i + 1, by omega, by go_num, HX.out.2.1.drew⟩
            case measure => simp [intOf]; omega
          · obtain rfl : n = i := by omega
            have HZ := Lib.hid (((H3.out.2.2.2.2.trans H4.out.2 fun _ _ => id)).trans nw fun _ _ => id)
            clear nw
            go_wp2_with fail
            go_ret
            exact ⟨rfl, HZ.out⟩
  · rw [decide_eq_false hf, decide_eq_false (mt hfull.1 hf)]
    have ow := H2.out.1
    rw [if_neg hf] at ow
    obtain ⟨Av, cv, rfl⟩ := ow.form
    have N3 := Lib.hid (H2.out.2.2.2.trans n3 fun _ _ => id)
    clear CO H2 N1 inv' n3 hfull hf ow
    go_wp2_with fail
    go_ret
    exact ⟨rfl, N3.out⟩
theorem levels_args {H : Type} {enc : TypeId × Value → H} {W : World} {base : Nat} {args : Array Value} {ds : List (DataW H)} {ps : List MemPlace}
    (hval : ∀ (j : Nat) t v, Try.f5.params[j]? = some t → args[j]? = some v → Value.okWide Try.prog W .any base t v)
    (hw : ∀ (j : Nat) t d, Try.f5.params.toList[j]? = some t → ds[j]? = some d → ∀ n ∈ d.weights Try.prog t, n ≤ reachBytes)
    (hA : DataW.TrodAll enc Try.prog W 0 (fun _ => true) true Try.f5.params.toList args.toList ds ps) :
    Calls Try.prog 5 args W fun e w' => LawEnd W e w' := by
  rw [Try.params5] at hA hval hw
  obtain ⟨v0, v1, d0, d1, p0, p1, rfl, rfl, rfl, h0, h1⟩ := trodAll_two hA
  have o0 := hval 0 _ v0 rfl rfl
  have q0 := hw 0 _ d0 rfl rfl
  have o1 := hval 1 _ v1 rfl rfl
  have q1 := hw 1 _ d1 rfl rfl
  obtain ⟨n, rfl, _, _⟩ := open_i64 Try.underlying3 o0 h0
  obtain ⟨A, m, c, xs, rfl, hx, _, _, hl, _⟩ := open_struct_ints (B := 16) (s := 2) Try.underlying22 Try.underlying35 (by kernel_rfl) rfl (by omega) (by kernel_rfl)
    (fun j f hj => by match j, hj with | 0, hj => (simp at hj; subst hj; exact Try.underlying3) | 1, hj => (simp at hj; subst hj; exact Try.underlying3)) (by kernel_rfl) (cells_slice Try.underlying22 o1) q1 h1
  obtain ⟨ps, hps, hP⟩ := PAt.of_reads hl hx
  exact lawLevels W n m c A ps hP hps
end Topo
namespace lawTopoLevels
theorem own : ownKnob Try.prog.godebug = none := by kernel_rfl
theorem laidOut : laidOutB Try.prog = true := by kernel_rfl
theorem reads : ∀ t ∈ Try.f5.params.toList, Try.prog.readableRec t = true ∧ t < Try.prog.types.size := by
  have h : (Try.f5.params.toList.all fun t => Try.prog.readableRec t && decide (t < Try.prog.types.size)) = true := by kernel_rfl
  intro t ht
  have := List.all_eq_true.1 h t ht
  simpa using this
theorem spec {H : Type} (ds : List (DataW H)) (h : ds.length = 2) : Rows.topoLevelsSpec.fn H ds = { results := [.lit (.bool true)], args := ds } := by
  match ds, h with
  | [d1, d2], _ => rfl
theorem trodAll_len {H : Type} {enc : TypeId × Value → H} {P : Program} {w : World} {base : Nat} {sp : Nat → Bool} {held : Bool} : ∀ (ts : List TypeId) (vs : List Value) (ds : List (DataW H)) (ps : List MemPlace),
    DataW.TrodAll enc P w base sp held ts vs ds ps → ds.length = ts.length
  | [], _, _, _, h => by
    obtain ⟨_, rfl, _⟩ := trodAll_nil h
    rfl
  | _ :: ts, _, _, _, h => by
    obtain ⟨_, vs, _, ds, _, _, _, rfl, _, _, hr⟩ := trodAll_cons h
    simp [trodAll_len ts vs ds _ hr]
theorem contract (H : Type) (enc : TypeId × Value → H) (W : World) (base : Nat) (args : Array Value) (ds gs : List (DataW H)) (before : List MemPlace)
    (hval : ∀ (j : Nat) t v, Try.f5.params[j]? = some t → args[j]? = some v → Value.okWide Try.prog W .any base t v)
    (hW : DataW.Whole enc Try.prog Try.f5.params.toList Rows.topoLevelsSpec.vars false W args.toList ds gs before)
    (hz : (DataW.weightsEach Try.prog (Try.f5.params.toList ++ Rows.topoLevelsSpec.plain.varTypes Try.prog) (ds ++ gs)).all (· ≤ reachBytes) = true) :
    Calls Try.prog 5 args W fun e W' => ∃ v, e = .returned v ∧ Rows.topoLevelsSpec.post enc Try.prog Try.f5 false true false false W args v W' := by
  obtain ⟨p, q, hA, hV, _⟩ := id hW
  have hlen : ds.length = 2 := (trodAll_len _ _ _ _ hA).trans (by kernel_rfl)
  have hV1 : DataW.TrodVars enc Try.prog W (fun _ => true) [] gs q := hV
  obtain ⟨rfl, rfl⟩ := trodVars_none hV1
  have hw : ∀ (j : Nat) t d, Try.f5.params.toList[j]? = some t → ds[j]? = some d → ∀ n ∈ d.weights Try.prog t, n ≤ reachBytes := by
    intro j t d ht hd n hn
    rw [List.append_nil] at hz
    have hlt : j < Try.f5.params.toList.length := (List.getElem?_eq_some_iff.1 ht).1
    have := List.all_eq_true.1 hz n (DataW.weights_mem_each (by rw [List.getElem?_append_left hlt]; exact ht) hd n hn)
    simpa using this
  refine (Topo.levels_args hval hw hA).mono fun e W' ⟨he, hn⟩ => ?_
  exact ⟨_, he, law_post laidOut (tb := 4) rfl Try.underlying4 reads rfl hW (spec ds hlen) hn.below⟩
set_option maxRecDepth 100000 in
theorem lifted (os : Os) (started : os.Started) (H : Type) (enc : TypeId × Value → H) :
    ReturnsInHanded {} Try.checked os 5 .any (Rows.topoLevelsSpec.pre6 enc Try.prog Try.f5 Rows.topoLevelsRow.domain false) (Rows.topoLevelsSpec.post enc Try.prog Try.f5 false true false false) := by
  refine returnsInHanded_of_change_sized (C := Try.checked) own started (by kernel_rfl) Try.func5
    (ChangeSpec.witness6 (enc := enc) (C := Try.checked) (s := Rows.topoLevelsSpec) false ⟨#[], #[.int .i64 0, .slice none 0 0], []⟩ 60 (by kernel_rfl) (by kernel_rfl) (by kernel_rfl) (by kernel_rfl)) ?_
  intro W base args ds gs before hval hW _ hz _
  exact contract H enc W base args ds gs before hval hW hz
theorem proved : Rows.TopoLevelsSaid :=
  OpenClaim.holds_of_wide 5 Try.f5 rfl rfl rfl rfl rfl rfl rfl ⟨rfl, rfl, rfl, rfl, rfl⟩ rfl rfl rfl rfl rfl (by kernel_rfl) Try.func5 (by kernel_rfl)
    (of_decide_eq_true (by kernel_rfl)) (by unfold Func.isWrapper; first | (rw [if_pos (by decide +kernel)]; kernel_rfl) | (rw [if_neg (by decide +kernel)]; exact ⟨rfl, rfl⟩))
    (fun os started H enc _ => lifted os started H enc)
end lawTopoLevels
end Go.Proofs.Ytonopommbpkfgaa

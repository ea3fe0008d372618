/-
  hedgerowlaw32.TopoLevelled returns true for every input: numbers, in the order that is told, come behind all of lower levels that lead to them; a level is below how many there are (no condition).
-/
import Derived.Test.YtonopommbpkfgaaTopoLevels
namespace Go.Proofs.Ytonopommbpkfgaa
open Go.ChangeShapes Go.WideShapes Go.RowKit Go.Deep Heap
namespace Topo
attribute [local go_sem ↓] loadOnly0
theorem lefts_nil {out : List Int} {n : Nat} (h : ∀ k : Nat, k < n → (k : Int) ∈ out) : lefts out n = [] := by
  unfold lefts
  rw [List.map_eq_nil_iff, List.filter_eq_nil_iff]
  intro k hk
  simpa using h k (List.mem_range.1 hk)
theorem lefts_pos {out : List Int} {n k : Nat} (hk : k < n) (h : (k : Int) ∉ out) : 0 < (lefts out n).length := by
  refine List.length_pos_of_mem (a := (k : Int)) ?_
  unfold lefts
  exact List.mem_map.2 ⟨k, List.mem_filter.2 ⟨List.mem_range.2 hk, by simpa using h⟩, rfl⟩
theorem Inv.all_in {n : Nat} {ps : List (Int × Int)} {out : List Int} {x : Int} {a v : Nat → Int} (h : Inv n ps out [] [] x a v) (hf : out.length = n) {k : Nat} (hk : k < n) : (k : Int) ∈ out := Classical.byContradiction fun hn => by
  obtain ⟨i, hi, _⟩ := (h.out_iff hk).1 hn
  exact h.full_iff.1 hf i hi
theorem Inv.some_out {n : Nat} {ps : List (Int × Int)} {out : List Int} {x : Int} {a v : Nat → Int} (h : Inv n ps out [] [] x a v) (hf : out.length ≠ n) : ∃ k : Nat, k < n ∧ (k : Int) ∉ out := Classical.byContradiction fun hn => hf (h.full_iff.2 fun i hi => by
  have hr := hi.right
  refine hn ⟨i.toNat, by omega, (h.out_iff (k := i.toNat) (by omega)).2 ⟨i, hi, .inl (by omega)⟩⟩)
set_option maxHeartbeats 4000000 in
set_option maxRecDepth 20000 in
theorem lawLevelled (w : World) (n : Int) (m c : Nat) (A : Option Addr) (ps : List (Int × Int)) (hP : PAt w A ps) (hm : ps.length = m) :
    Calls Try.prog 6 #[.int .i64 n, .slice A m c] w fun e w' => LawEnd w e w' := by
  have HP := Lib.hid (And.intro hP hm)
  clear hP hm
  by_cases h60 : 60 < n
  · go_enter Try.func6, Try.ntmps6
    go_wp2_with fail
    refine (fixed _).mono ?_
    rintro e w1 ⟨rfl, n1⟩
    go_wp2_with fail
    go_ret
    exact ⟨rfl, n1⟩
  by_cases h0 : n < 0
  · go_enter Try.func6, Try.ntmps6
    go_wp2_with fail
    refine (fixed _).mono ?_
    rintro e w1 ⟨rfl, n1⟩
    go_wp2_with fail
    go_ret
    exact ⟨rfl, n1⟩
  by_cases h200 : (200 : Int) < m
  · go_enter Try.func6, Try.ntmps6
    go_wp2_with fail
    refine (fixed _).mono ?_
    rintro e w1 ⟨rfl, n1⟩
    go_wp2_with fail
    go_ret
    exact ⟨rfl, n1⟩
  obtain ⟨n, rfl⟩ : ∃ k : Nat, n = (k : Int) := ⟨n.toNat, by omega⟩
  have hn : n ≤ 60 := by omega
  have hm2 : m ≤ 200 := by omega
  have hk := make_int n (by omega)
  go_enter Try.func6, Try.ntmps6
  go_wp2_with fail
  refine (fixed _).mono ?_
  rintro e w1 ⟨rfl, n1⟩
  have CO := Lib.hid (order w1 n m c (by omega) A ps (HP.out.1.new n1) HP.out.2 hm2)
  have N1 := Lib.hid n1
  clear n1
  go_wp2_with fail
  refine CO.out.mono ?_
  rintro e w2 ⟨vo, ou, xo, ao, Vo, rfl, oo, invo, n2⟩
  have CL := Lib.hid (levels w2 n m c (by omega) A ps ((HP.out.1.new N1.out).new n2) HP.out.2 hm2)
  have H2 := Lib.hid (And.intro oo (And.intro invo (N1.out.trans n2 fun _ _ => id)))
  clear CO oo invo n2
  go_wp2_with fail
  refine CL.out.mono ?_
  rintro e w3 ⟨v, out, x, a, V, V2, rfl, o3, inv, h3, n3⟩
  have hfull : ou.length = n ↔ out.length = n := H2.out.2.1.full_iff.trans inv.full_iff.symm
  have CF := Lib.hid fun W (hW : New w W) => left W n m c (by omega) A ps (HP.out.1.new hW) HP.out.2 hm2
  by_cases hf : out.length = n
  · rw [decide_eq_true hf, decide_eq_true (hfull.2 hf)]
    obtain ⟨hV2, out2, x2, a2, inv2⟩ := h3 hf
    have hf2 : out2.length = n := inv2.full_iff.2 (inv.full_iff.1 hf)
    have hfo := hfull.2 hf
    have ow := H2.out.1
    rw [if_pos hfo] at ow
    rw [if_pos hf] at o3
    have ow3 := own_chg ow n3 fun _ _ => id
    obtain ⟨Ao, co, rfl⟩ := ow.form
    obtain ⟨Av, cv, rfl⟩ := o3.form
    have HF := Lib.hid (And.intro hfo hV2)
    have H3 := Lib.hid (And.intro o3 (And.intro (And.intro ow3 H2.out.2.1) (And.intro inv2 (And.intro hf2 (H2.out.2.2.trans n3 fun _ _ => id)))))
    rw [hV2, hfo]
    clear CL H2 N1 inv n3 hfull hf hV2 inv2 hf2 ow ow3 o3 h3 hfo
    have hb := Blk.new w3 3 (ints (List.replicate n 0)).toArray
    have HB := Lib.hid hb
    have hbl := hb.lt
    clear hb
    obtain ⟨g, hg⟩ : ∃ g, w3.heap.size = g := ⟨_, rfl⟩
    rw [hg] at HB hbl
    go_wp2_with fail
    go_loopw [10, 11, 56] (fun _ _ iv wr => ∃ (i : Nat) (T : List Int), i ≤ n ∧ iv = .int .i64 i ∧ T.length = n ∧ Blk wr g 3 (ints T).toArray ∧ atP ou i T ∧ New w3 wr) (fun _ _ iv _ => n - (intOf iv).toNat)
    case atStart => exact ⟨0, _, by omega, by go_num, by simp, HB.out, fun j hj => by omega, (Chg.refl _ _).alloc _⟩
    case round =>
      clear HB
      obtain ⟨i, T, hi, rfl, hTl, h, hat, nw⟩ := hrel
      by_cases hlt : i < n
      · have hfo := HF.out.1
        have hio : i < ou.length := by omega
        obtain ⟨go, rfl, hgo, hgol⟩ := own_at H3.out.2.1.1 (by omega)
        have co : wr.cell? ⟨go, i, none⟩ = some (.int .i64 (ou.getD i 0)) := OwnI.cell (own_chg H3.out.2.1.1 nw fun _ _ => id) hio
        have hr := H3.out.2.1.2.inO (ou.getD i 0) (by rw [List.getD_eq_getElem?_getD, List.getElem?_eq_getElem hio]; exact List.getElem_mem hio)
        have hst := atP_step H3.out.2.1.2 hTl hio hat
        obtain ⟨q, hq⟩ : ∃ q : Nat, ou.getD i 0 = (q : Int) := ⟨(ou.getD i 0).toNat, by omega⟩
        rw [hq] at co hr hst
        rw [Int.toNat_natCast] at hst
        have hqn : q < n := by omega
        have cT := ints_cell h (k := q) (by omega)
        have hfz := h.frozen q
        have h2 := h.set_ q (.int .i64 (i : Int))
        rw [setIfInBounds_toArray, ints_set] at h2
        have c2 := (Chg.refl (fun k => k = g) wr).setCell (p := ⟨g, q, none⟩) (fun _ => rfl) (.int .i64 (i : Int))
        have n2 := nw.trans c2 fun k hk e => by omega
        have hTl2 : (T.set q (i : Int)).length = n := by rw [List.length_set]; exact hTl
        have HZ := Lib.hid (And.intro hTl2 (And.intro h2 (And.intro hst n2)))
        have hii : (i : Int) < n := by omega
        have hqi : (q : Int) < n := hr.2
        obtain ⟨tq, htq⟩ : ∃ u, T.getD q 0 = u := ⟨_, rfl⟩
        rw [htq] at cT
        clear hfo hio hst h h2 c2 n2 hTl hTl2 hat nw hq hr htq
        go_wp2_with fail
        go_roundw
        case rel => exact ⟨i + 1, T.set q (i : Int), by omega, by go_num, HZ.out⟩
        case measure => simp [intOf]; omega
      · obtain rfl : n = i := by omega
        have hat2 : atP ou ou.length T := by rw [HF.out.1]; exact hat
        have H4 := Lib.hid (And.intro h (And.intro hat2 nw))
        clear h hat2 hat nw hk
        generalize wr = w4 at *
        go_wp2_with fail
        go_loopw [13, 68] (fun _ iv wr => ∃ i : Nat, i ≤ m ∧ iv = .int .i64 i ∧ New w4 wr) (fun _ iv _ => m - (intOf iv).toNat)
        case atStart => exact ⟨0, by omega, by go_num, Chg.refl _ _⟩
        case round =>
          obtain ⟨i, hi, rfl, nw⟩ := hrel
          by_cases hlt : i < m
          · obtain ⟨q, hq⟩ : ∃ q, ps[i]? = some q := ⟨_, List.getElem?_eq_getElem (by have := HP.out.2; omega)⟩
            obtain ⟨ad, rfl, hload⟩ := HP.out.1 i q hq
            have n34 := H4.out.2.2.trans nw fun _ _ => id
            have hld := hload wr (H3.out.2.2.2.2.trans n34 fun _ _ => id)
            have hqm : q ∈ ps := List.mem_of_getElem? hq
            obtain ⟨x, y⟩ := q
            have m1 := (Chg.refl (fun _ => False) wr).alloc (.cells #[.int .i64 x, .int .i64 y] 35)
            have hbx := Blk.new wr 35 #[.int .i64 x, .int .i64 y]
            have hT := (H4.out.1.chg nw id).chg m1 id
            have cx := hbx.cell 0
            have cy := hbx.cell 1
            simp only [List.getElem?_toArray, List.getElem?_cons_zero, List.getElem?_cons_succ] at cx cy
            have n1 := nw.trans m1 fun _ _ => id
            have hii : (i : Int) < m := by omega
            by_cases hok : okP n (x, y) = true
            · obtain ⟨hx0, hx1, hy0, hy1⟩ := okP_iff.1 hok
              obtain ⟨p, rfl⟩ : ∃ p : Nat, x = (p : Int) := ⟨x.toNat, by omega⟩
              obtain ⟨z, rfl⟩ : ∃ z : Nat, y = (z : Int) := ⟨y.toNat, by omega⟩
              simp only at hx0 hx1 hy0 hy1
              have hp : p < n := by omega
              have hz : z < n := by omega
              have hV := HF.out.2
              have hlv := H3.out.2.2.1.lvl_lt H3.out.2.2.2.1 hqm hok
              have hat := atP_lt H3.out.2.1.2 HF.out.1 H4.out.2.1 hqm hok
              obtain ⟨gv, rfl, hgv, hgl⟩ := own_at H3.out.1 (by omega)
              have cv1 : (wr.alloc (.cells #[.int .i64 (p : Int), .int .i64 (z : Int)] 35)).cell? ⟨gv, p, none⟩ = some (.int .i64 (V2.getD p 0)) := OwnI.cell (own_chg H3.out.1 (n34.trans m1 fun _ _ => id) fun _ _ => id) (by omega)
              have cv2 : (wr.alloc (.cells #[.int .i64 (p : Int), .int .i64 (z : Int)] 35)).cell? ⟨gv, z, none⟩ = some (.int .i64 (V2.getD z 0)) := OwnI.cell (own_chg H3.out.1 (n34.trans m1 fun _ _ => id) fun _ _ => id) (by omega)
              have ct1 := ints_cell hT (k := p) (by omega)
              have ct2 := ints_cell hT (k := z) (by omega)
              obtain ⟨a1, h1⟩ : ∃ u, T.getD p 0 = u := ⟨_, rfl⟩
              obtain ⟨a2, h2⟩ : ∃ u, T.getD z 0 = u := ⟨_, rfl⟩
              obtain ⟨b1, h3⟩ : ∃ u, V2.getD p 0 = u := ⟨_, rfl⟩
              obtain ⟨b2, h4⟩ : ∃ u, V2.getD z 0 = u := ⟨_, rfl⟩
              rw [h1, h2] at hat
              rw [h3, h4] at hlv
              rw [h1] at ct1
              rw [h2] at ct2
              rw [h3] at cv1
              rw [h4] at cv2
              have e1 : decide (a2 ≤ a1) = false := by simpa using hat
              have e2 : decide (b2 ≤ b1) = false := by simpa using hlv
              have e3 : decide (a1 ≥ a2) = false := e1
              have e4 : decide (b1 ≥ b2) = false := e2
              have HZ := Lib.hid n1
              clear n1 m1 hbx hT nw n34 hload hqm hok h1 h2 h3 h4 hV hat hlv
              go_wp2_with fail
              go_quiet (fail)
              go_wp2_with fail
              go_roundw
              case rel => exact ⟨i + 1, by omega, by go_num, HZ.out.drewN _⟩
              case measure => simp [intOf]; omega
            · have hok : okP n (x, y) = false := by simpa using hok
              have HZ := Lib.hid n1
              clear n1 m1 hbx hT nw n34 hload hqm hq
              by_cases h1 : 0 ≤ x
              · by_cases h2 : x < n
                · by_cases h3 : 0 ≤ y
                  · have h4 : ¬ y < n := fun h4 => by rw [okP_iff.2 ⟨h1, h2, h3, h4⟩] at hok; cases hok
                    have g1 : decide (x ≥ 0) = true := decide_eq_true h1
                    have g2 : decide (x < (n : Int)) = true := decide_eq_true h2
                    have g3 : decide (y ≥ 0) = true := decide_eq_true h3
                    have g4 : decide (y < (n : Int)) = false := decide_eq_false h4
                    clear hok
                    go_wp2_with fail
                    go_quiet (fail)
                    go_wp2_with fail
                    go_roundw
                    case rel => exact ⟨i + 1, by omega, by go_num, HZ.out.drewN _⟩
                    case measure => simp [intOf]; omega
                  · have g1 : decide (x ≥ 0) = true := decide_eq_true h1
                    have g2 : decide (x < (n : Int)) = true := decide_eq_true h2
                    have g3 : decide (y ≥ 0) = false := decide_eq_false h3
                    clear hok
                    go_wp2_with fail
                    go_quiet (fail)
                    go_wp2_with fail
                    go_roundw
                    case rel => exact ⟨i + 1, by omega, by go_num, HZ.out.drewN _⟩
                    case measure => simp [intOf]; omega
                · have g1 : decide (x ≥ 0) = true := decide_eq_true h1
                  have g2 : decide (x < (n : Int)) = false := decide_eq_false h2
                  clear hok
                  go_wp2_with fail
                  go_quiet (fail)
                  go_wp2_with fail
                  go_roundw
                  case rel => exact ⟨i + 1, by omega, by go_num, HZ.out.drewN _⟩
                  case measure => simp [intOf]; omega
              · have g1 : decide (x ≥ 0) = false := decide_eq_false h1
                clear hok
                go_wp2_with fail
                go_quiet (fail)
                go_wp2_with fail
                go_roundw
                case rel => exact ⟨i + 1, by omega, by go_num, HZ.out.drewN _⟩
                case measure => simp [intOf]; omega
          · obtain rfl : m = i := by omega
            have H5 := Lib.hid (H4.out.2.2.trans nw fun _ _ => id)
            clear nw H4
            generalize wr = w5 at *
            go_wp2_with fail
            go_loopw [15, 121] (fun _ iv wr => ∃ i : Nat, i ≤ n ∧ iv = .int .i64 i ∧ New w5 wr) (fun _ iv _ => n - (intOf iv).toNat)
            case atStart => exact ⟨0, by omega, by go_num, Chg.refl _ _⟩
            case round =>
              obtain ⟨i, hi, rfl, nw⟩ := hrel
              by_cases hlt : i < n
              · have hV := HF.out.2
                have hbd := H3.out.2.2.1.lvl_bd H3.out.2.2.2.1 hlt
                obtain ⟨gv, rfl, hgv, hgl⟩ := own_at H3.out.1 (by omega)
                have cv1 : wr.cell? ⟨gv, i, none⟩ = some (.int .i64 (V2.getD i 0)) := OwnI.cell (own_chg H3.out.1 (H5.out.trans nw fun _ _ => id) fun _ _ => id) (by omega)
                obtain ⟨u, hu⟩ : ∃ u, V2.getD i 0 = u := ⟨_, rfl⟩
                rw [hu] at cv1 hbd
                obtain ⟨hu0, hu1⟩ := hbd
                have hu2 : ¬ u < 0 := by omega
                have hii : (i : Int) < n := by omega
                have HX := Lib.hid nw
                clear hV nw hu
                go_wp2_with fail
                go_roundw
                case rel => exact ⟨i + 1, by omega, by go_num, HX.out⟩
                case measure => simp [intOf]; omega
              · obtain rfl : n = i := by omega
                have HZ := Lib.hid ((H3.out.2.2.2.2.trans H5.out fun _ _ => id).trans nw fun _ _ => id)
                clear nw
                go_wp2_with fail
                refine (CF.out _ HZ.out).mono ?_
                rintro e w6 ⟨vf, of, xf, af, Vf, rfl, of6, invf, n6⟩
                have hfl : of.length = n := invf.full_iff.2 (H3.out.2.1.2.full_iff.1 HF.out.1)
                rw [lefts_nil fun k hk => invf.all_in hfl hk] at of6
                obtain ⟨Af, cf, rfl⟩ := of6.form
                have HN := Lib.hid (HZ.out.trans n6 fun _ _ => id)
                clear of6 invf n6 hfl
                try simp only [List.length_nil]
                go_wp2_with fail
                go_ret
                exact ⟨rfl, HN.out⟩
  · rw [decide_eq_false hf, decide_eq_false (mt hfull.1 hf)]
    rw [if_neg hf] at o3
    obtain ⟨Av, cv, rfl⟩ := o3.form
    obtain ⟨k, hkn, hko⟩ := inv.some_out hf
    have ho := (inv.out_iff hkn).1 hko
    have HX := Lib.hid (And.intro hkn ho)
    have N3 := Lib.hid (H2.out.2.2.trans n3 fun _ _ => id)
    clear CL H2 N1 n3 hfull hf o3 h3 inv ho hkn hko
    go_wp2_with fail
    refine (CF.out _ N3.out).mono ?_
    rintro e w6 ⟨vf, of, xf, af, Vf, rfl, of6, invf, n6⟩
    have hpos := lefts_pos HX.out.1 ((invf.out_iff HX.out.1).2 HX.out.2)
    obtain ⟨Af, cf, rfl⟩ := of6.form
    obtain ⟨L, hL⟩ : ∃ L, (lefts of n).length = L := ⟨_, rfl⟩
    rw [hL] at hpos ⊢
    have hLi : (0 : Int) < L := by omega
    have HN := Lib.hid (N3.out.trans n6 fun _ _ => id)
    clear of6 invf n6 hL
    go_wp2_with fail
    go_ret
    exact ⟨rfl, HN.out⟩
theorem levelled_args {H : Type} {enc : TypeId × Value → H} {W : World} {base : Nat} {args : Array Value} {ds : List (DataW H)} {ps : List MemPlace}
    (hval : ∀ (j : Nat) t v, Try.f6.params[j]? = some t → args[j]? = some v → Value.okWide Try.prog W .any base t v)
    (hw : ∀ (j : Nat) t d, Try.f6.params.toList[j]? = some t → ds[j]? = some d → ∀ n ∈ d.weights Try.prog t, n ≤ reachBytes)
    (hA : DataW.TrodAll enc Try.prog W 0 (fun _ => true) true Try.f6.params.toList args.toList ds ps) :
    Calls Try.prog 6 args W fun e w' => LawEnd W e w' := by
  rw [Try.params6] at hA hval hw
  obtain ⟨v0, v1, d0, d1, p0, p1, rfl, rfl, rfl, h0, h1⟩ := trodAll_two hA
  have o0 := hval 0 _ v0 rfl rfl
  have q0 := hw 0 _ d0 rfl rfl
  have o1 := hval 1 _ v1 rfl rfl
  have q1 := hw 1 _ d1 rfl rfl
  obtain ⟨n, rfl, _, _⟩ := open_i64 Try.underlying3 o0 h0
  obtain ⟨A, m, c, xs, rfl, hx, _, _, hl, _⟩ := open_struct_ints (B := 16) (s := 2) Try.underlying22 Try.underlying35 (by kernel_rfl) rfl (by omega) (by kernel_rfl)
    (fun j f hj => by match j, hj with | 0, hj => (simp at hj; subst hj; exact Try.underlying3) | 1, hj => (simp at hj; subst hj; exact Try.underlying3)) (by kernel_rfl) (cells_slice Try.underlying22 o1) q1 h1
  obtain ⟨ps, hps, hP⟩ := PAt.of_reads hl hx
  exact lawLevelled W n m c A ps hP hps
end Topo
namespace lawTopoLevelled
theorem own : ownKnob Try.prog.godebug = none := by kernel_rfl
theorem laidOut : laidOutB Try.prog = true := by kernel_rfl
theorem reads : ∀ t ∈ Try.f6.params.toList, Try.prog.readableRec t = true ∧ t < Try.prog.types.size := by
  have h : (Try.f6.params.toList.all fun t => Try.prog.readableRec t && decide (t < Try.prog.types.size)) = true := by kernel_rfl
  intro t ht
  have := List.all_eq_true.1 h t ht
  simpa using this
theorem spec {H : Type} (ds : List (DataW H)) (h : ds.length = 2) : Rows.topoLevelledSpec.fn H ds = { results := [.lit (.bool true)], args := ds } := by
  match ds, h with
  | [d1, d2], _ => rfl
theorem trodAll_len {H : Type} {enc : TypeId × Value → H} {P : Program} {w : World} {base : Nat} {sp : Nat → Bool} {held : Bool} : ∀ (ts : List TypeId) (vs : List Value) (ds : List (DataW H)) (ps : List MemPlace),
    DataW.TrodAll enc P w base sp held ts vs ds ps → ds.length = ts.length
  | [], _, _, _, h => by
    obtain ⟨_, rfl, _⟩ := trodAll_nil h
    rfl
  | _ :: ts, _, _, _, h => by
    obtain ⟨_, vs, _, ds, _, _, _, rfl, _, _, hr⟩ := trodAll_cons h
    simp [trodAll_len ts vs ds _ hr]
theorem contract (H : Type) (enc : TypeId × Value → H) (W : World) (base : Nat) (args : Array Value) (ds gs : List (DataW H)) (before : List MemPlace)
    (hval : ∀ (j : Nat) t v, Try.f6.params[j]? = some t → args[j]? = some v → Value.okWide Try.prog W .any base t v)
    (hW : DataW.Whole enc Try.prog Try.f6.params.toList Rows.topoLevelledSpec.vars false W args.toList ds gs before)
    (hz : (DataW.weightsEach Try.prog (Try.f6.params.toList ++ Rows.topoLevelledSpec.plain.varTypes Try.prog) (ds ++ gs)).all (· ≤ reachBytes) = true) :
    Calls Try.prog 6 args W fun e W' => ∃ v, e = .returned v ∧ Rows.topoLevelledSpec.post enc Try.prog Try.f6 false true false false W args v W' := by
  obtain ⟨p, q, hA, hV, _⟩ := id hW
  have hlen : ds.length = 2 := (trodAll_len _ _ _ _ hA).trans (by kernel_rfl)
  have hV1 : DataW.TrodVars enc Try.prog W (fun _ => true) [] gs q := hV
  obtain ⟨rfl, rfl⟩ := trodVars_none hV1
  have hw : ∀ (j : Nat) t d, Try.f6.params.toList[j]? = some t → ds[j]? = some d → ∀ n ∈ d.weights Try.prog t, n ≤ reachBytes := by
    intro j t d ht hd n hn
    rw [List.append_nil] at hz
    have hlt : j < Try.f6.params.toList.length := (List.getElem?_eq_some_iff.1 ht).1
    have := List.all_eq_true.1 hz n (DataW.weights_mem_each (by rw [List.getElem?_append_left hlt]; exact ht) hd n hn)
    simpa using this
  refine (Topo.levelled_args hval hw hA).mono fun e W' ⟨he, hn⟩ => ?_
  exact ⟨_, he, law_post laidOut (tb := 4) rfl Try.underlying4 reads rfl hW (spec ds hlen) hn.below⟩
set_option maxRecDepth 100000 in
theorem lifted (os : Os) (started : os.Started) (H : Type) (enc : TypeId × Value → H) :
    ReturnsInHanded {} Try.checked os 6 .any (Rows.topoLevelledSpec.pre6 enc Try.prog Try.f6 Rows.topoLevelledRow.domain false) (Rows.topoLevelledSpec.post enc Try.prog Try.f6 false true false false) := by
  refine returnsInHanded_of_change_sized (C := Try.checked) own started (by kernel_rfl) Try.func6
    (ChangeSpec.witness6 (enc := enc) (C := Try.checked) (s := Rows.topoLevelledSpec) false ⟨#[], #[.int .i64 0, .slice none 0 0], []⟩ 60 (by kernel_rfl) (by kernel_rfl) (by kernel_rfl) (by kernel_rfl)) ?_
  intro W base args ds gs before hval hW _ hz _
  exact contract H enc W base args ds gs before hval hW hz
theorem proved : Rows.TopoLevelledSaid :=
  OpenClaim.holds_of_wide 6 Try.f6 rfl rfl rfl rfl rfl rfl rfl ⟨rfl, rfl, rfl, rfl, rfl⟩ rfl rfl rfl rfl rfl (by kernel_rfl) Try.func6 (by kernel_rfl)
    (of_decide_eq_true (by kernel_rfl)) (by unfold Func.isWrapper; first | (rw [if_pos (by decide +kernel)]; kernel_rfl) | (rw [if_neg (by decide +kernel)]; exact ⟨rfl, rfl⟩))
    (fun os started H enc _ => lifted os started H enc)
end lawTopoLevelled
end Go.Proofs.Ytonopommbpkfgaa

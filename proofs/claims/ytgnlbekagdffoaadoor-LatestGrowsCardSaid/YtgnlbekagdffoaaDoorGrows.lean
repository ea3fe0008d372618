/-
  LatestGrows, walked: true.
-/
import Derived.Test.YtgnlbekagdffoaaDoorGrow
namespace Go.Proofs.YtgnlbekagdffoaaDoor
set_option linter.unusedSimpArgs false
set_option linter.unusedVariables false
open Go.ChangeShapes Go.WideShapes Go.RowKit Go.Deep
namespace Lat
open MapR (MapAt KeyOk Rng)
attribute [local go_sem ↓] loadOnly0 loadOnly1 loadOnly2
set_option maxHeartbeats 20000000 in
set_option maxRecDepth 20000 in
theorem grows (hS : SortsC) (w : World) (hm : Val.MaxAt w) (A : Option Addr) (n cp : Nat) (l : List Cl) (hr : Reads w (fun b => b < w.heap.size) 6 A n (rowC l)) (hn : n ≤ 140737488351232)
    (hs : ∀ c ∈ l, c.name.size ≤ 140737488351232 ∧ c.txt.size ≤ 140737488351232) (hb : ∀ c ∈ l, -9223372036854775808 ≤ c.n ∧ c.n ≤ 9223372036854775807) :
    Calls Tryd.prog 6 #[.slice A n cp] w fun e w' => e = .returned (.bool true) ∧ New w w' := by
  have hl : l.length = n := by have := hr.len; rw [rowC_length] at this; omega
  have CF := Lib.hid (fixed hS w hm)
  have HA := Lib.hid (And.intro hr (And.intro hn (And.intro hs (And.intro hb (And.intro hm (And.intro hS hl))))))
  clear hr hn hs hb hm hS hl
  go_enter Tryd.func6, Tryd.ntmps6
  go_wp2_with fail
  refine CF.out.mono ?_
  rintro e w1 ⟨rfl, n1⟩
  have C1 := Lib.hid (few w1 A n cp l ((HA.out.1.chg n1 fun b hb => ⟨hb, id⟩).mono fun b hb => Nat.lt_of_lt_of_le hb n1.size) HA.out.2.1 HA.out.2.2.1)
  have N1 := Lib.hid n1
  clear n1 CF
  go_wp2_with fail
  refine C1.out.mono ?_
  rintro e w2 ⟨rfl, n2⟩
  have N2 := Lib.hid (N1.out.trans n2 fun _ _ => id)
  clear n2 C1
  obtain ⟨f, hf⟩ : ∃ f, fewB l = f := ⟨_, rfl⟩
  rw [hf]
  cases f
  · clear hf
    go_wp2_with fail
    go_ret
    exact ⟨rfl, N2.out⟩
  unfold fewB at hf
  rw [Bool.and_eq_true, List.all_eq_true, decide_eq_true_eq] at hf
  have hn80 : n ≤ 80 := by have := HA.out.2.2.2.2.2.2; omega
  have HF80 := Lib.hid hf.1
  clear hf
  have C2 := Lib.hid (new_ w2)
  go_wp2_with fail
  refine C2.out.mono ?_
  rintro e w3 ⟨rfl, h3, n3⟩
  have HM := Lib.hid (show w.heap.size ≤ w2.heap.size from N2.out.size)
  obtain ⟨b, hbe⟩ : ∃ b, w2.heap.size + 1 = b := ⟨_, rfl⟩
  obtain ⟨m, hme⟩ : ∃ m, w2.heap.size = m := ⟨_, rfl⟩
  rw [hbe, hme] at h3
  rw [hbe]
  rw [hme] at HM
  have N3 := Lib.hid (And.intro h3 (N2.out.trans n3 fun _ _ => id))
  clear h3 n3 C2 hbe hme N2 N1
  go_wp2_with fail
  go_loopw [23] (fun i wr => ∃ (k : Nat) (M : St), k ≤ n ∧ i = .int .i64 k ∧ At wr m b m M ∧ Few M k ∧ New w wr) (fun i _ => n - (intOf i).toNat)
  case atStart => exact ⟨0, none_, by omega, rfl, N3.out.1, Few.none, N3.out.2⟩
  case round =>
    obtain ⟨k, M, hk, rfl, hat, hfew, nw⟩ := hrel
    by_cases hlt : k < n
    · obtain ⟨c, hc⟩ : ∃ c, l[k]? = some c := ⟨_, List.getElem?_eq_getElem (by rw [HA.out.2.2.2.2.2.2]; exact hlt)⟩
      have hcm := List.mem_of_getElem? hc
      obtain ⟨ad, rfl, hld⟩ := ld_cl (HA.out.1.chg nw fun b hb => ⟨hb, id⟩) hc
      have HS := Lib.hid (show c.name.size ≤ 1000 ∧ c.txt.size ≤ 1000 ∧ (-9223372036854775808 ≤ c.n ∧ c.n ≤ 9223372036854775807) from by
        have := HF80.out c hcm
        unfold smallB at this
        rw [decide_eq_true_eq] at this
        exact ⟨by omega, by omega, HA.out.2.2.2.1 c hcm⟩)
      have hkn : (k : Int) < n := by omega
      have a5 := (Chg.refl (fun _ => False) wr).alloc (.cells #[.string c.name, .int .i64 c.t, .int .i64 c.r, .int .i64 c.k, .int .i64 c.n, .string c.txt] 33)
      have B5 := Blk.new wr 33 #[.string c.name, .int .i64 c.t, .int .i64 c.r, .int .i64 c.k, .int .i64 c.n, .string c.txt]
      have h5 := hat.new a5
      obtain ⟨d, e, t, s, o, ht, hd, hs, he, ho, f1, f2, f3⟩ := grow_facts M c
      have HV := Lib.hid (And.intro hd (And.intro he (And.intro ht (And.intro hs ho))))
      have HG := Lib.hid (And.intro f1 (And.intro f2 f3))
      have C1 := Lib.hid (get _ _ _ _ _ h5 c.name)
      rw [hd, ht] at C1
      have hnm := (blk_cell B5).2.2.2
      have HB := Lib.hid (And.intro B5 (And.intro h5 (nw.trans a5 fun _ _ => id)))
      have HF := Lib.hid (hfew.put c)
      have HF0 := Lib.hid hfew
      have HK := Lib.hid (counts_again M c)
      unfold Cl.val at hld C1
      have g5 := B5.lt
      clear hc hcm nw hat hfew a5 B5 h5 ht hd hs he ho f1 f2 f3
      go_wp2_with fail
      refine C1.out.mono ?_
      rintro x w6 ⟨rfl, n6⟩
      obtain ⟨g, hg⟩ : ∃ g, wr.heap.size = g := ⟨_, rfl⟩
      rw [hg] at HB hnm
      have a7 := n6.trans ((Chg.refl (fun _ => False) w6).alloc (.cells #[.string d.name, .int .i64 d.t, .int .i64 d.r, .int .i64 d.k, .int .i64 d.n, .string d.txt] 33)) fun _ _ => id
      have B7 := Blk.new w6 33 #[.string d.name, .int .i64 d.t, .int .i64 d.r, .int .i64 d.k, .int .i64 d.n, .string d.txt]
      have h7 := HB.out.2.1.new a7
      have C2 := Lib.hid (all HA.out.2.2.2.2.2.1 _ _ _ _ _ h7 k HF0.out (by omega))
      have HC := Lib.hid (And.intro (HB.out.1.chg a7 id) (And.intro B7 (And.intro h7 (HB.out.2.2.trans a7 fun _ _ => id))))
      clear n6 a7 B7 h7 hld C1 hnm
      go_wp2_with fail
      refine C2.out.mono ?_
      rintro x w8 ⟨u, L, rfl, ho, hA, hL, n8⟩
      obtain ⟨A1, cp1, rfl⟩ := ho.form
      obtain ⟨q, hq⟩ : ∃ q, L.length = q := ⟨_, rfl⟩
      have HL := Lib.hid (And.intro hA hq)
      rw [hq]
      obtain ⟨g2, hg2⟩ : ∃ g, w6.heap.size = g := ⟨_, rfl⟩
      rw [hg2] at HC
      have h8 := HC.out.2.2.1.new n8
      have B5 := HC.out.1.chg n8 id
      have B7 := HC.out.2.1.chg n8 id
      have N8 := HC.out.2.2.2.trans n8 fun _ _ => id
      have hld8 := (blk_cell B5).2.2.1
      have CP := Lib.hid (put_ _ _ _ _ _ h8 c HS.out.1 HS.out.2.1 HS.out.2.2 (HA.out.2.2.2.2.1.new N8))
      rw [HV.out.2.2.2.2] at CP
      obtain ⟨rc, hrc⟩ : ∃ z : Int, (if c.right = true then 0 else 1) = z := ⟨_, rfl⟩
      rw [hrc] at CP
      have HD := Lib.hid (And.intro h8 (And.intro B5 (And.intro B7 N8)))
      unfold Cl.val at hld8 CP
      have g58 := B5.lt
      have g78 := B7.lt
      clear ho hA hL n8 hq h8 B5 B7 N8 C2 HC hrc HB
      go_wp2_with fail
      refine CP.out.mono ?_
      rintro x w9 ⟨rfl, h9, c9⟩
      have B5 := HD.out.2.1.chg c9 (HD.out.1.ne_cell HD.out.2.1)
      have B7 := HD.out.2.2.1.chg c9 (HD.out.1.ne_cell HD.out.2.2.1)
      have N9 := HD.out.2.2.2.trans c9 fun i hi e => by have := HM.out; omega
      have hnm := (blk_cell B5).2.2.2
      have CG := Lib.hid (get w9 _ _ _ _ h9 c.name)
      rw [HV.out.2.1, HV.out.2.2.2.1] at CG
      have HE := Lib.hid (And.intro h9 (And.intro B5 (And.intro B7 N9)))
      have g59 := B5.lt
      have g79 := B7.lt
      unfold Cl.val at CG
      clear h9 c9 B5 B7 N9 CP hld8 HD g58 g78
      go_wp2_with fail
      refine CG.out.mono ?_
      rintro x w10 ⟨rfl, n10⟩
      have a11 := n10.trans ((Chg.refl (fun _ => False) w10).alloc (.cells #[.string e.name, .int .i64 e.t, .int .i64 e.r, .int .i64 e.k, .int .i64 e.n, .string e.txt] 33)) fun _ _ => id
      have B11 := Blk.new w10 33 #[.string e.name, .int .i64 e.t, .int .i64 e.r, .int .i64 e.k, .int .i64 e.n, .string e.txt]
      have B5 := HE.out.2.1.chg a11 id
      have B7 := HE.out.2.2.1.chg a11 id
      have h11 := HE.out.1.new a11
      have N11 := HE.out.2.2.2.trans a11 fun _ _ => id
      have l5 := (blk_cell B5).2.2.1
      have l7 := (blk_cell B7)
      have l11 := (blk_cell B11)
      obtain ⟨l7s, _, l7c, _⟩ := l7
      obtain ⟨l11s, _, l11c, _⟩ := l11
      have HC := Lib.hid (And.intro h11 (And.intro B5 N11))
      have HC2 := Lib.hid (And.intro B7 B11)
      obtain ⟨y, hy⟩ : ∃ y, decide (0 < orL [cmpI d.t e.t, cmpI d.r e.r]) = y := ⟨_, rfl⟩
      have CL := Lib.hid fun W => later W d.t d.r e.t e.r
      rw [hy] at HG CL
      have hself := selfC c
      have hself2 := selfC d
      have g511 := B5.lt
      have g711 := B7.lt
      have g1111 := B11.lt
      unfold Cl.val at l5 l7c l11c
      clear a11 B5 B7 B11 h11 N11 n10 CG HE hnm hy g59 g79
      cases o
      · obtain ⟨he1, hs1⟩ := HG.out.2.2 rfl
        subst he1 hs1
        cases t
        · have C6 := Lib.hid (put_ _ _ _ _ _ HC.out.1 c HS.out.1 HS.out.2.1 HS.out.2.2 (HA.out.2.2.2.2.1.new HC.out.2.2))
          unfold Cl.val at C6
          go_wp2_with fail
          refine C6.out.mono ?_
          rintro x w13 ⟨rfl, h13, c13⟩
          have N13 := Lib.hid (HC.out.2.2.trans c13 fun i hi e => by have := HM.out; omega)
          rw [put_no HK.out] at h13
          have C7 := Lib.hid (all HA.out.2.2.2.2.2.1 w13 _ _ _ _ h13 (k + 1) HF.out (by omega))
          have H13 := Lib.hid h13
          rw [HK.out]
          clear h13 c13 C6
          go_wp2_with fail
          all_goals
            refine C7.out.mono ?_
            rintro x w14 ⟨u2, L2, rfl, ho2, hA2, hL2, n14⟩
            have hge := all_len HL.out.1 hA2 fun x d hd => (H13.out.inv x d hd).1
            obtain ⟨A2, cp2, rfl⟩ := ho2.form
            have hge2 : ¬ ((L2.length : Int) < q) := by have := HL.out.2; omega
            obtain ⟨q2, hq2⟩ : ∃ q, L2.length = q := ⟨_, rfl⟩
            rw [hq2] at hge2 ⊢
            have HE := Lib.hid (And.intro (H13.out.new n14) (N13.out.trans n14 fun _ _ => id))
            have hw : IntKind.i64.wrap ((k : Int) + 1) = (k : Int) + 1 := IntWalk.i64_in _ (by omega)
            clear n14 ho2 hA2 hL2 C7 hge hq2
            go_wp2_with fail
            go_roundw
            case rel => exact ⟨k + 1, _, by omega, by go_num, HE.out.1, HF.out, HE.out.2⟩
            case measure => simp [intOf]; omega
        · obtain rfl : false = y := (HG.out.1 rfl).2.symm
          go_wp2_with fail
          refine (CL.out _).mono ?_
          rintro x w12 ⟨rfl, n12⟩
          have HC := Lib.hid (And.intro (HC.out.1.new n12) (And.intro (HC.out.2.1.chg n12 id) (HC.out.2.2.trans n12 fun _ _ => id)))
          have l7 := (blk_cell (HC2.out.1.chg n12 id)).2.2.1
          have l11 := (blk_cell (HC2.out.2.chg n12 id)).2.2.1
          have l5 := (blk_cell HC.out.2.1).2.2.1
          unfold Cl.val at l5 l7 l11
          clear n12 CL HC2
          have C6 := Lib.hid (put_ _ _ _ _ _ HC.out.1 c HS.out.1 HS.out.2.1 HS.out.2.2 (HA.out.2.2.2.2.1.new HC.out.2.2))
          unfold Cl.val at C6
          go_wp2_with fail
          refine C6.out.mono ?_
          rintro x w13 ⟨rfl, h13, c13⟩
          have N13 := Lib.hid (HC.out.2.2.trans c13 fun i hi e => by have := HM.out; omega)
          rw [put_no HK.out] at h13
          have C7 := Lib.hid (all HA.out.2.2.2.2.2.1 w13 _ _ _ _ h13 (k + 1) HF.out (by omega))
          have H13 := Lib.hid h13
          rw [HK.out]
          clear h13 c13 C6
          go_wp2_with fail
          all_goals
            refine C7.out.mono ?_
            rintro x w14 ⟨u2, L2, rfl, ho2, hA2, hL2, n14⟩
            have hge := all_len HL.out.1 hA2 fun x d hd => (H13.out.inv x d hd).1
            obtain ⟨A2, cp2, rfl⟩ := ho2.form
            have hge2 : ¬ ((L2.length : Int) < q) := by have := HL.out.2; omega
            obtain ⟨q2, hq2⟩ : ∃ q, L2.length = q := ⟨_, rfl⟩
            rw [hq2] at hge2 ⊢
            have HE := Lib.hid (And.intro (H13.out.new n14) (N13.out.trans n14 fun _ _ => id))
            have hw : IntKind.i64.wrap ((k : Int) + 1) = (k : Int) + 1 := IntWalk.i64_in _ (by omega)
            clear n14 ho2 hA2 hL2 C7 hge hq2
            go_wp2_with fail
            go_roundw
            case rel => exact ⟨k + 1, _, by omega, by go_num, HE.out.1, HF.out, HE.out.2⟩
            case measure => simp [intOf]; omega
      · obtain ⟨he1, hs1⟩ := HG.out.2.1 rfl
        subst he1 hs1
        cases t
        · have C6 := Lib.hid (put_ _ _ _ _ _ HC.out.1 c HS.out.1 HS.out.2.1 HS.out.2.2 (HA.out.2.2.2.2.1.new HC.out.2.2))
          unfold Cl.val at C6
          go_wp2_with fail
          refine C6.out.mono ?_
          rintro x w13 ⟨rfl, h13, c13⟩
          have N13 := Lib.hid (HC.out.2.2.trans c13 fun i hi e => by have := HM.out; omega)
          rw [put_no HK.out] at h13
          have C7 := Lib.hid (all HA.out.2.2.2.2.2.1 w13 _ _ _ _ h13 (k + 1) HF.out (by omega))
          have H13 := Lib.hid h13
          rw [HK.out]
          clear h13 c13 C6
          go_wp2_with fail
          all_goals
            refine C7.out.mono ?_
            rintro x w14 ⟨u2, L2, rfl, ho2, hA2, hL2, n14⟩
            have hge := all_len HL.out.1 hA2 fun x d hd => (H13.out.inv x d hd).1
            obtain ⟨A2, cp2, rfl⟩ := ho2.form
            have hge2 : ¬ ((L2.length : Int) < q) := by have := HL.out.2; omega
            obtain ⟨q2, hq2⟩ : ∃ q, L2.length = q := ⟨_, rfl⟩
            rw [hq2] at hge2 ⊢
            have HE := Lib.hid (And.intro (H13.out.new n14) (N13.out.trans n14 fun _ _ => id))
            have hw : IntKind.i64.wrap ((k : Int) + 1) = (k : Int) + 1 := IntWalk.i64_in _ (by omega)
            clear n14 ho2 hA2 hL2 C7 hge hq2
            go_wp2_with fail
            go_roundw
            case rel => exact ⟨k + 1, _, by omega, by go_num, HE.out.1, HF.out, HE.out.2⟩
            case measure => simp [intOf]; omega
        · obtain rfl : false = y := (HG.out.1 rfl).2.symm
          go_wp2_with fail
          refine (CL.out _).mono ?_
          rintro x w12 ⟨rfl, n12⟩
          have HC := Lib.hid (And.intro (HC.out.1.new n12) (And.intro (HC.out.2.1.chg n12 id) (HC.out.2.2.trans n12 fun _ _ => id)))
          have l7 := (blk_cell (HC2.out.1.chg n12 id)).2.2.1
          have l11 := (blk_cell (HC2.out.2.chg n12 id)).2.2.1
          have l5 := (blk_cell HC.out.2.1).2.2.1
          unfold Cl.val at l5 l7 l11
          clear n12 CL HC2
          have C6 := Lib.hid (put_ _ _ _ _ _ HC.out.1 c HS.out.1 HS.out.2.1 HS.out.2.2 (HA.out.2.2.2.2.1.new HC.out.2.2))
          unfold Cl.val at C6
          go_wp2_with fail
          refine C6.out.mono ?_
          rintro x w13 ⟨rfl, h13, c13⟩
          have N13 := Lib.hid (HC.out.2.2.trans c13 fun i hi e => by have := HM.out; omega)
          rw [put_no HK.out] at h13
          have C7 := Lib.hid (all HA.out.2.2.2.2.2.1 w13 _ _ _ _ h13 (k + 1) HF.out (by omega))
          have H13 := Lib.hid h13
          rw [HK.out]
          clear h13 c13 C6
          go_wp2_with fail
          all_goals
            refine C7.out.mono ?_
            rintro x w14 ⟨u2, L2, rfl, ho2, hA2, hL2, n14⟩
            have hge := all_len HL.out.1 hA2 fun x d hd => (H13.out.inv x d hd).1
            obtain ⟨A2, cp2, rfl⟩ := ho2.form
            have hge2 : ¬ ((L2.length : Int) < q) := by have := HL.out.2; omega
            obtain ⟨q2, hq2⟩ : ∃ q, L2.length = q := ⟨_, rfl⟩
            rw [hq2] at hge2 ⊢
            have HE := Lib.hid (And.intro (H13.out.new n14) (N13.out.trans n14 fun _ _ => id))
            have hw : IntKind.i64.wrap ((k : Int) + 1) = (k : Int) + 1 := IntWalk.i64_in _ (by omega)
            clear n14 ho2 hA2 hL2 C7 hge hq2
            go_wp2_with fail
            go_roundw
            case rel => exact ⟨k + 1, _, by omega, by go_num, HE.out.1, HF.out, HE.out.2⟩
            case measure => simp [intOf]; omega
    · obtain rfl : k = n := by omega
      have HN := Lib.hid nw
      clear nw hat hfew
      go_wp2_with fail
      go_ret
      exact ⟨rfl, HN.out⟩
end Lat
end Go.Proofs.YtgnlbekagdffoaaDoor

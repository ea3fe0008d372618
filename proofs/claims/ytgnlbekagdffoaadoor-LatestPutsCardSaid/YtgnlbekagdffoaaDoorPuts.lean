/-
  LatestPuts, walked: true.
-/
import Derived.Test.YtgnlbekagdffoaaDoorBest
namespace Go.Proofs.YtgnlbekagdffoaaDoor
set_option linter.unusedSimpArgs false
set_option linter.unusedVariables false
open Go.ChangeShapes Go.WideShapes Go.RowKit Go.Deep
namespace Lat
open MapR (MapAt KeyOk Rng)
attribute [local go_sem ↓] loadOnly0 loadOnly1 loadOnly2
set_option maxHeartbeats 20000000 in
set_option maxRecDepth 20000 in
theorem puts (hS : SortsC) (w : World) (hm : Val.MaxAt w) (A : Option Addr) (n cp : Nat) (l : List Cl) (nm : ByteArray) (hr : Reads w (fun b => b < w.heap.size) 6 A n (rowC l)) (hn : n ≤ 140737488351232)
    (hs : ∀ c ∈ l, c.name.size ≤ 140737488351232 ∧ c.txt.size ≤ 140737488351232) (hb : ∀ c ∈ l, -9223372036854775808 ≤ c.n ∧ c.n ≤ 9223372036854775807) :
    Calls Tryd.prog 3 #[.slice A n cp, .string nm] w fun e w' => e = .returned (.bool true) ∧ New w w' := by
  have hl : l.length = n := by have := hr.len; rw [rowC_length] at this; omega
  have CF := Lib.hid (fixed hS w hm)
  have HA := Lib.hid (And.intro hr (And.intro hn (And.intro hs (And.intro hb (And.intro hm (And.intro hS hl))))))
  clear hr hn hs hb hm hS hl
  obtain ⟨z, hz⟩ : ∃ z, nm.size = z := ⟨_, rfl⟩
  go_enter Tryd.func3, Tryd.ntmps3
  go_wp2_with fail
  refine CF.out.mono ?_
  rintro e w1 ⟨rfl, n1⟩
  have C1 := Lib.hid (few w1 A n cp l ((HA.out.1.chg n1 fun b hb => ⟨hb, id⟩).mono fun b hb => Nat.lt_of_lt_of_le hb n1.size) HA.out.2.1 HA.out.2.2.1)
  have N1 := Lib.hid n1
  clear n1 CF
  go_wp2_with fail
  refine C1.out.mono ?_
  rintro e w2 ⟨rfl, n2⟩
  have N2 := Lib.hid (N1.out.trans n2 fun _ _ => id)
  clear n2 C1
  obtain ⟨f, hf⟩ : ∃ f, fewB l = f := ⟨_, rfl⟩
  rw [hf]
  cases f
  · clear hf
    go_wp2_with fail
    go_ret
    exact ⟨rfl, N2.out⟩
  unfold fewB at hf
  rw [Bool.and_eq_true, List.all_eq_true, decide_eq_true_eq] at hf
  have hn80 : n ≤ 80 := by have := HA.out.2.2.2.2.2.2; omega
  have HF80 := Lib.hid hf.1
  clear hf
  by_cases hz2 : (100 : Int) < z
  · go_wp2_with fail
    go_ret
    exact ⟨rfl, N2.out⟩
  have C2 := Lib.hid (new_ w2)
  go_wp2_with fail
  refine C2.out.mono ?_
  rintro e w3 ⟨rfl, h3, n3⟩
  have hms := (show w2.heap.size < w3.heap.size by obtain ⟨ks, q, _⟩ := h3.map; exact q.lt)
  obtain ⟨b, hbe⟩ : ∃ b, w2.heap.size + 1 = b := ⟨_, rfl⟩
  obtain ⟨m, hme⟩ : ∃ m, w2.heap.size = m := ⟨_, rfl⟩
  have HM := Lib.hid (show w.heap.size ≤ m by rw [← hme]; exact N2.out.size)
  rw [hbe, hme] at h3
  rw [hbe]
  rw [hme] at hms
  have hmm := @run_makeMap Tryd.prog
  have a4 := (Chg.refl (fun _ => False) w3).alloc (.map #[] 0)
  have k4 := MapOf.made w3
  have N3 := Lib.hid (And.intro (h3.new a4) (And.intro k4 ((N2.out.trans n3 fun _ _ => id).trans a4 fun _ _ => id)))
  obtain ⟨g, hge⟩ : ∃ g, w3.heap.size = g := ⟨_, rfl⟩
  have HMG := Lib.hid (And.intro HM.out (show m < g by omega))
  rw [hge] at N3
  have HGE := Lib.hid hge
  clear h3 n3 C2 hbe hme N2 N1 a4 k4 hms HM
  go_wp2_with fail
  go_loopw [35] (fun i wr => ∃ (k : Nat) (M : St), k ≤ n ∧ i = .int .i64 k ∧ At wr m b m M ∧ MapOf wr g M ∧ Few M k ∧ (∀ y d, M y = some d → d.txt.size ≤ 1000) ∧ New w wr) (fun i _ => n - (intOf i).toNat)
  case atStart => exact ⟨0, none_, by omega, rfl, N3.out.1, N3.out.2.1, Few.none, (fun y d h => by simp [none_] at h), N3.out.2.2⟩
  case round =>
    obtain ⟨k, M, hk, rfl, hat, hmo, hfew, htx, nw⟩ := hrel
    by_cases hlt : k < n
    · obtain ⟨c, hc⟩ : ∃ c, l[k]? = some c := ⟨_, List.getElem?_eq_getElem (by rw [HA.out.2.2.2.2.2.2]; exact hlt)⟩
      have hcm := List.mem_of_getElem? hc
      obtain ⟨ad, rfl, hld⟩ := ld_cl (HA.out.1.chg nw fun b hb => ⟨hb, id⟩) hc
      have HS := Lib.hid (show c.name.size ≤ 1000 ∧ c.txt.size ≤ 1000 ∧ (-9223372036854775808 ≤ c.n ∧ c.n ≤ 9223372036854775807) from by
        have := HF80.out c hcm
        unfold smallB at this
        rw [decide_eq_true_eq] at this
        exact ⟨by omega, by omega, HA.out.2.2.2.1 c hcm⟩)
      have hkn : (k : Int) < n := by omega
      have a5 := (Chg.refl (fun _ => False) wr).alloc (.cells #[.string c.name, .int .i64 c.t, .int .i64 c.r, .int .i64 c.k, .int .i64 c.n, .string c.txt] 33)
      have B5 := Blk.new wr 33 #[.string c.name, .int .i64 c.t, .int .i64 c.r, .int .i64 c.k, .int .i64 c.n, .string c.txt]
      have nm5 := (blk_cell B5).2.2.2
      have g5 := B5.lt
      have k5 := hmo.new a5
      have lk5 := k5.look c.name
      have hcf := counts_form M c
      have hdt : ((M c.name).getD zCl).txt.size ≤ 1000 := by
        cases hq : M c.name with
        | none => decide
        | some d => exact htx _ d hq
      rw [valOf_cl] at lk5
      obtain ⟨d, hd⟩ : ∃ d, (M c.name).getD zCl = d := ⟨_, rfl⟩
      obtain ⟨t, ht⟩ : ∃ t, (M c.name).isSome = t := ⟨_, rfl⟩
      obtain ⟨v, hv⟩ : ∃ v, c.over d = v := ⟨_, rfl⟩
      obtain ⟨o, ho⟩ : ∃ o, counts M c = o := ⟨_, rfl⟩
      obtain ⟨cr, hcr⟩ : ∃ r, c.right = r := ⟨_, rfl⟩
      rw [hd] at lk5 hcf hdt
      rw [ht] at lk5 hcf
      rw [hv, ho, hcr] at hcf
      have CR := Lib.hid fun W => wright W c HS.out.1 HS.out.2.1
      have CH := Lib.hid fun W => ahead W c d HS.out.2.1 hdt
      rw [hcr] at CR
      rw [hv] at CH
      have HO := Lib.hid ho
      have HR := Lib.hid (show (if c.right = true then 0 else 1 : Int) = if cr = true then 0 else 1 by rw [hcr])
      have a6 := a5.alloc (.cells #[.string d.name, .int .i64 d.t, .int .i64 d.r, .int .i64 d.k, .int .i64 d.n, .string d.txt] 33)
      have B6 := B5.alloc (.cells #[.string d.name, .int .i64 d.t, .int .i64 d.r, .int .i64 d.k, .int .i64 d.n, .string d.txt] 33)
      have D6 := Blk.new1 wr (.cells #[.string c.name, .int .i64 c.t, .int .i64 c.r, .int .i64 c.k, .int .i64 c.n, .string c.txt] 33) 33 #[.string d.name, .int .i64 d.t, .int .i64 d.r, .int .i64 d.k, .int .i64 d.n, .string d.txt]
      have l6 := (blk_cell B6).2.2.1
      have HX := Lib.hid (And.intro (hat.new a6) (And.intro (hmo.new a6) (And.intro B6 (nw.trans a6 fun _ _ => id))))
      have HD := Lib.hid D6
      have HF := Lib.hid (hfew.put c)
      have HTx := Lib.hid htx
      unfold Cl.val at hld lk5 l6 CR CH
      have g6 := B6.lt
      have gd6 := D6.lt
      clear hc hcm nw hat hmo hfew htx a5 B5 k5 a6 B6 D6 hd ht hv ho hcr hdt
      go_wp2_with fail
      refine (CR.out _).mono ?_
      rintro x w7 ⟨rfl, n7⟩
      have HX := Lib.hid (And.intro (HX.out.1.new n7) (And.intro (HX.out.2.1.new n7) (And.intro (HX.out.2.2.1.chg n7 id) (HX.out.2.2.2.trans n7 fun _ _ => id))))
      have HD := Lib.hid (HD.out.chg n7 id)
      clear n7 hld lk5 l6 nm5 g5 g6 gd6
      cases cr
      · obtain rfl : o = false := by simpa using hcf
        clear hcf
        have CP := Lib.hid (put_ _ _ _ _ _ HX.out.1 c HS.out.1 HS.out.2.1 HS.out.2.2 (HA.out.2.2.2.2.1.new HX.out.2.2.2))
        rw [HO.out, HR.out] at CP
        have l8 := (blk_cell HX.out.2.2.1).2.2.1
        have g8 := HX.out.2.2.1.lt
        unfold Cl.val at CP l8
        go_wp2_with fail
        refine CP.out.mono ?_
        rintro x w9 ⟨rfl, h9, c9⟩
        have k9 := HX.out.2.1.chg c9 (fun e => by have := HMG.out.2; omega)
        have B9 := HX.out.2.2.1.chg c9 (HX.out.1.ne_cell HX.out.2.2.1)
        have N9 := HX.out.2.2.2.trans c9 fun i hi e => by have := HMG.out.1; omega
        have HX := Lib.hid (And.intro h9 (And.intro k9 (And.intro B9 N9)))
        have l9 := (blk_cell B9).2.2.1
        have g9 := B9.lt
        unfold Cl.val at l9
        clear h9 c9 k9 B9 N9 CP l8 g8
        go_wp2_with fail
        refine (CR.out _).mono ?_
        rintro x w10 ⟨rfl, n10⟩
        have h10 := HX.out.1.new n10
        have k10 := HX.out.2.1.new n10
        have B10 := HX.out.2.2.1.chg n10 id
        have N10 := HX.out.2.2.2.trans n10 fun _ _ => id
        have l10 := (blk_cell B10).2.2.1
        have nm10 := (blk_cell B10).2.2.2
        have g10 := B10.lt
        rw [put_no HO.out] at h10
        have HE := Lib.hid (And.intro h10 (And.intro k10 N10))
        have hw : IntKind.i64.wrap ((k : Int) + 1) = (k : Int) + 1 := IntWalk.i64_in _ (by omega)
        clear h10 k10 B10 N10 l10 nm10 g10 n10
        go_wp2_with fail
        go_roundw
        case rel => exact ⟨k + 1, M, by omega, by go_num, HE.out.1, HE.out.2.1, by have := HF.out; rwa [put_no HO.out] at this, HTx.out, HE.out.2.2⟩
        case measure => simp [intOf]; omega
      · cases t
        · obtain rfl : o = true := by simpa using hcf
          clear hcf
          have CP := Lib.hid (put_ _ _ _ _ _ HX.out.1 c HS.out.1 HS.out.2.1 HS.out.2.2 (HA.out.2.2.2.2.1.new HX.out.2.2.2))
          rw [HO.out, HR.out] at CP
          have l8 := (blk_cell HX.out.2.2.1).2.2.1
          have g8 := HX.out.2.2.1.lt
          unfold Cl.val at CP l8
          go_wp2_with fail
          refine CP.out.mono ?_
          rintro x w9 ⟨rfl, h9, c9⟩
          have k9 := HX.out.2.1.chg c9 (fun e => by have := HMG.out.2; omega)
          have B9 := HX.out.2.2.1.chg c9 (HX.out.1.ne_cell HX.out.2.2.1)
          have N9 := HX.out.2.2.2.trans c9 fun i hi e => by have := HMG.out.1; omega
          have HX := Lib.hid (And.intro h9 (And.intro k9 (And.intro B9 N9)))
          have l9 := (blk_cell B9).2.2.1
          have g9 := B9.lt
          unfold Cl.val at l9
          clear h9 c9 k9 B9 N9 CP l8 g8
          go_wp2_with fail
          refine (CR.out _).mono ?_
          rintro x w10 ⟨rfl, n10⟩
          have h10 := HX.out.1.new n10
          have k10 := HX.out.2.1.new n10
          have B10 := HX.out.2.2.1.chg n10 id
          have N10 := HX.out.2.2.2.trans n10 fun _ _ => id
          have l10 := (blk_cell B10).2.2.1
          have nm10 := (blk_cell B10).2.2.2
          have g10 := B10.lt
          obtain ⟨w11, hrun, k11, c11⟩ := k10.store c
          unfold Cl.val at hrun
          have h11 := h10.chg c11 (k10.ne_cell h10.blk) (by have := HMG.out.2; omega)
          have N11 := N10.trans c11 fun i hi e => by have := HMG.out; omega
          rw [← put_upd HO.out] at k11
          have HE := Lib.hid (And.intro h11 (And.intro k11 N11))
          have hw : IntKind.i64.wrap ((k : Int) + 1) = (k : Int) + 1 := IntWalk.i64_in _ (by omega)
          unfold Cl.val at l10
          clear h10 k10 B10 N10 h11 k11 c11 N11 n10
          go_wp2_with fail
          go_roundw
          case rel => exact ⟨k + 1, put M c, by omega, by go_num, HE.out.1, HE.out.2.1, HF.out, put_txt HTx.out HS.out.2.1, HE.out.2.2⟩
          case measure => simp [intOf]; omega
        · have l7 := (blk_cell HX.out.2.2.1).2.2.1
          have e7 := (blk_cell HD.out).2.2.1
          have g7 := HX.out.2.2.1.lt
          have gd7 := HD.out.lt
          unfold Cl.val at l7 e7
          go_wp2_with fail
          refine (CH.out _).mono ?_
          rintro x w8 ⟨rfl, n8⟩
          have HX := Lib.hid (And.intro (HX.out.1.new n8) (And.intro (HX.out.2.1.new n8) (And.intro (HX.out.2.2.1.chg n8 id) (HX.out.2.2.2.trans n8 fun _ _ => id))))
          clear n8 l7 e7 g7 gd7 HD CH
          cases v
          · obtain rfl : o = false := by simpa using hcf
            clear hcf
            have CP := Lib.hid (put_ _ _ _ _ _ HX.out.1 c HS.out.1 HS.out.2.1 HS.out.2.2 (HA.out.2.2.2.2.1.new HX.out.2.2.2))
            rw [HO.out, HR.out] at CP
            have l8 := (blk_cell HX.out.2.2.1).2.2.1
            have g8 := HX.out.2.2.1.lt
            unfold Cl.val at CP l8
            go_wp2_with fail
            refine CP.out.mono ?_
            rintro x w9 ⟨rfl, h9, c9⟩
            have k9 := HX.out.2.1.chg c9 (fun e => by have := HMG.out.2; omega)
            have B9 := HX.out.2.2.1.chg c9 (HX.out.1.ne_cell HX.out.2.2.1)
            have N9 := HX.out.2.2.2.trans c9 fun i hi e => by have := HMG.out.1; omega
            have HX := Lib.hid (And.intro h9 (And.intro k9 (And.intro B9 N9)))
            have l9 := (blk_cell B9).2.2.1
            have g9 := B9.lt
            unfold Cl.val at l9
            clear h9 c9 k9 B9 N9 CP l8 g8
            go_wp2_with fail
            refine (CR.out _).mono ?_
            rintro x w10 ⟨rfl, n10⟩
            have h10 := HX.out.1.new n10
            have k10 := HX.out.2.1.new n10
            have B10 := HX.out.2.2.1.chg n10 id
            have N10 := HX.out.2.2.2.trans n10 fun _ _ => id
            have l10 := (blk_cell B10).2.2.1
            have nm10 := (blk_cell B10).2.2.2
            have g10 := B10.lt
            rw [put_no HO.out] at h10
            have HE := Lib.hid (And.intro h10 (And.intro k10 N10))
            have hw : IntKind.i64.wrap ((k : Int) + 1) = (k : Int) + 1 := IntWalk.i64_in _ (by omega)
            clear h10 k10 B10 N10 l10 nm10 g10 n10
            go_wp2_with fail
            go_roundw
            case rel => exact ⟨k + 1, M, by omega, by go_num, HE.out.1, HE.out.2.1, by have := HF.out; rwa [put_no HO.out] at this, HTx.out, HE.out.2.2⟩
            case measure => simp [intOf]; omega
          · obtain rfl : o = true := by simpa using hcf
            clear hcf
            have CP := Lib.hid (put_ _ _ _ _ _ HX.out.1 c HS.out.1 HS.out.2.1 HS.out.2.2 (HA.out.2.2.2.2.1.new HX.out.2.2.2))
            rw [HO.out, HR.out] at CP
            have l8 := (blk_cell HX.out.2.2.1).2.2.1
            have g8 := HX.out.2.2.1.lt
            unfold Cl.val at CP l8
            go_wp2_with fail
            refine CP.out.mono ?_
            rintro x w9 ⟨rfl, h9, c9⟩
            have k9 := HX.out.2.1.chg c9 (fun e => by have := HMG.out.2; omega)
            have B9 := HX.out.2.2.1.chg c9 (HX.out.1.ne_cell HX.out.2.2.1)
            have N9 := HX.out.2.2.2.trans c9 fun i hi e => by have := HMG.out.1; omega
            have HX := Lib.hid (And.intro h9 (And.intro k9 (And.intro B9 N9)))
            have l9 := (blk_cell B9).2.2.1
            have g9 := B9.lt
            unfold Cl.val at l9
            clear h9 c9 k9 B9 N9 CP l8 g8
            go_wp2_with fail
            refine (CR.out _).mono ?_
            rintro x w10 ⟨rfl, n10⟩
            have h10 := HX.out.1.new n10
            have k10 := HX.out.2.1.new n10
            have B10 := HX.out.2.2.1.chg n10 id
            have N10 := HX.out.2.2.2.trans n10 fun _ _ => id
            have l10 := (blk_cell B10).2.2.1
            have nm10 := (blk_cell B10).2.2.2
            have g10 := B10.lt
            obtain ⟨w11, hrun, k11, c11⟩ := k10.store c
            unfold Cl.val at hrun
            have h11 := h10.chg c11 (k10.ne_cell h10.blk) (by have := HMG.out.2; omega)
            have N11 := N10.trans c11 fun i hi e => by have := HMG.out; omega
            rw [← put_upd HO.out] at k11
            have HE := Lib.hid (And.intro h11 (And.intro k11 N11))
            have hw : IntKind.i64.wrap ((k : Int) + 1) = (k : Int) + 1 := IntWalk.i64_in _ (by omega)
            unfold Cl.val at l10
            clear h10 k10 B10 N10 h11 k11 c11 N11 n10
            go_wp2_with fail
            go_roundw
            case rel => exact ⟨k + 1, put M c, by omega, by go_num, HE.out.1, HE.out.2.1, HF.out, put_txt HTx.out HS.out.2.1, HE.out.2.2⟩
            case measure => simp [intOf]; omega
    · obtain rfl : k = n := by omega
      have CA := Lib.hid (all HA.out.2.2.2.2.2.1 wr _ _ _ _ hat k hfew (by omega))
      have HP := Lib.hid (And.intro hat (And.intro hmo nw))
      clear hat hmo hfew htx nw
      go_wp2_with fail
      refine CA.out.mono ?_
      rintro x w12 ⟨u, L, rfl, ho, hAl, hL, n12⟩
      obtain ⟨A1, cp1, rfl⟩ := ho.form
      obtain ⟨q, hq⟩ : ∃ q, L.length = q := ⟨_, rfl⟩
      have HL := Lib.hid (And.intro ho (And.intro hAl hq))
      have HP := Lib.hid (And.intro (HP.out.1.new n12) (And.intro (HP.out.2.1.new n12) (HP.out.2.2.trans n12 fun _ _ => id)))
      rw [hq]
      have hqk : q ≤ k := by omega
      clear ho hAl hL n12 hq CA
      go_wp2_with fail
      go_loopw [91] (fun i wx => ∃ j : Nat, j ≤ q ∧ i = .int .i64 j ∧ New w12 wx) (fun i _ => q - (intOf i).toNat)
      case atStart => exact ⟨0, by omega, rfl, Chg.refl _ _⟩
      case round =>
        obtain ⟨j, hj, rfl, nw⟩ := hrel
        by_cases hlt : j < q
        · obtain ⟨e, he⟩ : ∃ e, L[j]? = some e := ⟨_, List.getElem?_eq_getElem (by rw [HL.out.2.2]; exact hlt)⟩
          have ow := own_chg HL.out.1 nw fun _ _ => id
          rw [HL.out.2.2] at ow
          obtain ⟨ad, rfl, hld⟩ := ld_cl (Reads.of_own ow) he
          have B1 := Blk.new wr 33 #[.string e.name, .int .i64 e.t, .int .i64 e.r, .int .i64 e.k, .int .i64 e.n, .string e.txt]
          have a1 := nw.trans ((Chg.refl (fun _ => False) wr).alloc (.cells #[.string e.name, .int .i64 e.t, .int .i64 e.r, .int .i64 e.k, .int .i64 e.n, .string e.txt] 33)) fun _ _ => id
          have nm1 := fun x : ChgW (fun _ => False) (wr.alloc (.cells #[.string e.name, .int .i64 e.t, .int .i64 e.r, .int .i64 e.k, .int .i64 e.n, .string e.txt] 33)) => (blk_cell (B1.chg x.chg id)).2.2.2
          have l1 := fun x : ChgW (fun _ => False) (wr.alloc (.cells #[.string e.name, .int .i64 e.t, .int .i64 e.r, .int .i64 e.k, .int .i64 e.n, .string e.txt] 33)) => (blk_cell (B1.chg x.chg id)).2.2.1
          have l0 := (blk_cell B1).2.2.1
          have hmw := HP.out.2.1.new a1
          have lk1 := fun x : ChgW (fun _ => False) (wr.alloc (.cells #[.string e.name, .int .i64 e.t, .int .i64 e.r, .int .i64 e.k, .int .i64 e.n, .string e.txt] 33)) => (hmw.new x.chg).look1 e.name
          have hMe := (HL.out.2.1.mem e).1 (List.mem_of_getElem? he)
          simp only [valOf_some hMe] at lk1
          have sf := selfC e
          have g1 := B1.lt
          have hji : (j : Int) < q := by omega
          have ow2 := own_chg HL.out.1 a1 fun _ _ => id
          rw [HL.out.2.2] at ow2
          obtain ⟨ad2, had, _, hcc⟩ := (Reads.of_own ow2).2 (by omega)
          injection had with had
          subst had
          have HN := Lib.hid a1
          have hw : IntKind.i64.wrap ((j : Int) + 1) = (j : Int) + 1 := IntWalk.i64_in _ (by omega)
          unfold Cl.val at hld l1 lk1 l0
          by_cases hj0 : (0 : Int) < j
          · have hj1 : 0 < j := by omega
            have hj2 : decide ((0 : Int) < (j : Int)) = true := decide_eq_true hj0
            obtain ⟨p, hp⟩ : ∃ p, j = p + 1 := ⟨j - 1, by omega⟩
            obtain ⟨d, hd⟩ : ∃ d, L[p]? = some d := ⟨_, List.getElem?_eq_getElem (by rw [HL.out.2.2]; omega)⟩
            have hls := name_less HL.out.2.1 hd (by rw [← hp]; exact he)
            have hcd0 := hcc (p * 6) (.string d.name) (by rw [show p * 6 = p * 6 + 0 from rfl, rowC_get hd (by omega)]; rfl)
            have hcd := fun x : ChgW (fun _ => False) (wr.alloc (.cells #[.string e.name, .int .i64 e.t, .int .i64 e.r, .int .i64 e.k, .int .i64 e.n, .string e.txt] 33)) => (x.chg.cell (block_lt_of_cell hcd0) id).trans hcd0
            have hpi : IntKind.i64.wrap ((j : Int) - 1) = (p : Int) := (IntWalk.i64_in _ (by omega)).trans (by omega)
            have hpq : (p : Int) < q := by omega
            clear ow ow2 nw B1 a1 hmw hMe hcc he hd hp hcd0
            go_wp2_with fail
            refine wp_region_chg (fun _ => False) (by kernel_rfl) (by kernel_rfl) ?_
            repeat (go_big_quiet_step (fail))
            refine wpQuiet_nil ?_
            rintro ⟨wq, hq⟩
            simp only []
            go_wp2_with fail
            go_roundw
            case rel => exact ⟨j + 1, by omega, by go_num, HN.out.trans hq fun _ _ => id⟩
            case measure => simp [intOf]; omega
          · obtain rfl : j = 0 := by omega
            rw [Nat.zero_mul] at hld
            have hld2 := hld
            rw [show ad.add 0 = ad from rfl] at hld2
            have hq0 : 0 < q := by omega
            clear ow ow2 nw B1 a1 hmw hMe hcc he
            go_wp2_with fail
            refine wp_region_chg (fun _ => False) (by kernel_rfl) (by kernel_rfl) ?_
            repeat (go_big_quiet_step (fail))
            refine wpQuiet_nil ?_
            rintro ⟨wq, hq⟩
            simp only []
            go_wp2_with fail
            go_roundw
            case rel => exact ⟨1, by omega, by go_num, HN.out.trans hq fun _ _ => id⟩
            case measure => simp [intOf]; omega
        · obtain rfl : j = q := by omega
          have CG := Lib.hid (get wr _ _ _ _ (HP.out.1.new nw) nm)
          obtain ⟨d, hd⟩ : ∃ d : Cl, valOf M nm = d.val := ⟨_, valOf_cl ..⟩
          obtain ⟨t, ht⟩ : ∃ t, (M nm).isSome = t := ⟨_, rfl⟩
          have HV := Lib.hid (And.intro hd ht)
          rw [hd, ht] at CG
          have HN := Lib.hid nw
          unfold Cl.val at CG
          clear nw hd ht
          go_wp2_with fail
          refine CG.out.mono ?_
          rintro x w14 ⟨rfl, n14⟩
          have a15 := (HN.out.trans n14 fun _ _ => id).trans ((Chg.refl (fun _ => False) w14).alloc (.cells #[.string d.name, .int .i64 d.t, .int .i64 d.r, .int .i64 d.k, .int .i64 d.n, .string d.txt] 33)) fun _ _ => id
          have a16 := a15.trans ((Chg.refl (fun _ => False) _).alloc (.cells #[.string d.name, .int .i64 d.t, .int .i64 d.r, .int .i64 d.k, .int .i64 d.n, .string d.txt] 33)) fun _ _ => id
          have B15 := Blk.new w14 33 #[.string d.name, .int .i64 d.t, .int .i64 d.r, .int .i64 d.k, .int .i64 d.n, .string d.txt]
          have B16 := B15.alloc (.cells #[.string d.name, .int .i64 d.t, .int .i64 d.r, .int .i64 d.k, .int .i64 d.n, .string d.txt] 33)
          have D16 := Blk.new1 w14 (.cells #[.string d.name, .int .i64 d.t, .int .i64 d.r, .int .i64 d.k, .int .i64 d.n, .string d.txt] 33) 33 #[.string d.name, .int .i64 d.t, .int .i64 d.r, .int .i64 d.k, .int .i64 d.n, .string d.txt]
          have lk := (HP.out.2.1.new a15).look nm
          rw [HV.out.1, HV.out.2] at lk
          have l16 := (blk_cell B16).2.2.1
          have e16 := (blk_cell D16).2.2.1
          have hlen := (HP.out.2.1.new a16).len HL.out.2.1 fun x c hx => (HP.out.1.inv x c hx).1
          rw [HL.out.2.2] at hlen
          have sf := selfE d
          have HE := Lib.hid (HP.out.2.2.trans a16 fun _ _ => id)
          have g16 := B16.lt
          have gd16 := D16.lt
          unfold Cl.val at lk l16 e16
          clear n14 a15 a16 B15 B16 D16 CG
          cases t
          · go_wp2_with fail
            go_ret
            exact ⟨rfl, HE.out⟩
          · go_wp2_with fail
            go_ret
            exact ⟨rfl, HE.out⟩
end Lat
end Go.Proofs.YtgnlbekagdffoaaDoor

/-
  hedgerowlaw04.FrameReads returns true for every input: which payloads any bytes have, where they end, and what is wrong there, is what the document says (no condition).
-/
import Derived.Test.YtbbneefcjancbaaFrameLaw
import Derived.Test.YtbbneefcjancbaaOpen
import Derived.Outline
namespace Go.Proofs.Ytbbneefcjancbaa
open Go.ChangeShapes Go.WideShapes Go.RowKit
namespace Frame
set_option maxHeartbeats 20000000 in
set_option maxRecDepth 100000 in
theorem reads (w : World) (A : Option Addr) (n c : Nat) (l : List UInt8) (z : Int) (hz1 : -9223372036854775808 ≤ z) (hz2 : z ≤ 9223372036854775807) (hnc : n ≤ c) (hn : n ≤ 140737488351232)
    (hl : Reads w (fun b => b < w.heap.size) 1 A n (u8s l)) :
    Calls Try.prog 3 #[.slice A n c, .int .i64 z] w fun e w' => LawEnd w e w' := by
  by_cases hbig : 400 < (n : Int)
  · go_enter Try.func3, Try.ntmps3
    go_wp2_with fail
    refine (fixed _).mono ?_
    rintro e w1 ⟨rfl, n1⟩
    go_wp2
    go_ret
    exact ⟨rfl, n1⟩
  · have hln := hl.u8len
    have hpre : ∀ w', New w w' → Reads w' (fun b => b < w.heap.size) 1 A n (u8s l) := fun _ h => hl.chg' h (fun _ _ => id) (by omega)
    have hlt : ∀ w', New w w' → ∀ b, b < w.heap.size → b < w'.heap.size := fun _ h b hb => Nat.lt_of_lt_of_le hb h.size
    have HP := Lib.hid hpre
    have HF := Lib.hid hlt
    clear hpre hlt
    obtain ⟨PS, X, G, hA⟩ : ∃ ps x g, allF l = (ps, x, g) := ⟨_, _, _, rfl⟩
    have HA := Lib.hid hA
    have hpl : PS.length ≤ n + 1 := by
      have := allF_len l
      rw [hA, hln] at this
      exact this
    obtain ⟨L, hL⟩ : ∃ L, PS.length = L := ⟨_, rfl⟩
    rw [hL] at hpl
    have HPL := Lib.hid hL
    clear hA hL
    have hNle := takeN_le l
    rw [hln] at hNle
    have HLn := Lib.hid hln
    clear hln
    have hzc : (z < 0 ∧ (if 0 ≤ z ∧ z ≤ 1048576 then z + 8 else 0) = 0) ∨ (1048576 < z ∧ (if 0 ≤ z ∧ z ≤ 1048576 then z + 8 else 0) = 0) ∨ ((0 ≤ z ∧ z ≤ 1048576) ∧ (if 0 ≤ z ∧ z ≤ 1048576 then z + 8 else 0) = z + 8) := by
      by_cases h1 : z < 0
      · exact .inl ⟨h1, if_neg (by omega)⟩
      · by_cases h2 : 1048576 < z
        · exact .inr (.inl ⟨h2, if_neg (by omega)⟩)
        · exact .inr (.inr ⟨by omega, if_pos (by omega)⟩)
    by_cases hE : takeE l = 0
    · by_cases hN : takeN l < n
      · have HE := Lib.hid hE
        obtain ⟨N, hN2⟩ : ∃ N, takeN l = N := ⟨_, rfl⟩
        have HN := Lib.hid hN2
        have hW : wholeE l = 2 := by
          unfold wholeE
          rw [if_neg (fun h => h hE), if_pos (by rw [HLn.out]; exact hN)]
        have HW := Lib.hid hW
        rw [hN2] at hN hNle
        have hNi : (N : Int) < n := by omega
        clear hE hN2 hW hN
        rcases hzc with ⟨hz, hzz⟩ | ⟨hz, hzz⟩ | ⟨⟨hz, hz'⟩, hzz⟩
        all_goals
          have HZ := Lib.hid hzz
          clear hzz
          go_enter Try.func3, Try.ntmps3
          clear hl
          go_wp2_with fail
          refine (fixed _).mono ?_
          rintro e w1 ⟨rfl, n1⟩
          have k1 := take w1 _ A n c l (HP.out _ n1) (HF.out _ n1) hnc (by omega)
          rw [HE.out, HN.out] at k1
          go_wp2_with fail
          refine k1.mono ?_
          clear k1
          rintro e w2 ⟨v2, rfl, o2, m2⟩
          have n2 := n1.trans m2 fun _ _ => id
          have k1 := ref_take w2 _ A n c l (HP.out _ n2) (HF.out _ n2) hnc (by omega)
          rw [HE.out, HN.out] at k1
          go_wp2_with fail
          refine k1.mono ?_
          clear k1
          rintro e w3 ⟨v3, rfl, o3, m3⟩
          have n3 := n2.trans m3 fun _ _ => id
          have o23 := own_chg o2 m3 fun _ _ => id
          clear m2 o2 m3 n2 n1
          have k1 := all_ w3 _ A n c l (HP.out _ n3) (HF.out _ n3) hnc (by omega) (by omega)
          rw [HA.out] at k1
          go_wp2_with fail
          refine k1.mono ?_
          clear k1
          rintro e w4 ⟨v4, rfl, o4, m4⟩
          have n4 := n3.trans m4 fun _ _ => id
          have o24 := own_chg o23 m4 fun _ _ => id
          have o34 := o3.new m4
          clear o23 o3 m4 n3
          have k1 := ref_all w4 _ A n c l (HP.out _ n4) (HF.out _ n4) hnc (by omega) (by omega)
          rw [HA.out] at k1
          go_wp2_with fail
          refine k1.mono ?_
          clear k1
          rintro e w5 ⟨v5, rfl, o5, m5⟩
          have n5 := n4.trans m5 fun _ _ => id
          have o25 := own_chg o24 m5 fun _ _ => id
          have o35 := o34.new m5
          have o45 := o4.new m5
          clear o24 o34 o4 m5 n4
          have k1 := whole w5 _ A n c l (HP.out _ n5) (HF.out _ n5) hnc (by omega)
          rw [HW.out] at k1
          go_wp2_with fail
          refine k1.mono ?_
          clear k1
          rintro e w6 ⟨v6, rfl, o6, m6⟩
          have n6 := n5.trans m6 fun _ _ => id
          have o26 := own_chg o25 m6 fun _ _ => id
          have o36 := o35.new m6
          have s2 := own_str o26 (Chg.refl _ w6)
          have s3 := o36.str
          skip
          have C := Lib.hid (same w6 _ _ _ _ (o45.new m6).toR (o5.new m6).toR (by rw [HPL.out]; omega))
          have HO2 := Lib.hid o26
          have HO3 := Lib.hid o36
          have HO6 := Lib.hid o6
          clear o25 o35 o45 o5 m6 n5 o26 o36 o6
          have heq : ((l == l) = true) := beq_self_eq_true _
          clear heq
          go_wp2_with fail
          refine C.out.mono ?_
          rintro e w7 ⟨rfl, m7⟩
          rw [show (PS == PS) = true from beq_self_eq_true _]
          have n7 := n6.trans m7 fun _ _ => id
          skip
          clear s2 s3 m7
          go_wp2_with fail
          refine (size w7 z (by omega)).mono ?_
          rintro e w8 ⟨rfl, rfl⟩
          rw [HZ.out]
          go_wp2
          go_ret
          exact ⟨rfl, n7⟩

      · have HE := Lib.hid hE
        have hN2 : takeN l = n := by omega
        have HN := Lib.hid hN2
        have hW : wholeE l = 0 ∧ wholeP l = takeP l := by
          unfold wholeE wholeP
          rw [if_neg (fun h => h hE), if_neg (by rw [HLn.out, hN2]; omega), if_pos ⟨hE, by rw [HLn.out]; exact hN2⟩]
          exact ⟨rfl, rfl⟩
        have HW := Lib.hid hW.1
        have HWP := Lib.hid hW.2
        clear hE hN2 hW hN hNle
        rcases hzc with ⟨hz, hzz⟩ | ⟨hz, hzz⟩ | ⟨⟨hz, hz'⟩, hzz⟩
        all_goals
          have HZ := Lib.hid hzz
          clear hzz
          go_enter Try.func3, Try.ntmps3
          clear hl
          go_wp2_with fail
          refine (fixed _).mono ?_
          rintro e w1 ⟨rfl, n1⟩
          have k1 := take w1 _ A n c l (HP.out _ n1) (HF.out _ n1) hnc (by omega)
          rw [HE.out, HN.out] at k1
          go_wp2_with fail
          refine k1.mono ?_
          clear k1
          rintro e w2 ⟨v2, rfl, o2, m2⟩
          have n2 := n1.trans m2 fun _ _ => id
          have k1 := ref_take w2 _ A n c l (HP.out _ n2) (HF.out _ n2) hnc (by omega)
          rw [HE.out, HN.out] at k1
          go_wp2_with fail
          refine k1.mono ?_
          clear k1
          rintro e w3 ⟨v3, rfl, o3, m3⟩
          have n3 := n2.trans m3 fun _ _ => id
          have o23 := own_chg o2 m3 fun _ _ => id
          clear m2 o2 m3 n2 n1
          have k1 := all_ w3 _ A n c l (HP.out _ n3) (HF.out _ n3) hnc (by omega) (by omega)
          rw [HA.out] at k1
          go_wp2_with fail
          refine k1.mono ?_
          clear k1
          rintro e w4 ⟨v4, rfl, o4, m4⟩
          have n4 := n3.trans m4 fun _ _ => id
          have o24 := own_chg o23 m4 fun _ _ => id
          have o34 := o3.new m4
          clear o23 o3 m4 n3
          have k1 := ref_all w4 _ A n c l (HP.out _ n4) (HF.out _ n4) hnc (by omega) (by omega)
          rw [HA.out] at k1
          go_wp2_with fail
          refine k1.mono ?_
          clear k1
          rintro e w5 ⟨v5, rfl, o5, m5⟩
          have n5 := n4.trans m5 fun _ _ => id
          have o25 := own_chg o24 m5 fun _ _ => id
          have o35 := o34.new m5
          have o45 := o4.new m5
          clear o24 o34 o4 m5 n4
          have k1 := whole w5 _ A n c l (HP.out _ n5) (HF.out _ n5) hnc (by omega)
          rw [HW.out] at k1
          go_wp2_with fail
          refine k1.mono ?_
          clear k1
          rintro e w6 ⟨v6, rfl, o6, m6⟩
          have n6 := n5.trans m6 fun _ _ => id
          have o26 := own_chg o25 m6 fun _ _ => id
          have o36 := o35.new m6
          have s2 := own_str o26 (Chg.refl _ w6)
          have s3 := o36.str
          have s6 := own_str o6 (Chg.refl _ w6)
          rw [HWP.out] at s6
          have C := Lib.hid (same w6 _ _ _ _ (o45.new m6).toR (o5.new m6).toR (by rw [HPL.out]; omega))
          have HO2 := Lib.hid o26
          have HO3 := Lib.hid o36
          have HO6 := Lib.hid o6
          clear o25 o35 o45 o5 m6 n5 o26 o36 o6
          have heq : ((l == l) = true) := beq_self_eq_true _
          clear heq
          go_wp2_with fail
          refine C.out.mono ?_
          rintro e w7 ⟨rfl, m7⟩
          rw [show (PS == PS) = true from beq_self_eq_true _]
          have n7 := n6.trans m7 fun _ _ => id
          have s6 := (HWP.out ▸ own_str (own_chg HO6.out m7 fun _ _ => id) (Chg.refl _ w7) : (convert 22 9 v6).run Try.prog w7 = .ok (.string ⟨(takeP l).toArray⟩) w7)
          have s8 := (HO3.out.new m7).str
          clear s2 s3 m7
          go_wp2_with fail
          refine (size w7 z (by omega)).mono ?_
          rintro e w8 ⟨rfl, rfl⟩
          rw [HZ.out]
          go_wp2
          go_ret
          exact ⟨rfl, n7⟩

    · obtain ⟨E, hE2⟩ : ∃ E, takeE l = E := ⟨_, rfl⟩
      obtain ⟨N, hN2⟩ : ∃ N, takeN l = N := ⟨_, rfl⟩
      have HE := Lib.hid hE2
      have HN := Lib.hid hN2
      have hW : wholeE l = E := by
        unfold wholeE
        rw [if_pos hE, hE2]
      have HW := Lib.hid hW
      rw [hE2] at hE
      have hEb : (E != 0) = true := by simpa using hE
      have hEb2 : (E == 0) = false := by simpa using hE
      clear hE hE2 hN2 hW hNle
      rcases hzc with ⟨hz, hzz⟩ | ⟨hz, hzz⟩ | ⟨⟨hz, hz'⟩, hzz⟩
      all_goals
        have HZ := Lib.hid hzz
        clear hzz
        go_enter Try.func3, Try.ntmps3
        clear hl
        go_wp2_with fail
        refine (fixed _).mono ?_
        rintro e w1 ⟨rfl, n1⟩
        have k1 := take w1 _ A n c l (HP.out _ n1) (HF.out _ n1) hnc (by omega)
        rw [HE.out, HN.out] at k1
        go_wp2_with fail
        refine k1.mono ?_
        clear k1
        rintro e w2 ⟨v2, rfl, o2, m2⟩
        have n2 := n1.trans m2 fun _ _ => id
        have k1 := ref_take w2 _ A n c l (HP.out _ n2) (HF.out _ n2) hnc (by omega)
        rw [HE.out, HN.out] at k1
        go_wp2_with fail
        refine k1.mono ?_
        clear k1
        rintro e w3 ⟨v3, rfl, o3, m3⟩
        have n3 := n2.trans m3 fun _ _ => id
        have o23 := own_chg o2 m3 fun _ _ => id
        clear m2 o2 m3 n2 n1
        have k1 := all_ w3 _ A n c l (HP.out _ n3) (HF.out _ n3) hnc (by omega) (by omega)
        rw [HA.out] at k1
        go_wp2_with fail
        refine k1.mono ?_
        clear k1
        rintro e w4 ⟨v4, rfl, o4, m4⟩
        have n4 := n3.trans m4 fun _ _ => id
        have o24 := own_chg o23 m4 fun _ _ => id
        have o34 := o3.new m4
        clear o23 o3 m4 n3
        have k1 := ref_all w4 _ A n c l (HP.out _ n4) (HF.out _ n4) hnc (by omega) (by omega)
        rw [HA.out] at k1
        go_wp2_with fail
        refine k1.mono ?_
        clear k1
        rintro e w5 ⟨v5, rfl, o5, m5⟩
        have n5 := n4.trans m5 fun _ _ => id
        have o25 := own_chg o24 m5 fun _ _ => id
        have o35 := o34.new m5
        have o45 := o4.new m5
        clear o24 o34 o4 m5 n4
        have k1 := whole w5 _ A n c l (HP.out _ n5) (HF.out _ n5) hnc (by omega)
        rw [HW.out] at k1
        go_wp2_with fail
        refine k1.mono ?_
        clear k1
        rintro e w6 ⟨v6, rfl, o6, m6⟩
        have n6 := n5.trans m6 fun _ _ => id
        have o26 := own_chg o25 m6 fun _ _ => id
        have o36 := o35.new m6
        have s2 := own_str o26 (Chg.refl _ w6)
        have s3 := o36.str
        skip
        have C := Lib.hid (same w6 _ _ _ _ (o45.new m6).toR (o5.new m6).toR (by rw [HPL.out]; omega))
        have HO2 := Lib.hid o26
        have HO3 := Lib.hid o36
        have HO6 := Lib.hid o6
        clear o25 o35 o45 o5 m6 n5 o26 o36 o6
        have heq : ((l == l) = true) := beq_self_eq_true _
        clear heq
        go_wp2_with fail
        refine C.out.mono ?_
        rintro e w7 ⟨rfl, m7⟩
        rw [show (PS == PS) = true from beq_self_eq_true _]
        have n7 := n6.trans m7 fun _ _ => id
        skip
        clear s2 s3 m7
        go_wp2_with fail
        refine (size w7 z (by omega)).mono ?_
        rintro e w8 ⟨rfl, rfl⟩
        rw [HZ.out]
        go_wp2
        go_ret
        exact ⟨rfl, n7⟩


theorem reads_args {H : Type} {enc : TypeId × Value → H} {W : World} {base : Nat} {args : Array Value} {ds : List (DataW H)} {ps : List MemPlace}
    (hval : ∀ (j : Nat) t v, Try.f3.params[j]? = some t → args[j]? = some v → Value.okWide Try.prog W .any base t v)
    (hw : ∀ (j : Nat) t d, Try.f3.params.toList[j]? = some t → ds[j]? = some d → ∀ n ∈ d.weights Try.prog t, n ≤ reachBytes)
    (hA : DataW.TrodAll enc Try.prog W 0 (fun _ => true) true Try.f3.params.toList args.toList ds ps) :
    Calls Try.prog 3 args W fun e w' => LawEnd W e w' := by
  rw [Try.params3] at hA hval hw
  obtain ⟨v0, v1, d0, d1, p0, p1, rfl, rfl, rfl, h0, h1⟩ := trodAll_two hA
  have o0 := hval 0 _ v0 rfl rfl
  have q0 := hw 0 _ d0 rfl rfl
  have o1 := hval 1 _ v1 rfl rfl
  have q1 := hw 1 _ d1 rfl rfl
  obtain ⟨A, n, c, xs, rfl, _, hnc, hc, hl⟩ := open_u8s Try.underlying22 Try.underlying5 (by kernel_rfl) (by kernel_rfl) (cells_slice Try.underlying22 o0) q0 h0
  obtain ⟨z, rfl, hz1, hz2⟩ := open_i64 Try.underlying3 o1 h1
  exact reads W A n c xs z hz1 hz2 hnc (by omega) hl
end Frame

namespace lawFrameReads
theorem own : ownKnob Try.prog.godebug = none := by kernel_rfl
theorem laidOut : laidOutB Try.prog = true := by kernel_rfl
theorem reads : ∀ t ∈ Try.f3.params.toList, Try.prog.readableRec t = true ∧ t < Try.prog.types.size := by
  have h : (Try.f3.params.toList.all fun t => Try.prog.readableRec t && decide (t < Try.prog.types.size)) = true := by kernel_rfl
  intro t ht
  have := List.all_eq_true.1 h t ht
  simpa using this
theorem spec {H : Type} (ds : List (DataW H)) (h : ds.length = 2) : Rows.frameReadsSpec.fn H ds = { results := [.lit (.bool true)], args := ds } := by
  match ds, h with
  | [d1, d2], _ => rfl
theorem trodAll_len {H : Type} {enc : TypeId × Value → H} {P : Program} {w : World} {base : Nat} {sp : Nat → Bool} {held : Bool} : ∀ (ts : List TypeId) (vs : List Value) (ds : List (DataW H)) (ps : List MemPlace),
    DataW.TrodAll enc P w base sp held ts vs ds ps → ds.length = ts.length
  | [], _, _, _, h => by
    obtain ⟨_, rfl, _⟩ := trodAll_nil h
    rfl
  | _ :: ts, _, _, _, h => by
    obtain ⟨_, vs, _, ds, _, _, _, rfl, _, _, hr⟩ := trodAll_cons h
    simp [trodAll_len ts vs ds _ hr]
theorem contract (H : Type) (enc : TypeId × Value → H) (W : World) (base : Nat) (args : Array Value) (ds gs : List (DataW H)) (before : List MemPlace)
    (hval : ∀ (j : Nat) t v, Try.f3.params[j]? = some t → args[j]? = some v → Value.okWide Try.prog W .any base t v)
    (hW : DataW.Whole enc Try.prog Try.f3.params.toList Rows.frameReadsSpec.vars false W args.toList ds gs before)
    (hz : (DataW.weightsEach Try.prog (Try.f3.params.toList ++ Rows.frameReadsSpec.plain.varTypes Try.prog) (ds ++ gs)).all (· ≤ reachBytes) = true) :
    Calls Try.prog 3 args W fun e W' => ∃ v, e = .returned v ∧ Rows.frameReadsSpec.post enc Try.prog Try.f3 false true false false W args v W' := by
  obtain ⟨p, q, hA, hV, _⟩ := id hW
  have hlen : ds.length = 2 := (trodAll_len _ _ _ _ hA).trans (by kernel_rfl)
  have hV1 : DataW.TrodVars enc Try.prog W (fun _ => true) [] gs q := hV
  obtain ⟨rfl, rfl⟩ := trodVars_none hV1
  have hw : ∀ (j : Nat) t d, Try.f3.params.toList[j]? = some t → ds[j]? = some d → ∀ n ∈ d.weights Try.prog t, n ≤ reachBytes := by
    intro j t d ht hd n hn
    rw [List.append_nil] at hz
    have hlt : j < Try.f3.params.toList.length := (List.getElem?_eq_some_iff.1 ht).1
    have := List.all_eq_true.1 hz n (DataW.weights_mem_each (by rw [List.getElem?_append_left hlt]; exact ht) hd n hn)
    simpa using this
  refine (Frame.reads_args hval hw hA).mono fun e W' ⟨he, hn⟩ => ?_
  exact ⟨_, he, law_post laidOut (tb := 4) rfl Try.underlying4 reads rfl hW (spec ds hlen) hn.below⟩
set_option maxRecDepth 100000 in
theorem lifted (os : Os) (started : os.Started) (H : Type) (enc : TypeId × Value → H) :
    ReturnsInHanded {} Try.checked os 3 .any (Rows.frameReadsSpec.pre6 enc Try.prog Try.f3 Rows.frameReadsRow.domain false) (Rows.frameReadsSpec.post enc Try.prog Try.f3 false true false false) := by
  refine returnsInHanded_of_change_sized (C := Try.checked) own started (by kernel_rfl) Try.func3
    (ChangeSpec.witness6 (enc := enc) (C := Try.checked) (s := Rows.frameReadsSpec) false ⟨#[], #[.slice none 0 0, .int .i64 0], []⟩ 60 (by kernel_rfl) (by kernel_rfl) (by kernel_rfl) (by kernel_rfl)) ?_
  intro W base args ds gs before hval hW _ hz _
  exact contract H enc W base args ds gs before hval hW hz
theorem proved : Rows.FrameReadsSaid :=
  OpenClaim.holds_of_wide 3 Try.f3 rfl rfl rfl rfl rfl rfl rfl ⟨rfl, rfl, rfl, rfl, rfl⟩ rfl rfl rfl rfl rfl (by kernel_rfl) Try.func3 (by kernel_rfl)
    (of_decide_eq_true (by kernel_rfl)) (by unfold Func.isWrapper; first | (rw [if_pos (by decide +kernel)]; kernel_rfl) | (rw [if_neg (by decide +kernel)]; exact ⟨rfl, rfl⟩))
    (fun os started H enc _ => lifted os started H enc)
end lawFrameReads
end Go.Proofs.Ytbbneefcjancbaa

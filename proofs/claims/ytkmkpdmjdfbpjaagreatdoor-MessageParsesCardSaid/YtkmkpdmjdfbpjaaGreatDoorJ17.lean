/-
  The document's reference: a message's payload, and its bytes (no condition beyond the sizes).
-/
import Derived.Test.YtkmkpdmjdfbpjaaGreatDoorJ16
/- The document's reference: two messages held against each other; the law's few (no condition beyond the sizes). -/
namespace Go.Proofs.YtkmkpdmjdfbpjaaGreatDoor
set_option linter.unusedSimpArgs false
set_option linter.unusedVariables false
open Go.ChangeShapes Go.WideShapes Go.RowKit Go.Deep
namespace Msg
open Val (JoinC)
open Num Evt Vec
attribute [local go_sem ↓] loadRow0 storeRow0
attribute [local go_sem ↓] Evt.loadDot Evt.loadVec Evt.loadRow0 Evt.storeRow0 Evt.loadOnly0 Evt.loadOnly1 Evt.loadOnly2
def fewB (m : Ms) : Bool := m.es.all (fun e => decide (total e ≤ 300)) && decide ((m.es.length : Int) ≤ 30)
theorem few_true {m : Ms} (h : fewB m = true) : (∀ e ∈ m.es, total e ≤ 300) ∧ m.es.length ≤ 30 := by
  unfold fewB at h
  simp only [Bool.and_eq_true, List.all_eq_true, decide_eq_true_eq] at h
  exact ⟨h.1, by omega⟩
set_option maxHeartbeats 8000000 in
set_option maxRecDepth 20000 in
theorem few_ (w : World) (F : Nat → Prop) (m : Ms) (v : Value) (hv : RowE w F v m.es) (hc : ∀ e ∈ m.es, Came e) (hl : m.es.length ≤ 140737488351232) :
    Calls Tryz.prog 8 #[m.val v] w fun x w' => x = .returned (.bool (fewB m)) ∧ New w w' := by
  have n1 := (Chg.refl (fun _ => False) w).alloc (.cells (m.cs v).toArray 26)
  have B1 := Blk.new w 26 (m.cs v).toArray
  obtain ⟨_, _, _, _, _, c19⟩ := blk_ms B1
  have g1 := B1.lt
  have HV := Lib.hid (hv.new n1)
  have HC := Lib.hid hc
  have HB := Lib.hid B1
  have N1 := Lib.hid n1
  obtain ⟨n, hn⟩ : ∃ n, m.es.length = n := ⟨_, rfl⟩
  have HN := Lib.hid hn
  obtain ⟨A, c, hvv, _⟩ := hv
  rw [hn] at hvv hl
  subst hvv
  obtain ⟨r, hr⟩ : ∃ r, fewB m = r := ⟨_, rfl⟩
  rw [hr]
  have HR := Lib.hid (show r = (m.es.all (fun e => decide (total e ≤ 300)) && decide ((n : Int) ≤ 30)) by rw [← hr, ← hn]; rfl)
  clear n1 B1 hc hn hr
  go_enter Tryz.func8, Tryz.ntmps8
  go_wp2_with fail
  go_loopw [8] (fun iv wr => ∃ i : Nat, i ≤ n ∧ iv = .int .i64 i ∧ Hid (m.es.all (fun e => decide (total e ≤ 300)) = (m.es.drop i).all (fun e => decide (total e ≤ 300))) ∧ New (w.alloc (.cells (m.cs (.slice A n c)).toArray 26)) wr) (fun iv _ => n - (intOf iv).toNat)
  case atStart => exact ⟨0, by omega, by go_num, rfl, Chg.refl _ _⟩
  case round =>
    obtain ⟨i, hi, rfl, hrest, hnw⟩ := hrel
    by_cases hlt : i < n
    · have hli : (i : Int) < n := by omega
      obtain ⟨e, he⟩ : ∃ e, m.es[i]? = some e := ⟨_, List.getElem?_eq_getElem (by rw [HN.out]; exact hlt)⟩
      have hall : m.es.all (fun e => decide (total e ≤ 300)) = (decide (total e ≤ 300) && (m.es.drop (i + 1)).all (fun e => decide (total e ≤ 300))) := by rw [hrest.out, drop_get he]; rfl
      obtain ⟨A', c', hvv, hrd⟩ := HV.out.new hnw
      injection hvv with x1 x2 x3
      subst x1 x3
      obtain ⟨ad, rfl, hld⟩ := ld_ev hrd he
      have hz : ∀ W, (zeroValue 48).run Tryz.prog W = .ok (.agg zero.cs.toArray) W := fun W => by kernel_rfl
      obtain ⟨W, hst, b3, n3, g3⟩ := new_ev wr e
      have hw : IntKind.i64.wrap ((i : Int) + 1) = (i : Int) + 1 := IntWalk.i64_in _ (by omega)
      have hl3 := ldE b3
      have gw := b3.lt
      obtain ⟨q, hq⟩ : ∃ q, decide (total e ≤ 300) = q := ⟨_, rfl⟩
      have C := short W e (HC.out e (List.mem_of_getElem? he))
      rw [hq] at C hall
      have C := Lib.hid C
      have HNW := Lib.hid (hnw.trans n3 fun _ _ => id)
      cases q
      · have HF := Lib.hid (show r = false by rw [HR.out, hall]; rfl)
        clear hq hrest hall he hrd n3 b3 hnw x2
        go_wp2_with fail
        with_reducible refine C.out.mono ?_
        rintro x w4 ⟨rfl, n4⟩
        go_wp2_with fail
        go_ret
        exact ⟨by rw [HF.out] <;> rfl, (N1.out.trans HNW.out fun _ _ => id).trans n4 fun _ _ => id⟩
      · have HY := Lib.hid hall
        clear hq hrest hall he hrd n3 b3 hnw x2
        go_wp2_with fail
        with_reducible refine C.out.mono ?_
        rintro x w4 ⟨rfl, n4⟩
        have HQ := Lib.hid (HNW.out.trans n4 fun _ _ => id)
        clear n4
        go_wp2_with fail
        go_roundw
        case rel => exact ⟨i + 1, by omega, by go_num, Lib.hid (HY.out.trans (Bool.true_and _)), HQ.out⟩
        case measure => simp [intOf]; omega
    · have hgi : ¬ ((i : Int) < n) := by omega
      have c19b := (blk_ms (HB.out.chg hnw id)).2.2.2.2.2
      have gb := (HB.out.chg hnw id).lt
      have HT := Lib.hid (show r = decide ((n : Int) ≤ 30) by rw [HR.out, hrest.out, List.drop_of_length_le (by rw [HN.out]; omega)]; rfl)
      have HQ := Lib.hid hnw
      clear hnw hrest
      go_wp2_with fail
      go_ret
      exact ⟨by rw [HT.out] <;> rfl, N1.out.trans HQ.out fun _ _ => id⟩
set_option maxHeartbeats 8000000 in
set_option maxRecDepth 20000 in
theorem rsame (w : World) (F G : Nat → Prop) (m m' : Ms) (v u : Value) (hv : RowE w F v m.es) (hu : RowE w G u m'.es) (hl : m.es.length ≤ 1000000) :
    Calls Tryz.prog 14 #[m.val v, m'.val u] w fun x w' => x = .returned (.bool (sameM m m')) ∧ New w w' := by
  have n1 := (Chg.refl (fun _ => False) w).alloc (.cells (m.cs v).toArray 26)
  have n2 := n1.alloc (.cells (m'.cs u).toArray 26)
  have B1 := (Blk.new w 26 (m.cs v).toArray).alloc (.cells (m'.cs u).toArray 26)
  have B2 := Blk.new1 w (.cells (m.cs v).toArray 26) 26 (m'.cs u).toArray
  obtain ⟨_, lk1, a0, a1, a2, a19⟩ := blk_ms B1
  obtain ⟨_, lk2, b0, b1, b2, b19⟩ := blk_ms B2
  obtain ⟨X, hX⟩ : ∃ X, m.knownV = .agg X := ⟨_, rfl⟩
  obtain ⟨Y, hY⟩ : ∃ X, m'.knownV = .agg X := ⟨_, rfl⟩
  rw [hX] at lk1
  rw [hY] at lk2
  have eg := Vec.eqG
  have gn := eqGV
  have ev : ∀ W, (binOp .neq 23 (.agg X) (.agg Y)).run Tryz.prog W = .ok (.bool (!(known m == known m'))) W := fun W => by
    rw [← hX, ← hY]
    exact neV (xs := known m) (ys := known m') rfl rfl W
  obtain ⟨r, hr⟩ : ∃ r, sameM m m' = r := ⟨_, rfl⟩
  rw [hr]
  have hlen := eqEs_len (l := m.es) (k := m'.es)
  unfold sameM at hr
  obtain ⟨q3, h3⟩ : ∃ b, (known m == known m') = b := ⟨_, rfl⟩
  obtain ⟨q4, h4⟩ : ∃ b, eqEs m.es m'.es = b := ⟨_, rfl⟩
  simp only [h3] at ev
  rw [h3, h4] at hr
  rw [h4] at hlen
  obtain ⟨n, hn⟩ : ∃ n, m.es.length = n := ⟨_, rfl⟩
  obtain ⟨k, hk⟩ : ∃ n, m'.es.length = n := ⟨_, rfl⟩
  rw [hn, hk] at hlen
  have HA := Lib.hid (And.intro (hv.new n2) (And.intro (hu.new n2) (And.intro hn (And.intro hk h4))))
  obtain ⟨A, c, hvv, _⟩ := hv
  obtain ⟨B, d, huu, _⟩ := hu
  rw [hn] at hvv hl
  rw [hk] at huu
  subst hvv huu
  have g1 := B1.lt
  have g2 := B2.lt
  have N2 := Lib.hid n2
  have HB := Lib.hid (And.intro B1 B2)
  have HR := Lib.hid hr.symm
  clear hX hY n1 n2 B1 B2 h3 h4 hr hn hk
  by_cases h0 : m.n 0 = m'.n 0
  · by_cases h1 : m.n 1 = m'.n 1
    · by_cases h2 : m.n 2 = m'.n 2
      · cases q3
        · clear hlen
          go_enter Tryz.func14, Tryz.ntmps14
          go_wp2_with fail
          go_ret
          exact ⟨by rw [HR.out] <;> simp [*], N2.out⟩
        · have HR := Lib.hid (show r = q4 by rw [HR.out, h0, h1, h2]; simp)
          have e0 : (m.n 0 != m'.n 0) = false := by simpa using h0
          have e1 : (m.n 1 != m'.n 1) = false := by simpa using h1
          have e2 : (m.n 2 != m'.n 2) = false := by simpa using h2
          clear h0 h1 h2
          by_cases hnk : n = k
          · subst hnk
            have HQ := Lib.hid HA.out.2.2.2.2
            have eb : ((n : Int) != (n : Int)) = false := by simp
            have eg := eqGE
            clear hlen
            go_enter Tryz.func14, Tryz.ntmps14
            go_wp2_with fail
            go_loopw [44] (fun iv wr => ∃ i : Nat, i ≤ n ∧ iv = .int .i64 i ∧ Hid (q4 = eqEs (m.es.drop i) (m'.es.drop i)) ∧ New ((w.alloc (.cells (m.cs (.slice A n c)).toArray 26)).alloc (.cells (m'.cs (.slice B n d)).toArray 26)) wr) (fun iv _ => n - (intOf iv).toNat)
            case atStart => exact ⟨0, by omega, by go_num, HQ.out.symm, Chg.refl _ _⟩
            case round =>
              obtain ⟨i, hi, rfl, hrest, hnw⟩ := hrel
              by_cases hlt : i < n
              · have hli : (i : Int) < n := by omega
                obtain ⟨a, ha⟩ : ∃ e, m.es[i]? = some e := ⟨_, List.getElem?_eq_getElem (by rw [HA.out.2.2.1]; exact hlt)⟩
                obtain ⟨b, hb⟩ : ∃ e, m'.es[i]? = some e := ⟨_, List.getElem?_eq_getElem (by rw [HA.out.2.2.2.1]; exact hlt)⟩
                obtain ⟨P, hP⟩ : ∃ X, a.cs.toArray = X := ⟨_, rfl⟩
                obtain ⟨R, hR⟩ : ∃ X, b.cs.toArray = X := ⟨_, rfl⟩
                have f1 := fun x : ChgW (fun _ => False) wr => (blk_ms (HB.out.1.chg (hnw.trans x.chg fun _ _ => id) id)).2.2.2.2.2
                have f2 := fun x : ChgW (fun _ => False) wr => (blk_ms (HB.out.2.chg (hnw.trans x.chg fun _ _ => id) id)).2.2.2.2.2
                have gg1 := (HB.out.1.chg hnw id).lt
                have gg2 := (HB.out.2.chg hnw id).lt
                obtain ⟨ad, rfl, l1⟩ : ∃ ad, A = some ad ∧ ∀ x : ChgW (fun _ => False) wr, (LoadRow 48 (ad.add (i * 27))).run Tryz.prog x.W = .ok (.agg P) x.W := by
                  obtain ⟨A', c', hvv, hrd⟩ := HA.out.1
                  rw [HA.out.2.2.1] at hvv
                  injection hvv with x1 x2 x3
                  subst x1 x3
                  obtain ⟨ad, rfl, _⟩ := ld_ev hrd ha
                  refine ⟨ad, rfl, fun x => ?_⟩
                  obtain ⟨ad', h1, h2⟩ := ld_ev (hrd.chg' (hnw.trans x.chg fun _ _ => id) (fun _ _ => id) (by omega)) ha
                  injection h1 with h1
                  subst h1
                  rw [← hP]
                  exact h2
                obtain ⟨bd, rfl, l2⟩ : ∃ ad, B = some ad ∧ ∀ x : ChgW (fun _ => False) wr, (LoadRow 48 (ad.add (i * 27))).run Tryz.prog x.W = .ok (.agg R) x.W := by
                  obtain ⟨A', c', hvv, hrd⟩ := HA.out.2.1
                  rw [HA.out.2.2.2.1] at hvv
                  injection hvv with x1 x2 x3
                  subst x1 x3
                  obtain ⟨ad, rfl, _⟩ := ld_ev hrd hb
                  refine ⟨ad, rfl, fun x => ?_⟩
                  obtain ⟨ad', h1, h2⟩ := ld_ev (hrd.chg' (hnw.trans x.chg fun _ _ => id) (fun _ _ => id) (by omega)) hb
                  injection h1 with h1
                  subst h1
                  rw [← hR]
                  exact h2
                have hr2 : q4 = (eqE a b && eqEs (m.es.drop (i + 1)) (m'.es.drop (i + 1))) := by rw [hrest.out, drop_get ha, drop_get hb]; rfl
                obtain ⟨q, hq⟩ : ∃ q, eqE a b = q := ⟨_, rfl⟩
                have ne : ∀ W, (binOp .neq 48 (.agg P) (.agg R)).run Tryz.prog W = .ok (.bool (!q)) W := fun W => by
                  rw [← hP, ← hR, ← hq]
                  exact neqE a b W
                rw [hq] at hr2
                have HS := Lib.hid (And.intro hr2 hnw)
                have hw : IntKind.i64.wrap ((i : Int) + 1) = (i : Int) + 1 := IntWalk.i64_in _ (by omega)
                clear hr2 hnw hrest ha hb hP hR hq
                cases q
                · go_wp2_with fail
                  refine wp_region_chg (fun _ => False) (by kernel_rfl) (by kernel_rfl) ?_
                  repeat (go_big_quiet_step (fail))
                  refine wpQuiet_nil ?_
                  rintro ⟨wq, hq⟩
                  simp only []
                  go_wp2_with fail
                  go_ret
                  exact ⟨by rw [HR.out, HS.out.1]; rfl, (N2.out.trans HS.out.2 fun _ _ => id).trans hq fun _ _ => id⟩
                · go_wp2_with fail
                  refine wp_region_chg (fun _ => False) (by kernel_rfl) (by kernel_rfl) ?_
                  repeat (go_big_quiet_step (fail))
                  refine wpQuiet_nil ?_
                  rintro ⟨wq, hq⟩
                  simp only []
                  have HN := Lib.hid (HS.out.2.trans hq fun _ _ => id)
                  clear hq
                  go_wp2_with fail
                  go_roundw
                  case rel => exact ⟨i + 1, by omega, by go_num, Lib.hid (HS.out.1.trans (Bool.true_and _)), HN.out⟩
                  case measure => simp [intOf]; omega
              · have hgi : ¬ ((i : Int) < n) := by omega
                have he : q4 = true := by
                  rw [hrest.out, List.drop_of_length_le (by rw [HA.out.2.2.1]; omega), List.drop_of_length_le (by rw [HA.out.2.2.2.1]; omega)]
                  rfl
                have HE := Lib.hid (And.intro he hnw)
                clear he hnw hrest
                go_wp2_with fail
                go_ret
                exact ⟨by rw [HR.out, HE.out.1] <;> rfl, N2.out.trans HE.out.2 fun _ _ => id⟩
          · have HF := Lib.hid (show r = false by rw [HR.out]; exact hlen hnk)
            have eb : ((n : Int) != (k : Int)) = true := by simp; omega
            clear hlen
            go_enter Tryz.func14, Tryz.ntmps14
            go_wp2_with fail
            go_ret
            exact ⟨by rw [HF.out] <;> rfl, N2.out⟩
      · have hb : (m.n 2 == m'.n 2) = false := by simpa using h2
        clear hlen
        go_enter Tryz.func14, Tryz.ntmps14
        go_wp2_with fail
        go_ret
        exact ⟨by rw [HR.out] <;> simp [*], N2.out⟩
    · have hb : (m.n 1 == m'.n 1) = false := by simpa using h1
      clear hlen
      go_enter Tryz.func14, Tryz.ntmps14
      go_wp2_with fail
      go_ret
      exact ⟨by rw [HR.out] <;> simp [*], N2.out⟩
  · have hb : (m.n 0 == m'.n 0) = false := by simpa using h0
    clear hlen
    go_enter Tryz.func14, Tryz.ntmps14
    go_wp2_with fail
    go_ret
    exact ⟨by rw [HR.out] <;> simp [*], N2.out⟩
end Msg
end Go.Proofs.YtkmkpdmjdfbpjaaGreatDoor

/- The law's fixed: true (no condition, but that MaxLen holds a number). -/
namespace Go.Proofs.YtkmkpdmjdfbpjaaGreatDoor
set_option linter.unusedSimpArgs false
set_option linter.unusedVariables false
open Go.ChangeShapes Go.WideShapes Go.RowKit Go.Deep
namespace Msg
open Val (JoinC)
open Num Evt Vec
attribute [local go_sem ↓] loadRow0 storeRow0
attribute [local go_sem ↓] Evt.loadDot Evt.loadVec Evt.loadRow0 Evt.storeRow0 Evt.loadOnly0 Evt.loadOnly1 Evt.loadOnly2
/-- the digest that fixed asks about -/
def md : Ms := ⟨fun i => match i with | 0 => 1 | 2 => 1 | _ => 0, []⟩
theorem md_right : rightM md = true := by decide +kernel
theorem m0_right : rightM m0 = false := by decide +kernel
theorem md_payload : payload md = [1, 0, 1, 0, 0, 0, 0, 0, 0, 0, 0, 0, 0, 0, 0, 0, 0, 0, 0, 0] := by
  have h : ∀ n : Nat, n < 128 → putB (n : Int) = [UInt8.ofNat n] := fun n hn => by rw [putB_at (by omega), digits_low hn]
  have h0 : putB 0 = [0] := h 0 (by decide)
  have h1 : putB 1 = [1] := h 1 (by decide)
  simp [payload, putAll, heads, It.put, md, h0, h1]
theorem md_tail : parseE ((Frame.frameL (payload md)).drop 1) = 7 := by
  refine (parseE_ne ?_ (by decide)).1
  rw [md_payload]
  decide +kernel
theorem parseM_ne {l : List UInt8} (h : parseE l ≠ 0) : parseM l = none := by
  unfold parseE at h
  split at h
  · cases hm : parseM l with
    | none => rfl
    | some m => rw [hm] at h; simp at h
  · rename_i h1
    unfold parseM
    rw [if_neg h1]
theorem md_same : sameM md m0 = false := by decide +kernel
set_option maxHeartbeats 8000000 in
set_option maxRecDepth 100000 in
theorem fixed (hJ : JoinC) (w : World) (hm : Val.MaxAt w) : Calls Tryz.prog 7 #[] w fun x w' => x = .returned (.bool true) ∧ New w w' := by
  have hz : ∀ W, (zeroValue 26).run Tryz.prog W = .ok (.agg (m0.cs (.slice none 0 0)).toArray) W := fun W => by kernel_rfl
  have hmd : ((m0.cs (.slice none 0 0)).set 0 (.int .i64 1)).set 2 (.int .i64 1) = md.cs (.slice none 0 0) := rfl
  have hl0 : (m0.cs (.slice none 0 0)).length = 20 := rfl
  have hne : ¬ m0.cs (.slice none 0 0) = [] := List.cons_ne_nil _ _
  obtain ⟨w1, hst, b1, n1, g1⟩ := new_ms w md (.slice none 0 0) rfl
  have hl1 := ldM b1
  have gg1 := b1.lt
  have HM := Lib.hid (And.intro hm hJ)
  have N1 := Lib.hid n1
  have HB := Lib.hid b1
  have hplen : (payload md).length = 20 := by rw [md_payload]; rfl
  have hflen : (Frame.frameL (payload md)).length = 28 := by rw [Frame.frameL_length, hplen]
  have CB := bytes_ hJ w1 (fun _ => False) md (.slice none 0 0) (RowE.nil _ _) (fun _ h => h.elim) (fun e h => by cases h) (hm.new n1) (by decide) (by rw [hplen]; decide)
  rw [md_right, if_pos rfl, if_pos rfl] at CB
  have CB := Lib.hid CB
  have HL := Lib.hid (And.intro hplen hflen)
  obtain ⟨g, hg⟩ : ∃ g, w.heap.size = g := ⟨_, rfl⟩
  rw [hg] at hst hl1 g1 HB gg1
  have HG := Lib.hid hg
  clear n1 b1 hm hJ hplen hflen
  go_enter Tryz.func7, Tryz.ntmps7
  go_wp2_with fail
  with_reducible refine CB.out.mono ?_
  rintro x w2 ⟨u2, rfl, o2, n2⟩
  obtain ⟨A, c, hv2, hc, _⟩ := o2.form
  rw [HL.out.2] at hv2 hc
  subst hv2
  have N2 := Lib.hid (N1.out.trans n2 fun _ _ => id)
  have HB2 := Lib.hid (HB.out.chg n2 id)
  have hr2 := Reads.of_own (show w2.ownsRow w1.heap.size 5 1 (.slice A 28 c) 28 (u8s (Frame.frameL (payload md))) from by have := o2; unfold OwnB at this; rw [HL.out.2] at this; exact this)
  have hr2 := hr2.mono (G := fun b => b < w2.heap.size) fun b hb => hb.2.1
  have CP := parse_ HM.out.2 w2 _ A 28 c _ hr2 (fun b hb => hb) (by decide) hc (HM.out.1.new N2.out)
  rw [(parse_frame md_right (by rw [HL.out.1]; decide)).1, (parse_frame md_right (by rw [HL.out.1]; decide)).2] at CP
  have CP := Lib.hid CP
  have HR2 := Lib.hid hr2
  have HC := Lib.hid hc
  clear o2 n2 hr2 CB
  go_wp2_with fail
  with_reducible refine CP.out.mono ?_
  rintro x w3 ⟨u3, rfl, o3, n3⟩
  obtain ⟨w4, hst4, b4, n4, g4⟩ := new_ms w3 (back md) u3 (by obtain ⟨_, _, h⟩ := o3.form; rw [h]; rfl)
  have n34 := n3.trans n4 fun _ _ => id
  have N4 := Lib.hid (N2.out.trans n34 fun _ _ => id)
  have HB4 := Lib.hid (HB2.out.chg n34 id)
  have HR4 := Lib.hid (RowE.of_own (own_chg o3 n4 fun _ _ => id))
  obtain ⟨g5, hg5⟩ : ∃ g, w3.heap.size = g := ⟨_, rfl⟩
  rw [hg5] at hst4 g4 b4
  have HB5 := Lib.hid b4
  have hgl5 := b4.lt
  have hr4 := HR2.out.chg n34 fun b hb => ⟨hb, id⟩
  have hr4 := hr4.mono (G := fun b => b < w4.heap.size) fun b hb => Nat.lt_of_lt_of_le hb n34.size
  obtain ⟨ad, rfl, _⟩ := hr4.2 (by decide)
  have hr5 : Reads w4 (fun b => b < w4.heap.size) 1 (some ⟨ad.block, ad.off + 1, none⟩) 27 (u8s ((Frame.frameL (payload md)).drop 1)) := Reads.cutB_lt hr4 (k := 1) (by decide) HC.out
  have CQ := parse_ HM.out.2 w4 _ (some ⟨ad.block, ad.off + 1, none⟩) 27 (c - 1) _ hr5 (fun b hb => hb) (by decide) (by have := HC.out; omega) (HM.out.1.new N4.out)
  rw [md_tail, show parseM ((Frame.frameL (payload md)).drop 1) = none from parseM_ne (by rw [md_tail]; decide)] at CQ
  have CQ := Lib.hid CQ
  have hval : ((some (back md)).getD m0).val u3 = (back md).val u3 := rfl
  clear n3 n4 n34 b4 hr4 hr5 CP HR2 o3
  go_wp2_with fail
  with_reducible refine CQ.out.mono ?_
  rintro x w6 ⟨u6, rfl, o6, n6⟩
  obtain ⟨w7, hst7, b7, n7, g7⟩ := new_ms w6 m0 u6 (by obtain ⟨_, _, h⟩ := o6.form; rw [h]; rfl)
  have n67 := n6.trans n7 fun _ _ => id
  have N7 := Lib.hid (N4.out.trans n67 fun _ _ => id)
  have HB7 := Lib.hid (HB4.out.chg n67 id)
  have HB8 := Lib.hid (HB5.out.chg n67 id)
  have HR7 := Lib.hid (HR4.out.new n67)
  obtain ⟨g6, hg6⟩ : ∃ g, w6.heap.size = g := ⟨_, rfl⟩
  rw [hg6] at hst7 g7
  have hl7 := ldM HB7.out
  have hl8 := ldM HB8.out
  have hgl7 := HB7.out.lt
  have hgl8 := HB8.out.lt
  have C1 := same_ w7 (fun _ => False) _ md (back md) (.slice none 0 0) u3 (RowE.nil _ _) HR7.out (by decide)
  rw [sameM_back] at C1
  have C1 := Lib.hid C1
  have hval6 : ((none : Option Ms).getD m0).val u6 = m0.val u6 := rfl
  clear n6 n7 n67 b7 CQ o6
  go_wp2_with fail
  with_reducible refine C1.out.mono ?_
  rintro x w8 ⟨rfl, n8⟩
  have N8 := Lib.hid (N7.out.trans n8 fun _ _ => id)
  have HB9 := Lib.hid (HB7.out.chg n8 id)
  have C2 := right_ HM.out.2 w8 (fun _ => False) m0 (.slice none 0 0) (RowE.nil _ _) (fun e h => by cases h) (HM.out.1.new N8.out) (by decide)
  rw [m0_right, if_neg (by decide)] at C2
  have C2 := Lib.hid C2
  clear n8 C1
  go_wp2_with fail
  with_reducible refine C2.out.mono ?_
  rintro x w9 ⟨rfl, n9⟩
  have N9 := Lib.hid (N8.out.trans n9 fun _ _ => id)
  have HB10 := Lib.hid (HB9.out.chg n9 id)
  have hl9 := ldM HB10.out
  have hgl9 := HB10.out.lt
  have C3 := same_ w9 (fun _ => False) (fun _ => False) md m0 (.slice none 0 0) (.slice none 0 0) (RowE.nil _ _) (RowE.nil _ _) (by decide)
  rw [md_same] at C3
  have C3 := Lib.hid C3
  clear n9 C2
  go_wp2_with fail
  with_reducible refine C3.out.mono ?_
  rintro x w10 ⟨rfl, n10⟩
  have N10 := Lib.hid (N9.out.trans n10 fun _ _ => id)
  clear n10 C3
  go_wp2_with fail
  go_ret
  exact ⟨rfl, N10.out⟩
end Msg
end Go.Proofs.YtkmkpdmjdfbpjaaGreatDoor

/- The document's reference: a message's payload, and its bytes (no condition beyond the sizes). -/
namespace Go.Proofs.YtkmkpdmjdfbpjaaGreatDoor
set_option linter.unusedSimpArgs false
set_option linter.unusedVariables false
open Go.ChangeShapes Go.WideShapes Go.RowKit Go.Deep
namespace Msg
open Val (JoinC)
open Num Evt Vec
attribute [local go_sem ↓] loadRow0 storeRow0
attribute [local go_sem ↓] Evt.loadDot Evt.loadVec Evt.loadRow0 Evt.storeRow0 Evt.loadOnly0 Evt.loadOnly1 Evt.loadOnly2
theorem known_n (m : Ms) {i : Nat} (h : i < 16) : (known m).getD i 0 = m.n (3 + i) := by
  rcases (show i = 0 ∨ i = 1 ∨ i = 2 ∨ i = 3 ∨ i = 4 ∨ i = 5 ∨ i = 6 ∨ i = 7 ∨ i = 8 ∨ i = 9 ∨ i = 10 ∨ i = 11 ∨ i = 12 ∨ i = 13 ∨ i = 14 ∨ i = 15 by omega) with rfl | rfl | rfl | rfl | rfl | rfl | rfl | rfl | rfl | rfl | rfl | rfl | rfl | rfl | rfl | rfl <;> rfl
set_option maxHeartbeats 20000000 in
set_option maxRecDepth 20000 in
theorem rpayload (w : World) (F : Nat → Prop) (m : Ms) (v : Value) (hv : RowE w F v m.es) (hF : ∀ b, F b → b < w.heap.size) (hs_ : ∀ e ∈ m.es, Fit e) (hl : m.es.length ≤ 1000000) (hp : (payload m).length ≤ 800000000) :
    Calls Tryz.prog 32 #[m.val v] w fun x w' => ∃ u, x = .returned u ∧ OwnB w' w.heap.size u (payload m) ∧ New w w' := by
  have n1 := (Chg.refl (fun _ => False) w).alloc (.cells (m.cs v).toArray 26)
  have B1 := Blk.new w 26 (m.cs v).toArray
  have g1 := B1.lt
  have HB1 := Lib.hid (And.intro B1 (And.intro (hv.new n1) n1))
  have HF := Lib.hid hF
  have HS := Lib.hid hs_
  have HPL := Lib.hid hp
  obtain ⟨n, hn⟩ : ∃ n, m.es.length = n := ⟨_, rfl⟩
  have HN := Lib.hid hn
  obtain ⟨A, c, hvv, _⟩ := hv
  rw [hn] at hvv hl
  subst hvv
  clear n1 B1 hF hs_ hn hp
  go_enter Tryz.func32, Tryz.ntmps32
  go_wp2_with fail
  obtain ⟨g, hg⟩ : ∃ g, w.heap.size = g := ⟨_, rfl⟩
  have HG := Lib.hid hg
  generalize hw1 : w.alloc (.cells (m.cs (.slice A n c)).toArray 26) = w1 at *
  rw [hg] at HB1 g1 ⊢
  clear hw1 hg
  have FC := Lib.hid (fun W (hW : Chg (fun k => w1.heap.size ≤ k) w1.drew W) => (⟨((HB1.out.1.drew).chg hW (by omega)).cell 0, ((HB1.out.1.drew).chg hW (by omega)).cell 1, ((HB1.out.1.drew).chg hW (by omega)).cell 2⟩ : W.cell? ⟨g, 0, none⟩ = some (.int .i64 (m.n 0)) ∧ W.cell? ⟨g, 1, none⟩ = some (.int .i64 (m.n 1)) ∧ W.cell? ⟨g, 2, none⟩ = some (.int .i64 (m.n 2))))
  have H0 := (PN.nil w1).new (Chg.refl _ _).drew
  have C1 := Lib.hid (rput w1.drew w1.heap.size _ _ H0.own (Nat.le_refl _) (by simp) (m.n 0))
  unfold Puts at C1
  refine grow_start (fun k => w1.heap.size ≤ k) (by kernel_rfl) ?_
  refine grow_take (i := 0) (oi := { dst := some 8, op := Op.fieldAddr 26 (Operand.tmp 1) 0, type := 0, pos := "ref.go:34", after := #[], guard := none }) (v := ?_) rfl (by kernel_rfl) (by kernel_rfl) (by kernel_rfl) (by rfl) ?_ ?_; rotate_left; focus ((intro W hW; go_simp) <;> with_reducible rfl)
  simp only [Act.put, List.setIfInBounds_toArray, List.set_cons_zero, List.set_cons_succ]
  refine grow_take (i := 1) (oi := { dst := some 9, op := Op.load 3 (Operand.tmp 8), type := 3, pos := "ref.go:34", after := #[{ on := 0, ground := Ground.data }], guard := none }) (v := ?_) rfl (by kernel_rfl) (by kernel_rfl) (by kernel_rfl) (by rfl) ?_ ?_; rotate_left; focus ((intro W hW; have fct := FC.out W hW; go_simp) <;> with_reducible rfl)
  simp only [Act.put, List.setIfInBounds_toArray, List.set_cons_zero, List.set_cons_succ]
  refine grow_take (i := 3) (oi := { dst := some 11, op := Op.fieldAddr 26 (Operand.tmp 1) 1, type := 0, pos := "ref.go:34", after := #[], guard := none }) (v := ?_) rfl (by kernel_rfl) (by kernel_rfl) (by kernel_rfl) (by rfl) ?_ ?_; rotate_left; focus ((intro W hW; go_simp) <;> with_reducible rfl)
  simp only [Act.put, List.setIfInBounds_toArray, List.set_cons_zero, List.set_cons_succ]
  refine grow_take (i := 4) (oi := { dst := some 12, op := Op.load 3 (Operand.tmp 11), type := 3, pos := "ref.go:34", after := #[{ on := 3, ground := Ground.data }], guard := none }) (v := ?_) rfl (by kernel_rfl) (by kernel_rfl) (by kernel_rfl) (by rfl) ?_ ?_; rotate_left; focus ((intro W hW; have fct := FC.out W hW; go_simp) <;> with_reducible rfl)
  simp only [Act.put, List.setIfInBounds_toArray, List.set_cons_zero, List.set_cons_succ]
  refine grow_take (i := 6) (oi := { dst := some 14, op := Op.fieldAddr 26 (Operand.tmp 1) 2, type := 0, pos := "ref.go:34", after := #[], guard := none }) (v := ?_) rfl (by kernel_rfl) (by kernel_rfl) (by kernel_rfl) (by rfl) ?_ ?_; rotate_left; focus ((intro W hW; go_simp) <;> with_reducible rfl)
  simp only [Act.put, List.setIfInBounds_toArray, List.set_cons_zero, List.set_cons_succ]
  refine grow_take (i := 7) (oi := { dst := some 15, op := Op.load 3 (Operand.tmp 14), type := 3, pos := "ref.go:34", after := #[{ on := 6, ground := Ground.data }], guard := none }) (v := ?_) rfl (by kernel_rfl) (by kernel_rfl) (by kernel_rfl) (by rfl) ?_ ?_; rotate_left; focus ((intro W hW; have fct := FC.out W hW; go_simp) <;> with_reducible rfl)
  simp only [Act.put, List.setIfInBounds_toArray, List.set_cons_zero, List.set_cons_succ]
  refine grow_next (i := 2) (oi := { dst := some 10, op := Op.call { callee := Callee.value (Operand.func 57), args := #[Operand.const (Value.slice none 0 0), Operand.tmp 9], argTypes := #[29, 3] }, type := 29, pos := "ref.go:34", after := #[{ on := 1, ground := Ground.data }], guard := none }) (by kernel_rfl) rfl (by rfl) (fun K hK => ?_)
  go_simp
  with_reducible refine C1.out.mono ?_
  rintro x w7 ⟨u7, rfl, o7, c7, a7⟩
  refine hK _ _ (c7.mono fun _ _ h => by cases h) ?_
  clear hK K
  try simp only [Act.put, List.setIfInBounds_toArray, List.set_cons_zero, List.set_cons_succ]
  have h7 := H0.then_ o7 c7
  have C2 := Lib.hid (rput w7 w1.heap.size _ _ h7.own h7.chg.size (by rw [List.nil_append]; have := putB_len (m.n 0); omega) (m.n 1))
  unfold Puts at C2
  refine grow_next (i := 5) (oi := { dst := some 13, op := Op.call { callee := Callee.value (Operand.func 57), args := #[Operand.tmp 10, Operand.tmp 12], argTypes := #[29, 3] }, type := 29, pos := "ref.go:34", after := #[{ on := 2, ground := Ground.data }, { on := 4, ground := Ground.data }, { on := 2, ground := Ground.chain }], guard := none }) (by kernel_rfl) rfl (by rfl) (fun K hK => ?_)
  go_simp
  with_reducible refine C2.out.mono ?_
  rintro x w8 ⟨u8, rfl, o8, c8, a8⟩
  refine hK _ _ (c8.mono fun k _ h => (own_lt h7.own h).1) ?_
  clear hK K
  try simp only [Act.put, List.setIfInBounds_toArray, List.set_cons_zero, List.set_cons_succ]
  have h8 := h7.then_ o8 c8
  have C3 := Lib.hid (rput w8 w1.heap.size _ _ h8.own h8.chg.size (by rw [List.nil_append, List.length_append]; have := putB_len (m.n 0); have := putB_len (m.n 1); omega) (m.n 2))
  unfold Puts at C3
  refine grow_next (i := 8) (oi := { dst := some 16, op := Op.call { callee := Callee.value (Operand.func 57), args := #[Operand.tmp 13, Operand.tmp 15], argTypes := #[29, 3] }, type := 29, pos := "ref.go:34", after := #[{ on := 5, ground := Ground.data }, { on := 7, ground := Ground.data }, { on := 5, ground := Ground.chain }], guard := none }) (by kernel_rfl) rfl (by rfl) (fun K hK => ?_)
  go_simp
  with_reducible refine C3.out.mono ?_
  rintro x w9 ⟨u9, rfl, o9, c9, a9⟩
  refine hK _ _ (c9.mono fun k _ h => (own_lt h8.own h).1) ?_
  clear hK K
  try simp only [Act.put, List.setIfInBounds_toArray, List.set_cons_zero, List.set_cons_succ]
  have h9 := h8.then_ o9 c9
  refine grow_take (i := 9) (oi := { dst := some 3, op := Op.assign (Operand.tmp 16), type := 29, pos := "ref.go:34", after := #[{ on := 8, ground := Ground.data }, { on := 8, ground := Ground.chain }, { on := 0, ground := Ground.phase }, { on := 1, ground := Ground.phase }, { on := 2, ground := Ground.phase }, { on := 3, ground := Ground.phase }, { on := 4, ground := Ground.phase }, { on := 5, ground := Ground.phase }, { on := 6, ground := Ground.phase }, { on := 7, ground := Ground.phase }, { on := 8, ground := Ground.phase }], guard := none }) (v := ?_) rfl (by kernel_rfl) (by kernel_rfl) (by kernel_rfl) (by rfl) ?_ ?_; rotate_left; focus ((intro W hW; go_simp) <;> with_reducible rfl)
  simp only [Act.put, List.setIfInBounds_toArray, List.set_cons_zero, List.set_cons_succ]
  refine grow_done (by kernel_rfl) ?_ _
  have H9 : PN w1 (putAll ((heads m).take (3 + 0))) w9 u9 := by
    have e1 : putAll ((heads m).take 1) = _ := putAll_one (xs := heads m) (i := 0) rfl
    have e2 : putAll ((heads m).take 2) = _ := putAll_one (xs := heads m) (i := 1) rfl
    have e3 : putAll ((heads m).take 3) = _ := putAll_one (xs := heads m) (i := 2) rfl
    show PN w1 (putAll ((heads m).take 3)) w9 u9
    rw [e3, e2, e1]
    exact h9
  have HP := Lib.hid H9
  have HI := HB1
  have B9 := HI.out.1.chg HP.out.chg id
  have lv := (blk_ms B9).2.1
  obtain ⟨X, hX⟩ : ∃ X, m.knownV = .agg X := ⟨_, rfl⟩
  rw [hX] at lv
  have HX := Lib.hid hX
  have g9l := B9.lt
  clear H9 h9 h8 h7 H0 c7 c8 c9 a7 a8 a9 o7 o8 o9 C1 C2 C3 FC B9 hX
  go_wp2_with fail
  go_loopw [3, 19] (fun bv iv wr => ∃ (i : Nat) (u : Value), i ≤ 16 ∧ bv = u ∧ iv = .int .i64 i ∧ PN w1 (putAll ((heads m).take (3 + i))) wr u) (fun _ iv _ => 16 - (intOf iv).toNat)
  case atStart => exact ⟨0, _, by omega, rfl, by go_num, HP.out⟩
  case round =>
    obtain ⟨i, u, hi, hu, rfl, hp⟩ := hrel
    have hu := hu.symm
    subst hu
    have hsr := hp.chg.size
    by_cases hlt : i < 16
    · have hli : (i : Int) < 16 := by omega
      have hix : ∀ W, (Instr.index 23 (.agg X) (.int .i64 (i : Int))).run Tryz.prog W = .ok (.int .i64 (m.n (3 + i))) W := fun W => by
        have := Vec.ixV (xs := known m) rfl hlt W
        rw [known_n m hlt] at this
        rw [← HX.out]
        exact this
      have hpre := putAll_pre (heads m) (3 + i)
      have hpl : (putAll (heads m)).length ≤ (payload m).length := by unfold payload; rw [List.length_append, List.length_append]; omega
      have HIT := Lib.hid (putAll_one (hs_at m (i := 3 + i) (by omega)).2)
      have C := Lib.hid (rput wr w1.heap.size _ _ hp.own hsr (by have := HPL.out; omega) (m.n (3 + i)))
      have H := Lib.hid hp
      have hw : IntKind.i64.wrap ((i : Int) + 1) = (i : Int) + 1 := IntWalk.i64_in _ (by omega)
      unfold Puts at C
      clear hp hpre hpl
      go_wp2_with fail
      with_reducible refine C.out.mono ?_
      rintro x w4 ⟨u4, rfl, o4, c4, a4⟩
      have HE := Lib.hid (H.out.then_ o4 c4)
      clear o4 c4 a4 C
      go_wp2_with fail
      go_roundw
      case rel => exact ⟨i + 1, _, by omega, rfl, by go_num, by rw [show 3 + (i + 1) = 3 + i + 1 by omega, HIT.out]; exact HE.out⟩
      case measure => simp [intOf]; omega
    · have H := Lib.hid (show PN w1 (putAll (heads m)) wr u from by rw [show i = 16 by omega] at hp; exact hp)
      have hgi : ¬ ((i : Int) < 16) := by omega
      clear hp hi hlt
      generalize wr = w6 at *
      have c19 := (blk_ms (HI.out.1.chg H.out.chg id)).2.2.2.2.2
      have hg6 := (HI.out.1.chg H.out.chg id).lt
      have hpl : (putAll (heads m)).length ≤ (payload m).length := by unfold payload; rw [List.length_append, List.length_append]; omega
      have C := Lib.hid (rput w6 w1.heap.size _ _ H.out.own hsr (by have := HPL.out; omega) (n : Int))
      unfold Puts at C
      clear hpl
      go_wp2_with fail
      with_reducible refine C.out.mono ?_
      rintro x w7 ⟨u7, rfl, o7, c7, a7⟩
      have HE := Lib.hid (H.out.then_ o7 c7)
      clear o7 c7 a7 C H hsr
      have c19 := (blk_ms (HI.out.1.chg HE.out.chg id)).2.2.2.2.2
      have hg7 := (HI.out.1.chg HE.out.chg id).lt
      go_wp2_with fail
      go_loopw [3, 34] (fun bv iv wr => ∃ (i : Nat) (u : Value), i ≤ n ∧ bv = u ∧ iv = .int .i64 i ∧ PN w1 (putAll (heads m) ++ putB n ++ (m.es.take i).flatMap Ev.bytes) wr u) (fun _ iv _ => n - (intOf iv).toNat)
      case atStart => exact ⟨0, _, by omega, rfl, by go_num, by rw [List.take_zero, List.flatMap_nil, List.append_nil]; exact HE.out⟩
      case round =>
        obtain ⟨i, u, hi, hu, rfl, hp⟩ := hrel
        have hu := hu.symm
        subst hu
        have hsr := hp.chg.size
        by_cases hlt : i < n
        · have hli : (i : Int) < n := by omega
          obtain ⟨e, he⟩ : ∃ e, m.es[i]? = some e := ⟨_, List.getElem?_eq_getElem (by rw [HN.out]; exact hlt)⟩
          obtain ⟨A', c', hvv, hrd⟩ := HI.out.2.1.new hp.chg
          injection hvv with h1 h2 h3
          subst h1 h3
          obtain ⟨ad, rfl, hld⟩ := ld_ev hrd he
          have hpre := es_pre m.es (i + 1)
          have hpl : (putAll (heads m) ++ putB n ++ (m.es.take (i + 1)).flatMap Ev.bytes).length ≤ (payload m).length := by unfold payload; rw [HN.out]; simp only [List.length_append]; omega
          rw [es_one he, ← List.append_assoc, List.length_append] at hpl
          have HIT := Lib.hid (es_one he)
          have hz : ∀ W, (zeroValue 48).run Tryz.prog W = .ok (.agg zero.cs.toArray) W := fun W => by kernel_rfl
          obtain ⟨wE, hst, b3, n3, g3⟩ := new_ev wr e
          have hle := ldE b3
          have gg3 := b3.lt
          have HX := Lib.hid (hp.new n3)
          have C := Lib.hid (refput wE w1.heap.size _ _ HX.out.own (by have := HX.out.chg.size; omega) e (by have := HPL.out; omega) ((HS.out e (List.mem_of_getElem? he)).t))
          have hw : IntKind.i64.wrap ((i : Int) + 1) = (i : Int) + 1 := IntWalk.i64_in _ (by omega)
          unfold Puts at C
          clear hp hrd hpre hpl he h2 n3 b3
          go_wp2_with fail
          with_reducible refine C.out.mono ?_
          rintro x w9 ⟨u9, rfl, o9, c9, a9⟩
          have HE9 := Lib.hid (HX.out.then_ o9 c9)
          clear o9 c9 a9 C
          go_wp2_with fail
          go_roundw
          case rel => exact ⟨i + 1, _, by omega, rfl, by go_num, by rw [HIT.out, ← List.append_assoc]; exact HE9.out⟩
          case measure => simp [intOf]; omega
        · have H := Lib.hid (show PN w1 (payload m) wr u from by rw [show i = n by omega, List.take_of_length_le (by rw [HN.out]; omega)] at hp; unfold payload; rw [HN.out]; exact hp)
          have hgi : ¬ ((i : Int) < n) := by omega
          clear hp hi hlt
          have HE9 := Lib.hid (And.intro (own_mono (base' := w.heap.size) H.out.own HI.out.2.2.size) (HI.out.2.2.trans H.out.chg fun _ _ => id))
          go_wp2_with fail
          go_ret
          exact ⟨_, rfl, HE9.out⟩
set_option maxHeartbeats 4000000 in
set_option maxRecDepth 20000 in
theorem rbytes (w : World) (F : Nat → Prop) (m : Ms) (v : Value) (hv : RowE w F v m.es) (hF : ∀ b, F b → b < w.heap.size) (hs_ : ∀ e ∈ m.es, Fit e) (hl : m.es.length ≤ 1000000) (hp : (payload m).length ≤ 800000000) :
    Calls Tryz.prog 13 #[m.val v] w fun x w' => ∃ u, x = .returned u ∧ OwnB w' w.heap.size u (Frame.frameL (payload m)) ∧ New w w' := by
  have n1 := (Chg.refl (fun _ => False) w).alloc (.cells (m.cs v).toArray 26)
  have B1 := Blk.new w 26 (m.cs v).toArray
  have g1 := B1.lt
  have l1 := (blk_ms B1).1
  have C := Lib.hid (rpayload _ F m v (hv.new n1) (fun b hb => by have := hF b hb; have := n1.size; omega) hs_ hl hp)
  have N1 := Lib.hid n1
  have HPL := Lib.hid hp
  clear n1 B1 hF hs_ hp hv
  go_enter Tryz.func13, Tryz.ntmps13
  go_wp2_with fail
  with_reducible refine C.out.mono ?_
  rintro x w2 ⟨u, rfl, o2, n2⟩
  have N2 := Lib.hid (N1.out.trans n2 fun _ _ => id)
  obtain ⟨A, c, hu, hc, _⟩ := o2.form
  subst hu
  have C2 := Lib.hid (Frame.ref_put w2 _ (fun _ => False) none A 0 0 (payload m).length c [] (payload m) (Reads.none_ _) (Reads.of_own o2) (fun b hb => hb.elim) (fun b hb => hb.2.1) (by have := HPL.out; omega))
  clear o2 n2 C
  go_wp2_with fail
  with_reducible refine C2.out.mono ?_
  rintro x w3 ⟨u3, rfl, o3, n3⟩
  have HE := Lib.hid (And.intro (own_mono (base' := w.heap.size) o3 N2.out.size) (N2.out.trans n3 fun _ _ => id))
  clear o3 n3 C2
  go_wp2_with fail
  go_ret
  exact ⟨_, rfl, HE.out⟩
end Msg
end Go.Proofs.YtkmkpdmjdfbpjaaGreatDoor

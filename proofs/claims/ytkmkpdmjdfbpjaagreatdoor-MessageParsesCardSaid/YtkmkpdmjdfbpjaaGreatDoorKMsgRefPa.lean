/-
  The document's reference: the message that any bytes tell (no condition beyond the sizes).
-/
import Derived.Test.YtkmkpdmjdfbpjaaGreatDoorJ17
import Derived.Test.YtkmkpdmjdfbpjaaGreatDoorKMsgRefV
import Derived.Test.YtkmkpdmjdfbpjaaGreatDoorKRefNext
import Derived.Test.YtkmkpdmjdfbpjaaGreatDoorKTwo
namespace Go.Proofs.YtkmkpdmjdfbpjaaGreatDoor
set_option linter.unusedSimpArgs false
set_option linter.unusedVariables false
open Go.ChangeShapes Go.WideShapes Go.RowKit Go.Deep
namespace Msg
open Val (JoinC)
open Num Evt Vec
attribute [local go_sem ↓] loadRow0 storeRow0
attribute [local go_sem ↓] Evt.loadDot Evt.loadVec Evt.loadRow0 Evt.storeRow0 Evt.loadOnly0 Evt.loadOnly1 Evt.loadOnly2
def tkM (k : Nat) (s : Rd) : List It × Rd := readAll (shapeM.take k) s
/-- k of a message's 19 numbers in block g are read, with the reference's reader gr; block g0 is as it was made -/
structure FillR (w : World) (F : Nat → Prop) (g0 g gr : Nat) (s : Rd) (k : Nat) (wr : World) : Prop where
  blk : Blk wr g 26 ((msOf (tkM k s).1 []).cs (.slice none 0 0)).toArray
  res : Blk wr g0 26 (m0.cs (.slice none 0 0)).toArray
  rd : RrAt wr F gr (tkM k s).2
  chg : New w wr
  lo : w.heap.size ≤ g ∧ w.heap.size ≤ gr ∧ g ≠ gr ∧ g0 ≠ g ∧ g0 ≠ gr ∧ w.heap.size ≤ g0
theorem FillR.step {w wr w1 : World} {F : Nat → Prop} {g0 g gr k : Nat} {s : Rd} (h : FillR w F g0 g gr s k wr) (hk : k < 19) (hF : ∀ b, F b → b < w.heap.size)
    (hr : RrAt w1 F gr (numP 4611686018427387903 (tkM k s).2).2) (hc : Chg (fun b => b = gr) wr w1) :
    FillR w F g0 g gr s (k + 1) (w1.setCell ⟨g, k, none⟩ (.int .i64 (numP 4611686018427387903 (tkM k s).2).1)) ∧ (∃ x, w1.cell? ⟨g, k, none⟩ = some (.int .i64 x)) ∧ w1.frozen? ⟨g, k, none⟩ = false ∧ g < w1.heap.size := by
  have hl : (tkM k s).1.length = k := by unfold tkM; rw [readAll_len, List.length_take, show shapeM.length = 19 from rfl]; omega
  have ht : shapeM.take (k + 1) = shapeM.take k ++ [.n 0] := by rw [List.take_add_one, shapeM_at hk]; rfl
  have hn : tkM (k + 1) s = ((tkM k s).1 ++ [((It.n 0).read (tkM k s).2).1], ((It.n 0).read (tkM k s).2).2) := by unfold tkM; rw [ht, readAll_snoc]
  have hb := h.blk.chg hc h.lo.2.2.1
  have hb0 := h.res.chg hc h.lo.2.2.2.2.1
  have hs := hb.set_ k (.int .i64 (numP 4611686018427387903 (tkM k s).2).1)
  have c2 := (Chg.refl (fun b => b = g) w1).setCell (p := ⟨g, k, none⟩) (fun _ => rfl) (.int .i64 (numP 4611686018427387903 (tkM k s).2).1)
  refine ⟨⟨?_, ?_, ?_, ?_, h.lo⟩, ?_, hb.frozen k, hb.lt⟩
  · rw [hn]
    rw [List.setIfInBounds_toArray] at hs
    have e := cs_set hk hl (.n (numP 4611686018427387903 (tkM k s).2).1) (.slice none 0 0)
    rw [show int (.n (numP 4611686018427387903 (tkM k s).2).1) = (numP 4611686018427387903 (tkM k s).2).1 from rfl] at e
    rw [e] at hs
    exact hs
  · exact hb0.chg c2 h.lo.2.2.2.1
  · rw [hn]
    exact hr.chg c2 (fun e => h.lo.2.2.1 e.symm) fun b hb e => by have := hF b hb; have := h.lo.1; omega
  · exact (h.chg.trans hc fun i hi e => by have := h.lo.2.1; omega).trans c2 fun i hi e => by have := h.lo.1; omega
  · rw [hb.cell, List.getElem?_toArray]
    unfold Ms.cs
    rcases (show k = 0 ∨ k = 1 ∨ k = 2 ∨ k = 3 ∨ k = 4 ∨ k = 5 ∨ k = 6 ∨ k = 7 ∨ k = 8 ∨ k = 9 ∨ k = 10 ∨ k = 11 ∨ k = 12 ∨ k = 13 ∨ k = 14 ∨ k = 15 ∨ k = 16 ∨ k = 17 ∨ k = 18 by omega) with rfl | rfl | rfl | rfl | rfl | rfl | rfl | rfl | rfl | rfl | rfl | rfl | rfl | rfl | rfl | rfl | rfl | rfl | rfl <;> exact ⟨_, rfl⟩
/-- behind i events that were read -/
structure VsAt (w : World) (F : Nat → Prop) (g0 g gr : Nat) (ys : List It) (K : Nat) (s2 : Rd) (i : Nat) (u : Value) (es : List Ev) (s' : Rd) (wr : World) : Prop where
  blk : Blk wr g 26 ((msOf ys []).cs u).toArray
  res : Blk wr g0 26 (m0.cs (.slice none 0 0)).toArray
  own : OwnE wr w.heap.size u es
  rd : RrAt wr F gr s'
  len : es.length = i
  small : ∀ e ∈ es, Small e
  sz : s'.l.length ≤ 1000
  go : readVs K s2 = (es ++ (readVs (K - i) s').1, (readVs (K - i) s').2)
  chg : New w wr
set_option maxHeartbeats 20000000 in
set_option maxRecDepth 20000 in
theorem rparse (w : World) (F : Nat → Prop) (A : Option Addr) (n cp : Nat) (l : List UInt8) (hr : Reads w F 1 A n (u8s l)) (hF : ∀ b, F b → b < w.heap.size) (hn : n ≤ 1000) (hcp : n ≤ cp) :
    Calls Tryz.prog 15 #[.slice A n cp] w fun x w' => ∃ u, x = .returned (.tuple #[((parseM l).getD m0).val u, .int .i64 (parseE l)]) ∧ OwnE w' w.heap.size u ((parseM l).getD m0).es ∧ New w w' := by
  have hz : ∀ W, (zeroValue 26).run Tryz.prog W = .ok (.agg (m0.cs (.slice none 0 0)).toArray) W := fun W => by kernel_rfl
  have n1 := (Chg.refl (fun _ => False) w).alloc (.cells (m0.cs (.slice none 0 0)).toArray 26)
  have B1 := Blk.new w 26 (m0.cs (.slice none 0 0)).toArray
  have hln := hr.u8len
  have C1 := Frame.ref_take _ F A n cp l (hr.chg n1 fun b hb => ⟨hF b hb, id⟩) (fun b hb => by have := hF b hb; have := n1.size; omega) hcp (by omega)
  have HF := Lib.hid hF
  have HB := Lib.hid (And.intro B1 n1)
  have g1 := B1.lt
  have hNl := Frame.takeN_le l
  have hpe : parseM l = (if Frame.wholeE l = 0 then payR (Frame.wholeP l) else none) ∧ parseE l = if Frame.wholeE l = 0 then (if (parseM l).isSome = true then 0 else 2) else Frame.wholeE l := ⟨by unfold parseM; rw [payM_R], rfl⟩
  have hwe : Frame.wholeE l = if Frame.takeE l ≠ 0 then Frame.takeE l else if Frame.takeN l < l.length then 2 else 0 := rfl
  have hwp : Frame.wholeP l = if Frame.takeE l = 0 ∧ Frame.takeN l = l.length then Frame.takeP l else [] := rfl
  obtain ⟨P, hP⟩ : ∃ P, parseM l = P := ⟨_, rfl⟩
  obtain ⟨E, hE⟩ : ∃ P, parseE l = P := ⟨_, rfl⟩
  rw [hP, hE] at hpe
  rw [hP, hE]
  have hpl : (Frame.takeP l).length ≤ 1000 := by
    unfold Frame.takeP
    split
    · simp only [List.length_drop, List.length_take]; omega
    · exact Nat.zero_le _
  rw [hln] at hwe hwp hNl
  obtain ⟨te, hte⟩ : ∃ p, Frame.takeE l = p := ⟨_, rfl⟩
  obtain ⟨tn, htn⟩ : ∃ p, Frame.takeN l = p := ⟨_, rfl⟩
  obtain ⟨p, hp⟩ : ∃ p, Frame.takeP l = p := ⟨_, rfl⟩
  rw [hte, htn, hp] at C1
  rw [hte, htn] at hwe
  rw [hte, htn, hp] at hwp
  rw [hp] at hpl
  rw [htn] at hNl
  have C1 := Lib.hid C1
  obtain ⟨g0, hg⟩ : ∃ g, w.heap.size = g := ⟨_, rfl⟩
  have HG := Lib.hid hg
  clear n1 B1 hr hF hln hP hE hp hte htn
  go_enter Tryz.func15, Tryz.ntmps15
  go_upto_region 1 with fail
  generalize hw1 : w.alloc (.cells (m0.cs (.slice none 0 0)).toArray 26) = w1 at *
  rw [hg] at HB g1
  try rw [hg]
  clear hw1 hg
  go_wp2_with fail
  with_reducible refine C1.out.mono ?_
  rintro x w2 ⟨v, rfl, hpart, n2⟩
  have HB2 := Lib.hid (And.intro (HB.out.1.chg n2 id) (HB.out.2.trans n2 fun _ _ => id))
  have HPT := Lib.hid hpart
  clear n2 C1 hpart
  by_cases he0 : te = 0
  · subst he0
    rw [if_neg (by simp)] at hwe
    by_cases hlt : tn < n
    · rw [if_pos hlt] at hwe
      have HPE := Lib.hid (show P = none ∧ E = 2 by rw [hwe] at hpe; exact ⟨hpe.1, hpe.2⟩)
      have hti : (tn : Int) < n := by omega
      clear hwe hwp hpe
      have hs0 := stM m0 m0 (.slice none 0 0) (.slice none 0 0) HB2.out.1 rfl
      have hs1 := hs0.1
      have gg := (HB2.out.1).lt
      have c5 := Chg.setCells (S := fun _ => False) (a := w) (g := g0) (m0.cs (.slice none 0 0)) 0 _ (HB2.out.2) (fun h => by have := HG.out; omega)
      have HZ := Lib.hid (And.intro hs0.2 c5)
      clear hs0 c5
      go_wp2_with fail
      refine bodyPost_ret (resMI rfl _ _ g0 26 m0 (.slice none 0 0) rfl ?hblk) rfl ?hpost
      case hblk => exact HZ.out.1
      case hpost => exact ⟨.slice none 0 0, by rw [HPE.out.1, HPE.out.2] <;> rfl, by rw [HPE.out.1]; exact OwnE.nil _ _, HZ.out.2⟩
    · have htn : tn = n := by omega
      rw [if_neg hlt] at hwe
      rw [if_pos ⟨rfl, htn⟩] at hwp
      have hpe2 : P = payR p ∧ E = if P.isSome = true then 0 else 2 := by rw [hwe, if_pos rfl, if_pos rfl, hwp] at hpe; exact hpe
      have hti : ¬ (tn : Int) < n := by omega
      obtain ⟨Av, cv, hv, hlc, hrv⟩ := HPT.out
      subst hv
      have a3 := (Chg.refl (fun _ => False) w2).alloc (.cells #[.slice Av p.length cv, .bool false] 66)
      have a4 := a3.alloc (.cells (m0.cs (.slice none 0 0)).toArray 26)
      have b3 := (Blk.new w2 66 #[.slice Av p.length cv, .bool false]).alloc (.cells (m0.cs (.slice none 0 0)).toArray 26)
      have b4 := Blk.new1 w2 (.cells #[.slice Av p.length cv, .bool false] 66) 26 (m0.cs (.slice none 0 0)).toArray
      have hs2 := HB2.out.2.size
      have hg02 := HB2.out.1.lt
      have HS : FillR w F g0 (w2.heap.size + 1) w2.heap.size ⟨p, false⟩ 0 ((w2.alloc (.cells #[.slice Av p.length cv, .bool false] 66)).alloc (.cells (m0.cs (.slice none 0 0)).toArray 26)) :=
        ⟨b4, HB2.out.1.chg a4 id, ⟨⟨Av, p.length, cv, b3, hrv.chg a4 fun b hb => ⟨by have := HF.out b hb; omega, id⟩, hlc, by omega⟩, fun b hb => ⟨by have := HF.out b hb; have := a4.size; omega, by have := HF.out b hb; omega⟩⟩, HB2.out.2.trans a4 fun _ _ => id, by have := HG.out; exact ⟨by omega, by omega, by omega, by omega, by omega, by omega⟩⟩
      have HS := Lib.hid HS
      have HPE2 := Lib.hid hpe2
      obtain ⟨gr, hgr⟩ : ∃ q, w2.heap.size = q := ⟨_, rfl⟩
      obtain ⟨g, hgg⟩ : ∃ q, gr + 1 = q := ⟨_, rfl⟩
      clear hwe hwp hpe hpe2 a3 a4 b3 b4 hs2 hg02 hrv HPT
      go_upto_region 8 with fail
      generalize hw3 : (w2.alloc (.cells #[.slice Av p.length cv, .bool false] 66)).alloc (.cells (m0.cs (.slice none 0 0)).toArray 26) = w3 at *
      rw [hgr, hgg] at HS
      try rw [hgr]
      try rw [hgg]
      clear hw3 hgr hgg
      have C := Lib.hid (rnum _ F gr _ HS.out.rd 4611686018427387903)
      go_wp2_with fail
      with_reducible refine C.out.mono ?_
      rintro x w4 ⟨rfl, hr1, hc1⟩
      obtain ⟨hf2, ⟨xo, hcell⟩, hfro, hlt1⟩ := HS.out.step (by omega) HF.out hr1 hc1
      have HS := Lib.hid hf2
      clear hf2 hr1 hc1 C
      have C := Lib.hid (rnum _ F gr _ HS.out.rd 4611686018427387903)
      go_wp2_with fail
      with_reducible refine C.out.mono ?_
      rintro x w4 ⟨rfl, hr1, hc1⟩
      obtain ⟨hf2, ⟨xo, hcell⟩, hfro, hlt1⟩ := HS.out.step (by omega) HF.out hr1 hc1
      have HS := Lib.hid hf2
      clear hf2 hr1 hc1 C
      have C := Lib.hid (rnum _ F gr _ HS.out.rd 4611686018427387903)
      go_wp2_with fail
      with_reducible refine C.out.mono ?_
      rintro x w4 ⟨rfl, hr1, hc1⟩
      obtain ⟨hf2, ⟨xo, hcell⟩, hfro, hlt1⟩ := HS.out.step (by omega) HF.out hr1 hc1
      have HS := Lib.hid hf2
      clear hf2 hr1 hc1 C
      go_wp2_with fail
      go_loopw [9] (fun iv wr => ∃ i : Nat, i ≤ 16 ∧ iv = .int .i64 i ∧ FillR w F g0 g gr ⟨p, false⟩ (3 + i) wr) (fun iv _ => 16 - (intOf iv).toNat)
      case atStart => exact ⟨0, by omega, by go_num, HS.out⟩
      case round =>
        obtain ⟨i, hi, rfl, hfill⟩ := hrel
        by_cases hlt : i < 16
        · have hli : (i : Int) < 16 := by omega
          have C := Lib.hid (rnum wr F gr _ hfill.rd 4611686018427387903)
          have HS := Lib.hid hfill
          have hw : IntKind.i64.wrap ((i : Int) + 1) = (i : Int) + 1 := IntWalk.i64_in _ (by omega)
          clear hfill
          go_wp2_with fail
          with_reducible refine C.out.mono ?_
          rintro x w4 ⟨rfl, hr1, hc1⟩
          obtain ⟨hf2, ⟨xo, hcell⟩, hfro, hlt1⟩ := HS.out.step (by omega) HF.out hr1 hc1
          have HE := Lib.hid hf2
          clear hf2 hr1 hc1 C
          go_wp2_with fail
          go_roundw
          case rel => exact ⟨i + 1, by omega, by go_num, HE.out⟩
          case measure => simp [intOf]; omega
        · have HA := Lib.hid (show FillR w F g0 g gr ⟨p, false⟩ 19 wr from by rw [show i = 16 by omega] at hfill; exact hfill)
          have hgi : ¬ ((i : Int) < 16) := by omega
          clear hfill hi hlt
          generalize wr = wp at *
          have ht : tkM 19 ⟨p, false⟩ = readAll shapeM ⟨p, false⟩ := rfl
          have HA := Lib.hid (And.intro HA.out.blk (And.intro HA.out.rd (And.intro HA.out.chg (And.intro HA.out.lo HA.out.res))))
          rw [ht] at HA
          clear ht
          have hZ := HPE2.out.1
          unfold payR at hZ
          have hsz1 := readAll_shrink shapeM ⟨p, false⟩
          obtain ⟨ys, hys⟩ : ∃ y, (readAll shapeM ⟨p, false⟩).1 = y := ⟨_, rfl⟩
          obtain ⟨s1, hs1⟩ : ∃ y, (readAll shapeM ⟨p, false⟩).2 = y := ⟨_, rfl⟩
          rw [hys, hs1] at HA hZ
          rw [hs1] at hsz1
          clear hys hs1
          have C := Lib.hid (rnum wp F gr s1 HA.out.2.1 200)
          have hrange := numP_range 200 (by decide) s1
          have hshr := numP_shrink 200 s1
          obtain ⟨K, hK⟩ := Int.eq_ofNat_of_zero_le hrange.1
          obtain ⟨s2, hs2⟩ : ∃ y, (numP 200 s1).2 = y := ⟨_, rfl⟩
          rw [hK, hs2] at hZ C
          rw [hs2] at hshr
          rw [hK] at hrange
          rw [Int.toNat_natCast] at hZ
          have HZ := Lib.hid hZ
          have HK := Lib.hid (And.intro hrange.2 (show s2.l.length ≤ 1000 by simp only at hsz1; omega))
          clear hK hs2 hrange hshr hsz1 hZ
          go_wp2_with fail
          with_reducible refine C.out.mono ?_
          rintro x w4 ⟨rfl, hr4, hc4⟩
          have HLO := Lib.hid HA.out.2.2.2.1
          have HE0 : VsAt w F g0 g gr ys K s2 0 (.slice none 0 0) [] s2 w4 := ⟨HA.out.1.chg hc4 HLO.out.2.2.1, HA.out.2.2.2.2.chg hc4 HLO.out.2.2.2.2.1, OwnE.nil _ _, hr4, rfl, (fun e h => by cases h), HK.out.2, by simp, HA.out.2.2.1.trans hc4 fun i hi e => by have := HLO.out.2.1; omega⟩
          have HE0 := Lib.hid HE0
          clear C hr4 hc4 HA
          go_wp2_with fail
          go_loopw [11] (fun iv wr => ∃ (i : Nat) (u : Value) (es : List Ev) (s' : Rd), i ≤ K ∧ iv = .int .i64 i ∧ VsAt w F g0 g gr ys K s2 i u es s' wr) (fun iv _ => K - (intOf iv).toNat)
          case atStart => exact ⟨0, _, _, _, by omega, by go_num, HE0.out⟩
          case round =>
            obtain ⟨i, u, es, s', hi, rfl, hE⟩ := hrel
            have HE := Lib.hid hE
            have hgg := HLO.out.2.2
            obtain ⟨A', n', cp', hrb, _⟩ := hE.rd.ex
            have hcb := hrb.cell 1
            have hca := hrb.cell 0
            have hgrl := hrb.lt
            simp only [List.getElem?_toArray, List.getElem?_cons_zero, List.getElem?_cons_succ] at hcb hca
            have hnl : s'.l.length = n' := by
              obtain ⟨A2, n2, cp2, hrb2, hrr, _⟩ := hE.rd.ex
              have h2 := hrb2.cell 0
              rw [hrb.cell 0] at h2
              simp at h2
              rw [hrr.u8len, ← h2.2.1]
            obtain ⟨bd, hbd⟩ : ∃ b, s'.bad = b := ⟨_, rfl⟩
            rw [hbd] at hcb
            by_cases hgo : i < K ∧ bd = false
            · obtain ⟨hlt, hb⟩ := hgo
              subst hb
              have hli : (i : Int) < K := by omega
              have hlig : g < wr.heap.size := hE.blk.lt
              have C := rnext wr.drew F gr s' (hE.rd.new (Chg.refl _ _).drew)
              have hsm := next_small s' hE.sz
              have hnl2 := next_len s'
              have hgo := hE.go
              rw [show K - i = K - (i + 1) + 1 by omega, readVs, if_neg (by rw [hbd]; decide)] at hgo
              obtain ⟨e, he⟩ : ∃ e, (nextP s').1 = e := ⟨_, rfl⟩
              obtain ⟨s3, hs3⟩ : ∃ e, (nextP s').2 = e := ⟨_, rfl⟩
              rw [he, hs3] at C hgo
              rw [he] at hsm
              rw [hs3] at hnl2
              have HGO := Lib.hid (show readVs K s2 = ((es ++ [e]) ++ (readVs (K - (i + 1)) s3).1, (readVs (K - (i + 1)) s3).2) by rw [hgo]; simp)
              have HSM := Lib.hid (And.intro hsm (show s3.l.length ≤ 1000 by have := hE.sz; omega))
              obtain ⟨X, hX⟩ : ∃ X, e.cs.toArray = X := ⟨_, rfl⟩
              have hXs : X.size = 27 := by rw [← hX]; rfl
              have hev : e.val = .agg X := by rw [← hX]
              rw [hev] at C
              have C := Lib.hid C
              have HXX := Lib.hid (And.intro hX hXs)
              have hfold := fold_all zeroE X (by rw [hXs]; rfl) 27 hXs.symm
              simp only [zeroE, List.replicate, List.cons_append, List.nil_append] at hfold
              have c19 : wr.drew.cell? ⟨g, 19, none⟩ = some u := (blk_ms hE.blk.drew).2.2.2.2.2
              have hw : IntKind.i64.wrap ((i : Int) + 1) = (i : Int) + 1 := IntWalk.i64_in _ (by have := HK.out.1; omega)
              have hbt : (if 24 = 24 then true else false) = true := rfl
              have noF := fun (W : World) (_ : Chg (fun k => k = g ∨ k = gr ∨ u.ownBlock = some k) wr.drew W) => True.intro
              clear hE hrb hbd hnl hgo he hs3 hsm hnl2 hX hev
              go_wp2_with fail
              refine grow_start (fun k => k = g ∨ k = gr ∨ u.ownBlock = some k) (by kernel_rfl) ?_
              refine grow_take (i := 0) (oi := { dst := some 62, op := Op.fieldAddr 26 (Operand.tmp 8) 4, type := 0, pos := "ref.go:67", after := #[], guard := none }) (v := ?_) rfl (by kernel_rfl) (by kernel_rfl) (by kernel_rfl) (by rfl) ?_ ?_; rotate_left; focus ((intro W hW; go_simp) <;> with_reducible rfl)
              simp only [Act.put, List.setIfInBounds_toArray, List.set_cons_zero, List.set_cons_succ]
              refine grow_take (i := 2) (oi := { dst := some 64, op := Op.move (Operand.tmp 7), type := 64, pos := "ref.go:67", after := #[], guard := none }) (v := ?_) rfl (by kernel_rfl) (by kernel_rfl) (by kernel_rfl) (by rfl) ?_ ?_; rotate_left; focus ((intro W hW; go_simp) <;> with_reducible rfl)
              simp only [Act.put, List.setIfInBounds_toArray, List.set_cons_zero, List.set_cons_succ]
              refine grow_two (i := 1) (oi := { dst := some 63, op := Op.load 24 (Operand.tmp 62), type := 24, pos := "ref.go:67", after := #[{ on := 0, ground := Ground.data }], guard := none }) (j := 3) (oj := { dst := some 65, op := Op.call { callee := Callee.value (Operand.func 35), args := #[Operand.tmp 64], argTypes := #[64] }, type := 48, pos := "ref.go:67", after := #[{ on := 2, ground := Ground.data }], guard := none }) (by kernel_rfl) rfl rfl (by rfl) (by rfl) (fun K hK => ?_) (fun K hK => ?_)
              go_simp
              refine hK _ _ (Chg.refl _ _) ?_
              clear hK K
              try simp only [Act.put, List.setIfInBounds_toArray, List.set_cons_zero, List.set_cons_succ]
              refine grow_next (i := 3) (oi := { dst := some 65, op := Op.call { callee := Callee.value (Operand.func 35), args := #[Operand.tmp 64], argTypes := #[64] }, type := 48, pos := "ref.go:67", after := #[{ on := 2, ground := Ground.data }], guard := none }) (by kernel_rfl) rfl (by rfl) (fun K hK => ?_)
              go_simp
              with_reducible refine C.out.mono ?_
              rintro x w5 ⟨rfl, hr5, c5⟩
              refine hK _ _ (c5.mono fun _ _ e => .inr (.inl e)) ?_
              clear hK K
              try simp only [Act.put, List.setIfInBounds_toArray, List.set_cons_zero, List.set_cons_succ]
              have HB5 := Lib.hid (HE.out.blk.drew.chg c5 hgg.1)
              have HR5 := Lib.hid (HE.out.res.drew.chg c5 hgg.2.2.1)
              have N5 := Lib.hid (HE.out.chg.drew.trans c5 fun i hi e => by have := HLO.out.2.1; omega)
              have O5 := Lib.hid (own_chg (own_chg HE.out.own (Chg.refl (fun _ => False) wr).drew fun _ _ => id) c5 fun k hk e => by (obtain ⟨_, _, _, h1, _⟩ := HE.out.rd.ex; exact own_ne HE.out.own h1 (by decide) (e ▸ hk)))
              have RD5 := Lib.hid hr5
              have c19b := (blk_ms HB5.out).2.2.2.2.2
              clear hr5 c5
              refine grow_next (i := 4) (oi := { dst := some 66, op := Op.buildSlice 24 1 #[(0, Operand.tmp 65)], type := 24, pos := "ref.go:67", after := #[{ on := 3, ground := Ground.data }], guard := none }) (by kernel_rfl) rfl (by rfl) (fun K hK => ?_)
              go_simp
              refine hK _ _ ((Chg.refl _ _).alloc _) ?_
              clear hK K
              try simp only [Act.put, List.setIfInBounds_toArray, List.set_cons_zero, List.set_cons_succ]
              have c19c := (blk_ms (HB5.out.alloc (.cells X 48))).2.2.2.2.2
              have HRD : Reads (w5.alloc (.cells X 48)) (fun b => b = w5.heap.size) 27 (some ⟨w5.heap.size, 0, none⟩) 1 (rowE [e]) := (by have := Reads.of_row (w := w5.alloc (.cells X 48)) (g := w5.heap.size) (n := 1) (size := 27) (heap_alloc_new w5 _) (by rw [HXX.out.2]); rw [← HXX.out.1] at this ⊢; simpa [rowE] using this)
              refine grow_next (i := 5) (oi := { dst := some 67, op := Op.call { callee := Callee.builtin Builtin.append, args := #[Operand.tmp 63, Operand.tmp 66], argTypes := #[24, 24] }, type := 24, pos := "ref.go:67", after := #[{ on := 1, ground := Ground.data }, { on := 4, ground := Ground.data }, { on := 3, ground := Ground.chain }], guard := none }) (by kernel_rfl) rfl (by rfl) (fun K hK => ?_)
              refine wp_append_ev _ (.tmp 63) (.tmp 66) (by rfl) w.heap.size u es (by rfl) (World.ownsRow.alloc O5.out _) _ _ _ _ [e] (by rfl) HRD (by have := HE.out.len; have := HK.out.1; omega) (by have := N5.out.size; simp; omega) ?_
              intro v6 w6 o6 g6 a6
              refine hK _ _ ((Chg.refl _ _).grown g6 fun k e _ => .inr (.inr e)) ?_
              clear hK K
              try simp only [Act.put, List.setIfInBounds_toArray, List.set_cons_zero, List.set_cons_succ]
              obtain ⟨A6, cc6, h6⟩ := OwnE.form o6
              obtain ⟨n6', hn6⟩ : ∃ q, (es ++ [e]).length = q := ⟨_, rfl⟩
              rw [hn6] at h6
              subst h6
              clear hn6
              have c6 : Chg (fun k => u.ownBlock = some k) w5 w6 := Chg.grown ((Chg.refl _ w5).alloc _) g6 fun k hk _ => hk
              have hge : ∀ k, u.ownBlock = some k → w.heap.size ≤ k := fun k hk => (own_lt O5.out hk).1
              have hB6 := HB5.out.chg c6 (own_ne O5.out HB5.out (by decide))
              have hZ6 := HR5.out.chg c6 (own_ne O5.out HR5.out (by decide))
              have hR6 := RD5.out.chg c6 (by (obtain ⟨_, _, _, h1, _⟩ := RD5.out.ex; exact own_ne O5.out h1 (by decide))) fun b hb e => by (have := HF.out b hb; have := hge b e; omega)
              have n6 := N5.out.trans c6 fun i hi e => by (have := hge i e; omega)
              have c19' := (blk_ms hB6).2.2.2.2.2
              have hfr := hB6.frozen 19
              have hlt6 := hB6.lt
              have hv6 : (Value.slice A6 n6' cc6).ownBlock ≠ some g := own_ne o6 hB6 (by decide)
              have c7 := (Chg.refl (fun b => b = g) w6).setCell (p := ⟨g, 19, none⟩) (fun _ => rfl) (.slice A6 n6' cc6)
              have hs7 := hB6.set_ 19 (.slice A6 n6' cc6)
              rw [List.setIfInBounds_toArray, cs_19] at hs7
              have HNX : VsAt w F g0 g gr ys K s2 (i + 1) (.slice A6 n6' cc6) (es ++ [e]) s3 (w6.setCell ⟨g, 19, none⟩ (.slice A6 n6' cc6)) := ⟨hs7, hZ6.chg c7 hgg.2.1, own_chg o6 c7 fun k hk h => hv6 (h ▸ hk), hR6.chg c7 (fun h => hgg.1 h.symm) fun b hb h => by (have := HF.out b hb; have := HLO.out.1; omega), by (rw [List.length_append, HE.out.len]; rfl), fun x hx => (List.mem_append.1 hx).elim (HE.out.small x) (fun h => by rw [List.mem_singleton.1 h]; exact HSM.out.1), HSM.out.2, HGO.out, n6.trans c7 fun i hi h => by (have := HLO.out.1; omega)⟩
              have HNX := Lib.hid HNX
              clear HRD o6 g6 a6 c6 hge hB6 hZ6 hR6 n6 hv6 c7 hs7
              refine grow_take (i := 6) (oi := { dst := some 68, op := Op.fieldAddr 26 (Operand.tmp 8) 4, type := 0, pos := "ref.go:67", after := #[{ on := 0, ground := Ground.phase }, { on := 1, ground := Ground.phase }, { on := 2, ground := Ground.phase }, { on := 3, ground := Ground.phase }, { on := 4, ground := Ground.phase }, { on := 5, ground := Ground.phase }], guard := none }) (v := ?_) rfl (by kernel_rfl) (by kernel_rfl) (by kernel_rfl) (by rfl) ?_ ?_; rotate_left; focus ((intro W hW; go_simp) <;> with_reducible rfl)
              simp only [Act.put, List.setIfInBounds_toArray, List.set_cons_zero, List.set_cons_succ]
              refine grow_next (i := 7) (oi := { dst := none, op := Op.store 24 (Operand.tmp 68) (Operand.tmp 67), type := 0, pos := "ref.go:67", after := #[{ on := 6, ground := Ground.data }, { on := 5, ground := Ground.data }, { on := 5, ground := Ground.chain }, { on := 0, ground := Ground.phase }, { on := 1, ground := Ground.phase }, { on := 2, ground := Ground.phase }, { on := 3, ground := Ground.phase }, { on := 4, ground := Ground.phase }, { on := 5, ground := Ground.phase }], guard := none }) (by kernel_rfl) rfl (by rfl) (fun K hK => ?_)
              go_simp
              refine hK _ _ ((Chg.refl _ _).setCell (p := ⟨g, 19, none⟩) (fun _ => .inl rfl) _) ?_
              clear hK K
              try simp only [Act.put, List.setIfInBounds_toArray, List.set_cons_zero, List.set_cons_succ]
              refine grow_done (by kernel_rfl) ?_ _
              rotate_left
              go_simp
              with_reducible refine C.out.mono ?_
              rintro x w5 ⟨rfl, hr5, c5⟩
              refine hK _ _ (c5.mono fun _ _ e => .inr (.inl e)) ?_
              clear hK K
              try simp only [Act.put, List.setIfInBounds_toArray, List.set_cons_zero, List.set_cons_succ]
              have HB5 := Lib.hid (HE.out.blk.drew.chg c5 hgg.1)
              have HR5 := Lib.hid (HE.out.res.drew.chg c5 hgg.2.2.1)
              have N5 := Lib.hid (HE.out.chg.drew.trans c5 fun i hi e => by have := HLO.out.2.1; omega)
              have O5 := Lib.hid (own_chg (own_chg HE.out.own (Chg.refl (fun _ => False) wr).drew fun _ _ => id) c5 fun k hk e => by (obtain ⟨_, _, _, h1, _⟩ := HE.out.rd.ex; exact own_ne HE.out.own h1 (by decide) (e ▸ hk)))
              have RD5 := Lib.hid hr5
              have c19b := (blk_ms HB5.out).2.2.2.2.2
              clear hr5 c5
              refine grow_two (i := 1) (oi := { dst := some 63, op := Op.load 24 (Operand.tmp 62), type := 24, pos := "ref.go:67", after := #[{ on := 0, ground := Ground.data }], guard := none }) (j := 4) (oj := { dst := some 66, op := Op.buildSlice 24 1 #[(0, Operand.tmp 65)], type := 24, pos := "ref.go:67", after := #[{ on := 3, ground := Ground.data }], guard := none }) (by kernel_rfl) rfl rfl (by rfl) (by rfl) (fun K hK => ?_) (fun K hK => ?_)
              go_simp
              refine hK _ _ (Chg.refl _ _) ?_
              clear hK K
              try simp only [Act.put, List.setIfInBounds_toArray, List.set_cons_zero, List.set_cons_succ]
              refine grow_next (i := 4) (oi := { dst := some 66, op := Op.buildSlice 24 1 #[(0, Operand.tmp 65)], type := 24, pos := "ref.go:67", after := #[{ on := 3, ground := Ground.data }], guard := none }) (by kernel_rfl) rfl (by rfl) (fun K hK => ?_)
              go_simp
              refine hK _ _ ((Chg.refl _ _).alloc _) ?_
              clear hK K
              try simp only [Act.put, List.setIfInBounds_toArray, List.set_cons_zero, List.set_cons_succ]
              have c19c := (blk_ms (HB5.out.alloc (.cells X 48))).2.2.2.2.2
              have HRD : Reads (w5.alloc (.cells X 48)) (fun b => b = w5.heap.size) 27 (some ⟨w5.heap.size, 0, none⟩) 1 (rowE [e]) := (by have := Reads.of_row (w := w5.alloc (.cells X 48)) (g := w5.heap.size) (n := 1) (size := 27) (heap_alloc_new w5 _) (by rw [HXX.out.2]); rw [← HXX.out.1] at this ⊢; simpa [rowE] using this)
              refine grow_next (i := 5) (oi := { dst := some 67, op := Op.call { callee := Callee.builtin Builtin.append, args := #[Operand.tmp 63, Operand.tmp 66], argTypes := #[24, 24] }, type := 24, pos := "ref.go:67", after := #[{ on := 1, ground := Ground.data }, { on := 4, ground := Ground.data }, { on := 3, ground := Ground.chain }], guard := none }) (by kernel_rfl) rfl (by rfl) (fun K hK => ?_)
              refine wp_append_ev _ (.tmp 63) (.tmp 66) (by rfl) w.heap.size u es (by rfl) (World.ownsRow.alloc O5.out _) _ _ _ _ [e] (by rfl) HRD (by have := HE.out.len; have := HK.out.1; omega) (by have := N5.out.size; simp; omega) ?_
              intro v6 w6 o6 g6 a6
              refine hK _ _ ((Chg.refl _ _).grown g6 fun k e _ => .inr (.inr e)) ?_
              clear hK K
              try simp only [Act.put, List.setIfInBounds_toArray, List.set_cons_zero, List.set_cons_succ]
              obtain ⟨A6, cc6, h6⟩ := OwnE.form o6
              obtain ⟨n6', hn6⟩ : ∃ q, (es ++ [e]).length = q := ⟨_, rfl⟩
              rw [hn6] at h6
              subst h6
              clear hn6
              have c6 : Chg (fun k => u.ownBlock = some k) w5 w6 := Chg.grown ((Chg.refl _ w5).alloc _) g6 fun k hk _ => hk
              have hge : ∀ k, u.ownBlock = some k → w.heap.size ≤ k := fun k hk => (own_lt O5.out hk).1
              have hB6 := HB5.out.chg c6 (own_ne O5.out HB5.out (by decide))
              have hZ6 := HR5.out.chg c6 (own_ne O5.out HR5.out (by decide))
              have hR6 := RD5.out.chg c6 (by (obtain ⟨_, _, _, h1, _⟩ := RD5.out.ex; exact own_ne O5.out h1 (by decide))) fun b hb e => by (have := HF.out b hb; have := hge b e; omega)
              have n6 := N5.out.trans c6 fun i hi e => by (have := hge i e; omega)
              have c19' := (blk_ms hB6).2.2.2.2.2
              have hfr := hB6.frozen 19
              have hlt6 := hB6.lt
              have hv6 : (Value.slice A6 n6' cc6).ownBlock ≠ some g := own_ne o6 hB6 (by decide)
              have c7 := (Chg.refl (fun b => b = g) w6).setCell (p := ⟨g, 19, none⟩) (fun _ => rfl) (.slice A6 n6' cc6)
              have hs7 := hB6.set_ 19 (.slice A6 n6' cc6)
              rw [List.setIfInBounds_toArray, cs_19] at hs7
              have HNX : VsAt w F g0 g gr ys K s2 (i + 1) (.slice A6 n6' cc6) (es ++ [e]) s3 (w6.setCell ⟨g, 19, none⟩ (.slice A6 n6' cc6)) := ⟨hs7, hZ6.chg c7 hgg.2.1, own_chg o6 c7 fun k hk h => hv6 (h ▸ hk), hR6.chg c7 (fun h => hgg.1 h.symm) fun b hb h => by (have := HF.out b hb; have := HLO.out.1; omega), by (rw [List.length_append, HE.out.len]; rfl), fun x hx => (List.mem_append.1 hx).elim (HE.out.small x) (fun h => by rw [List.mem_singleton.1 h]; exact HSM.out.1), HSM.out.2, HGO.out, n6.trans c7 fun i hi h => by (have := HLO.out.1; omega)⟩
              have HNX := Lib.hid HNX
              clear HRD o6 g6 a6 c6 hge hB6 hZ6 hR6 n6 hv6 c7 hs7
              refine grow_take (i := 6) (oi := { dst := some 68, op := Op.fieldAddr 26 (Operand.tmp 8) 4, type := 0, pos := "ref.go:67", after := #[{ on := 0, ground := Ground.phase }, { on := 1, ground := Ground.phase }, { on := 2, ground := Ground.phase }, { on := 3, ground := Ground.phase }, { on := 4, ground := Ground.phase }, { on := 5, ground := Ground.phase }], guard := none }) (v := ?_) rfl (by kernel_rfl) (by kernel_rfl) (by kernel_rfl) (by rfl) ?_ ?_; rotate_left; focus ((intro W hW; go_simp) <;> with_reducible rfl)
              simp only [Act.put, List.setIfInBounds_toArray, List.set_cons_zero, List.set_cons_succ]
              refine grow_next (i := 7) (oi := { dst := none, op := Op.store 24 (Operand.tmp 68) (Operand.tmp 67), type := 0, pos := "ref.go:67", after := #[{ on := 6, ground := Ground.data }, { on := 5, ground := Ground.data }, { on := 5, ground := Ground.chain }, { on := 0, ground := Ground.phase }, { on := 1, ground := Ground.phase }, { on := 2, ground := Ground.phase }, { on := 3, ground := Ground.phase }, { on := 4, ground := Ground.phase }, { on := 5, ground := Ground.phase }], guard := none }) (by kernel_rfl) rfl (by rfl) (fun K hK => ?_)
              go_simp
              refine hK _ _ ((Chg.refl _ _).setCell (p := ⟨g, 19, none⟩) (fun _ => .inl rfl) _) ?_
              clear hK K
              try simp only [Act.put, List.setIfInBounds_toArray, List.set_cons_zero, List.set_cons_succ]
              refine grow_done (by kernel_rfl) ?_ _
              rotate_left
              go_simp
              refine hK _ _ ((Chg.refl _ _).alloc _) ?_
              clear hK K
              try simp only [Act.put, List.setIfInBounds_toArray, List.set_cons_zero, List.set_cons_succ]
              have c19c := (blk_ms (HB5.out.alloc (.cells X 48))).2.2.2.2.2
              have HRD : Reads (w5.alloc (.cells X 48)) (fun b => b = w5.heap.size) 27 (some ⟨w5.heap.size, 0, none⟩) 1 (rowE [e]) := (by have := Reads.of_row (w := w5.alloc (.cells X 48)) (g := w5.heap.size) (n := 1) (size := 27) (heap_alloc_new w5 _) (by rw [HXX.out.2]); rw [← HXX.out.1] at this ⊢; simpa [rowE] using this)
              refine grow_next (i := 1) (oi := { dst := some 63, op := Op.load 24 (Operand.tmp 62), type := 24, pos := "ref.go:67", after := #[{ on := 0, ground := Ground.data }], guard := none }) (by kernel_rfl) rfl (by rfl) (fun K hK => ?_)
              go_simp
              refine hK _ _ (Chg.refl _ _) ?_
              clear hK K
              try simp only [Act.put, List.setIfInBounds_toArray, List.set_cons_zero, List.set_cons_succ]
              refine grow_next (i := 5) (oi := { dst := some 67, op := Op.call { callee := Callee.builtin Builtin.append, args := #[Operand.tmp 63, Operand.tmp 66], argTypes := #[24, 24] }, type := 24, pos := "ref.go:67", after := #[{ on := 1, ground := Ground.data }, { on := 4, ground := Ground.data }, { on := 3, ground := Ground.chain }], guard := none }) (by kernel_rfl) rfl (by rfl) (fun K hK => ?_)
              refine wp_append_ev _ (.tmp 63) (.tmp 66) (by rfl) w.heap.size u es (by rfl) (World.ownsRow.alloc O5.out _) _ _ _ _ [e] (by rfl) HRD (by have := HE.out.len; have := HK.out.1; omega) (by have := N5.out.size; simp; omega) ?_
              intro v6 w6 o6 g6 a6
              refine hK _ _ ((Chg.refl _ _).grown g6 fun k e _ => .inr (.inr e)) ?_
              clear hK K
              try simp only [Act.put, List.setIfInBounds_toArray, List.set_cons_zero, List.set_cons_succ]
              obtain ⟨A6, cc6, h6⟩ := OwnE.form o6
              obtain ⟨n6', hn6⟩ : ∃ q, (es ++ [e]).length = q := ⟨_, rfl⟩
              rw [hn6] at h6
              subst h6
              clear hn6
              have c6 : Chg (fun k => u.ownBlock = some k) w5 w6 := Chg.grown ((Chg.refl _ w5).alloc _) g6 fun k hk _ => hk
              have hge : ∀ k, u.ownBlock = some k → w.heap.size ≤ k := fun k hk => (own_lt O5.out hk).1
              have hB6 := HB5.out.chg c6 (own_ne O5.out HB5.out (by decide))
              have hZ6 := HR5.out.chg c6 (own_ne O5.out HR5.out (by decide))
              have hR6 := RD5.out.chg c6 (by (obtain ⟨_, _, _, h1, _⟩ := RD5.out.ex; exact own_ne O5.out h1 (by decide))) fun b hb e => by (have := HF.out b hb; have := hge b e; omega)
              have n6 := N5.out.trans c6 fun i hi e => by (have := hge i e; omega)
              have c19' := (blk_ms hB6).2.2.2.2.2
              have hfr := hB6.frozen 19
              have hlt6 := hB6.lt
              have hv6 : (Value.slice A6 n6' cc6).ownBlock ≠ some g := own_ne o6 hB6 (by decide)
              have c7 := (Chg.refl (fun b => b = g) w6).setCell (p := ⟨g, 19, none⟩) (fun _ => rfl) (.slice A6 n6' cc6)
              have hs7 := hB6.set_ 19 (.slice A6 n6' cc6)
              rw [List.setIfInBounds_toArray, cs_19] at hs7
              have HNX : VsAt w F g0 g gr ys K s2 (i + 1) (.slice A6 n6' cc6) (es ++ [e]) s3 (w6.setCell ⟨g, 19, none⟩ (.slice A6 n6' cc6)) := ⟨hs7, hZ6.chg c7 hgg.2.1, own_chg o6 c7 fun k hk h => hv6 (h ▸ hk), hR6.chg c7 (fun h => hgg.1 h.symm) fun b hb h => by (have := HF.out b hb; have := HLO.out.1; omega), by (rw [List.length_append, HE.out.len]; rfl), fun x hx => (List.mem_append.1 hx).elim (HE.out.small x) (fun h => by rw [List.mem_singleton.1 h]; exact HSM.out.1), HSM.out.2, HGO.out, n6.trans c7 fun i hi h => by (have := HLO.out.1; omega)⟩
              have HNX := Lib.hid HNX
              clear HRD o6 g6 a6 c6 hge hB6 hZ6 hR6 n6 hv6 c7 hs7
              refine grow_take (i := 6) (oi := { dst := some 68, op := Op.fieldAddr 26 (Operand.tmp 8) 4, type := 0, pos := "ref.go:67", after := #[{ on := 0, ground := Ground.phase }, { on := 1, ground := Ground.phase }, { on := 2, ground := Ground.phase }, { on := 3, ground := Ground.phase }, { on := 4, ground := Ground.phase }, { on := 5, ground := Ground.phase }], guard := none }) (v := ?_) rfl (by kernel_rfl) (by kernel_rfl) (by kernel_rfl) (by rfl) ?_ ?_; rotate_left; focus ((intro W hW; go_simp) <;> with_reducible rfl)
              simp only [Act.put, List.setIfInBounds_toArray, List.set_cons_zero, List.set_cons_succ]
              refine grow_next (i := 7) (oi := { dst := none, op := Op.store 24 (Operand.tmp 68) (Operand.tmp 67), type := 0, pos := "ref.go:67", after := #[{ on := 6, ground := Ground.data }, { on := 5, ground := Ground.data }, { on := 5, ground := Ground.chain }, { on := 0, ground := Ground.phase }, { on := 1, ground := Ground.phase }, { on := 2, ground := Ground.phase }, { on := 3, ground := Ground.phase }, { on := 4, ground := Ground.phase }, { on := 5, ground := Ground.phase }], guard := none }) (by kernel_rfl) rfl (by rfl) (fun K hK => ?_)
              go_simp
              refine hK _ _ ((Chg.refl _ _).setCell (p := ⟨g, 19, none⟩) (fun _ => .inl rfl) _) ?_
              clear hK K
              try simp only [Act.put, List.setIfInBounds_toArray, List.set_cons_zero, List.set_cons_succ]
              refine grow_done (by kernel_rfl) ?_ _
              rotate_left
              rotate_left
              all_goals
                clear hfold c19 c19b c19c c19' hfr hlt6 noF
                go_wp2_with fail
                go_roundw
                case rel => exact ⟨i + 1, _, _, _, by omega, by go_num, HNX.out⟩
                case measure => simp [intOf]; omega
            · have hend : readVs K s2 = (es, s') := by
                rw [hE.go]
                rcases Nat.lt_or_ge i K with h | h
                · have hb : s'.bad = true := by
                    rw [hbd]
                    cases bd
                    · exact (hgo ⟨h, rfl⟩).elim
                    · rfl
                  rw [readVs_bad _ hb]
                  simp
                · rw [show K - i = 0 by omega]
                  simp [readVs]
              have hZ := HZ.out
              rw [hend] at hZ
              dsimp only at hZ
              rw [hbd] at hZ
              have hE0 := HPE2.out.2
              have hu1 : u.oneCell' = true := by obtain ⟨A', c', h⟩ := hE.own.form; rw [h]; rfl
              have hl0 : (LoadRow 26 ⟨g, 0, none⟩).run Tryz.prog wr = .ok ((msOf ys es).val u) wr := ldM hE.blk
              have hgl := hE.blk.lt
              have HL := Lib.hid (show s'.l.length = n' from hnl)
              have CR := fun (W : World) (hW : RowE W (fun b => w.heap.size ≤ b ∧ b < wr.heap.size ∧ u.ownBlock = some b) u es) => rright W _ (msOf ys es) u hW HE.out.small (by show es.length ≤ _; rw [HE.out.len]; have := HK.out.1; omega)
              have CR := CR wr (RowE.of_own hE.own)
              have hlk : es.length ≤ 1000000 := by rw [hE.len]; have := HK.out.1; omega
              clear hE hrb hnl hbd hend hgg
              by_cases hik : i < K
              · have hki : (i : Int) < K := by omega
                have hbd1 : bd = true := by
                  cases bd
                  · exact (hgo ⟨hik, rfl⟩).elim
                  · rfl
                subst hbd1
                clear hgo hik
                rw [if_neg (by simp)] at hZ
                have HPE := Lib.hid (show P = none ∧ E = 2 from ⟨hZ, by rw [hE0, hZ]; rfl⟩)
                have HB5 := Lib.hid (And.intro HE.out.res HE.out.chg)
                clear hZ hE0 CR
                have hs0 := stM m0 m0 (.slice none 0 0) (.slice none 0 0) HB5.out.1 rfl
                have hs1 := hs0.1
                have gg := (HB5.out.1).lt
                have c5 := Chg.setCells (S := fun _ => False) (a := w) (g := g0) (m0.cs (.slice none 0 0)) 0 _ (HB5.out.2) (fun h => by have := HG.out; omega)
                have HZ := Lib.hid (And.intro hs0.2 c5)
                clear hs0 c5
                go_wp2_with fail
                refine bodyPost_ret (resMI rfl _ _ g0 26 m0 (.slice none 0 0) rfl ?hblk) rfl ?hpost
                case hblk => exact HZ.out.1
                case hpost => exact ⟨.slice none 0 0, by rw [HPE.out.1, HPE.out.2] <;> rfl, by rw [HPE.out.1]; exact OwnE.nil _ _, HZ.out.2⟩
              · have hki : ¬ (i : Int) < K := by omega
                clear hgo hik
                cases bd
                · by_cases hn0 : n' = 0
                  · subst hn0
                    obtain ⟨r, hr⟩ : ∃ r, rightM (msOf ys es) = r := ⟨_, rfl⟩
                    rw [hr] at CR hZ
                    have CR := Lib.hid CR
                    have hl0e : s'.l = [] := List.eq_nil_of_length_eq_zero HL.out
                    cases r
                    · rw [if_neg (by simp)] at hZ
                      have HPE := Lib.hid (show P = none ∧ E = 2 from ⟨hZ, by rw [hE0, hZ]; rfl⟩)
                      clear hZ hE0 hr hl0e
                      go_wp2_with fail
                      with_reducible refine CR.out.mono ?_
                      rintro x w5 ⟨rfl, n5⟩
                      have HB5 := Lib.hid (And.intro (HE.out.res.chg n5 id) (HE.out.chg.trans n5 fun _ _ => id))
                      clear n5
                      have hs0 := stM m0 m0 (.slice none 0 0) (.slice none 0 0) HB5.out.1 rfl
                      have hs1 := hs0.1
                      have gg := (HB5.out.1).lt
                      have c5 := Chg.setCells (S := fun _ => False) (a := w) (g := g0) (m0.cs (.slice none 0 0)) 0 _ (HB5.out.2) (fun h => by have := HG.out; omega)
                      have HZ := Lib.hid (And.intro hs0.2 c5)
                      clear hs0 c5
                      go_wp2_with fail
                      refine bodyPost_ret (resMI rfl _ _ g0 26 m0 (.slice none 0 0) rfl ?hblk) rfl ?hpost
                      case hblk => exact HZ.out.1
                      case hpost => exact ⟨.slice none 0 0, by rw [HPE.out.1, HPE.out.2] <;> rfl, by rw [HPE.out.1]; exact OwnE.nil _ _, HZ.out.2⟩
                    · rw [if_pos ⟨⟨rfl, hl0e⟩, rfl⟩] at hZ
                      have HPE := Lib.hid (show P = some (msOf ys es) ∧ E = 0 from ⟨hZ, by rw [hE0, hZ]; rfl⟩)
                      clear hZ hE0 hr hl0e
                      go_wp2_with fail
                      with_reducible refine CR.out.mono ?_
                      rintro x w5 ⟨rfl, n5⟩
                      have HB5 := Lib.hid (And.intro (HE.out.res.chg n5 id) (HE.out.chg.trans n5 fun _ _ => id))
                      have hl5 : (LoadRow 26 ⟨g, 0, none⟩).run Tryz.prog w5 = .ok ((msOf ys es).val u) w5 := ldM (HE.out.blk.chg n5 id)
                      have hg5 := (HE.out.blk.chg n5 id).lt
                      have HO5 := Lib.hid (own_chg HE.out.own n5 fun _ _ => id)
                      have hs0 := stM m0 (msOf ys es) (.slice none 0 0) u HB5.out.1 hu1
                      have hs1 := hs0.1
                      have gg := HB5.out.1.lt
                      have c5 := Chg.setCells (S := fun _ => False) (a := w) (g := g0) ((msOf ys es).cs u) 0 _ HB5.out.2 (fun h => by have := HG.out; omega)
                      have c6 := (Chg.refl (fun b => b = g0) w5).setCells (g := g0) ((msOf ys es).cs u) 0 _ (fun _ => rfl)
                      have HZZ := Lib.hid (And.intro hs0.2 (And.intro c5 (own_chg HO5.out c6 fun k hk e => own_ne HO5.out HB5.out.1 (by decide) (e ▸ hk))))
                      clear hs0 c5 c6 n5 hl0
                      go_wp2_with fail
                      refine bodyPost_ret (resMI rfl _ _ g0 26 (msOf ys es) u rfl ?hblk) rfl ?hpost
                      case hblk => exact HZZ.out.1
                      case hpost => exact ⟨u, by rw [HPE.out.1, HPE.out.2] <;> rfl, by rw [HPE.out.1]; exact HZZ.out.2.2, HZZ.out.2.1⟩
                  · have hnp : (0 : Int) < n' := by omega
                    rw [if_neg (by rintro ⟨⟨_, h⟩, _⟩; have := HL.out; rw [h] at this; simp at this; omega)] at hZ
                    have HPE := Lib.hid (show P = none ∧ E = 2 from ⟨hZ, by rw [hE0, hZ]; rfl⟩)
                    have HB5 := Lib.hid (And.intro HE.out.res HE.out.chg)
                    clear hZ hE0 CR
                    have hs0 := stM m0 m0 (.slice none 0 0) (.slice none 0 0) HB5.out.1 rfl
                    have hs1 := hs0.1
                    have gg := (HB5.out.1).lt
                    have c5 := Chg.setCells (S := fun _ => False) (a := w) (g := g0) (m0.cs (.slice none 0 0)) 0 _ (HB5.out.2) (fun h => by have := HG.out; omega)
                    have HZ := Lib.hid (And.intro hs0.2 c5)
                    clear hs0 c5
                    go_wp2_with fail
                    refine bodyPost_ret (resMI rfl _ _ g0 26 m0 (.slice none 0 0) rfl ?hblk) rfl ?hpost
                    case hblk => exact HZ.out.1
                    case hpost => exact ⟨.slice none 0 0, by rw [HPE.out.1, HPE.out.2] <;> rfl, by rw [HPE.out.1]; exact OwnE.nil _ _, HZ.out.2⟩
                · rw [if_neg (by simp)] at hZ
                  have HPE := Lib.hid (show P = none ∧ E = 2 from ⟨hZ, by rw [hE0, hZ]; rfl⟩)
                  have HB5 := Lib.hid (And.intro HE.out.res HE.out.chg)
                  clear hZ hE0 CR
                  have hs0 := stM m0 m0 (.slice none 0 0) (.slice none 0 0) HB5.out.1 rfl
                  have hs1 := hs0.1
                  have gg := (HB5.out.1).lt
                  have c5 := Chg.setCells (S := fun _ => False) (a := w) (g := g0) (m0.cs (.slice none 0 0)) 0 _ (HB5.out.2) (fun h => by have := HG.out; omega)
                  have HZ := Lib.hid (And.intro hs0.2 c5)
                  clear hs0 c5
                  go_wp2_with fail
                  refine bodyPost_ret (resMI rfl _ _ g0 26 m0 (.slice none 0 0) rfl ?hblk) rfl ?hpost
                  case hblk => exact HZ.out.1
                  case hpost => exact ⟨.slice none 0 0, by rw [HPE.out.1, HPE.out.2] <;> rfl, by rw [HPE.out.1]; exact OwnE.nil _ _, HZ.out.2⟩
  · rw [if_pos he0] at hwe
    have HPE := Lib.hid (show P = none ∧ E = te by rw [hwe, if_neg he0, if_neg he0] at hpe; exact hpe)
    have hwb : (te != 0) = true := by simpa using he0
    clear hwe hwp hpe
    have hs0 := stM m0 m0 (.slice none 0 0) (.slice none 0 0) HB2.out.1 rfl
    have hs1 := hs0.1
    have gg := (HB2.out.1).lt
    have c5 := Chg.setCells (S := fun _ => False) (a := w) (g := g0) (m0.cs (.slice none 0 0)) 0 _ (HB2.out.2) (fun h => by have := HG.out; omega)
    have HZ := Lib.hid (And.intro hs0.2 c5)
    clear hs0 c5
    go_wp2_with fail
    refine bodyPost_ret (resMI rfl _ _ g0 26 m0 (.slice none 0 0) rfl ?hblk) rfl ?hpost
    case hblk => exact HZ.out.1
    case hpost => exact ⟨.slice none 0 0, by rw [HPE.out.1, HPE.out.2] <;> rfl, by rw [HPE.out.1]; exact OwnE.nil _ _, HZ.out.2⟩
end Msg
end Go.Proofs.YtkmkpdmjdfbpjaaGreatDoor

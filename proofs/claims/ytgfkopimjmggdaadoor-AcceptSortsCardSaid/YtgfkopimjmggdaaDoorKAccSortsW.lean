/-
  AcceptSorts, walked: true.
-/
import Derived.Test.YtgfkopimjmggdaaDoorJ15
import Derived.Test.YtgfkopimjmggdaaDoorKAccAgainW
namespace Go.Proofs.YtgfkopimjmggdaaDoor
set_option linter.unusedSimpArgs false
set_option linter.unusedVariables false
open Go.ChangeShapes Go.WideShapes Go.RowKit Go.Deep
namespace Acc
open Val (JoinC)
open Evt Vec Num Stable Cmp
attribute [local go_sem ↓] Evt.loadDot Evt.loadVec Evt.loadRow0 Evt.storeRow0 Evt.loadOnly0 Evt.loadOnly1 Evt.loadOnly2 Vec.loadRow0 Vec.storeRow0
attribute [local go_sem ↓] eqlRow1
theorem causal_mem : ∀ (l : List Ev) (v : List Int), ∀ e ∈ (causalF v l).1, e ∈ l ∧ rightE e = true
  | [], v, e, h => by cases h
  | x :: l, v, e, h => by
    by_cases h0 : oneF v x = 0
    · rw [causal_take h0] at h
      rcases List.mem_cons.1 h with rfl | h
      · exact ⟨List.mem_cons_self .., (one_zero h0).1⟩
      · exact ⟨List.mem_cons_of_mem _ (causal_mem l _ e h).1, (causal_mem l _ e h).2⟩
    · rw [causal_skip h0] at h
      exact ⟨List.mem_cons_of_mem _ (causal_mem l _ e h).1, (causal_mem l _ e h).2⟩
theorem causal_vlen : ∀ (l : List Ev) (v : List Int), (causalF v l).2.length = v.length
  | [], v => rfl
  | x :: l, v => by
    by_cases h0 : oneF v x = 0
    · rw [causal_take h0]
      show (causalF (addF v (x.n 0) (x.n 1)) l).2.length = _
      rw [causal_vlen l, addF_len]
    · rw [causal_skip h0]
      exact causal_vlen l v
theorem Came.ok {e : Ev} (h : Came e) : Ok e := by
  intro x hx
  unfold past at hx
  simp only [List.mem_cons, List.not_mem_nil, or_false] at hx
  rcases hx with rfl | rfl | rfl | rfl | rfl | rfl | rfl | rfl | rfl | rfl | rfl | rfl | rfl | rfl | rfl | rfl <;> exact h.big _
/-- the first k of the turned row -/
def mixL (row : List Ev) (t k : Nat) : List Ev := (List.range k).map fun i => row.getD ((i * 7 + t) % row.length) zero
theorem mixL_succ {row : List Ev} {t k : Nat} {e : Ev} (h : row[(k * 7 + t) % row.length]? = some e) : mixL row t (k + 1) = mixL row t k ++ [e] := by
  unfold mixL
  rw [List.range_succ, List.map_append]
  simp [List.getD_eq_getElem?_getD, h]
theorem mixL_len (row : List Ev) (t k : Nat) : (mixL row t k).length = k := by simp [mixL]
set_option maxHeartbeats 20000000 in
set_option maxRecDepth 20000 in
theorem sortsW (hJ : JoinC) (w : World) (hm : Val.MaxAt w) (y : UInt8) (A : Option Addr) (n c : Nat) (F : Nat → Prop) (l : List Ev) (hr : Reads w F 27 A n (rowE l)) (hF : ∀ b, F b → b < w.heap.size) (hl : l.length = n) (hn : l.length ≤ 140737488351232) (hc : ∀ e ∈ l, Came e) :
    Calls Tryd.prog 4 #[.slice A n c, .int .u8 (y.toNat : Int)] w fun x w' => x = .returned (.bool true) ∧ New w w' := by
  have hzv := zero_vec
  have CF := Lib.hid (fixed hJ _ hm)
  have HM := Lib.hid (And.intro hm (And.intro hJ (And.intro hr (And.intro hF (And.intro hl (And.intro hn hc))))))
  obtain ⟨t, ht⟩ : ∃ t, y.toNat = t := ⟨_, rfl⟩
  have ht255 : t < 256 := by rw [← ht]; exact UInt8.toNat_lt y
  have hti : (t : Int) ≤ 255 := by omega
  rw [ht]
  clear hm hJ hr hF hl hn hc ht
  go_enter Tryd.func4, Tryd.ntmps4
  go_wp2_with fail
  with_reducible refine CF.out.mono ?_
  rintro x w2 ⟨rfl, n2⟩
  have H2 := Lib.hid n2
  have CS := Lib.hid (few_ w2 A n c F l (HM.out.2.2.1.chg H2.out fun b hb => ⟨HM.out.2.2.2.1 b hb, id⟩) (fun b hb => Nat.lt_of_lt_of_le (HM.out.2.2.2.1 b hb) H2.out.size) HM.out.2.2.2.2.1 HM.out.2.2.2.2.2.1 HM.out.2.2.2.2.2.2)
  clear n2 CF
  go_wp2_with fail
  with_reducible refine CS.out.mono ?_
  rintro x w3 ⟨rfl, n3⟩
  have H3 := Lib.hid (H2.out.trans n3 fun _ _ => id)
  clear n3 CS
  obtain ⟨sh, hsh⟩ : ∃ b, fewB l = b := ⟨_, rfl⟩
  rw [hsh]
  cases sh
  · clear hsh
    go_wp2_with fail
    go_ret
    exact ⟨rfl, H3.out⟩
  have hfew := few_true hsh
  have hfit : ∀ e ∈ l, Fit e := fun e he => (HM.out.2.2.2.2.2.2 e he).fit (hfew.1 e he)
  have hsm : ∀ e ∈ l, Small e := fun e he => (HM.out.2.2.2.2.2.2 e he).small (hfew.1 e he)
  have hok : ∀ e ∈ l, Ok e := fun e he => Came.ok (HM.out.2.2.2.2.2.2 e he)
  have CC := causal_ w3 A n c F l (HM.out.2.2.1.chg H3.out fun b hb => ⟨HM.out.2.2.2.1 b hb, id⟩) (fun b hb => Nat.lt_of_lt_of_le (HM.out.2.2.2.1 b hb) H3.out.size) (by have := HM.out.2.2.2.2.1; omega) HM.out.2.2.2.2.1 hsm
  obtain ⟨row, known, hR⟩ : ∃ row known, causalF zeros l = (row, known) := ⟨_, _, rfl⟩
  have hrl := causal_len l zeros
  have hrm := causal_mem l zeros
  have hvl := causal_vlen l zeros
  rw [hR] at CC hrl hrm hvl
  dsimp only at CC hrl hrm hvl
  obtain ⟨mm, hmm⟩ : ∃ m, row.length = m := ⟨_, rfl⟩
  have HR := Lib.hid (And.intro hR (And.intro (show mm ≤ 80 by have := hfew.2; omega) (And.intro (show known.length = 16 from hvl) (And.intro hmm (And.intro (fun e (he : e ∈ row) => hfit e (hrm e he).1) (fun e (he : e ∈ row) => hok e (hrm e he).1))))))
  have HD := Lib.hid (fun e (he : e ∈ row) => (show 0 ≤ e.n 0 ∧ e.n 0 < 16 from by have := dotF_true.1 (one_dot (hrm e he).2); omega))
  have CC := Lib.hid CC
  clear hsh hfew hfit hsm hok hR hrl hrm hvl
  go_wp2_with fail
  with_reducible refine CC.out.mono ?_
  rintro x w4 ⟨u, rfl, o4, n4⟩
  obtain ⟨A4, c4, rfl⟩ := o4.form
  have hst := stB (xs := known) (old := zeros) rfl HR.out.2.2.1 (Blk.new w4 23 (ints zeros).toArray)
  obtain ⟨g6, hg6⟩ : ∃ g, w4.heap.size = g := ⟨_, rfl⟩
  have hgg : g6 < (w4.alloc (.cells (ints zeros).toArray 23)).heap.size := by rw [← hg6]; exact (Blk.new w4 23 (ints zeros).toArray).lt
  have m5 := Chg.setCells (S := fun _ => False) (a := w4) (g := w4.heap.size) (ints known) 0 _ ((Chg.refl (fun _ => False) w4).alloc (.cells (ints zeros).toArray 23)) (fun h => by omega)
  rw [hg6] at hst m5
  obtain ⟨w5, hw5⟩ : ∃ W, (w4.alloc (.cells (ints zeros).toArray 23)).setCells g6 0 (ints known) = W := ⟨_, rfl⟩
  rw [hw5] at hst m5
  have hst1 := hst.1
  have H5 := Lib.hid (And.intro hst.2 (And.intro (own_chg o4 m5 fun _ _ => id) (H3.out.trans (n4.trans m5 fun _ _ => id) fun _ _ => id)))
  clear CC hst n4 m5 o4 hw5
  rw [hmm]
  go_upto_region 6 with fail
  clear hst1 hgg hg6
  have hrd := (Reads.of_own H5.out.2.1).mono (G := fun b => b < w5.heap.size) fun b hb => hb.2.1
  have CL := closed_ w5 A4 row.length c4 _ row hrd (fun b hb => hb) rfl (by rw [hmm]; have := HR.out.2.1; omega) HD.out
  rw [hmm] at CL
  have CL := Lib.hid CL
  clear hrd
  go_wp2_with fail
  with_reducible refine CL.out.mono ?_
  rintro x w6 ⟨⟨b, rfl, hcl⟩, n6⟩
  have H6 := Lib.hid (And.intro (H5.out.1.chg n6 id) (And.intro (own_chg H5.out.2.1 n6 fun _ _ => id) (And.intro (H5.out.2.2.trans n6 fun _ _ => id) hcl)))
  clear n6 hcl CL
  cases b
  · go_wp2_with fail
    go_ret
    exact ⟨rfl, H6.out.2.2.1⟩
  have HC := Lib.hid (H6.out.2.2.2 rfl)
  go_wp2_with fail
  go_loopw [28, 7] (fun iv uv wr => ∃ (k : Nat) (u : Value), k ≤ mm ∧ u = uv ∧ iv = .int .i64 k ∧ OwnE wr w6.heap.size u (mixL row t k) ∧ New w6 wr) (fun iv _ _ => mm - (intOf iv).toNat)
  case atStart => exact ⟨0, _, by omega, rfl, by go_num, OwnE.nil _ _, Chg.refl _ _⟩
  case round =>
    obtain ⟨k, u, hk, rfl, rfl, ho, hnw⟩ := hrel
    have hu1 : u.oneCell' = true := by obtain ⟨A', c', h⟩ := ho.form; rw [h]; rfl
    have hmi : (mm : Int) ≤ 80 := by have := HR.out.2.1; omega
    by_cases hlt : k < mm
    · have hki : (k : Int) < mm := by omega
      have hw1 : IntKind.i64.wrap ((k : Int) + 1) = (k : Int) + 1 := IntWalk.i64_in _ (by omega)
      obtain ⟨q, hq⟩ : ∃ q, (k * 7 + t) % mm = q := ⟨_, rfl⟩
      have hqm : q < mm := by rw [← hq]; exact Nat.mod_lt _ (by omega)
      obtain ⟨e, he⟩ : ∃ e, row[q]? = some e := ⟨_, List.getElem?_eq_getElem (by rw [HR.out.2.2.2.1]; exact hqm)⟩
      have hrd := Reads.of_own (own_chg H6.out.2.1 hnw fun _ _ => id)
      rw [show row.length = mm from HR.out.2.2.2.1] at hrd
      obtain ⟨ad, rfl, hld⟩ := ld_ev hrd he
      have hw2 : IntKind.i64.wrap ((k : Int) * 7) = (k : Int) * 7 := IntWalk.i64_in _ (by omega)
      have hw3 : IntKind.i64.wrap ((k : Int) * 7 + (t : Int)) = (k : Int) * 7 + (t : Int) := IntWalk.i64_in _ (by omega)
      have hw4 : Int.tmod ((k : Int) * 7 + (t : Int)) (mm : Int) = (q : Int) := by
        rw [show (k : Int) * 7 + (t : Int) = ((k * 7 + t : Nat) : Int) by omega, Int.tmod_eq_emod_of_nonneg (by omega), ← Int.natCast_emod, hq]
      have hw5 : IntKind.i64.wrap (q : Int) = (q : Int) := IntWalk.i64_in _ (by omega)
      have hqi : (q : Int) < mm := by omega
      have hm0 : ((mm : Int) == 0) = false := by simp <;> omega
      obtain ⟨X, hX⟩ : ∃ X, e.cs.toArray = X := ⟨_, rfl⟩
      have hXs : X.size = 27 := by rw [← hX]; rfl
      have HXX := Lib.hid (And.intro hX hXs)
      have hld4 : (LoadRow 35 (ad.add (q * 27))).run Tryd.prog wr = .ok (.agg X) wr := by rw [← hX]; exact hld
      have hfold := fold_all zeroE X (by rw [hXs]; rfl) 27 hXs.symm
      simp only [zeroE, List.replicate, List.cons_append, List.nil_append] at hfold
      have hbt : (if 24 = 24 then true else false) = true := rfl
      have HMX := Lib.hid (mixL_succ (row := row) (t := t) (k := k) (e := e) (by rw [HR.out.2.2.2.1, hq]; exact he))
      have HO := Lib.hid (And.intro ho hnw)
      clear hX hld he hq ho hnw hrd
      go_wp2_with (at_builtin; refine stop ?_)
      delta Stop
      have HRD : Reads (wr.alloc (.cells X 35)) (fun b => b = wr.heap.size) 27 (some ⟨wr.heap.size, 0, none⟩) 1 (rowE [e]) := by
        have := Reads.of_row (w := wr.alloc (.cells X 35)) (g := wr.heap.size) (n := 1) (size := 27) (heap_alloc_new wr _) (by rw [HXX.out.2])
        rw [← HXX.out.1] at this ⊢
        simpa [rowE] using this
      refine append_ev _ rfl _ _ rfl w6.heap.size u (mixL row t k) rfl (World.ownsRow.alloc HO.out.1 _) _ _ _ _ [e] rfl HRD (by rw [mixL_len]; omega) (by have := HO.out.2.size; simp; omega) ?_
      intro v7 w7 o7 g7 a7
      have c7 : Chg (fun k => u.ownBlock = some k) wr w7 := Chg.grown ((Chg.refl _ wr).alloc _) g7 fun k hk _ => hk
      have hge7 : ∀ k, u.ownBlock = some k → w6.heap.size ≤ k := fun k hk => (own_lt HO.out.1 hk).1
      have H7 := Lib.hid (show OwnE w7 w6.heap.size v7 (mixL row t (k + 1)) ∧ New w6 w7 from ⟨by rw [HMX.out]; exact o7, HO.out.2.trans c7 fun i hi e => by have := hge7 i e; omega⟩)
      clear HRD o7 g7 a7 c7 hge7 hfold hld4
      go_wp2_with fail
      go_roundw
      case rel => exact ⟨k + 1, v7, by omega, rfl, by go_num, H7.out.1, H7.out.2⟩
      case measure => simp [intOf]; omega
    · have hgi : ¬ (k : Int) < mm := by omega
      have hkm : k = mm := by omega
      obtain ⟨MA, MC, rfl⟩ := ho.form
      have hml : (mixL row t k).length = mm := by rw [mixL_len, hkm]
      have hmo : Int.tmod (mm : Int) 7 = ((mm % 7 : Nat) : Int) := by
        rw [Int.tmod_eq_emod_of_nonneg (by omega), Int.natCast_emod]
        rfl
      have hw2 : IntKind.i64.wrap ((mm % 7 : Nat) : Int) = ((mm % 7 : Nat) : Int) := IntWalk.i64_in _ (by omega)
      obtain ⟨q, hq⟩ : ∃ q, mm % 7 = q := ⟨_, rfl⟩
      rw [hq] at hmo hw2
      by_cases h7 : q = 0
      · have hq0 : ((q : Int) == 0) = true := by simp [h7]
        clear hml hu1 hw2
        subst h7
        have HN := Lib.hid hnw
        clear ho hnw
        go_wp2_with (at_builtin; refine stop ?_)
        delta Stop
        have hrd := Reads.of_own (own_chg H6.out.2.1 ((HN.out.alloc (.cells #[] 35))) fun _ _ => id)
        rw [show row.length = mm from HR.out.2.2.2.1] at hrd
        refine append_ev _ rfl _ _ rfl w6.heap.size _ [] rfl (IterE.OwnE.empty HN.out.size) _ _ _ _ row rfl hrd (by have := HR.out.2.1; simp; omega) (by have := HN.out.size; simp; omega) ?_
        intro v7 w7 o7 g7 a7
        rw [List.nil_append] at o7
        obtain ⟨MA, MC, rfl⟩ := o7.form
        have n7 : New wr w7 := ((Chg.refl (fun _ => False) wr).alloc _).grown g7 fun k hk h => by
          have := (own_lt (IterE.OwnE.empty (w := wr) (Nat.le_refl _)) hk).1
          omega
        have H7 := Lib.hid (show Blk w7 g6 23 (ints known).toArray ∧ OwnE w7 w6.heap.size (.slice MA row.length MC) row ∧ row.Perm row ∧ row.length = mm ∧ Closed row ∧ OwnE w7 w3.heap.size (.slice A4 row.length c4) row ∧ New w w7 from
          ⟨H6.out.1.chg (HN.out.trans n7 fun _ _ => id) id, o7, List.Perm.refl _, HR.out.2.2.2.1, HC.out, own_chg H6.out.2.1 (HN.out.trans n7 fun _ _ => id) fun _ _ => id, H6.out.2.2.1.trans (HN.out.trans n7 fun _ _ => id) fun _ _ => id⟩)
        clear o7 g7 a7 n7 hrd
        have hrd := (Reads.of_own H7.out.2.1).mono (G := fun b => b < w7.heap.size) fun b hb => hb.2.1
        rw [H7.out.2.2.2.1] at hrd
        have CS := sort_ w7 MA mm MC _ row hrd (by have := HR.out.2.1; omega) H7.out.2.2.2.1 (fun e he => HR.out.2.2.2.2.2 e (H7.out.2.2.1.mem_iff.1 he))
        have CS := Lib.hid CS
        clear hrd
        go_wp2_with fail
        with_reducible refine CS.out.mono ?_
        rintro x w8 ⟨u8, s8, rfl, o8, p8, t8, n8⟩
        have hp8 := p8.trans H7.out.2.2.1
        obtain ⟨hs1, hs2, hs3⟩ := sorted_row (l := l) (by rw [HR.out.1]; exact H7.out.2.2.2.2.1) (by rw [HR.out.1]; exact hp8) t8
        rw [HR.out.1] at hs1 hs2
        dsimp only at hs1 hs2
        obtain ⟨A8, c8, rfl⟩ := o8.form
        have H8 := Lib.hid (And.intro (H7.out.1.chg n8 id) (And.intro (own_chg H7.out.2.2.2.2.2.1 n8 fun _ _ => id) (And.intro o8 (And.intro (H7.out.2.2.2.2.2.2.trans n8 fun _ _ => id) (And.intro hs3 (fun e (he : e ∈ s8) => HR.out.2.2.2.2.1 e (hp8.mem_iff.1 he)))))))
        have hl8 : s8.length = mm := hs2.trans HR.out.2.2.2.1
        have HL8 := Lib.hid hl8
        rw [hl8]
        have hrd := (Reads.of_own H8.out.2.2.1).mono (G := fun b => b < w8.heap.size) fun b hb => hb.2.1
        have CA := all_ HM.out.2.1 w8 zeros A8 s8.length c8 _ s8 hrd (fun b hb => hb) rfl (by rw [hl8]; have := HR.out.2.1; omega) rfl H8.out.2.2.2.2.2 (HM.out.1.new H8.out.2.2.2.1)
        rw [hs1, hl8] at CA
        dsimp only at CA
        have CA := Lib.hid CA
        clear hrd CS o8 n8 p8 t8 hp8 hs1 hs2 hs3 hl8
        go_wp2_with fail
        with_reducible refine CA.out.mono ?_
        rintro x w9 ⟨u9, rfl, o9, n9⟩
        obtain ⟨A9, c9, rfl⟩ := o9.form
        rw [HL8.out]
        have hst := stB (xs := known) (old := zeros) rfl HR.out.2.2.1 (Blk.new w9 23 (ints zeros).toArray)
        obtain ⟨g9, hg9⟩ : ∃ g, w9.heap.size = g := ⟨_, rfl⟩
        have hgg : g9 < (w9.alloc (.cells (ints zeros).toArray 23)).heap.size := by rw [← hg9]; exact (Blk.new w9 23 (ints zeros).toArray).lt
        have m9 := Chg.setCells (S := fun _ => False) (a := w9) (g := w9.heap.size) (ints known) 0 _ ((Chg.refl (fun _ => False) w9).alloc (.cells (ints zeros).toArray 23)) (fun h => by omega)
        rw [hg9] at hst m9
        obtain ⟨wa, hwa⟩ : ∃ W, (w9.alloc (.cells (ints zeros).toArray 23)).setCells g9 0 (ints known) = W := ⟨_, rfl⟩
        rw [hwa] at hst m9
        have hst1 := hst.1
        have n9a := n9.trans m9 fun _ _ => id
        have H9 := Lib.hid (And.intro (H8.out.1.chg n9a id) (And.intro hst.2 (And.intro (own_chg H8.out.2.2.1 n9a fun _ _ => id) (H8.out.2.2.2.1.trans n9a fun _ _ => id))))
        clear CA hst n9 m9 o9 n9a hwa
        go_upto_region 18 with fail
        clear hst1 hgg hg9
        have lva := ldB HR.out.2.2.1 H9.out.1
        have lvb := ldB HR.out.2.2.1 H9.out.2.1
        have ga := H9.out.1.lt
        have gb := H9.out.2.1.lt
        have heq := eqSelf HR.out.2.2.1
        have heg := eqG
        have hrd := (Reads.of_own H9.out.2.2.1).mono (G := fun b => b < wa.heap.size) fun b hb => hb.2.1
        have CW := row_ HM.out.2.1 wa A8 s8.length c8 _ s8 hrd (fun b hb => hb) (by rw [HL8.out]; have := HR.out.2.1; omega) rfl H8.out.2.2.2.2.2 (HM.out.1.new H9.out.2.2.2)
        rw [H8.out.2.2.2.2.1, HL8.out] at CW
        have CW := Lib.hid CW
        clear hrd
        go_wp2_with fail
        with_reducible refine CW.out.mono ?_
        rintro x wb ⟨rfl, nb⟩
        have HE := Lib.hid (H9.out.2.2.2.trans nb fun _ _ => id)
        clear nb CW
        go_wp2_with fail
        go_ret
        exact ⟨rfl, HE.out⟩
      · have hq0 : ((q : Int) == 0) = false := by simp [h7]
        have hperm : (mixL row t k).Perm row := by
          have := turned_perm row zero t (by rw [HR.out.2.2.2.1, hq]; exact h7)
          unfold mixL
          rw [hkm, ← HR.out.2.2.2.1]
          exact this
        have H7 := Lib.hid (show Blk wr g6 23 (ints known).toArray ∧ OwnE wr w6.heap.size (.slice MA (mixL row t k).length MC) (mixL row t k) ∧ (mixL row t k).Perm row ∧ (mixL row t k).length = mm ∧ Closed row ∧ OwnE wr w3.heap.size (.slice A4 row.length c4) row ∧ New w wr from
          ⟨H6.out.1.chg hnw id, ho, hperm, hml, HC.out, own_chg H6.out.2.1 hnw fun _ _ => id, H6.out.2.2.1.trans hnw fun _ _ => id⟩)
        clear ho hnw hperm
        rw [hml]
        have hrd := (Reads.of_own H7.out.2.1).mono (G := fun b => b < wr.heap.size) fun b hb => hb.2.1
        rw [H7.out.2.2.2.1] at hrd
        have CS := sort_ wr MA mm MC _ (mixL row t k) hrd (by have := HR.out.2.1; omega) H7.out.2.2.2.1 (fun e he => HR.out.2.2.2.2.2 e (H7.out.2.2.1.mem_iff.1 he))
        have CS := Lib.hid CS
        clear hrd
        go_wp2_with fail
        with_reducible refine CS.out.mono ?_
        rintro x w8 ⟨u8, s8, rfl, o8, p8, t8, n8⟩
        have hp8 := p8.trans H7.out.2.2.1
        obtain ⟨hs1, hs2, hs3⟩ := sorted_row (l := l) (by rw [HR.out.1]; exact H7.out.2.2.2.2.1) (by rw [HR.out.1]; exact hp8) t8
        rw [HR.out.1] at hs1 hs2
        dsimp only at hs1 hs2
        obtain ⟨A8, c8, rfl⟩ := o8.form
        have H8 := Lib.hid (And.intro (H7.out.1.chg n8 id) (And.intro (own_chg H7.out.2.2.2.2.2.1 n8 fun _ _ => id) (And.intro o8 (And.intro (H7.out.2.2.2.2.2.2.trans n8 fun _ _ => id) (And.intro hs3 (fun e (he : e ∈ s8) => HR.out.2.2.2.2.1 e (hp8.mem_iff.1 he)))))))
        have hl8 : s8.length = mm := hs2.trans HR.out.2.2.2.1
        have HL8 := Lib.hid hl8
        rw [hl8]
        have hrd := (Reads.of_own H8.out.2.2.1).mono (G := fun b => b < w8.heap.size) fun b hb => hb.2.1
        have CA := all_ HM.out.2.1 w8 zeros A8 s8.length c8 _ s8 hrd (fun b hb => hb) rfl (by rw [hl8]; have := HR.out.2.1; omega) rfl H8.out.2.2.2.2.2 (HM.out.1.new H8.out.2.2.2.1)
        rw [hs1, hl8] at CA
        dsimp only at CA
        have CA := Lib.hid CA
        clear hrd CS o8 n8 p8 t8 hp8 hs1 hs2 hs3 hl8
        go_wp2_with fail
        with_reducible refine CA.out.mono ?_
        rintro x w9 ⟨u9, rfl, o9, n9⟩
        obtain ⟨A9, c9, rfl⟩ := o9.form
        rw [HL8.out]
        have hst := stB (xs := known) (old := zeros) rfl HR.out.2.2.1 (Blk.new w9 23 (ints zeros).toArray)
        obtain ⟨g9, hg9⟩ : ∃ g, w9.heap.size = g := ⟨_, rfl⟩
        have hgg : g9 < (w9.alloc (.cells (ints zeros).toArray 23)).heap.size := by rw [← hg9]; exact (Blk.new w9 23 (ints zeros).toArray).lt
        have m9 := Chg.setCells (S := fun _ => False) (a := w9) (g := w9.heap.size) (ints known) 0 _ ((Chg.refl (fun _ => False) w9).alloc (.cells (ints zeros).toArray 23)) (fun h => by omega)
        rw [hg9] at hst m9
        obtain ⟨wa, hwa⟩ : ∃ W, (w9.alloc (.cells (ints zeros).toArray 23)).setCells g9 0 (ints known) = W := ⟨_, rfl⟩
        rw [hwa] at hst m9
        have hst1 := hst.1
        have n9a := n9.trans m9 fun _ _ => id
        have H9 := Lib.hid (And.intro (H8.out.1.chg n9a id) (And.intro hst.2 (And.intro (own_chg H8.out.2.2.1 n9a fun _ _ => id) (H8.out.2.2.2.1.trans n9a fun _ _ => id))))
        clear CA hst n9 m9 o9 n9a hwa
        go_upto_region 18 with fail
        clear hst1 hgg hg9
        have lva := ldB HR.out.2.2.1 H9.out.1
        have lvb := ldB HR.out.2.2.1 H9.out.2.1
        have ga := H9.out.1.lt
        have gb := H9.out.2.1.lt
        have heq := eqSelf HR.out.2.2.1
        have heg := eqG
        have hrd := (Reads.of_own H9.out.2.2.1).mono (G := fun b => b < wa.heap.size) fun b hb => hb.2.1
        have CW := row_ HM.out.2.1 wa A8 s8.length c8 _ s8 hrd (fun b hb => hb) (by rw [HL8.out]; have := HR.out.2.1; omega) rfl H8.out.2.2.2.2.2 (HM.out.1.new H9.out.2.2.2)
        rw [H8.out.2.2.2.2.1, HL8.out] at CW
        have CW := Lib.hid CW
        clear hrd
        go_wp2_with fail
        with_reducible refine CW.out.mono ?_
        rintro x wb ⟨rfl, nb⟩
        have HE := Lib.hid (H9.out.2.2.2.trans nb fun _ _ => id)
        clear nb CW
        go_wp2_with fail
        go_ret
        exact ⟨rfl, HE.out⟩
end Acc
end Go.Proofs.YtgfkopimjmggdaaDoor

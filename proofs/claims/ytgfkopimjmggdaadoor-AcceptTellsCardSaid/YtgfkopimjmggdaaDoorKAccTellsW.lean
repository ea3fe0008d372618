/-
  AcceptTells, walked: true.
-/
import Derived.Test.YtgfkopimjmggdaaDoorJ15
import Derived.Test.YtgfkopimjmggdaaDoorKAccAgainW
import Derived.Deep.CutBlock
import Derived.Deep.DeepCutAuto
namespace Go.Proofs.YtgfkopimjmggdaaDoor
set_option linter.unusedSimpArgs false
set_option linter.unusedVariables false
open Go.ChangeShapes Go.WideShapes Go.RowKit Go.Deep
namespace Acc
open Val (JoinC)
open Evt Vec Num Stable Cmp
attribute [local go_sem ↓] Evt.loadDot Evt.loadVec Evt.loadRow0 Evt.storeRow0 Evt.loadOnly0 Evt.loadOnly1 Evt.loadOnly2 Vec.loadRow0 Vec.storeRow0
attribute [local go_sem ↓] eqlRow1
theorem causal_vlen2 : ∀ (l : List Ev) (v : List Int), (causalF v l).2.length = v.length
  | [], v => rfl
  | x :: l, v => by
    by_cases h0 : oneF v x = 0
    · rw [causal_take h0]
      show (causalF (addF v (x.n 0) (x.n 1)) l).2.length = _
      rw [causal_vlen2 l, addF_len]
    · rw [causal_skip h0]
      exact causal_vlen2 l v
def NeqE (x y : Value) : Sem Value := binOp .neq 35 x y
def NeqV (x y : Value) : Sem Value := binOp .neq 23 x y
theorem neqRow0 (x y : Value) : binOp .neq 35 x y = NeqE x y := rfl
theorem neqRow1 (x y : Value) : binOp .neq 23 x y = NeqV x y := rfl
attribute [local go_sem ↓] neqRow0 neqRow1
theorem neqSelfE (e : Ev) (w : World) : (NeqE e.val e.val).run Tryd.prog w = .ok (.bool false) w := by
  unfold NeqE
  have := neqE e e w
  rwa [eqE_refl] at this
theorem neqSelfV {xs : List Int} (h : xs.length = 16) (w : World) : (NeqV (vec xs) (vec xs)).run Tryd.prog w = .ok (.bool false) w := by
  unfold NeqV
  rw [run_neq_struct]
  have := run_equalIn_ints (P := Tryd.prog) 9998 Tryd.underlying23 Tryd.underlying3 Vec.intInfo.1 Vec.intInfo.2 xs xs h h w
  rw [show (xs == xs) = true by simp] at this
  rw [show (10000 : Nat) = 9998 + 2 from rfl, this]
  rfl
theorem neGE (x y : Operand) (a b : Array Value) (w : World) : (eqGuard .neq 35 x y (.agg a) (.agg b)).run Tryd.prog w = .ok () w := _root_.Go.run_eqGuard_agg w .neq _ x y a b (by kernel_rfl)
theorem neGV (x y : Operand) (a b : Array Value) (w : World) : (eqGuard .neq 23 x y (.agg a) (.agg b)).run Tryd.prog w = .ok () w := _root_.Go.run_eqGuard_agg w .neq _ x y a b (by kernel_rfl)
/-- behind i events -/
structure TellAt (w : World) (gv gn : Nat) (v : List Int) (l : List Ev) (i j : Nat) (u1 u2 : Value) (out lack : List Ev) (now : List Int) (k : Int) (wr : World) : Prop where
  vb : Blk wr gv 23 (ints v).toArray
  nb : Blk wr gn 23 (ints now).toArray
  o1 : OwnE wr w.heap.size u1 out
  o2 : OwnE wr w.heap.size u2 lack
  ne : ∀ b, u1.ownBlock = some b → u2.ownBlock ≠ some b
  len : now.length = 16
  le : out.length ≤ i ∧ lack.length ≤ j
  go : (k = 0 ∧ allF v l = (out ++ (allF now (l.drop i)).1, (allF now (l.drop i)).2)) ∨ (k ≠ 0 ∧ allF v l = (out, now, k))
  lk : lack = lacksF v (l.take j)
  chg : New w wr
  lo : w.heap.size ≤ gv ∧ w.heap.size ≤ gn ∧ gv ≠ gn
theorem TellAt.new {w : World} {gv gn : Nat} {v : List Int} {l : List Ev} {i j : Nat} {u1 u2 : Value} {out lack : List Ev} {now : List Int} {k : Int} {wr wq : World} (h : TellAt w gv gn v l i j u1 u2 out lack now k wr) (n : New wr wq) : TellAt w gv gn v l i j u1 u2 out lack now k wq :=
  ⟨h.vb.chg n id, h.nb.chg n id, own_chg h.o1 n fun _ _ => id, own_chg h.o2 n fun _ _ => id, h.ne, h.len, h.le, h.go, h.lk, h.chg.trans n fun _ _ => id, h.lo⟩
theorem lacks_take {v : List Int} {l : List Ev} {i : Nat} {e : Ev} (h : l[i]? = some e) : lacksF v (l.take (i + 1)) = lacksF v (l.take i) ++ (if knowsF v (e.n 0) (e.n 1) = true then [] else [e]) := by
  unfold lacksF
  rw [List.take_add_one, h, List.filter_append]
  by_cases hk : knowsF v (e.n 0) (e.n 1) = true <;> simp [hk]
set_option maxHeartbeats 20000000 in
set_option maxRecDepth 20000 in
theorem tellsW (hJ : JoinC) (w : World) (hm : Val.MaxAt w) (v : List Int) (hv : v.length = 16) (A : Option Addr) (n c : Nat) (F : Nat → Prop) (l : List Ev) (hr : Reads w F 27 A n (rowE l)) (hF : ∀ b, F b → b < w.heap.size) (hl : l.length = n) (hn : l.length ≤ 140737488351232) (hc : ∀ e ∈ l, Came e) :
    Calls Tryd.prog 3 #[vec v, .slice A n c] w fun x w' => x = .returned (.bool true) ∧ New w w' := by
  have hzv := zero_vec
  have n1 := (Chg.refl (fun _ => False) w).alloc (.cells (ints v).toArray 23)
  have B1 := Blk.new w 23 (ints v).toArray
  have CF := Lib.hid (fixed hJ _ (hm.new n1))
  have H1 := Lib.hid (And.intro B1 n1)
  have HM := Lib.hid (And.intro hm (And.intro hJ (And.intro hr (And.intro hF (And.intro hl (And.intro hn (And.intro hc hv)))))))
  clear n1 B1 hm hJ hr hF hl hn hc hv
  go_enter Tryd.func3, Tryd.ntmps3
  go_wp2_with fail
  with_reducible refine CF.out.mono ?_
  rintro x w2 ⟨rfl, n2⟩
  have H2 := Lib.hid (And.intro (H1.out.1.chg n2 id) (H1.out.2.trans n2 fun _ _ => id))
  have CS := Lib.hid (few_ w2 A n c F l (HM.out.2.2.1.chg H2.out.2 fun b hb => ⟨HM.out.2.2.2.1 b hb, id⟩) (fun b hb => Nat.lt_of_lt_of_le (HM.out.2.2.2.1 b hb) H2.out.2.size) HM.out.2.2.2.2.1 HM.out.2.2.2.2.2.1 HM.out.2.2.2.2.2.2.1)
  clear n2 CF
  go_wp2_with fail
  with_reducible refine CS.out.mono ?_
  rintro x w3 ⟨rfl, n3⟩
  have H3 := Lib.hid (And.intro (H2.out.1.chg n3 id) (H2.out.2.trans n3 fun _ _ => id))
  clear n3 CS
  obtain ⟨sh, hsh⟩ : ∃ b, fewB l = b := ⟨_, rfl⟩
  rw [hsh]
  cases sh
  · clear hsh
    go_wp2_with fail
    go_ret
    exact ⟨rfl, H3.out.2⟩
  have hfew := few_true hsh
  have hfit : ∀ e ∈ l, Fit e := fun e he => (HM.out.2.2.2.2.2.2.1 e he).fit (hfew.1 e he)
  have hsm : ∀ e ∈ l, Small e := fun e he => (HM.out.2.2.2.2.2.2.1 e he).small (hfew.1 e he)
  have hni : n ≤ 80 := by have := hfew.2; have := HM.out.2.2.2.2.1; omega
  have HE := Lib.hid (And.intro hfit hsm)
  have lv3 := ldB HM.out.2.2.2.2.2.2.2 H3.out.1
  have g3 := H3.out.1.lt
  have hst := stB (xs := v) (old := zeros) rfl HM.out.2.2.2.2.2.2.2 (Blk.new w3 23 (ints zeros).toArray)
  obtain ⟨gn, hgn⟩ : ∃ g, w3.heap.size = g := ⟨_, rfl⟩
  have hgg : gn < (w3.alloc (.cells (ints zeros).toArray 23)).heap.size := by rw [← hgn]; exact (Blk.new w3 23 (ints zeros).toArray).lt
  have m4 := Chg.setCells (S := fun _ => False) (a := w3) (g := w3.heap.size) (ints v) 0 _ ((Chg.refl (fun _ => False) w3).alloc (.cells (ints zeros).toArray 23)) (fun h => by omega)
  rw [hgn] at hst m4
  obtain ⟨w4, hw4⟩ : ∃ W, (w3.alloc (.cells (ints zeros).toArray 23)).setCells gn 0 (ints v) = W := ⟨_, rfl⟩
  rw [hw4] at hst m4
  have hst1 := hst.1
  obtain ⟨gv, hgv⟩ : ∃ g, w.heap.size = g := ⟨_, rfl⟩
  have H0 := Lib.hid (show TellAt w gv gn v l 0 0 (.slice none 0 0) (.slice none 0 0) [] [] v 0 w4 from
    ⟨by rw [← hgv]; exact H3.out.1.chg m4 id, hst.2, OwnE.nil _ _, OwnE.nil _ _, (fun b hb => by cases hb), HM.out.2.2.2.2.2.2.2, by simp, .inl ⟨rfl, by simp⟩, by simp [lacksF], H3.out.2.trans m4 fun _ _ => id, by rw [← hgv]; exact ⟨Nat.le_refl _, by rw [← hgn]; exact H3.out.2.size, by rw [← hgn]; exact Nat.ne_of_lt g3⟩⟩)
  have HGV := Lib.hid hgv
  clear hst m4 hw4 hsh hfew hfit hsm
  try rw [hgv] at lv3 g3
  try rw [hgv]
  go_upto_region 6 with fail
  clear hst1 lv3 g3 hgg hgn hgv
  go_wp2_with fail
  go_loopw [29, 8, 6, 7] (fun iv kv uv1 uv2 wr => ∃ (i : Nat) (u1 u2 : Value) (out lack : List Ev) (now : List Int) (k : Int), i ≤ n ∧ u1 = uv1 ∧ u2 = uv2 ∧ iv = .int .i64 i ∧ kv = .int .i64 k ∧ TellAt w gv gn v l i i u1 u2 out lack now k wr) (fun iv _ _ _ _ => n - (intOf iv).toNat)
  case atStart => exact ⟨0, _, _, _, _, _, _, by omega, rfl, rfl, by go_num, rfl, H0.out⟩
  case round =>
    obtain ⟨i, u1, u2, out, lack, now, k, hi, rfl, rfl, rfl, rfl, hA⟩ := hrel
    have hu1 : u1.oneCell' = true := by obtain ⟨A', c', h⟩ := hA.o1.form; rw [h]; rfl
    have hu2 : u2.oneCell' = true := by obtain ⟨A', c', h⟩ := hA.o2.form; rw [h]; rfl
    clear H0
    by_cases hlt : i < n
    · have hli : (i : Int) < n := by omega
      obtain ⟨e, he⟩ : ∃ e, l[i]? = some e := ⟨_, List.getElem?_eq_getElem (by rw [HM.out.2.2.2.2.1]; exact hlt)⟩
      obtain ⟨ad, rfl, hld⟩ := ld_ev (HM.out.2.2.1.chg hA.chg fun b hb => ⟨HM.out.2.2.2.1 b hb, id⟩) he
      have hz : ∀ W, (zeroValue 35).run Tryd.prog W = .ok (.agg zero.cs.toArray) W := fun W => by kernel_rfl
      obtain ⟨W, hst, b3, n3, g3⟩ := new_ev wr e
      obtain ⟨ge, hge⟩ : ∃ g, wr.heap.size = g := ⟨_, rfl⟩
      have hlo := hA.lo
      have HGE := Lib.hid (show w.heap.size ≤ ge ∧ gv < ge ∧ gn < ge ∧ (∀ b, u1.ownBlock = some b → b < ge) ∧ (∀ b, u2.ownBlock = some b → b < ge) from ⟨by rw [← hge]; exact hA.chg.size, by rw [← hge]; exact hA.vb.lt, by rw [← hge]; exact hA.nb.lt, (fun b hb => by rw [← hge]; exact (own_lt hA.o1 hb).2), (fun b hb => by rw [← hge]; exact (own_lt hA.o2 hb).2)⟩)
      rw [hge] at hst b3 g3
      have hw : IntKind.i64.wrap ((i : Int) + 1) = (i : Int) + 1 := IntWalk.i64_in _ (by omega)
      have H5 := Lib.hid (And.intro b3 (And.intro (hA.new n3) he))
      clear hA b3 n3 he
      go_upto_region 11 with fail
      clear hst hld g3 hz
      generalize W = wo at *
      obtain ⟨x, hx⟩ : ∃ x, oneF v e = x := ⟨_, rfl⟩
      have C1 := Lib.hid (fun y : ChgW (fun _ => False) wo => (show Calls Tryd.prog 9 #[vec v, e.val] y.W fun z w' => z = .returned (.int .i64 x) ∧ New y.W w' from by
        rw [← hx]
        exact one_ HM.out.2.1 y.W v e HM.out.2.2.2.2.2.2.2 (HE.out.1 e (List.mem_of_getElem? H5.out.2.2)) (HM.out.1.new (H5.out.2.1.chg.trans y.chg fun _ _ => id))))
      have C2 := Lib.hid (fun y : ChgW (fun _ => False) wo => (show Calls Tryd.prog 10 #[vec v, e.val] y.W fun z w' => z = .returned (.int .i64 x) ∧ New y.W w' from by
        rw [← hx]
        exact rone_ y.W v e HM.out.2.2.2.2.2.2.2 (HE.out.2 e (List.mem_of_getElem? H5.out.2.2))))
      have fv := fun y : ChgW (fun _ => False) wo => ldB HM.out.2.2.2.2.2.2.2 (H5.out.2.1.vb.chg y.chg id)
      have fe := fun y : ChgW (fun _ => False) wo => ldE (H5.out.1.chg y.chg id)
      clear hx
      go_wp2_with fail
      refine wp_region_chg (fun _ => False) (by kernel_rfl) (by kernel_rfl) ?_
      repeat (go_big_quiet_step ((first | (go_at_call 9; with_reducible exact calls_new (C1.out _)) | (go_at_call 10; with_reducible exact calls_new (C2.out _)))))
      refine wpQuiet_nil ?_
      rintro ⟨wq, hq⟩
      simp only []
      have H6 := Lib.hid (And.intro (H5.out.1.chg hq id) (And.intro (H5.out.2.1.new hq) H5.out.2.2))
      clear hq fv fe C1 C2
      go_upto_region 13 with fail
      have ld6 := (blk_ev H6.out.1).1
      have g6 := H6.out.1.lt
      go_upto_region 14 with fail
      have HX := Lib.hid (show Blk (wq.alloc (.cells #[.int .i64 (e.n 0), .int .i64 (e.n 1)] 29)) wq.heap.size 29 #[.int .i64 (e.n 0), .int .i64 (e.n 1)] from Blk.new wq 29 #[.int .i64 (e.n 0), .int .i64 (e.n 1)])
      have nd := (Chg.refl (fun _ => False) wq).alloc (.cells #[.int .i64 (e.n 0), .int .i64 (e.n 1)] 29)
      have H7 := Lib.hid (And.intro HX.out (And.intro (H6.out.1.chg nd id) (H6.out.2.1.new nd)))
      obtain ⟨gd, hgd⟩ : ∃ g, wq.heap.size = g := ⟨_, rfl⟩
      generalize wq.alloc (.cells #[.int .i64 (e.n 0), .int .i64 (e.n 1)] 29) = wd at *
      rw [hgd] at H7 HX ⊢
      clear nd HX hgd
      go_cut [68] (fun bv wx => bv = .bool (!knowsF v (e.n 0) (e.n 1)) ∧ New wd wx)
      case first =>
        have d0 := fun y : ChgW (fun _ => False) wd => (H7.out.1.chg y.chg id).cell 0
        have d1 := fun y : ChgW (fun _ => False) wd => (H7.out.1.chg y.chg id).cell 1
        simp only [List.getElem?_toArray, List.getElem?_cons_zero, List.getElem?_cons_succ] at d0 d1
        by_cases h1 : e.n 0 < 0
        · have hk := Lib.hid (show knowsF v (e.n 0) (e.n 1) = false by unfold knowsF; rw [dotF_false (by omega), Bool.false_and])
          have hb1 : decide (e.n 0 < 0) = true := decide_eq_true h1
          go_wp2_with fail
          refine wp_region_chg (fun _ => False) (by kernel_rfl) (by kernel_rfl) ?_
          repeat (go_big_quiet_step (fail))
          refine wpQuiet_nil ?_
          rintro ⟨wq, hq⟩
          simp only []
          go_wp2_with fail
          go_meet
          exact ⟨by rw [hk.out] <;> rfl, hq⟩
        have hb1 : decide (e.n 0 < 0) = false := decide_eq_false h1
        by_cases h2 : (15 : Int) < e.n 0
        · have hk := Lib.hid (show knowsF v (e.n 0) (e.n 1) = false by unfold knowsF; rw [dotF_false (by omega), Bool.false_and])
          have hb2 : decide ((15 : Int) < e.n 0) = true := decide_eq_true h2
          go_wp2_with fail
          refine wp_region_chg (fun _ => False) (by kernel_rfl) (by kernel_rfl) ?_
          repeat (go_big_quiet_step (fail))
          refine wpQuiet_nil ?_
          rintro ⟨wq, hq⟩
          simp only []
          go_wp2_with fail
          go_meet
          exact ⟨by rw [hk.out] <;> rfl, hq⟩
        have hb2 : decide ((15 : Int) < e.n 0) = false := decide_eq_false h2
        by_cases h3 : e.n 1 < 1
        · have hk := Lib.hid (show knowsF v (e.n 0) (e.n 1) = false by unfold knowsF; rw [dotF_false (by omega), Bool.false_and])
          have hb3 : decide (e.n 1 < 1) = true := decide_eq_true h3
          go_wp2_with fail
          refine wp_region_chg (fun _ => False) (by kernel_rfl) (by kernel_rfl) ?_
          repeat (go_big_quiet_step (fail))
          refine wpQuiet_nil ?_
          rintro ⟨wq, hq⟩
          simp only []
          go_wp2_with fail
          go_meet
          exact ⟨by rw [hk.out] <;> rfl, hq⟩
        have hb3 : decide (e.n 1 < 1) = false := decide_eq_false h3
        by_cases h4 : (1048576 : Int) < e.n 1
        · have hk := Lib.hid (show knowsF v (e.n 0) (e.n 1) = false by unfold knowsF; rw [dotF_false (by omega), Bool.false_and])
          have hb4 : decide ((1048576 : Int) < e.n 1) = true := decide_eq_true h4
          go_wp2_with fail
          refine wp_region_chg (fun _ => False) (by kernel_rfl) (by kernel_rfl) ?_
          repeat (go_big_quiet_step (fail))
          refine wpQuiet_nil ?_
          rintro ⟨wq, hq⟩
          simp only []
          go_wp2_with fail
          go_meet
          exact ⟨by rw [hk.out] <;> rfl, hq⟩
        have hb4 : decide ((1048576 : Int) < e.n 1) = false := decide_eq_false h4
        obtain ⟨r, hr⟩ : ∃ r, (e.n 0).toNat = r := ⟨_, rfl⟩
        have hr16 : r < 16 := by omega
        have hd16 : e.n 0 < 16 := by omega
        have hd0 : 0 ≤ e.n 0 := by omega
        obtain ⟨a, ha⟩ : ∃ a, v.getD r 0 = a := ⟨_, rfl⟩
        have hk := Lib.hid (show knowsF v (e.n 0) (e.n 1) = decide (e.n 1 ≤ a) by unfold knowsF; rw [dotF_true.2 (by omega), Bool.true_and, hr, ha])
        have ca := fun y : ChgW (fun _ => False) wd => (H7.out.2.2.vb.chg y.chg id).cell r
        simp only [List.getElem?_toArray, ints_get, get_getD (show r < v.length by rw [HM.out.2.2.2.2.2.2.2]; exact hr16), Option.map_some, ha] at ca
        clear ha
        by_cases h5 : a < e.n 1
        · have hb5 : decide (a < e.n 1) = true := decide_eq_true h5
          go_wp2_with fail
          refine wp_region_chg (fun _ => False) (by kernel_rfl) (by kernel_rfl) ?_
          repeat (go_big_quiet_step (fail))
          refine wpQuiet_nil ?_
          rintro ⟨wq, hq⟩
          simp only []
          go_wp2_with fail
          go_meet
          exact ⟨by rw [hk.out] <;> simp [h5], hq⟩
        · have hb5 : decide (a < e.n 1) = false := decide_eq_false h5
          go_wp2_with fail
          refine wp_region_chg (fun _ => False) (by kernel_rfl) (by kernel_rfl) ?_
          repeat (go_big_quiet_step (fail))
          refine wpQuiet_nil ?_
          rintro ⟨wq, hq⟩
          simp only []
          go_wp2_with fail
          go_meet
          exact ⟨by rw [hk.out] <;> (simp; omega), hq⟩
      case rest =>
        obtain ⟨rfl, nc⟩ := hcut
        have H8 := Lib.hid (And.intro (H7.out.2.1.chg nc id) (H7.out.2.2.new nc))
        clear nc
        obtain ⟨kn, hkn⟩ : ∃ b, knowsF v (e.n 0) (e.n 1) = b := ⟨_, rfl⟩
        rw [hkn]
        have hlt' := lacks_take (v := v) H6.out.2.2
        rw [hkn, ← H8.out.2.lk] at hlt'
        cases kn
        · rw [if_neg (by decide)] at hlt'
          have HLK := Lib.hid hlt'
          clear hlt'
          obtain ⟨X, hX⟩ : ∃ X, e.cs.toArray = X := ⟨_, rfl⟩
          have hXs : X.size = 27 := by rw [← hX]; rfl
          have HXX := Lib.hid (And.intro hX hXs)
          have hle4 : (LoadRow 35 ⟨ge, 0, none⟩).run Tryd.prog wc = .ok (.agg X) wc := by rw [← hX]; exact ldE H8.out.1
          have hfold := fold_all zeroE X (by rw [hXs]; rfl) 27 hXs.symm
          simp only [zeroE, List.replicate, List.cons_append, List.nil_append] at hfold
          have hbt : (if 24 = 24 then true else false) = true := rfl
          have gg4 := H8.out.1.lt
          clear hX hkn
          go_wp2_with (at_builtin; refine stop ?_)
          delta Stop
          have HRD : Reads (wc.alloc (.cells X 35)) (fun b => b = wc.heap.size) 27 (some ⟨wc.heap.size, 0, none⟩) 1 (rowE [e]) := by
            have := Reads.of_row (w := wc.alloc (.cells X 35)) (g := wc.heap.size) (n := 1) (size := 27) (heap_alloc_new wc _) (by rw [HXX.out.2])
            rw [← HXX.out.1] at this ⊢
            simpa [rowE] using this
          refine append_ev _ rfl _ _ rfl w.heap.size u2 lack rfl (World.ownsRow.alloc H8.out.2.o2 _) _ _ _ _ [e] rfl HRD (by have := H8.out.2.le; omega) (by have := H8.out.2.chg.size; simp; omega) ?_
          intro v7 w7 o7 g7 a7
          have c7 : Chg (fun k => u2.ownBlock = some k) wc w7 := Chg.grown ((Chg.refl _ wc).alloc _) g7 fun k hk _ => hk
          have hne : ∀ b, u1.ownBlock = some b → v7.ownBlock ≠ some b := fun b hb h => by
            rcases a7 with a | a
            · exact H8.out.2.ne b hb (a ▸ h)
            · rw [a] at h
              injection h with h
              have := (own_lt H8.out.2.o1 hb).2
              simp at h
              omega
          have hge7 : ∀ k, u2.ownBlock = some k → w.heap.size ≤ k := fun k hk => (own_lt H8.out.2.o2 hk).1
          have H9 := Lib.hid (show Blk w7 ge 35 e.cs.toArray ∧ TellAt w gv gn v l i (i + 1) u1 v7 out (lack ++ [e]) now k w7 from
            ⟨H8.out.1.chg c7 (own_neE H8.out.2.o2 HGE.out.2.2.2.2), H8.out.2.vb.chg c7 (own_ne H8.out.2.o2 H8.out.2.vb (by decide)), H8.out.2.nb.chg c7 (own_ne H8.out.2.o2 H8.out.2.nb (by decide)), own_chg H8.out.2.o1 c7 (fun b hb h => H8.out.2.ne b hb h), o7, hne, H8.out.2.len, ⟨H8.out.2.le.1, by rw [List.length_append]; have := H8.out.2.le.2; simp; omega⟩, H8.out.2.go, HLK.out.symm, H8.out.2.chg.trans c7 fun i hi e => by have := hge7 i e; omega, H8.out.2.lo⟩)
          clear HRD o7 g7 a7 c7 hge7 hfold hle4 hne
          have hv7 : v7.oneCell' = true := by obtain ⟨A', c', h⟩ := H9.out.2.o2.form; rw [h]; rfl
          by_cases hk0 : k = 0
          · subst hk0
            have hgo : allF v l = (out ++ (allF now (l.drop i)).1, (allF now (l.drop i)).2) := by
              rcases H9.out.2.go with h | h
              · exact h.2
              · exact absurd rfl h.1
            rw [drop_ev H6.out.2.2] at hgo
            have C3 := rone_ w7 now e H9.out.2.len (HE.out.2 e (List.mem_of_getElem? H6.out.2.2))
            obtain ⟨z, hz⟩ : ∃ z, oneF now e = z := ⟨_, rfl⟩
            rw [hz] at C3
            have C3 := Lib.hid C3
            have HZ := Lib.hid (And.intro hgo hz)
            have ln9 := ldB H9.out.2.len H9.out.2.nb
            have le9 := ldE H9.out.1
            have gg9 := H9.out.1.lt
            have ggn := H9.out.2.nb.lt
            clear hgo hz
            go_wp2_with fail
            with_reducible refine C3.out.mono ?_
            rintro y w10 ⟨rfl, n10⟩
            have H10 := Lib.hid (And.intro (H9.out.1.chg n10 id) (H9.out.2.new n10))
            clear C3 n10 ln9 le9 gg9 ggn
            by_cases hz0 : z = 0
            · subst hz0
              obtain ⟨hre, hkw, hnx, hbe⟩ := one_zero HZ.out.2
              have hdot := one_dot hre
              obtain ⟨d1, d2, d3, d4⟩ := dotF_true.1 hdot
              obtain ⟨r, hr⟩ : ∃ r, (e.n 0).toNat = r := ⟨_, rfl⟩
              have hr16 : r < 16 := by omega
              have HGO := Lib.hid (show allF v l = ((out ++ [e]) ++ (allF (now.set r (e.n 1)) (l.drop (i + 1))).1, (allF (now.set r (e.n 1)) (l.drop (i + 1))).2) by rw [HZ.out.1, allF_take HZ.out.2, addF_yes hdot hkw, hr]; simp)
              obtain ⟨X, hX⟩ : ∃ X, e.cs.toArray = X := ⟨_, rfl⟩
              have hXs : X.size = 27 := by rw [← hX]; rfl
              have HXX := Lib.hid (And.intro hX hXs)
              have hle4 : (LoadRow 35 ⟨ge, 0, none⟩).run Tryd.prog w10 = .ok (.agg X) w10 := by rw [← hX]; exact ldE H10.out.1
              have hfold := fold_all zeroE X (by rw [hXs]; rfl) 27 hXs.symm
              simp only [zeroE, List.replicate, List.cons_append, List.nil_append] at hfold
              have hbt : (if 24 = 24 then true else false) = true := rfl
              have gg4 := H10.out.1.lt
              clear hX hre hkw hnx hbe hdot
              go_wp2_with (at_builtin; refine stop ?_)
              delta Stop
              have HRD : Reads (w10.alloc (.cells X 35)) (fun b => b = w10.heap.size) 27 (some ⟨w10.heap.size, 0, none⟩) 1 (rowE [e]) := by
                have := Reads.of_row (w := w10.alloc (.cells X 35)) (g := w10.heap.size) (n := 1) (size := 27) (heap_alloc_new w10 _) (by rw [HXX.out.2])
                rw [← HXX.out.1] at this ⊢
                simpa [rowE] using this
              refine append_ev _ rfl _ _ rfl w.heap.size u1 out rfl (World.ownsRow.alloc H10.out.2.o1 _) _ _ _ _ [e] rfl HRD (by have := H10.out.2.le; omega) (by have := H10.out.2.chg.size; simp; omega) ?_
              intro vb wb ob gb ab
              have cb : Chg (fun k => u1.ownBlock = some k) w10 wb := Chg.grown ((Chg.refl _ w10).alloc _) gb fun k hk _ => hk
              have hneb : ∀ b, vb.ownBlock = some b → (v7 : Value).ownBlock ≠ some b := fun b hb h => by
                rcases ab with a | a
                · exact H10.out.2.ne b (a ▸ hb) h
                · rw [a] at hb
                  injection hb with hb
                  have := (own_lt H10.out.2.o2 h).2
                  simp at hb
                  omega
              have hgeb : ∀ k, u1.ownBlock = some k → w.heap.size ≤ k := fun k hk => (own_lt H10.out.2.o1 hk).1
              have H11 := Lib.hid (show Blk wb ge 35 e.cs.toArray ∧ Blk wb gv 23 (ints v).toArray ∧ Blk wb gn 23 (ints now).toArray ∧ OwnE wb w.heap.size vb (out ++ [e]) ∧ OwnE wb w.heap.size v7 (lack ++ [e]) ∧ New w wb from
                ⟨H10.out.1.chg cb (own_neE H10.out.2.o1 HGE.out.2.2.2.1), H10.out.2.vb.chg cb (own_ne H10.out.2.o1 H10.out.2.vb (by decide)), H10.out.2.nb.chg cb (own_ne H10.out.2.o1 H10.out.2.nb (by decide)), ob, own_chg H10.out.2.o2 cb (fun b hb h => H10.out.2.ne b h hb), H10.out.2.chg.trans cb fun i hi e => by have := hgeb i e; omega⟩)
              have q0 : wb.cell? ⟨ge, 0, none⟩ = some (.int .i64 (e.n 0)) := H11.out.1.cell 0
              have q1 : wb.cell? ⟨ge, 1, none⟩ = some (.int .i64 (e.n 1)) := H11.out.1.cell 1
              have qk := H11.out.2.2.1.cell r
              simp only [List.getElem?_toArray, ints_get, get_getD (show r < now.length by rw [H10.out.2.len]; exact hr16), Option.map_some] at qk
              have qf := H11.out.2.2.1.frozen r
              have hs7 := H11.out.2.2.1.set_ r (.int .i64 (e.n 1))
              rw [List.setIfInBounds_toArray, ints_set] at hs7
              have c12 := (Chg.refl (fun b => b = gn) wb).setCell (p := ⟨gn, r, none⟩) (fun _ => rfl) (.int .i64 (e.n 1))
              have H12 := Lib.hid (show TellAt w gv gn v l (i + 1) (i + 1) vb v7 (out ++ [e]) (lack ++ [e]) (now.set r (e.n 1)) 0 (wb.setCell ⟨gn, r, none⟩ (.int .i64 (e.n 1))) from
                ⟨H11.out.2.1.chg c12 hlo.2.2, hs7, own_chg H11.out.2.2.2.1 c12 (fun k hk h => own_ne H11.out.2.2.2.1 H11.out.2.2.1 (by decide) (h ▸ hk)), own_chg H11.out.2.2.2.2.1 c12 (fun k hk h => own_ne H11.out.2.2.2.2.1 H11.out.2.2.1 (by decide) (h ▸ hk)), hneb, by rw [List.length_set]; exact H10.out.2.len, ⟨by rw [List.length_append]; have := H10.out.2.le.1; simp; omega, H10.out.2.le.2⟩, .inl ⟨rfl, HGO.out⟩, H10.out.2.lk, H11.out.2.2.2.2.2.trans c12 fun i hi e => by omega, hlo⟩)
              have gg5 := H11.out.1.lt
              have gg6 := H11.out.2.2.1.lt
              have hvb : vb.oneCell' = true := by obtain ⟨A', c', h⟩ := H11.out.2.2.2.1.form; rw [h]; rfl
              clear HRD ob gb ab cb hgeb hfold hle4 hs7 c12 hneb
              go_wp2_with fail
              go_roundw
              case rel => exact ⟨i + 1, vb, v7, _, _, _, 0, by omega, rfl, rfl, by go_num, rfl, H12.out⟩
              case measure => simp [intOf]; omega
            · have hzb0 : (z == 0) = false := by simpa using hz0
              by_cases hz5 : z = 5
              · subst hz5
                have H11 := Lib.hid (show TellAt w gv gn v l (i + 1) (i + 1) u1 v7 out (lack ++ [e]) now 0 w10 from
                  ⟨H10.out.2.vb, H10.out.2.nb, H10.out.2.o1, H10.out.2.o2, H10.out.2.ne, H10.out.2.len, ⟨by have := H10.out.2.le.1; omega, H10.out.2.le.2⟩, .inl ⟨rfl, by rw [HZ.out.1, allF_skip HZ.out.2]⟩, H10.out.2.lk, H10.out.2.chg, H10.out.2.lo⟩)
                go_wp2_with fail
                go_roundw
                case rel => exact ⟨i + 1, u1, v7, _, _, _, 0, by omega, rfl, rfl, by go_num, rfl, H11.out⟩
                case measure => simp [intOf]; omega
              · have hzb5 : (z == 5) = false := by simpa using hz5
                have H11 := Lib.hid (show TellAt w gv gn v l (i + 1) (i + 1) u1 v7 out (lack ++ [e]) now z w10 from
                  ⟨H10.out.2.vb, H10.out.2.nb, H10.out.2.o1, H10.out.2.o2, H10.out.2.ne, H10.out.2.len, ⟨by have := H10.out.2.le.1; omega, H10.out.2.le.2⟩, .inr ⟨hz0, by rw [HZ.out.1, allF_stop (by rw [HZ.out.2]; exact hz0) (by rw [HZ.out.2]; exact hz5), HZ.out.2]; simp⟩, H10.out.2.lk, H10.out.2.chg, H10.out.2.lo⟩)
                go_wp2_with fail
                go_roundw
                case rel => exact ⟨i + 1, u1, v7, _, _, _, z, by omega, rfl, rfl, by go_num, rfl, H11.out⟩
                case measure => simp [intOf]; omega
          · have hkb : (k == 0) = false := by simpa using hk0
            have H10 := Lib.hid (show TellAt w gv gn v l (i + 1) (i + 1) u1 v7 out (lack ++ [e]) now k w7 from
              ⟨H9.out.2.vb, H9.out.2.nb, H9.out.2.o1, H9.out.2.o2, H9.out.2.ne, H9.out.2.len, ⟨by have := H9.out.2.le.1; omega, H9.out.2.le.2⟩, .inr (by
                rcases H9.out.2.go with h | h
                · exact absurd h.1 hk0
                · exact h), H9.out.2.lk, H9.out.2.chg, H9.out.2.lo⟩)
            go_wp2_with fail
            go_roundw
            case rel => exact ⟨i + 1, u1, v7, _, _, _, k, by omega, rfl, rfl, by go_num, rfl, H10.out⟩
            case measure => simp [intOf]; omega
        · rw [if_pos rfl, List.append_nil] at hlt'
          have H9 := Lib.hid (show Blk wc ge 35 e.cs.toArray ∧ TellAt w gv gn v l i (i + 1) u1 u2 out lack now k wc from
            ⟨H8.out.1, H8.out.2.vb, H8.out.2.nb, H8.out.2.o1, H8.out.2.o2, H8.out.2.ne, H8.out.2.len, ⟨H8.out.2.le.1, by have := H8.out.2.le.2; omega⟩, H8.out.2.go, hlt'.symm, H8.out.2.chg, H8.out.2.lo⟩)
          clear hlt' hkn
          by_cases hk0 : k = 0
          · subst hk0
            have hgo : allF v l = (out ++ (allF now (l.drop i)).1, (allF now (l.drop i)).2) := by
              rcases H9.out.2.go with h | h
              · exact h.2
              · exact absurd rfl h.1
            rw [drop_ev H6.out.2.2] at hgo
            have C3 := rone_ wc now e H9.out.2.len (HE.out.2 e (List.mem_of_getElem? H6.out.2.2))
            obtain ⟨z, hz⟩ : ∃ z, oneF now e = z := ⟨_, rfl⟩
            rw [hz] at C3
            have C3 := Lib.hid C3
            have HZ := Lib.hid (And.intro hgo hz)
            have ln9 := ldB H9.out.2.len H9.out.2.nb
            have le9 := ldE H9.out.1
            have gg9 := H9.out.1.lt
            have ggn := H9.out.2.nb.lt
            clear hgo hz
            go_wp2_with fail
            with_reducible refine C3.out.mono ?_
            rintro y w10 ⟨rfl, n10⟩
            have H10 := Lib.hid (And.intro (H9.out.1.chg n10 id) (H9.out.2.new n10))
            clear C3 n10 ln9 le9 gg9 ggn
            by_cases hz0 : z = 0
            · subst hz0
              obtain ⟨hre, hkw, hnx, hbe⟩ := one_zero HZ.out.2
              have hdot := one_dot hre
              obtain ⟨d1, d2, d3, d4⟩ := dotF_true.1 hdot
              obtain ⟨r, hr⟩ : ∃ r, (e.n 0).toNat = r := ⟨_, rfl⟩
              have hr16 : r < 16 := by omega
              have HGO := Lib.hid (show allF v l = ((out ++ [e]) ++ (allF (now.set r (e.n 1)) (l.drop (i + 1))).1, (allF (now.set r (e.n 1)) (l.drop (i + 1))).2) by rw [HZ.out.1, allF_take HZ.out.2, addF_yes hdot hkw, hr]; simp)
              obtain ⟨X, hX⟩ : ∃ X, e.cs.toArray = X := ⟨_, rfl⟩
              have hXs : X.size = 27 := by rw [← hX]; rfl
              have HXX := Lib.hid (And.intro hX hXs)
              have hle4 : (LoadRow 35 ⟨ge, 0, none⟩).run Tryd.prog w10 = .ok (.agg X) w10 := by rw [← hX]; exact ldE H10.out.1
              have hfold := fold_all zeroE X (by rw [hXs]; rfl) 27 hXs.symm
              simp only [zeroE, List.replicate, List.cons_append, List.nil_append] at hfold
              have hbt : (if 24 = 24 then true else false) = true := rfl
              have gg4 := H10.out.1.lt
              clear hX hre hkw hnx hbe hdot
              go_wp2_with (at_builtin; refine stop ?_)
              delta Stop
              have HRD : Reads (w10.alloc (.cells X 35)) (fun b => b = w10.heap.size) 27 (some ⟨w10.heap.size, 0, none⟩) 1 (rowE [e]) := by
                have := Reads.of_row (w := w10.alloc (.cells X 35)) (g := w10.heap.size) (n := 1) (size := 27) (heap_alloc_new w10 _) (by rw [HXX.out.2])
                rw [← HXX.out.1] at this ⊢
                simpa [rowE] using this
              refine append_ev _ rfl _ _ rfl w.heap.size u1 out rfl (World.ownsRow.alloc H10.out.2.o1 _) _ _ _ _ [e] rfl HRD (by have := H10.out.2.le; omega) (by have := H10.out.2.chg.size; simp; omega) ?_
              intro vb wb ob gb ab
              have cb : Chg (fun k => u1.ownBlock = some k) w10 wb := Chg.grown ((Chg.refl _ w10).alloc _) gb fun k hk _ => hk
              have hneb : ∀ b, vb.ownBlock = some b → (u2 : Value).ownBlock ≠ some b := fun b hb h => by
                rcases ab with a | a
                · exact H10.out.2.ne b (a ▸ hb) h
                · rw [a] at hb
                  injection hb with hb
                  have := (own_lt H10.out.2.o2 h).2
                  simp at hb
                  omega
              have hgeb : ∀ k, u1.ownBlock = some k → w.heap.size ≤ k := fun k hk => (own_lt H10.out.2.o1 hk).1
              have H11 := Lib.hid (show Blk wb ge 35 e.cs.toArray ∧ Blk wb gv 23 (ints v).toArray ∧ Blk wb gn 23 (ints now).toArray ∧ OwnE wb w.heap.size vb (out ++ [e]) ∧ OwnE wb w.heap.size u2 lack ∧ New w wb from
                ⟨H10.out.1.chg cb (own_neE H10.out.2.o1 HGE.out.2.2.2.1), H10.out.2.vb.chg cb (own_ne H10.out.2.o1 H10.out.2.vb (by decide)), H10.out.2.nb.chg cb (own_ne H10.out.2.o1 H10.out.2.nb (by decide)), ob, own_chg H10.out.2.o2 cb (fun b hb h => H10.out.2.ne b h hb), H10.out.2.chg.trans cb fun i hi e => by have := hgeb i e; omega⟩)
              have q0 : wb.cell? ⟨ge, 0, none⟩ = some (.int .i64 (e.n 0)) := H11.out.1.cell 0
              have q1 : wb.cell? ⟨ge, 1, none⟩ = some (.int .i64 (e.n 1)) := H11.out.1.cell 1
              have qk := H11.out.2.2.1.cell r
              simp only [List.getElem?_toArray, ints_get, get_getD (show r < now.length by rw [H10.out.2.len]; exact hr16), Option.map_some] at qk
              have qf := H11.out.2.2.1.frozen r
              have hs7 := H11.out.2.2.1.set_ r (.int .i64 (e.n 1))
              rw [List.setIfInBounds_toArray, ints_set] at hs7
              have c12 := (Chg.refl (fun b => b = gn) wb).setCell (p := ⟨gn, r, none⟩) (fun _ => rfl) (.int .i64 (e.n 1))
              have H12 := Lib.hid (show TellAt w gv gn v l (i + 1) (i + 1) vb u2 (out ++ [e]) lack (now.set r (e.n 1)) 0 (wb.setCell ⟨gn, r, none⟩ (.int .i64 (e.n 1))) from
                ⟨H11.out.2.1.chg c12 hlo.2.2, hs7, own_chg H11.out.2.2.2.1 c12 (fun k hk h => own_ne H11.out.2.2.2.1 H11.out.2.2.1 (by decide) (h ▸ hk)), own_chg H11.out.2.2.2.2.1 c12 (fun k hk h => own_ne H11.out.2.2.2.2.1 H11.out.2.2.1 (by decide) (h ▸ hk)), hneb, by rw [List.length_set]; exact H10.out.2.len, ⟨by rw [List.length_append]; have := H10.out.2.le.1; simp; omega, H10.out.2.le.2⟩, .inl ⟨rfl, HGO.out⟩, H10.out.2.lk, H11.out.2.2.2.2.2.trans c12 fun i hi e => by omega, hlo⟩)
              have gg5 := H11.out.1.lt
              have gg6 := H11.out.2.2.1.lt
              have hvb : vb.oneCell' = true := by obtain ⟨A', c', h⟩ := H11.out.2.2.2.1.form; rw [h]; rfl
              clear HRD ob gb ab cb hgeb hfold hle4 hs7 c12 hneb
              go_wp2_with fail
              go_roundw
              case rel => exact ⟨i + 1, vb, u2, _, _, _, 0, by omega, rfl, rfl, by go_num, rfl, H12.out⟩
              case measure => simp [intOf]; omega
            · have hzb0 : (z == 0) = false := by simpa using hz0
              by_cases hz5 : z = 5
              · subst hz5
                have H11 := Lib.hid (show TellAt w gv gn v l (i + 1) (i + 1) u1 u2 out lack now 0 w10 from
                  ⟨H10.out.2.vb, H10.out.2.nb, H10.out.2.o1, H10.out.2.o2, H10.out.2.ne, H10.out.2.len, ⟨by have := H10.out.2.le.1; omega, H10.out.2.le.2⟩, .inl ⟨rfl, by rw [HZ.out.1, allF_skip HZ.out.2]⟩, H10.out.2.lk, H10.out.2.chg, H10.out.2.lo⟩)
                go_wp2_with fail
                go_roundw
                case rel => exact ⟨i + 1, u1, u2, _, _, _, 0, by omega, rfl, rfl, by go_num, rfl, H11.out⟩
                case measure => simp [intOf]; omega
              · have hzb5 : (z == 5) = false := by simpa using hz5
                have H11 := Lib.hid (show TellAt w gv gn v l (i + 1) (i + 1) u1 u2 out lack now z w10 from
                  ⟨H10.out.2.vb, H10.out.2.nb, H10.out.2.o1, H10.out.2.o2, H10.out.2.ne, H10.out.2.len, ⟨by have := H10.out.2.le.1; omega, H10.out.2.le.2⟩, .inr ⟨hz0, by rw [HZ.out.1, allF_stop (by rw [HZ.out.2]; exact hz0) (by rw [HZ.out.2]; exact hz5), HZ.out.2]; simp⟩, H10.out.2.lk, H10.out.2.chg, H10.out.2.lo⟩)
                go_wp2_with fail
                go_roundw
                case rel => exact ⟨i + 1, u1, u2, _, _, _, z, by omega, rfl, rfl, by go_num, rfl, H11.out⟩
                case measure => simp [intOf]; omega
          · have hkb : (k == 0) = false := by simpa using hk0
            have H10 := Lib.hid (show TellAt w gv gn v l (i + 1) (i + 1) u1 u2 out lack now k wc from
              ⟨H9.out.2.vb, H9.out.2.nb, H9.out.2.o1, H9.out.2.o2, H9.out.2.ne, H9.out.2.len, ⟨by have := H9.out.2.le.1; omega, H9.out.2.le.2⟩, .inr (by
                rcases H9.out.2.go with h | h
                · exact absurd h.1 hk0
                · exact h), H9.out.2.lk, H9.out.2.chg, H9.out.2.lo⟩)
            go_wp2_with fail
            go_roundw
            case rel => exact ⟨i + 1, u1, u2, _, _, _, k, by omega, rfl, rfl, by go_num, rfl, H10.out⟩
            case measure => simp [intOf]; omega
    · have hgi : ¬ (i : Int) < n := by omega
      have hin : i = n := by omega
      have hall : allF v l = (out, now, k) := by
        rcases hA.go with h | h
        · rw [h.2, List.drop_of_length_le (by rw [HM.out.2.2.2.2.1]; omega), h.1]
          simp [allF]
        · exact h.2
      have hlk : lacksF v l = lack := by rw [hA.lk, List.take_of_length_le (by rw [HM.out.2.2.2.2.1]; omega)]
      have hA0 := Lib.hid hA
      clear hA
      have CA := all_ HM.out.2.1 wr v A n c F l (HM.out.2.2.1.chg hA0.out.chg fun b hb => ⟨HM.out.2.2.2.1 b hb, id⟩) (fun b hb => Nat.lt_of_lt_of_le (HM.out.2.2.2.1 b hb) hA0.out.chg.size) HM.out.2.2.2.2.2.2.2 (by omega) HM.out.2.2.2.2.1 HE.out.1 (HM.out.1.new hA0.out.chg)
      rw [hall] at CA
      dsimp only at CA
      have CA := Lib.hid CA
      have HLK := Lib.hid hlk
      have lv3 := ldB HM.out.2.2.2.2.2.2.2 hA0.out.vb
      have g3 := hA0.out.vb.lt
      obtain ⟨A1, c1, rfl⟩ := hA0.out.o1.form
      obtain ⟨A2, c2, rfl⟩ := hA0.out.o2.form
      obtain ⟨np, hnp⟩ : ∃ m, out.length = m := ⟨_, rfl⟩
      obtain ⟨nl, hnl⟩ : ∃ m, lack.length = m := ⟨_, rfl⟩
      have HLN := Lib.hid (And.intro hnp (And.intro hnl (show np ≤ 80 ∧ nl ≤ 80 by have := hA0.out.le; omega)))
      clear hall hlk
      go_wp2_with fail
      with_reducible refine CA.out.mono ?_
      rintro x w5 ⟨u5, rfl, o5, n5⟩
      obtain ⟨A5, c5, rfl⟩ := o5.form
      rw [HLN.out.1]
      have hst := stB (xs := now) (old := zeros) rfl hA0.out.len (Blk.new w5 23 (ints zeros).toArray)
      obtain ⟨g6, hg6⟩ : ∃ g, w5.heap.size = g := ⟨_, rfl⟩
      have hgg : g6 < (w5.alloc (.cells (ints zeros).toArray 23)).heap.size := by rw [← hg6]; exact (Blk.new w5 23 (ints zeros).toArray).lt
      have m6 := Chg.setCells (S := fun _ => False) (a := w5) (g := w5.heap.size) (ints now) 0 _ ((Chg.refl (fun _ => False) w5).alloc (.cells (ints zeros).toArray 23)) (fun h => by omega)
      rw [hg6] at hst m6
      obtain ⟨w6, hw6⟩ : ∃ W, (w5.alloc (.cells (ints zeros).toArray 23)).setCells g6 0 (ints now) = W := ⟨_, rfl⟩
      rw [hw6] at hst m6
      have hst1 := hst.1
      have n56 := n5.trans m6 fun _ _ => id
      have H6 := Lib.hid (And.intro (hA0.out.new n56) (And.intro hst.2 (own_chg o5 m6 fun _ _ => id)))
      clear CA lv3 g3 hst n5 m6 o5 n56 hw6
      go_upto_region 26 with fail
      clear hst1 hgg hg6
      have lv6 := ldB HM.out.2.2.2.2.2.2.2 H6.out.1.vb
      have gv6 := H6.out.1.vb.lt
      have CL := lacks_ w6 v A n c F l (HM.out.2.2.1.chg H6.out.1.chg fun b hb => ⟨HM.out.2.2.2.1 b hb, id⟩) (fun b hb => Nat.lt_of_lt_of_le (HM.out.2.2.2.1 b hb) H6.out.1.chg.size) HM.out.2.2.2.2.2.2.2 (by omega) HM.out.2.2.2.2.1
      rw [HLK.out] at CL
      have CL := Lib.hid CL
      go_wp2_with fail
      with_reducible refine CL.out.mono ?_
      rintro x w7 ⟨u7, rfl, o7, n7⟩
      obtain ⟨A7, c7, rfl⟩ := o7.form
      rw [HLN.out.2.1]
      have H7 := Lib.hid (And.intro (H6.out.1.new n7) (And.intro (H6.out.2.1.chg n7 id) (And.intro (own_chg H6.out.2.2 n7 fun _ _ => id) o7)))
      clear CL lv6 gv6 n7 o7
      go_upto_region 27 with fail
      have ln7 := ldB H7.out.1.len H7.out.1.nb
      have lm7 := ldB H7.out.1.len H7.out.2.1
      have gn7 := H7.out.1.nb.lt
      have gm7 := H7.out.2.1.lt
      have hnv := neqSelfV H7.out.1.len
      have hgvv := neGV
      go_wp2_with fail
      clear ln7 lm7 gn7 gm7
      go_loopw [130] (fun jv wr => ∃ j : Nat, j ≤ np ∧ jv = .int .i64 j ∧ New w7 wr) (fun jv _ => np - (intOf jv).toNat)
      case atStart => exact ⟨0, by omega, by go_num, Chg.refl _ _⟩
      case round =>
        obtain ⟨j, hj, rfl, hnw⟩ := hrel
        have HNW := Lib.hid hnw
        clear hnw
        have hnp8 : (np : Int) ≤ 80 := by have := HLN.out.2.2.1; omega
        by_cases hlt2 : j < np
        · have hji : (j : Int) < np := by omega
          have hw1 : IntKind.i64.wrap ((j : Int) + 1) = (j : Int) + 1 := IntWalk.i64_in _ (by omega)
          obtain ⟨e, he⟩ : ∃ e, out[j]? = some e := ⟨_, List.getElem?_eq_getElem (by rw [HLN.out.1]; exact hlt2)⟩
          obtain ⟨a5, h5, _⟩ := ld_ev (Reads.of_own (own_chg H7.out.2.2.1 HNW.out fun _ _ => id)) he
          obtain ⟨a1, h1, _⟩ := ld_ev (Reads.of_own (own_chg H7.out.1.o1 HNW.out fun _ _ => id)) he
          have f5 := fun y : ChgW (fun _ => False) wr => (show (LoadRow 35 (a5.add (j * 27))).run Tryd.prog y.W = .ok e.val y.W from by
            obtain ⟨a, hx, hy⟩ := ld_ev (Reads.of_own (own_chg (own_chg H7.out.2.2.1 HNW.out fun _ _ => id) y.chg fun _ _ => id)) he
            rw [h5] at hx
            injection hx with hx
            rw [hx]
            exact hy)
          have f1 := fun y : ChgW (fun _ => False) wr => (show (LoadRow 35 (a1.add (j * 27))).run Tryd.prog y.W = .ok e.val y.W from by
            obtain ⟨a, hx, hy⟩ := ld_ev (Reads.of_own (own_chg (own_chg H7.out.1.o1 HNW.out fun _ _ => id) y.chg fun _ _ => id)) he
            rw [h1] at hx
            injection hx with hx
            rw [hx]
            exact hy)
          have hne := neqSelfE e
          have hge := neGE
          clear he
          rw [h5, h1]
          clear h5 h1
          go_wp2_with fail
          refine wp_region_chg (fun _ => False) (by kernel_rfl) (by kernel_rfl) ?_
          repeat (go_big_quiet_step (fail))
          refine wpQuiet_nil ?_
          rintro ⟨wq, hq⟩
          simp only []
          have N9 := Lib.hid (HNW.out.trans hq fun _ _ => id)
          clear hq f5 f1
          go_wp2_with fail
          go_roundw
          case rel => exact ⟨j + 1, by omega, by go_num, N9.out⟩
          case measure => simp [intOf]; omega
        · have hgj : ¬ (j : Int) < np := by omega
          go_wp2_with fail
          go_loopw [145] (fun jv wr => ∃ j : Nat, j ≤ nl ∧ jv = .int .i64 j ∧ New w7 wr) (fun jv _ => nl - (intOf jv).toNat)
          case atStart => exact ⟨0, by omega, by go_num, HNW.out⟩
          case round =>
            clear HNW
            obtain ⟨j, hj, rfl, hnw⟩ := hrel
            have HNW := Lib.hid hnw
            clear hnw
            have hnp8 : (nl : Int) ≤ 80 := by have := HLN.out.2.2.2; omega
            by_cases hlt3 : j < nl
            · have hji : (j : Int) < nl := by omega
              have hw1 : IntKind.i64.wrap ((j : Int) + 1) = (j : Int) + 1 := IntWalk.i64_in _ (by omega)
              obtain ⟨e, he⟩ : ∃ e, lack[j]? = some e := ⟨_, List.getElem?_eq_getElem (by rw [HLN.out.2.1]; exact hlt3)⟩
              obtain ⟨a7, h7, _⟩ := ld_ev (Reads.of_own (own_chg H7.out.2.2.2 HNW.out fun _ _ => id)) he
              obtain ⟨a2, h2, _⟩ := ld_ev (Reads.of_own (own_chg H7.out.1.o2 HNW.out fun _ _ => id)) he
              have f7 := fun y : ChgW (fun _ => False) wr => (show (LoadRow 35 (a7.add (j * 27))).run Tryd.prog y.W = .ok e.val y.W from by
                obtain ⟨a, hx, hy⟩ := ld_ev (Reads.of_own (own_chg (own_chg H7.out.2.2.2 HNW.out fun _ _ => id) y.chg fun _ _ => id)) he
                rw [h7] at hx
                injection hx with hx
                rw [hx]
                exact hy)
              have f2 := fun y : ChgW (fun _ => False) wr => (show (LoadRow 35 (a2.add (j * 27))).run Tryd.prog y.W = .ok e.val y.W from by
                obtain ⟨a, hx, hy⟩ := ld_ev (Reads.of_own (own_chg (own_chg H7.out.1.o2 HNW.out fun _ _ => id) y.chg fun _ _ => id)) he
                rw [h2] at hx
                injection hx with hx
                rw [hx]
                exact hy)
              have hne := neqSelfE e
              have hge := neGE
              clear he
              rw [h7, h2]
              clear h7 h2
              go_wp2_with fail
              refine wp_region_chg (fun _ => False) (by kernel_rfl) (by kernel_rfl) ?_
              repeat (go_big_quiet_step (fail))
              refine wpQuiet_nil ?_
              rintro ⟨wq, hq⟩
              simp only []
              have N9 := Lib.hid (HNW.out.trans hq fun _ _ => id)
              clear hq f7 f2
              go_wp2_with fail
              go_roundw
              case rel => exact ⟨j + 1, by omega, by go_num, N9.out⟩
              case measure => simp [intOf]; omega
            · have hgj2 : ¬ (j : Int) < nl := by omega
              have N8 := Lib.hid (H7.out.1.chg.trans HNW.out fun _ _ => id)
              have CC := causal_ wr A n c F l (HM.out.2.2.1.chg N8.out fun b hb => ⟨HM.out.2.2.2.1 b hb, id⟩) (fun b hb => Nat.lt_of_lt_of_le (HM.out.2.2.2.1 b hb) N8.out.size) (by omega) HM.out.2.2.2.2.1 HE.out.2
              obtain ⟨row, known, hR⟩ : ∃ row known, causalF zeros l = (row, known) := ⟨_, _, rfl⟩
              have hvl := causal_vlen2 l zeros
              rw [hR] at CC hvl
              dsimp only at CC hvl
              have HR := Lib.hid (And.intro hR (show known.length = 16 from hvl))
              have CC := Lib.hid CC
              obtain ⟨mm, hmm⟩ : ∃ m, row.length = m := ⟨_, rfl⟩
              have HMM := Lib.hid hmm
              clear hR hvl
              go_wp2_with fail
              with_reducible refine CC.out.mono ?_
              rintro x w8 ⟨u8, rfl, o8, n8⟩
              obtain ⟨A8, c8, rfl⟩ := o8.form
              have hst := stB (xs := known) (old := zeros) rfl HR.out.2 (Blk.new w8 23 (ints zeros).toArray)
              obtain ⟨g9, hg9⟩ : ∃ g, w8.heap.size = g := ⟨_, rfl⟩
              have hgg : g9 < (w8.alloc (.cells (ints zeros).toArray 23)).heap.size := by rw [← hg9]; exact (Blk.new w8 23 (ints zeros).toArray).lt
              have m9 := Chg.setCells (S := fun _ => False) (a := w8) (g := w8.heap.size) (ints known) 0 _ ((Chg.refl (fun _ => False) w8).alloc (.cells (ints zeros).toArray 23)) (fun h => by omega)
              rw [hg9] at hst m9
              obtain ⟨w9, hw9⟩ : ∃ W, (w8.alloc (.cells (ints zeros).toArray 23)).setCells g9 0 (ints known) = W := ⟨_, rfl⟩
              rw [hw9] at hst m9
              have hst1 := hst.1
              have H9 := Lib.hid (N8.out.trans (n8.trans m9 fun _ _ => id) fun _ _ => id)
              clear CC hst n8 m9 o8 hw9
              rw [hmm]
              go_upto_region 42 with fail
              clear hst1 hgg hg9
              have CW := row_ HM.out.2.1 w9 A n c F l (HM.out.2.2.1.chg H9.out fun b hb => ⟨HM.out.2.2.2.1 b hb, id⟩) (fun b hb => Nat.lt_of_lt_of_le (HM.out.2.2.2.1 b hb) H9.out.size) (by omega) HM.out.2.2.2.2.1 HE.out.1 (HM.out.1.new H9.out)
              rw [rowF_eq, HR.out.1, HM.out.2.2.2.2.1] at CW
              dsimp only at CW
              rw [HMM.out] at CW
              by_cases hmn : mm = n
              · have hb1 : decide (mm = n) = true := decide_eq_true hmn
                rw [hb1] at CW
                have CW := Lib.hid CW
                have hb2 : ((mm : Int) == (n : Int)) = true := by simp [hmn]
                clear hmn
                go_wp2_with fail
                with_reducible refine CW.out.mono ?_
                rintro x wb ⟨rfl, nb⟩
                have HZ := Lib.hid (H9.out.trans nb fun _ _ => id)
                clear nb CW
                go_wp2_with fail
                go_ret
                exact ⟨by simp [hb2], HZ.out⟩
              · have hb1 : decide (mm = n) = false := decide_eq_false hmn
                rw [hb1] at CW
                have CW := Lib.hid CW
                have hb2 : ((mm : Int) == (n : Int)) = false := by simp <;> omega
                go_wp2_with fail
                with_reducible refine CW.out.mono ?_
                rintro x wb ⟨rfl, nb⟩
                have HZ := Lib.hid (H9.out.trans nb fun _ _ => id)
                clear nb CW
                go_wp2_with fail
                go_ret
                exact ⟨by simp [hb2], HZ.out⟩
end Acc
end Go.Proofs.YtgfkopimjmggdaaDoor

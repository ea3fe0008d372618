/-
  Whole numbers as arguments, opened (no condition).
-/
import Derived.Test.YtgfkopimjmggdaaDoorJ13
import Derived.Shelf.Strings.OnBuilder
import Derived.Deep.Slices
/- The law's one: what it computes (no condition beyond the sizes). -/
namespace Go.Proofs.YtgfkopimjmggdaaDoor
set_option linter.unusedSimpArgs false
set_option linter.unusedVariables false
open Go.ChangeShapes Go.WideShapes Go.RowKit Go.Deep
namespace Acc
open Val (JoinC)
open Evt Vec Num Stable Cmp
attribute [local go_sem ↓] Evt.loadDot Evt.loadVec Evt.loadRow0 Evt.storeRow0 Evt.loadOnly0 Evt.loadOnly1 Evt.loadOnly2 Vec.loadRow0 Vec.storeRow0
theorem cs0 (e : Ev) : e.cs[0]? = some (.int .i64 (e.n 0)) := rfl
theorem cs1 (e : Ev) : e.cs[1]? = some (.int .i64 (e.n 1)) := rfl
set_option maxHeartbeats 8000000 in
set_option maxRecDepth 20000 in
theorem rone_ (w : World) (v : List Int) (e : Ev) (hv : v.length = 16) (h : Small e) :
    Calls Tryd.prog 10 #[vec v, e.val] w fun x w' => x = .returned (.int .i64 (oneF v e)) ∧ New w w' := by
  have n1 := (Chg.refl (fun _ => False) w).alloc (.cells (ints v).toArray 23)
  have n2 := n1.alloc (.cells e.cs.toArray 35)
  have B1 := (Blk.new w 23 (ints v).toArray).alloc (.cells e.cs.toArray 35)
  have B2 := Blk.new1 w (.cells (ints v).toArray 23) 35 e.cs.toArray
  have CR := rrightE ((w.alloc (.cells (ints v).toArray 23)).alloc (.cells e.cs.toArray 35)) e h
  have le1 := ldE B2
  have g1 := B1.lt
  have g2 := B2.lt
  obtain ⟨r, hr⟩ : ∃ r, oneF v e = r := ⟨_, rfl⟩
  rw [hr]
  unfold oneF at hr
  have HB := Lib.hid (And.intro B1 (And.intro B2 n2))
  have HV := Lib.hid hv
  clear n1 n2 B1 B2 h
  obtain ⟨rb, hrb⟩ : ∃ b, rightE e = b := ⟨_, rfl⟩
  rw [hrb] at CR hr
  have CR := Lib.hid CR
  cases rb
  · have HR := Lib.hid (show r = 1 from hr.symm)
    clear hr hrb
    go_enter Tryd.func10, Tryd.ntmps10
    go_wp2_with fail
    with_reducible refine CR.out.mono ?_
    rintro x w3 ⟨rfl, n3⟩
    have HN3 := Lib.hid (HB.out.2.2.trans n3 fun _ _ => id)
    clear n3
    go_wp2_with fail
    go_ret
    exact ⟨by rw [HR.out] <;> rfl, HN3.out⟩
  rw [if_pos rfl] at hr
  have hdot : dotF (e.n 0) (e.n 1) = true := one_dot hrb
  obtain ⟨d1, d2, d3, d4⟩ := dotF_true.1 hdot
  obtain ⟨i, hi⟩ : ∃ i, (e.n 0).toNat = i := ⟨_, rfl⟩
  have hi16 : i < 16 := by omega
  obtain ⟨a, ha⟩ : ∃ a, v.getD i 0 = a := ⟨_, rfl⟩
  have hkn : knowsF v (e.n 0) (e.n 1) = decide (e.n 1 ≤ a) := by unfold knowsF; rw [hdot, hi, ha]; rfl
  have hnx : nextF v (e.n 0) (e.n 1) = (a == e.n 1 - 1) := by unfold nextF; rw [hdot, hi, ha]; rfl
  rw [hkn, hnx] at hr
  have HA := Lib.hid ha
  have HI := Lib.hid (show i < v.length by omega)
  clear hrb hdot hkn hnx ha hv
  by_cases hk : e.n 1 ≤ a
  · have HR := Lib.hid (show r = 5 by rw [← hr, if_pos (by simpa using hk)])
    clear hr
    go_enter Tryd.func10, Tryd.ntmps10
    go_wp2_with fail
    with_reducible refine CR.out.mono ?_
    rintro x w3 ⟨rfl, n3⟩
    have N3 := Lib.hid n3
    clear n3
    have F := Lib.hid (fun x : ChgW (fun _ => False) w3 => And.intro ((HB.out.1.chg N3.out id).chg x.chg id) ((HB.out.2.1.chg N3.out id).chg x.chg id))
    have ca := fun x : ChgW (fun _ => False) w3 => (F.out x).1.cell i
    have e0 := fun x : ChgW (fun _ => False) w3 => (F.out x).2.cell 0
    have e1 := fun x : ChgW (fun _ => False) w3 => (F.out x).2.cell 1
    simp only [List.getElem?_toArray, ints_get, get_getD HI.out, Option.map_some, HA.out] at ca
    simp only [List.getElem?_toArray, cs0, cs1] at e0 e1
    go_wp2_with fail
    refine wp_region_chg (fun _ => False) (by kernel_rfl) (by kernel_rfl) ?_
    repeat (go_big_quiet_step (fail))
    refine wpQuiet_nil ?_
    rintro ⟨wq, hq⟩
    simp only []
    go_wp2_with fail
    go_ret
    exact ⟨by rw [HR.out] <;> rfl, HB.out.2.2.trans (N3.out.trans hq fun _ _ => id) fun _ _ => id⟩
  · rw [if_neg (by simpa using hk)] at hr
    have hw1 : IntKind.i64.wrap (e.n 1 - 1) = e.n 1 - 1 := IntWalk.i64_in _ (by omega)
    obtain ⟨z, hz⟩ : ∃ z, e.n 1 - 1 = z := ⟨_, rfl⟩
    rw [hz] at hr
    simp only [hz] at hw1
    by_cases hn : a = z
    · have HR := Lib.hid (show r = if belowF (past e) v = true then 0 else 8 by rw [← hr, show (a == z) = true by simpa using hn, Bool.true_and])
      clear hr
      subst hn
      go_enter Tryd.func10, Tryd.ntmps10
      go_wp2_with fail
      with_reducible refine CR.out.mono ?_
      rintro x w3 ⟨rfl, n3⟩
      have N3 := Lib.hid n3
      clear n3
      have F := Lib.hid (fun x : ChgW (fun _ => False) w3 => And.intro ((HB.out.1.chg N3.out id).chg x.chg id) ((HB.out.2.1.chg N3.out id).chg x.chg id))
      have ca := fun x : ChgW (fun _ => False) w3 => (F.out x).1.cell i
      have e0 := fun x : ChgW (fun _ => False) w3 => (F.out x).2.cell 0
      have e1 := fun x : ChgW (fun _ => False) w3 => (F.out x).2.cell 1
      simp only [List.getElem?_toArray, ints_get, get_getD HI.out, Option.map_some, HA.out] at ca
      simp only [List.getElem?_toArray, cs0, cs1] at e0 e1
      go_wp2_with fail
      refine wp_region_chg (fun _ => False) (by kernel_rfl) (by kernel_rfl) ?_
      repeat (go_big_quiet_step (fail))
      refine wpQuiet_nil ?_
      rintro ⟨wq, hq⟩
      simp only []
      have N4 := Lib.hid (N3.out.trans hq fun _ _ => id)
      clear hq ca e0 e1 F N3
      have F := Lib.hid (fun x : ChgW (fun _ => False) wq => And.intro ((HB.out.1.chg N4.out id).chg x.chg id) ((HB.out.2.1.chg N4.out id).chg x.chg id))
      have ca := fun x : ChgW (fun _ => False) wq => (F.out x).1.cell i
      have e0 := fun x : ChgW (fun _ => False) wq => (F.out x).2.cell 0
      have e1 := fun x : ChgW (fun _ => False) wq => (F.out x).2.cell 1
      simp only [List.getElem?_toArray, ints_get, get_getD HI.out, Option.map_some, HA.out] at ca
      simp only [List.getElem?_toArray, cs0, cs1] at e0 e1
      go_wp2_with fail
      refine wp_region_chg (fun _ => False) (by kernel_rfl) (by kernel_rfl) ?_
      repeat (go_big_quiet_step (fail))
      refine wpQuiet_nil ?_
      rintro ⟨wq, hq⟩
      simp only []
      have N5 := Lib.hid (N4.out.trans hq fun _ _ => id)
      rename_i wq1
      clear hq ca e0 e1 F N4 hw1
      go_wp2_with fail
      go_loopw [28] (fun iv wr => ∃ k : Nat, k ≤ 16 ∧ iv = .int .i64 k ∧ Hid (∀ j, j < k → (past e).getD j 0 ≤ v.getD j 0) ∧ New ((w.alloc (.cells (ints v).toArray 23)).alloc (.cells e.cs.toArray 35)) wr) (fun iv _ => 16 - (intOf iv).toNat)
      case atStart => exact ⟨0, by omega, rfl, Lib.hid (fun j hj => by omega), N5.out⟩
      case round =>
        obtain ⟨k, hk16, rfl, hall, hnw⟩ := hrel
        have N6 := Lib.hid hnw
        clear hnw
        by_cases hlt : k < 16
        · have hki : (k : Int) < 16 := by omega
          have F := Lib.hid (fun x : ChgW (fun _ => False) wr => And.intro ((HB.out.1.chg N6.out id).chg x.chg id) ((HB.out.2.1.chg N6.out id).chg x.chg id))
          have ca := fun x : ChgW (fun _ => False) wr => (F.out x).1.cell k
          have cp := fun x : ChgW (fun _ => False) wr => (F.out x).2.cell (2 + k)
          simp only [List.getElem?_toArray, ints_get, get_getD (show k < v.length by rw [HV.out]; exact hlt), Option.map_some] at ca
          simp only [List.getElem?_toArray, past_at e hlt] at cp
          obtain ⟨b, hb⟩ : ∃ b, v.getD k 0 = b := ⟨_, rfl⟩
          obtain ⟨y, hy⟩ : ∃ y, (past e).getD k 0 = y := ⟨_, rfl⟩
          simp only [hb] at ca
          simp only [hy] at cp
          have HBY := Lib.hid (And.intro hb hy)
          have hw2 : IntKind.i64.wrap ((k : Int) + 1) = (k : Int) + 1 := IntWalk.i64_in _ (by omega)
          clear hb hy
          by_cases hle : y ≤ b
          · have HALL := Lib.hid (show ∀ j, j < k + 1 → (past e).getD j 0 ≤ v.getD j 0 from fun j hj => by
              rcases Nat.lt_or_eq_of_le (Nat.lt_succ_iff.1 hj) with h | h
              · exact hall.out j h
              · rw [h, HBY.out.1, HBY.out.2]; exact hle)
            clear hall
            go_wp2_with fail
            refine wp_region_chg (fun _ => False) (by kernel_rfl) (by kernel_rfl) ?_
            repeat (go_big_quiet_step (fail))
            refine wpQuiet_nil ?_
            rintro ⟨wq, hq⟩
            simp only []
            have N7 := Lib.hid (N6.out.trans hq fun _ _ => id)
            clear hq ca cp F
            go_wp2_with fail
            go_roundw
            case rel => exact ⟨k + 1, by omega, by go_num, HALL, N7.out⟩
            case measure => simp [intOf]; omega
          · have HF := Lib.hid (show r = 8 by
              rw [HR.out, if_neg]
              intro hbel
              have := (belowF_iff HV.out).1 hbel k hlt
              rw [HBY.out.1, HBY.out.2] at this
              exact hle this)
            go_wp2_with fail
            refine wp_region_chg (fun _ => False) (by kernel_rfl) (by kernel_rfl) ?_
            repeat (go_big_quiet_step (fail))
            refine wpQuiet_nil ?_
            rintro ⟨wq, hq⟩
            simp only []
            go_wp2_with fail
            go_ret
            exact ⟨by rw [HF.out] <;> rfl, HB.out.2.2.trans (N6.out.trans hq fun _ _ => id) fun _ _ => id⟩
        · have hgi : ¬ ((k : Int) < 16) := by omega
          have HF := Lib.hid (show r = 0 by
            rw [HR.out, if_pos]
            exact (belowF_iff HV.out).2 fun j hj => hall.out j (by omega))
          go_wp2_with fail
          go_ret
          exact ⟨by rw [HF.out] <;> rfl, HB.out.2.2.trans N6.out fun _ _ => id⟩
    · have HR := Lib.hid (show r = 8 by rw [← hr, show (a == z) = false by simpa using hn]; rfl)
      have hnz : (a == z) = false := by simpa using hn
      clear hr
      go_enter Tryd.func10, Tryd.ntmps10
      go_wp2_with fail
      with_reducible refine CR.out.mono ?_
      rintro x w3 ⟨rfl, n3⟩
      have N3 := Lib.hid n3
      clear n3
      have F := Lib.hid (fun x : ChgW (fun _ => False) w3 => And.intro ((HB.out.1.chg N3.out id).chg x.chg id) ((HB.out.2.1.chg N3.out id).chg x.chg id))
      have ca := fun x : ChgW (fun _ => False) w3 => (F.out x).1.cell i
      have e0 := fun x : ChgW (fun _ => False) w3 => (F.out x).2.cell 0
      have e1 := fun x : ChgW (fun _ => False) w3 => (F.out x).2.cell 1
      simp only [List.getElem?_toArray, ints_get, get_getD HI.out, Option.map_some, HA.out] at ca
      simp only [List.getElem?_toArray, cs0, cs1] at e0 e1
      go_wp2_with fail
      refine wp_region_chg (fun _ => False) (by kernel_rfl) (by kernel_rfl) ?_
      repeat (go_big_quiet_step (fail))
      refine wpQuiet_nil ?_
      rintro ⟨wq, hq⟩
      simp only []
      have N4 := Lib.hid (N3.out.trans hq fun _ _ => id)
      clear hq ca e0 e1 F N3
      have F := Lib.hid (fun x : ChgW (fun _ => False) wq => And.intro ((HB.out.1.chg N4.out id).chg x.chg id) ((HB.out.2.1.chg N4.out id).chg x.chg id))
      have ca := fun x : ChgW (fun _ => False) wq => (F.out x).1.cell i
      have e0 := fun x : ChgW (fun _ => False) wq => (F.out x).2.cell 0
      have e1 := fun x : ChgW (fun _ => False) wq => (F.out x).2.cell 1
      simp only [List.getElem?_toArray, ints_get, get_getD HI.out, Option.map_some, HA.out] at ca
      simp only [List.getElem?_toArray, cs0, cs1] at e0 e1
      go_wp2_with fail
      refine wp_region_chg (fun _ => False) (by kernel_rfl) (by kernel_rfl) ?_
      repeat (go_big_quiet_step (fail))
      refine wpQuiet_nil ?_
      rintro ⟨wq, hq⟩
      simp only []
      go_wp2_with fail
      go_ret
      exact ⟨by rw [HR.out] <;> rfl, HB.out.2.2.trans (N4.out.trans hq fun _ _ => id) fun _ _ => id⟩
end Acc
end Go.Proofs.YtgfkopimjmggdaaDoor

/- The document's Causal: what it computes (no condition beyond the sizes). -/
namespace Go.Proofs.YtgfkopimjmggdaaDoor
set_option linter.unusedSimpArgs false
set_option linter.unusedVariables false
open Go.ChangeShapes Go.WideShapes Go.RowKit Go.Deep
namespace Acc
open Val (JoinC)
open Evt Vec Num Stable Cmp
attribute [local go_sem ↓] Evt.loadDot Evt.loadVec Evt.loadRow0 Evt.storeRow0 Evt.loadOnly0 Evt.loadOnly1 Evt.loadOnly2 Vec.loadRow0 Vec.storeRow0
theorem resTV {fn : Func} {p q : Tmp} (h : fn.results = #[.tmp p, .cell q 23]) (tmps : Array Value) (w : World) (g : Nat) (t : TypeId) (xs : List Int) (hx : xs.length = 16)
    (hp : tmps.getD q undef = .pointer (some ⟨g, 0, none⟩)) (hg : Blk w g t (ints xs).toArray) : (results fn tmps).run Tryd.prog w = .ok (.tuple #[tmps.getD p undef, vec xs]) w := by
  have hl := ldB hx hg
  unfold LoadRow at hl
  have hR : (results fn tmps).run Tryd.prog w = ((asAddr (tmps.getD q undef)).run Tryd.prog w).andThen fun a w₁ => ((loadVar 23 a).run Tryd.prog w₁).andThen fun v w₂ => .ok (.tuple #[tmps.getD p undef, v]) w₂ := by
    simp only [results, h]
    simp [Sem.run_bind, Result.andThen]
  rw [hR, hp]
  simp only [asAddr, Sem.run_pure, Result.andThen_ok, hl]
/-- the first k of the past are known -/
def upTo (e : Ev) (v : List Int) (k : Nat) : Bool := (List.range k).all fun j => decide ((past e).getD j 0 ≤ v.getD j 0)
theorem upTo_succ (e : Ev) (v : List Int) (k : Nat) : upTo e v (k + 1) = (upTo e v k && decide ((past e).getD k 0 ≤ v.getD k 0)) := by
  unfold upTo
  rw [List.range_succ, List.all_append]
  simp
theorem upTo_all {v : List Int} (e : Ev) (hv : v.length = 16) : upTo e v 16 = belowF (past e) v := by
  rw [Bool.eq_iff_iff, belowF_iff hv]
  unfold upTo
  rw [List.all_eq_true]
  constructor
  · intro h i hi
    simpa using h i (List.mem_range.2 hi)
  · intro h i hi
    simpa using h i (List.mem_range.1 hi)
/-- behind i events -/
structure CausAt (w : World) (gk gr : Nat) (l : List Ev) (i : Nat) (u : Value) (out : List Ev) (now : List Int) (wr : World) : Prop where
  kb : Blk wr gk 23 (ints now).toArray
  rb : Blk wr gr 23 (ints zeros).toArray
  own : OwnE wr w.heap.size u out
  len : now.length = 16
  le : out.length ≤ i
  go : causalF zeros l = (out ++ (causalF now (l.drop i)).1, (causalF now (l.drop i)).2)
  chg : New w wr
  lo : w.heap.size ≤ gk ∧ w.heap.size ≤ gr ∧ gk ≠ gr
theorem own_neE {w : World} {base g : Nat} {u : Value} {out : List Ev} (h : OwnE w base u out) (k : ∀ b, u.ownBlock = some b → b < g) : ¬ u.ownBlock = some g := fun e => Nat.lt_irrefl _ (k g e)
theorem CausAt.new {w : World} {gk gr : Nat} {l : List Ev} {i : Nat} {u : Value} {out : List Ev} {now : List Int} {wr wq : World} (h : CausAt w gk gr l i u out now wr) (n : New wr wq) : CausAt w gk gr l i u out now wq :=
  ⟨h.kb.chg n id, h.rb.chg n id, own_chg h.own n fun _ _ => id, h.len, h.le, h.go, h.chg.trans n fun _ _ => id, h.lo⟩
theorem CausAt.skip {w : World} {gk gr : Nat} {l : List Ev} {i : Nat} {u : Value} {out : List Ev} {now : List Int} {wr : World} (h : CausAt w gk gr l i u out now wr) {e : Ev} (he : l[i]? = some e) (h1 : oneF now e ≠ 0) : CausAt w gk gr l (i + 1) u out now wr :=
  ⟨h.kb, h.rb, h.own, h.len, by have := h.le; omega, by rw [h.go, drop_ev he, causal_skip h1], h.chg, h.lo⟩
set_option maxHeartbeats 8000000 in
set_option maxRecDepth 20000 in
theorem causal_ (w : World) (A : Option Addr) (n c : Nat) (F : Nat → Prop) (l : List Ev) (hr : Reads w F 27 A n (rowE l)) (hF : ∀ b, F b → b < w.heap.size) (hn : n ≤ 1000000) (hl : l.length = n) (hs : ∀ e ∈ l, Small e) :
    Calls Tryd.prog 13 #[.slice A n c] w fun x w' => ∃ u, x = .returned (.tuple #[u, vec (causalF zeros l).2]) ∧ OwnE w' w.heap.size u (causalF zeros l).1 ∧ New w w' := by
  have hzv := zero_vec
  have n1 := (Chg.refl (fun _ => False) w).alloc (.cells (ints zeros).toArray 23)
  have n2 := n1.alloc (.cells (ints zeros).toArray 23)
  have B1 := (Blk.new w 23 (ints zeros).toArray).alloc (.cells (ints zeros).toArray 23)
  have B2 := Blk.new1 w (.cells (ints zeros).toArray 23) 23 (ints zeros).toArray
  have H0 : CausAt w (w.heap.size + 1) w.heap.size l 0 (.slice none 0 0) [] zeros ((w.alloc (.cells (ints zeros).toArray 23)).alloc (.cells (ints zeros).toArray 23)) :=
    ⟨B2, B1, OwnE.nil _ _, rfl, by simp, by simp, n2, by omega, by omega, by omega⟩
  have HR := Lib.hid (And.intro hr (And.intro hl (And.intro hs hF)))
  obtain ⟨R, hR⟩ : ∃ R, causalF zeros l = R := ⟨_, rfl⟩
  rw [hR]
  have HRR := Lib.hid hR
  have H0 := Lib.hid H0
  obtain ⟨gr, hgr⟩ : ∃ g, w.heap.size = g := ⟨_, rfl⟩
  obtain ⟨gk, hgk⟩ : ∃ g, gr + 1 = g := ⟨_, rfl⟩
  clear n1 n2 B1 B2 hr hl hs hR hF
  go_enter Tryd.func13, Tryd.ntmps13
  go_upto_region 3 with fail
  generalize hw1 : (w.alloc (.cells (ints zeros).toArray 23)).alloc (.cells (ints zeros).toArray 23) = w1 at *
  rw [hgr, hgk] at H0
  try rw [hgr]
  try rw [hgk]
  have HGV := Lib.hid hgr
  clear hw1 hgr hgk
  go_wp2_with fail
  go_loopw [4, 12] (fun uv iv wr => ∃ (i : Nat) (u : Value) (out : List Ev) (now : List Int), i ≤ n ∧ u = uv ∧ iv = .int .i64 i ∧ CausAt w gk gr l i u out now wr) (fun _ iv _ => n - (intOf iv).toNat)
  case atStart => exact ⟨0, _, _, _, by omega, rfl, by go_num, H0.out⟩
  case round =>
    obtain ⟨i, u, out, now, hi, rfl, rfl, hA⟩ := hrel
    have hu1 : u.oneCell' = true := by obtain ⟨A', c', h⟩ := hA.own.form; rw [h]; rfl
    clear H0
    by_cases hlt : i < n
    · have hli : (i : Int) < n := by omega
      obtain ⟨e, he⟩ : ∃ e, l[i]? = some e := ⟨_, List.getElem?_eq_getElem (by rw [HR.out.2.1]; exact hlt)⟩
      obtain ⟨ad, rfl, hld⟩ := ld_ev (HR.out.1.chg hA.chg fun b hb => ⟨HR.out.2.2.2 b hb, id⟩) he
      have hz : ∀ W, (zeroValue 35).run Tryd.prog W = .ok (.agg zero.cs.toArray) W := fun W => by kernel_rfl
      obtain ⟨W, hst, b3, n3, g3⟩ := new_ev wr e
      obtain ⟨ge, hge⟩ : ∃ g, wr.heap.size = g := ⟨_, rfl⟩
      have hlo := hA.lo
      have HOW := Lib.hid (show ∀ b, u.ownBlock = some b → b < ge from fun b hb => by rw [← hge]; exact (own_lt hA.own hb).2)
      have HGE := Lib.hid (show w.heap.size ≤ ge ∧ gk < ge from ⟨by rw [← hge]; exact hA.chg.size, by rw [← hge]; exact hA.kb.lt⟩)
      rw [hge] at hst b3 g3
      have hw : IntKind.i64.wrap ((i : Int) + 1) = (i : Int) + 1 := IntWalk.i64_in _ (by omega)
      have CR := fun W => rrightE W e (HR.out.2.2.1 e (List.mem_of_getElem? he))
      obtain ⟨rb, hrb⟩ : ∃ b, rightE e = b := ⟨_, rfl⟩
      simp only [hrb] at CR
      have CR := Lib.hid CR
      have H3 := Lib.hid (And.intro b3 (hA.new n3))
      have HEE := Lib.hid he
      clear hA b3 n3 he
      go_upto_region 6 with fail
      clear hst hld g3 hz
      generalize W = wo at *
      cases rb
      · have H4 := Lib.hid (CausAt.skip H3.out.2 HEE.out (by unfold oneF; rw [hrb]; simp))
        have fe := fun x : ChgW (fun _ => False) wo => ldE (H3.out.1.chg x.chg id)
        have f0 := fun x : ChgW (fun _ => False) wo => (H3.out.1.chg x.chg id).cell 0
        have f1 := fun x : ChgW (fun _ => False) wo => (H3.out.1.chg x.chg id).cell 1
        simp only [List.getElem?_toArray, cs0, cs1] at f0 f1
        clear hrb
        go_wp2_with fail
        refine wp_region_chg (fun _ => False) (by kernel_rfl) (by kernel_rfl) ?_
        repeat (go_big_quiet_step ((go_at_call 22; with_reducible exact calls_new (CR.out _))))
        refine wpQuiet_nil ?_
        rintro ⟨wq, hq⟩
        simp only []
        have H5 := Lib.hid (CausAt.new H4.out hq)
        clear hq fe f0 f1
        go_wp2_with fail
        go_roundw
        case rel => exact ⟨i + 1, _, _, _, by omega, rfl, by go_num, H5.out⟩
        case measure => simp [intOf]; omega
      · have hdot : dotF (e.n 0) (e.n 1) = true := one_dot hrb
        obtain ⟨d1, d2, d3, d4⟩ := dotF_true.1 hdot
        obtain ⟨r, hi⟩ : ∃ r, (e.n 0).toNat = r := ⟨_, rfl⟩
        have hi16 : r < 16 := by omega
        obtain ⟨a, ha⟩ : ∃ a, now.getD r 0 = a := ⟨_, rfl⟩
        have hkn : knowsF now (e.n 0) (e.n 1) = decide (e.n 1 ≤ a) := by unfold knowsF; rw [hdot, hi, ha]; rfl
        have hnx : nextF now (e.n 0) (e.n 1) = (a == e.n 1 - 1) := by unfold nextF; rw [hdot, hi, ha]; rfl
        have hone : oneF now e = if decide (e.n 1 ≤ a) = true then 5 else if ((a == e.n 1 - 1) && belowF (past e) now) = true then 0 else 8 := by unfold oneF; rw [if_pos hrb, hkn, hnx]
        have hw1 : IntKind.i64.wrap (e.n 1 - 1) = e.n 1 - 1 := IntWalk.i64_in _ (by omega)
        have HDK := Lib.hid (And.intro hdot hkn)
        have fk := fun x : ChgW (fun _ => False) wo => (H3.out.2.kb.chg x.chg id).cell r
        simp only [List.getElem?_toArray, ints_get, get_getD (show r < now.length by rw [H3.out.2.len]; exact hi16), Option.map_some, ha] at fk
        clear hkn hnx ha hdot
        by_cases hn : a = e.n 1 - 1
        · have hnk : ¬ e.n 1 ≤ a := by omega
          have hone : oneF now e = if belowF (past e) now = true then 0 else 8 := by
            rw [hone, if_neg (by simpa using hnk), show (a == e.n 1 - 1) = true by simpa using hn, Bool.true_and]
          have HON := Lib.hid hone
          have hnz : (a == e.n 1 - 1) = true := by simpa using hn
          have hna : IntKind.i64.wrap (e.n 1 - 1) = a := by rw [hw1, hn]
          have HNA := Lib.hid (show knowsF now (e.n 0) (e.n 1) = false by rw [HDK.out.2]; simpa using hnk)
          clear hone hw1 hn hnz
          have fe := fun x : ChgW (fun _ => False) wo => ldE (H3.out.1.chg x.chg id)
          have f0 := fun x : ChgW (fun _ => False) wo => (H3.out.1.chg x.chg id).cell 0
          have f1 := fun x : ChgW (fun _ => False) wo => (H3.out.1.chg x.chg id).cell 1
          simp only [List.getElem?_toArray, cs0, cs1] at f0 f1
          clear hrb
          go_wp2_with fail
          refine wp_region_chg (fun _ => False) (by kernel_rfl) (by kernel_rfl) ?_
          repeat (go_big_quiet_step ((go_at_call 22; with_reducible exact calls_new (CR.out _))))
          refine wpQuiet_nil ?_
          rintro ⟨wq, hq⟩
          simp only []
          have H4 := Lib.hid (And.intro (H3.out.1.chg hq id) (H3.out.2.new hq))
          clear hq fe f0 f1 fk hna
          go_upto_region 9 with fail
          generalize wq = wo1 at *
          go_loopw [31, 8] (fun kv bv wr => ∃ (k : Nat) (b : Bool), k ≤ 16 ∧ kv = .int .i64 k ∧ bv = .bool b ∧ Hid (b = upTo e now k) ∧ Blk wr ge 35 e.cs.toArray ∧ CausAt w gk gr l i u out now wr) (fun kv _ _ => 16 - (intOf kv).toNat)
          case atStart => exact ⟨0, true, by omega, rfl, rfl, rfl, H4.out.1, H4.out.2⟩
          case round =>
            obtain ⟨k, b, hk, rfl, rfl, hb, hbe, hA⟩ := hrel
            have H5 := Lib.hid (And.intro hbe hA)
            clear hbe hA
            by_cases hlt3 : k < 16
            · have hlk : (k : Int) < 16 := by omega
              have de := fun x : ChgW (fun _ => False) wr => (H5.out.1.chg x.chg id).cell (2 + k)
              have dk := fun x : ChgW (fun _ => False) wr => (H5.out.2.kb.chg x.chg id).cell k
              simp only [List.getElem?_toArray, past_at e hlt3] at de
              simp only [List.getElem?_toArray, ints_get, get_getD (show k < now.length by rw [H5.out.2.len]; exact hlt3), Option.map_some] at dk
              obtain ⟨x1, hx1⟩ : ∃ a, now.getD k 0 = a := ⟨_, rfl⟩
              obtain ⟨x2, hx2⟩ : ∃ a, (past e).getD k 0 = a := ⟨_, rfl⟩
              simp only [hx1] at dk
              simp only [hx2] at de
              have hw3 : IntKind.i64.wrap ((k : Int) + 1) = (k : Int) + 1 := IntWalk.i64_in _ (by omega)
              have HUP := Lib.hid (show upTo e now (k + 1) = (b && decide (x2 ≤ x1)) by rw [upTo_succ, hb.out, hx1, hx2])
              clear hx1 hx2 hb
              cases b
              · go_wp2_with fail
                refine wp_region_chg (fun _ => False) (by kernel_rfl) (by kernel_rfl) ?_
                repeat (go_big_quiet_step (fail))
                refine wpQuiet_nil ?_
                rintro ⟨wq, hq⟩
                simp only []
                have H6 := Lib.hid (And.intro (H5.out.1.chg hq id) (H5.out.2.new hq))
                clear hq de dk
                go_wp2_with fail
                go_roundw
                case rel => exact ⟨k + 1, false, by omega, by go_num, rfl, Lib.hid (HUP.out.symm), H6.out.1, H6.out.2⟩
                case measure => simp [intOf]; omega
              · go_wp2_with fail
                refine wp_region_chg (fun _ => False) (by kernel_rfl) (by kernel_rfl) ?_
                repeat (go_big_quiet_step (fail))
                refine wpQuiet_nil ?_
                rintro ⟨wq, hq⟩
                simp only []
                have H6 := Lib.hid (And.intro (H5.out.1.chg hq id) (H5.out.2.new hq))
                clear hq de dk
                go_wp2_with fail
                go_roundw
                case rel => exact ⟨k + 1, decide (x2 ≤ x1), by omega, by go_num, rfl, Lib.hid (by rw [HUP.out]; rfl), H6.out.1, H6.out.2⟩
                case measure => simp [intOf]; omega
            · have hgk : ¬ ((k : Int) < 16) := by omega
              have HB := Lib.hid (show b = belowF (past e) now by rw [hb.out, show k = 16 by omega, upTo_all e H5.out.2.len])
              clear hb
              cases b
              · have H6 := Lib.hid (CausAt.skip H5.out.2 HEE.out (by rw [HON.out, ← HB.out]; decide))
                go_wp2_with fail
                go_roundw
                case rel => exact ⟨i + 1, _, _, _, by omega, rfl, by go_num, H6.out⟩
                case measure => simp [intOf]; omega
              · have hzero : oneF now e = 0 := by rw [HON.out, ← HB.out]; rfl
                have hadd : addF now (e.n 0) (e.n 1) = now.set r (e.n 1) := by rw [addF_yes HDK.out.1 HNA.out, hi]
                have HGO := Lib.hid (show causalF zeros l = ((out ++ [e]) ++ (causalF (now.set r (e.n 1)) (l.drop (i + 1))).1, (causalF (now.set r (e.n 1)) (l.drop (i + 1))).2) by rw [H5.out.2.go, drop_ev HEE.out, causal_take hzero, hadd]; simp)
                obtain ⟨X, hX⟩ : ∃ X, e.cs.toArray = X := ⟨_, rfl⟩
                have hXs : X.size = 27 := by rw [← hX]; rfl
                have HXX := Lib.hid (And.intro hX hXs)
                have hle4 : (LoadRow 35 ⟨ge, 0, none⟩).run Tryd.prog wr = .ok (.agg X) wr := by rw [← hX]; exact ldE H5.out.1
                have hfold := fold_all zeroE X (by rw [hXs]; rfl) 27 hXs.symm
                simp only [zeroE, List.replicate, List.cons_append, List.nil_append] at hfold
                have hbt : (if 24 = 24 then true else false) = true := rfl
                have gg4 := H5.out.1.lt
                clear hX hzero hadd hone
                go_upto_region 14 with fail
                go_wp2_with (at_builtin; refine stop ?_)
                delta Stop
                have HRD : Reads (wr.alloc (.cells X 35)) (fun b => b = wr.heap.size) 27 (some ⟨wr.heap.size, 0, none⟩) 1 (rowE [e]) := by
                  have := Reads.of_row (w := wr.alloc (.cells X 35)) (g := wr.heap.size) (n := 1) (size := 27) (heap_alloc_new wr _) (by rw [HXX.out.2])
                  rw [← HXX.out.1] at this ⊢
                  simpa [rowE] using this
                refine append_ev _ rfl _ _ rfl w.heap.size u out rfl (World.ownsRow.alloc H5.out.2.own _) _ _ _ _ [e] rfl HRD (by have := H5.out.2.le; omega) (by have := H5.out.2.chg.size; simp; omega) ?_
                intro v6 w6 o6 g6 a6
                have c6 : Chg (fun k => u.ownBlock = some k) wr w6 := Chg.grown ((Chg.refl _ wr).alloc _) g6 fun k hk _ => hk
                have hge6 : ∀ k, u.ownBlock = some k → w.heap.size ≤ k := fun k hk => (own_lt H5.out.2.own hk).1
                have H6 := Lib.hid (show Blk w6 ge 35 e.cs.toArray ∧ Blk w6 gk 23 (ints now).toArray ∧ Blk w6 gr 23 (ints zeros).toArray ∧ OwnE w6 w.heap.size v6 (out ++ [e]) ∧ New w w6 from
                  ⟨H5.out.1.chg c6 (own_neE H5.out.2.own HOW.out), H5.out.2.kb.chg c6 (own_ne H5.out.2.own H5.out.2.kb (by decide)), H5.out.2.rb.chg c6 (own_ne H5.out.2.own H5.out.2.rb (by decide)), o6, H5.out.2.chg.trans c6 fun i hi e => by have := hge6 i e; omega⟩)
                have q0 : w6.cell? ⟨ge, 0, none⟩ = some (.int .i64 (e.n 0)) := H6.out.1.cell 0
                have q1 : w6.cell? ⟨ge, 1, none⟩ = some (.int .i64 (e.n 1)) := H6.out.1.cell 1
                have qk := H6.out.2.1.cell r
                simp only [List.getElem?_toArray, ints_get, get_getD (show r < now.length by rw [H5.out.2.len]; exact hi16), Option.map_some] at qk
                have qf := H6.out.2.1.frozen r
                have hs7 := H6.out.2.1.set_ r (.int .i64 (e.n 1))
                rw [List.setIfInBounds_toArray, ints_set] at hs7
                have c7 := (Chg.refl (fun b => b = gk) w6).setCell (p := ⟨gk, r, none⟩) (fun _ => rfl) (.int .i64 (e.n 1))
                have H8 := Lib.hid (show CausAt w gk gr l (i + 1) v6 (out ++ [e]) (now.set r (e.n 1)) (w6.setCell ⟨gk, r, none⟩ (.int .i64 (e.n 1))) from
                  ⟨hs7, H6.out.2.2.1.chg c7 (fun h => hlo.2.2 h.symm), own_chg H6.out.2.2.2.1 c7 (fun k hk h => own_ne H6.out.2.2.2.1 H6.out.2.1 (by decide) (h ▸ hk)), by rw [List.length_set]; exact H5.out.2.len, by rw [List.length_append]; have := H5.out.2.le; simp; omega, HGO.out, H6.out.2.2.2.2.trans c7 fun i hi e => by omega, hlo⟩)
                have gg5 := H6.out.1.lt
                have gg6 := H6.out.2.1.lt
                clear HRD o6 g6 a6 c6 hge6 hfold hle4 hs7 c7
                go_wp2_with fail
                go_roundw
                case rel => exact ⟨i + 1, _, _, _, by omega, rfl, by go_num, H8.out⟩
                case measure => simp [intOf]; omega
        · have H4 := Lib.hid (CausAt.skip H3.out.2 HEE.out (by rw [hone, show (a == e.n 1 - 1) = false by simpa using hn]; by_cases h : e.n 1 ≤ a <;> simp [h]))
          have hnz : (a == e.n 1 - 1) = false := by simpa using hn
          clear hone
          have fe := fun x : ChgW (fun _ => False) wo => ldE (H3.out.1.chg x.chg id)
          have f0 := fun x : ChgW (fun _ => False) wo => (H3.out.1.chg x.chg id).cell 0
          have f1 := fun x : ChgW (fun _ => False) wo => (H3.out.1.chg x.chg id).cell 1
          simp only [List.getElem?_toArray, cs0, cs1] at f0 f1
          clear hrb
          go_wp2_with fail
          refine wp_region_chg (fun _ => False) (by kernel_rfl) (by kernel_rfl) ?_
          repeat (go_big_quiet_step ((go_at_call 22; with_reducible exact calls_new (CR.out _))))
          refine wpQuiet_nil ?_
          rintro ⟨wq, hq⟩
          simp only []
          have H5 := Lib.hid (CausAt.new H4.out hq)
          clear hq fe f0 f1 fk
          go_wp2_with fail
          go_roundw
          case rel => exact ⟨i + 1, _, _, _, by omega, rfl, by go_num, H5.out⟩
          case measure => simp [intOf]; omega
    · have hgi : ¬ (i : Int) < n := by omega
      have HRES := Lib.hid (show R = (out, now) by rw [← HRR.out, hA.go, List.drop_of_length_le (by rw [HR.out.2.1]; omega)]; simp [causalF])
      have hs5 := stB (xs := now) (old := zeros) rfl hA.len hA.rb.drew
      have hs51 := hs5.1
      have lv5 := ldB hA.len hA.kb.drew
      have gg5 := hA.rb.drew.lt
      have gg6 := hA.kb.drew.lt
      have hlo := hA.lo
      have c5 := Chg.setCells (S := fun _ => False) (a := w) (g := gr) (ints now) 0 _ hA.chg.drew (fun h => by omega)
      have c6 := (Chg.refl (fun b => b = gr) wr.drew).setCells (g := gr) (ints now) 0 _ (fun _ => rfl)
      have HZ := Lib.hid (show Blk (wr.drew.setCells gr 0 (ints now)) gr 23 (ints now).toArray ∧ OwnE (wr.drew.setCells gr 0 (ints now)) w.heap.size u out ∧ New w (wr.drew.setCells gr 0 (ints now)) from
        ⟨hs5.2, own_chg (own_chg hA.own (Chg.refl (fun _ => False) wr).drew fun _ _ => id) c6 (fun k hk h => own_ne hA.own hA.rb (by decide) (h ▸ hk)), c5⟩)
      have HLN := Lib.hid hA.len
      clear hs5 c5 c6 hA
      go_wp2_with fail
      go_region
      all_goals go_wp2_with fail
      all_goals refine bodyPost_ret (resTV rfl _ _ gr 23 now HLN.out rfl ?hblk) rfl ?hpost
      all_goals first
        | (case hblk => exact HZ.out.1)
        | (case hpost => exact ⟨u, by rw [HRES.out] <;> rfl, by rw [HRES.out]; exact HZ.out.2.1, HZ.out.2.2⟩)
end Acc
end Go.Proofs.YtgfkopimjmggdaaDoor

/- The law's closed: it only says yes where the row is closed (no condition beyond the sizes). -/
namespace Go.Proofs.YtgfkopimjmggdaaDoor
set_option linter.unusedSimpArgs false
set_option linter.unusedVariables false
open Go.ChangeShapes Go.WideShapes Go.RowKit Go.Deep
namespace Acc
open Val (JoinC)
open Evt Vec Num Stable Cmp
attribute [local go_sem ↓] Evt.loadDot Evt.loadVec Evt.loadRow0 Evt.storeRow0 Evt.loadOnly0 Evt.loadOnly1 Evt.loadOnly2 Vec.loadRow0 Vec.storeRow0
def OkP (e f : Ev) : Prop := f.n 1 ≤ (past e).getD (f.n 0).toNat 0 → ∀ i, (past f).getD i 0 ≤ (past e).getD i 0
/-- a yes that holds -/
def Says (p : Prop) (x : Ending) : Prop := ∃ b, x = .returned (.bool b) ∧ (b = true → p)
theorem past_out (e : Ev) {i : Nat} (h : ¬ i < 16) : (past e).getD i 0 = 0 := by
  rw [List.getD_eq_getElem?_getD, List.getElem?_eq_none (by show 16 ≤ i; omega)]
  rfl
set_option maxHeartbeats 8000000 in
set_option maxRecDepth 20000 in
theorem closed_ (w : World) (A : Option Addr) (n c : Nat) (F : Nat → Prop) (l : List Ev) (hr : Reads w F 27 A n (rowE l)) (hF : ∀ b, F b → b < w.heap.size) (hl : l.length = n) (hn : n ≤ 140737488351232) (hd : ∀ e ∈ l, 0 ≤ e.n 0 ∧ e.n 0 < 16) :
    Calls Tryd.prog 15 #[.slice A n c] w fun x w' => Says (Closed l) x ∧ New w w' := by
  have HV := Lib.hid (And.intro hr (And.intro hF (And.intro hl hd)))
  have hz : ∀ W, (zeroValue 35).run Tryd.prog W = .ok (.agg zero.cs.toArray) W := fun W => by kernel_rfl
  clear hl hr hF hd
  go_enter Tryd.func15, Tryd.ntmps15
  go_wp2_with fail
  go_loopw [10] (fun iv wr => ∃ i : Nat, i ≤ n ∧ iv = .int .i64 i ∧ Hid (∀ a, a < i → ∀ e, l[a]? = some e → ∀ f ∈ l, OkP e f) ∧ New w wr) (fun iv _ => n - (intOf iv).toNat)
  case atStart => exact ⟨0, by omega, by go_num, Lib.hid (fun a ha => by omega), Chg.refl _ _⟩
  case round =>
    obtain ⟨i, hi, rfl, hall, hnw⟩ := hrel
    by_cases hlt : i < n
    · have hli : (i : Int) < n := by omega
      obtain ⟨e, he⟩ : ∃ e, l[i]? = some e := ⟨_, List.getElem?_eq_getElem (by rw [HV.out.2.2.1]; exact hlt)⟩
      obtain ⟨ad, rfl, hld⟩ := ld_ev (HV.out.1.chg hnw fun b hb => ⟨HV.out.2.1 b hb, id⟩) he
      obtain ⟨W, hst, b3, n3, g3⟩ := new_ev wr e
      obtain ⟨ge, hge⟩ : ∃ g, wr.heap.size = g := ⟨_, rfl⟩
      rw [hge] at hst b3 g3
      have HGE := Lib.hid (And.intro hge (show w.heap.size ≤ ge by rw [← hge]; exact hnw.size))
      have hw : IntKind.i64.wrap ((i : Int) + 1) = (i : Int) + 1 := IntWalk.i64_in _ (by omega)
      have HE := Lib.hid he
      have H3 := Lib.hid (And.intro b3 (hnw.trans n3 fun _ _ => id))
      clear he b3 n3 hnw
      go_upto_region 5 with fail
      clear hst hld g3
      generalize W = wo at *
      go_loopw [16] (fun jv wr => ∃ j : Nat, j ≤ n ∧ jv = .int .i64 j ∧ Hid (∀ a, a < j → ∀ f, l[a]? = some f → OkP e f) ∧ Blk wr ge 35 e.cs.toArray ∧ New w wr) (fun jv _ => n - (intOf jv).toNat)
      case atStart => exact ⟨0, by omega, by go_num, Lib.hid (fun a ha => by omega), H3.out.1, H3.out.2⟩
      case round =>
        obtain ⟨j, hj, rfl, hall2, hbe, hnw⟩ := hrel
        by_cases hlt2 : j < n
        · have hlj : (j : Int) < n := by omega
          obtain ⟨f, hf⟩ : ∃ f, l[j]? = some f := ⟨_, List.getElem?_eq_getElem (by rw [HV.out.2.2.1]; exact hlt2)⟩
          obtain ⟨ad2, had2, hld⟩ := ld_ev (HV.out.1.chg hnw fun b hb => ⟨HV.out.2.1 b hb, id⟩) hf
          injection had2 with had2
          subst had2
          obtain ⟨W2, hst, b4, n4, g4⟩ := new_ev wr f
          obtain ⟨gf, hgf⟩ : ∃ g, wr.heap.size = g := ⟨_, rfl⟩
          rw [hgf] at hst b4 g4
          have hw2 : IntKind.i64.wrap ((j : Int) + 1) = (j : Int) + 1 := IntWalk.i64_in _ (by omega)
          obtain ⟨hf0, hf16⟩ := HV.out.2.2.2 f (List.mem_of_getElem? hf)
          have HF := Lib.hid (And.intro hf hgf)
          have H4 := Lib.hid (And.intro (hbe.chg n4 id) (And.intro b4 (hnw.trans n4 fun _ _ => id)))
          obtain ⟨r, hr⟩ : ∃ r, (f.n 0).toNat = r := ⟨_, rfl⟩
          have hr16 : r < 16 := by omega
          clear hf b4 n4 hnw hbe
          go_upto_region 7 with fail
          clear hst hld g4
          generalize W2 = wo2 at *
          have ce := fun x : ChgW (fun _ => False) wo2 => (H4.out.1.chg x.chg id).cell (2 + r)
          have cf0 := fun x : ChgW (fun _ => False) wo2 => (H4.out.2.1.chg x.chg id).cell 0
          have cf1 := fun x : ChgW (fun _ => False) wo2 => (H4.out.2.1.chg x.chg id).cell 1
          simp only [List.getElem?_toArray, cs0, cs1] at cf0 cf1
          simp only [List.getElem?_toArray, past_at e hr16] at ce
          obtain ⟨a, ha⟩ : ∃ a, (past e).getD r 0 = a := ⟨_, rfl⟩
          simp only [ha] at ce
          by_cases hskip : a < f.n 1
          · have HALL := Lib.hid (show ∀ a, a < j + 1 → ∀ f, l[a]? = some f → OkP e f from fun q hq f' hf' => by
              rcases Nat.lt_or_eq_of_le (Nat.lt_succ_iff.1 hq) with h | h
              · exact hall2.out q h f' hf'
              · subst h
                rw [HF.out.1] at hf'
                injection hf' with hf'
                subst hf'
                intro h
                rw [hr, ha] at h
                omega)
            clear hall2 ha
            go_wp2_with fail
            refine wp_region_chg (fun _ => False) (by kernel_rfl) (by kernel_rfl) ?_
            repeat (go_big_quiet_step (fail))
            refine wpQuiet_nil ?_
            rintro ⟨wq, hq⟩
            simp only []
            have N5 := Lib.hid (And.intro (H4.out.1.chg hq id) (H4.out.2.2.trans hq fun _ _ => id))
            clear hq ce cf0 cf1
            go_wp2_with fail
            go_roundw
            case rel => exact ⟨j + 1, by omega, by go_num, HALL, N5.out.1, N5.out.2⟩
            case measure => simp [intOf]; omega
          · go_wp2_with fail
            refine wp_region_chg (fun _ => False) (by kernel_rfl) (by kernel_rfl) ?_
            repeat (go_big_quiet_step (fail))
            refine wpQuiet_nil ?_
            rintro ⟨wq, hq⟩
            simp only []
            have N5 := Lib.hid (And.intro (H4.out.1.chg hq id) (And.intro (H4.out.2.1.chg hq id) (H4.out.2.2.trans hq fun _ _ => id)))
            clear hq ce cf0 cf1
            go_upto_region 9 with fail
            generalize wq = wo3 at *
            go_loopw [30] (fun kv wr => ∃ k : Nat, k ≤ 16 ∧ kv = .int .i64 k ∧ Hid (∀ q, q < k → (past f).getD q 0 ≤ (past e).getD q 0) ∧ Blk wr ge 35 e.cs.toArray ∧ Blk wr gf 35 f.cs.toArray ∧ New w wr) (fun kv _ => 16 - (intOf kv).toNat)
            case atStart => exact ⟨0, by omega, rfl, Lib.hid (fun a ha => by omega), N5.out.1, N5.out.2.1, N5.out.2.2⟩
            case round =>
              obtain ⟨k, hk, rfl, hall3, hbe, hbf, hnw⟩ := hrel
              by_cases hlt3 : k < 16
              · have hlk : (k : Int) < 16 := by omega
                have de := fun x : ChgW (fun _ => False) wr => (hbe.chg x.chg id).cell (2 + k)
                have df := fun x : ChgW (fun _ => False) wr => (hbf.chg x.chg id).cell (2 + k)
                simp only [List.getElem?_toArray, past_at e hlt3] at de
                simp only [List.getElem?_toArray, past_at f hlt3] at df
                obtain ⟨x1, hx1⟩ : ∃ a, (past e).getD k 0 = a := ⟨_, rfl⟩
                obtain ⟨x2, hx2⟩ : ∃ a, (past f).getD k 0 = a := ⟨_, rfl⟩
                simp only [hx1] at de
                simp only [hx2] at df
                have hw3 : IntKind.i64.wrap ((k : Int) + 1) = (k : Int) + 1 := IntWalk.i64_in _ (by omega)
                have H6 := Lib.hid (And.intro hbe (And.intro hbf hnw))
                clear hbe hbf hnw
                by_cases hle : x2 ≤ x1
                · have HALL := Lib.hid (show ∀ q, q < k + 1 → (past f).getD q 0 ≤ (past e).getD q 0 from fun q hq => by
                    rcases Nat.lt_or_eq_of_le (Nat.lt_succ_iff.1 hq) with h | h
                    · exact hall3.out q h
                    · rw [h, hx1, hx2]; exact hle)
                  clear hall3 hx1 hx2
                  go_wp2_with fail
                  refine wp_region_chg (fun _ => False) (by kernel_rfl) (by kernel_rfl) ?_
                  repeat (go_big_quiet_step (fail))
                  refine wpQuiet_nil ?_
                  rintro ⟨wq, hq⟩
                  simp only []
                  have N7 := Lib.hid (And.intro (H6.out.1.chg hq id) (And.intro (H6.out.2.1.chg hq id) (H6.out.2.2.trans hq fun _ _ => id)))
                  clear hq de df
                  go_wp2_with fail
                  go_roundw
                  case rel => exact ⟨k + 1, by omega, by go_num, HALL, N7.out.1, N7.out.2.1, N7.out.2.2⟩
                  case measure => simp [intOf]; omega
                · clear hx1 hx2
                  go_wp2_with fail
                  refine wp_region_chg (fun _ => False) (by kernel_rfl) (by kernel_rfl) ?_
                  repeat (go_big_quiet_step (fail))
                  refine wpQuiet_nil ?_
                  rintro ⟨wq, hq⟩
                  simp only []
                  go_wp2_with fail
                  go_ret
                  exact ⟨⟨false, rfl, (by intro h; cases h)⟩, H6.out.2.2.trans hq fun _ _ => id⟩
              · have hgk : ¬ ((k : Int) < 16) := by omega
                have HALL := Lib.hid (show ∀ a, a < j + 1 → ∀ f, l[a]? = some f → OkP e f from fun q hq f' hf' => by
                  rcases Nat.lt_or_eq_of_le (Nat.lt_succ_iff.1 hq) with h | h
                  · exact hall2.out q h f' hf'
                  · subst h
                    rw [HF.out.1] at hf'
                    injection hf' with hf'
                    subst hf'
                    intro _ i
                    by_cases hi16 : i < 16
                    · exact hall3.out i (by omega)
                    · rw [past_out e hi16, past_out f hi16]
                      exact Int.le_refl _)
                have H6 := Lib.hid (And.intro hbe hnw)
                clear hall2 hall3 ha hbe hbf hnw
                go_wp2_with fail
                go_roundw
                case rel => exact ⟨j + 1, by omega, by go_num, HALL, H6.out.1, H6.out.2⟩
                case measure => simp [intOf]; omega
        · have hgj : ¬ ((j : Int) < n) := by omega
          have HALL := Lib.hid (show ∀ a, a < i + 1 → ∀ e, l[a]? = some e → ∀ f ∈ l, OkP e f from fun q hq e' he' => by
            rcases Nat.lt_or_eq_of_le (Nat.lt_succ_iff.1 hq) with h | h
            · exact hall.out q h e' he'
            · subst h
              rw [HE.out] at he'
              injection he' with he'
              subst he'
              intro f hf
              obtain ⟨p, hp⟩ := List.mem_iff_getElem?.1 hf
              exact hall2.out p (by have := (List.getElem?_eq_some_iff.1 hp).1; rw [HV.out.2.2.1] at this; omega) f hp)
          have H6 := Lib.hid hnw
          clear hall hall2 hbe hnw
          go_wp2_with fail
          go_roundw
          case rel => exact ⟨i + 1, by omega, by go_num, HALL, H6.out⟩
          case measure => simp [intOf]; omega
    · have hgi : ¬ ((i : Int) < n) := by omega
      have HC := Lib.hid (show Closed l from fun e he f hf => by
        obtain ⟨p, hp⟩ := List.mem_iff_getElem?.1 he
        exact hall.out p (by have := (List.getElem?_eq_some_iff.1 hp).1; rw [HV.out.2.2.1] at this; omega) e hp f hf)
      have H6 := Lib.hid hnw
      clear hall hnw
      go_wp2_with fail
      go_ret
      exact ⟨⟨true, rfl, fun _ => HC.out⟩, H6.out⟩
end Acc
end Go.Proofs.YtgfkopimjmggdaaDoor

/- strings.Join joins: laid by the shelf's contract (no condition). -/
namespace Go.Proofs.YtgfkopimjmggdaaDoor
set_option linter.unusedSimpArgs false
set_option linter.unusedVariables false
open Go.ChangeShapes Go.WideShapes Go.RowKit Go.Deep
def Jn.lays_ren : Go.Shelf.Ren := ⟨fun | 156 => 61 | 165 => 66 | 166 => 67 | 169 => 68 | 240 => 70 | 241 => 71 | 276 => 73 | 277 => 74 | n => n, fun | 31 => 80 | 9 => 9 | 3 => 3 | 4 => 4 | 0 => 0 | 20 => 20 | 72 => 88 | 76 => 92 | 70 => 85 | 37 => 86 | 75 => 91 | 127 => 96 | 164 => 98 | 5 => 5 | 80 => 94 | n => n, fun | n => n⟩
theorem Jn.lays : Go.Proofs.Lays.n156 Tryd.prog Jn.lays_ren := {
  mixed := by kernel_rfl
  f156 := Tryd.func61.trans (congrArg some (by kernel_rfl))
  f165 := Tryd.func66.trans (congrArg some (by kernel_rfl))
  f166 := Tryd.func67.trans (congrArg some (by kernel_rfl))
  f169 := Tryd.func68.trans (congrArg some (by kernel_rfl))
  f240 := Tryd.func70.trans (congrArg some (by kernel_rfl))
  f241 := Tryd.func71.trans (congrArg some (by kernel_rfl))
  f276 := Tryd.func73.trans (congrArg some (by kernel_rfl))
  f277 := Tryd.func74.trans (congrArg some (by kernel_rfl))
  t0 := Tryd.underlying0
  a0 := Tryd.isAgg0
  z0 := Tryd.sizeOf0
  v0 := Tryd.zeroValue0
  t3 := Tryd.underlying3
  a3 := Tryd.isAgg3
  z3 := Tryd.sizeOf3
  v3 := Tryd.zeroValue3
  t4 := Tryd.underlying4
  a4 := Tryd.isAgg4
  z4 := Tryd.sizeOf4
  v4 := Tryd.zeroValue4
  t9 := Tryd.underlying9
  a9 := Tryd.isAgg9
  z9 := Tryd.sizeOf9
  v9 := Tryd.zeroValue9
  t20 := Tryd.underlying20
  a20 := Tryd.isAgg20
  z20 := Tryd.sizeOf20
  v20 := Tryd.zeroValue20
  t31 := Tryd.underlying80
  a31 := Tryd.isAgg80
  z31 := Tryd.sizeOf80
  v31 := Tryd.zeroValue80
  t37 := Tryd.underlying86
  a37 := Tryd.isAgg86
  z37 := Tryd.sizeOf86
  v37 := Tryd.zeroValue86
  t70 := Tryd.underlying85
  a70 := Tryd.isAgg85
  z70 := Tryd.sizeOf85
  v70 := Tryd.zeroValue85
  t72 := Tryd.underlying88
  a72 := Tryd.isAgg88
  z72 := Tryd.sizeOf88
  v72 := Tryd.zeroValue88
  t75 := Tryd.underlying91
  a75 := Tryd.isAgg91
  z75 := Tryd.sizeOf91
  v75 := Tryd.zeroValue91
  t76 := Tryd.underlying92
  a76 := Tryd.isAgg92
  z76 := Tryd.sizeOf92
  v76 := Tryd.zeroValue92
  t127 := Tryd.underlying96
  a127 := Tryd.isAgg96
  z127 := Tryd.sizeOf96
  v127 := Tryd.zeroValue96
  t164 := Tryd.underlying98
  a164 := Tryd.isAgg98
  z164 := Tryd.sizeOf98
  v164 := Tryd.zeroValue98 }
theorem Jn.extra : Builder.Extra Tryd.prog Jn.lays_ren := {
  sizeBuilder := by kernel_rfl
  liesBuilder := by kernel_rfl
  t5 := Tryd.underlying5
  a5 := Tryd.isAgg5
  z5 := Tryd.sizeOf5
  v5 := Tryd.zeroValue5
  infoByte := by kernel_rfl
  cellsByte := by kernel_rfl
  sizeByte := by kernel_rfl
  neB5 := by decide }
namespace Val
theorem join_small : ∀ (xs : List ByteArray), xs.length ≤ 4 → (∀ x ∈ xs, x.size ≤ 1000000) → (Lib.join (xs.map (·.data.toList)) []).length ≤ 4000000 := by
  have hs : ∀ x : ByteArray, x.data.toList.length = x.size := fun x => Array.length_toList
  intro xs hl hx
  match xs, hl with
  | [], _ => simp [Lib.join_nil]
  | [a], _ => simp [Lib.join_cons, Lib.joinTail, hs]; have := hx a (by simp); omega
  | [a, b], _ => simp [Lib.join_cons, Lib.joinTail, hs]; have := hx a (by simp); have := hx b (by simp); omega
  | [a, b, c], _ => simp [Lib.join_cons, Lib.joinTail, hs]; have := hx a (by simp); have := hx b (by simp); have := hx c (by simp); omega
  | [a, b, c, d], _ => simp [Lib.join_cons, Lib.joinTail, hs]; have := hx a (by simp); have := hx b (by simp); have := hx c (by simp); have := hx d (by simp); omega
theorem joins : JoinC := by
  intro w bk n c xs hb hl h0 hn hc hs
  subst hl
  refine (Any.strings_Join Jn.lays Jn.extra bk 0 c xs ⟨#[]⟩ w (fun j x hj => ?_) hb.lt (by omega) hc ?_).mono fun e w' ⟨h1, h2⟩ => ⟨h1, Chg.of_below h2⟩
  · rw [Nat.zero_add, hb.cell, List.getElem?_toArray, List.getElem?_map, hj]
    rfl
  · exact Nat.le_trans (join_small xs hn hs) (by decide)
end Val
end Go.Proofs.YtgfkopimjmggdaaDoor

/- Whole numbers as arguments, opened (no condition). -/
namespace Go.Proofs.YtgfkopimjmggdaaDoor
open Go.ChangeShapes Go.WideShapes Go.RowKit
section
variable {H : Type} {enc : TypeId × Value → H} {P : Program} {w : World} {base : Nat} {spare : Nat → Bool} {held : Bool}
theorem open_i64 {r : Reach} {b0 : Nat} {t : TypeId} {v : Value} {d : DataW H} {ps : List MemPlace} (ht : P.underlying t = some (.int .i64)) (hval : Value.okWide P w r b0 t v) (hd : DataW.Trod enc P w base spare held t v d ps) :
    ∃ n : Int, v = .int .i64 n ∧ -9223372036854775808 ≤ n ∧ n ≤ 9223372036854775807 := by
  obtain ⟨n, rfl, _, _, h⟩ := open_int ht hval hd
  simp [Lit.wf, IntKind.min, IntKind.max, IntKind.signed, IntKind.bits] at h
  exact ⟨n, rfl, by omega, by omega⟩
theorem open_u8 {r : Reach} {b0 : Nat} {t : TypeId} {v : Value} {d : DataW H} {ps : List MemPlace} (ht : P.underlying t = some (.int .u8)) (hval : Value.okWide P w r b0 t v) (hd : DataW.Trod enc P w base spare held t v d ps) :
    ∃ c : UInt8, v = .int .u8 (c.toNat : Int) := by
  obtain ⟨n, rfl, _, _, h⟩ := open_int ht hval hd
  simp [Lit.wf, IntKind.min, IntKind.max, IntKind.signed, IntKind.bits] at h
  refine ⟨UInt8.ofNat n.toNat, ?_⟩
  congr 1
  simp
  omega
theorem open_u16 {r : Reach} {b0 : Nat} {t : TypeId} {v : Value} {d : DataW H} {ps : List MemPlace} (ht : P.underlying t = some (.int .u16)) (hval : Value.okWide P w r b0 t v) (hd : DataW.Trod enc P w base spare held t v d ps) :
    ∃ n : Nat, v = .int .u16 (n : Int) ∧ n < 65536 := by
  obtain ⟨n, rfl, _, _, h⟩ := open_int ht hval hd
  simp [Lit.wf, IntKind.min, IntKind.max, IntKind.signed, IntKind.bits] at h
  exact ⟨n.toNat, by congr 1; omega, by omega⟩
theorem trod_i64 {t : TypeId} {fuel : Nat} {v : Value} {y : DataW H × List MemPlace} (ht : P.underlying t = some (.int .i64)) (h : DataW.trod enc P w base spare held fuel t [v] = some y) :
    ∃ n : Int, v = .int .i64 n ∧ -9223372036854775808 ≤ n ∧ n ≤ 9223372036854775807 := by
  obtain ⟨n, h1, _, h2⟩ := DataW.trod_int ht h
  simp [Lit.wf, IntKind.min, IntKind.max, IntKind.signed, IntKind.bits] at h2
  exact ⟨n, by simpa using h1, by omega, by omega⟩
theorem trod_u8 {t : TypeId} {fuel : Nat} {v : Value} {y : DataW H × List MemPlace} (ht : P.underlying t = some (.int .u8)) (h : DataW.trod enc P w base spare held fuel t [v] = some y) : ∃ c : UInt8, v = .int .u8 (c.toNat : Int) := by
  obtain ⟨n, h1, _, h2⟩ := DataW.trod_int ht h
  simp [Lit.wf, IntKind.min, IntKind.max, IntKind.signed, IntKind.bits] at h2
  have hv : v = .int .u8 n := by simpa using h1
  refine ⟨UInt8.ofNat n.toNat, ?_⟩
  rw [hv]
  congr 1
  simp
  omega
theorem trod_bytes {t e : TypeId} (ht : P.underlying t = some (.slice e)) (he : P.underlying e = some (.int .u8)) (hc : P.cellsOf e = 1) {fuel : Nat} {v : Value} {y : DataW H × List MemPlace} (h : DataW.trod enc P w base spare held fuel t [v] = some y) :
    ∃ (A : Option Addr) (n c : Nat) (l : List UInt8), v = .slice A n c ∧ l.length = n ∧ n ≤ c ∧ Reads w (fun b => b < w.heap.size) 1 A n (u8s l) := by
  rcases Deep.open_slice1 ht hc h with ⟨h, _⟩ | ⟨a, len, cap, m, n, V, D, Pl, h, _, hl, hm, hmm, hdd, hx⟩
  · have hv' : v = .slice none 0 0 := by simpa using h
    exact ⟨none, 0, 0, [], hv', rfl, Nat.le_refl _, Reads.none_ _⟩
  · have hv' : v = .slice (some a) len cap := by simpa using h
    have hle : len ≤ m := by rw [hmm]; split <;> omega
    have hone : ∀ i, i < len → ∃ c : UInt8, V i = .int .u8 (c.toNat : Int) := fun i hi => trod_u8 he (hx i (by omega)).2
    obtain ⟨f, hf'⟩ := Deep.choose_lt hone
    refine ⟨some a, len, cap, (List.range len).map f, hv', by simp, hl, ⟨by simp [u8s], fun hn => ⟨a, rfl, ?_, fun j u hu => ?_⟩⟩⟩
    · have := block_lt_of_cell (hx 0 (by omega)).1
      rwa [block_of_add] at this
    · rw [u8s_get] at hu
      have hj : j < len := by
        rcases Nat.lt_or_ge j len with h | h
        · exact h
        · rw [List.getElem?_eq_none (by simpa using h)] at hu
          cases hu
      rw [(hx j (by omega)).1, hf' j hj]
      simpa [hj] using hu
end
end Go.Proofs.YtgfkopimjmggdaaDoor

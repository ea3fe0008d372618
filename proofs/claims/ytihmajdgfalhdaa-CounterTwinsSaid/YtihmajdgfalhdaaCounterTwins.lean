/-
  hedgerowlaw35.CounterTwins returns true for every input: a twin goes on by itself; joined with what it was, one is what it is (no condition).
-/
import Derived.Test.YtihmajdgfalhdaaCounterLaw
import Derived.Test.YtihmajdgfalhdaaStructs
namespace Go.Proofs.Ytihmajdgfalhdaa
open Go.ChangeShapes Go.WideShapes Go.RowKit
namespace Counter
theorem loadOnly0 (p : Value) : Instr.loadAt 28 p = LoadRowV 28 p := rfl
attribute [local go_sem ↓] loadOnly0

/-- act k of a slice of acts: what is loaded -/
theorem act_at {w : World} {F : Nat → Prop} {A : Option Addr} {n k : Nat} {xs : List Int} (hl : Reads w F 2 A n (ints xs)) (hb : ∀ x ∈ xs, -9223372036854775808 ≤ x ∧ x ≤ 9223372036854775807) (hlt : k < n) :
    ∃ ad r x, A = some ad ∧ r = xs.getD (k * 2) 0 ∧ x = xs.getD (k * 2 + 1) 0 ∧ (-9223372036854775808 ≤ r ∧ r ≤ 9223372036854775807) ∧ (-9223372036854775808 ≤ x ∧ x ≤ 9223372036854775807) ∧
      (LoadRow 28 (ad.add (k * 2))).run Try.prog w = .ok (.agg #[.int .i64 r, .int .i64 x]) w := by
  have hlen := hl.len
  rw [ints_length] at hlen
  obtain ⟨ad, rfl, _, hce⟩ := hl.elem hlt
  have h0 : k * 2 < xs.length := by omega
  have h1 : k * 2 + 1 < xs.length := by omega
  have hr : xs[k * 2]? = some (xs.getD (k * 2) 0) := by simp [List.getD_eq_getElem?_getD, List.getElem?_eq_getElem h0]
  have hx : xs[k * 2 + 1]? = some (xs.getD (k * 2 + 1) 0) := by simp [List.getD_eq_getElem?_getD, List.getElem?_eq_getElem h1]
  have hel : ((ints xs).drop (k * 2)).take 2 = [.int .i64 (xs.getD (k * 2) 0), .int .i64 (xs.getD (k * 2 + 1) 0)] := by
    apply List.ext_getElem?
    intro j
    rw [List.getElem?_take]
    match j with
    | 0 => rw [if_pos (by omega), List.getElem?_drop, ints_get, Nat.add_zero, hr]; rfl
    | 1 => rw [if_pos (by omega), List.getElem?_drop, ints_get, hx]; rfl
    | j + 2 => rw [if_neg (by omega)]; rfl
  have hld := run_LoadRow_at (P := Try.prog) (t := 28) Try.underlying28 rfl (n := 2) (by kernel_rfl) (hl.elem_len hlt) hce
  rw [hel] at hld
  exact ⟨ad, _, _, rfl, rfl, rfl, hb _ (List.mem_of_getElem? hr), hb _ (List.mem_of_getElem? hx), hld⟩

set_option maxHeartbeats 20000000 in
set_option maxRecDepth 100000 in
theorem twins (w : World) (A B : Option Addr) (n c m d : Nat) (xs ys : List Int) (hn : n ≤ 140737488351232) (hm : m ≤ 140737488351232)
    (hb : ∀ x ∈ xs, -9223372036854775808 ≤ x ∧ x ≤ 9223372036854775807) (hb2 : ∀ x ∈ ys, -9223372036854775808 ≤ x ∧ x ≤ 9223372036854775807)
    (hl : Reads w (fun b => b < w.heap.size) 2 A n (ints xs)) (hl2 : Reads w (fun b => b < w.heap.size) 2 B m (ints ys)) :
    Calls Try.prog 5 #[.slice A n c, .slice B m d] w fun e w' => LawEnd w e w' := by
  have HB := Lib.hid hb
  have HB2 := Lib.hid hb2
  clear hb hb2
  by_cases hbig : 100 < (n : Int)
  · go_enter Try.func5, Try.ntmps5
    go_wp2_with fail
    refine (fixed _).mono ?_
    rintro e w1 ⟨rfl, hn1⟩
    go_wp2
    go_ret
    exact ⟨rfl, hn1⟩
  · by_cases hbig2 : 100 < (m : Int)
    · go_enter Try.func5, Try.ntmps5
      go_wp2_with fail
      refine (fixed _).mono ?_
      rintro e w1 ⟨rfl, hn1⟩
      go_wp2
      go_ret
      exact ⟨rfl, hn1⟩
    · go_enter Try.func5, Try.ntmps5
      go_wp2_with fail
      refine (fixed _).mono ?_
      rintro e w1 ⟨rfl, hn1⟩
      go_wp2_with fail
      refine (new_ _).mono ?_
      rintro e w2 ⟨rfl, h2, hn2⟩
      have hn2' := hn1.trans hn2 (fun _ _ => False.elim)
      obtain ⟨bc, hbc⟩ : ∃ bc, bc = w1.heap.size := ⟨_, rfl⟩
      rw [← hbc] at h2 ⊢
      have hbcw : w.heap.size ≤ bc := by rw [hbc]; exact hn1.size
      clear hbc
      go_wp2
      go_loopw [7, 26] (fun _ i wr => ∃ (k : Nat), k ≤ n ∧ i = .int .i64 k ∧ At wr bc (runAdds zero xs k) ∧ New w wr) (fun _ i _ => n - (intOf i).toNat)
      case atStart => exact ⟨0, by omega, rfl, h2, hn2'⟩
      case round =>
        obtain ⟨k, hk, rfl, hat, hnr⟩ := hrel
        by_cases hlt : k < n
        · obtain ⟨ad, r, x, rfl, hr, hx, hrb, hxb, hld⟩ := act_at (hl.chg hnr (fun b hb => ⟨hb, id⟩)) HB.out hlt
          have HS := Lib.hid (show runAdds zero xs (k + 1) = (addF (runAdds zero xs k) r x).2 by rw [hr, hx]; rfl)
          clear hr hx
          generalize runAdds zero xs k = t at *
          have C1 := Lib.hid (fun W h => add W bc t r x h hxb.1 hxb.2)
          go_wp2_with fail
          refine (C1.out _ (hat.new ((Chg.refl _ _).alloc _))).mono ?_
          rintro e w4 ⟨rfl, hat4, hu4⟩
          have hn4 := (hnr.alloc (.cells #[.int .i64 r, .int .i64 x] 28)).trans hu4 (fun i hi e => by omega)
          rw [← HS.out] at hat4
          clear hu4
          go_wp2
          go_roundw
          case rel => exact ⟨k + 1, by omega, by go_num, hat4, hn4⟩
          case measure => simp [intOf]; omega
        · obtain rfl : k = n := by omega
          have hok1 := hat.ok
          generalize ht : runAdds zero xs k = t at *
          clear ht
          go_wp2_with fail
          refine (value wr bc t hat).mono ?_
          rintro e w3 ⟨rfl, hn3⟩
          have hat3 := hat.new hn3
          have hn3' := hnr.trans hn3 (fun _ _ => False.elim)
          go_wp2_with fail
          refine (twin w3 bc t hat3).mono ?_
          rintro e w4 ⟨rfl, htw, hn4⟩
          have hat4 := hat3.new hn4
          have hn4' := hn3'.trans hn4 (fun _ _ => False.elim)
          have hlt3 := hat3.lt
          obtain ⟨bt, hbt⟩ : ∃ bt, bt = w3.heap.size := ⟨_, rfl⟩
          rw [← hbt] at htw hlt3 ⊢
          clear hbt
          go_wp2
          go_loopw [11, 43] (fun _ i wr => ∃ (j : Nat), j ≤ m ∧ i = .int .i64 j ∧ At wr bc t ∧ At wr bt (runAdds t ys j) ∧ New w wr) (fun _ i _ => m - (intOf i).toNat)
          case atStart => exact ⟨0, by omega, rfl, hat4, htw, hn4'⟩
          case round =>
            rename_i wq _
            obtain ⟨j, hj, rfl, hat, htw, hnr⟩ := hrel
            by_cases hlt : j < m
            · obtain ⟨ad, r, x, rfl, hr, hx, hrb, hxb, hld⟩ := act_at (hl2.chg hnr (fun b hb => ⟨hb, id⟩)) HB2.out hlt
              have HS := Lib.hid (show runAdds t ys (j + 1) = (addF (runAdds t ys j) r x).2 by rw [hr, hx]; rfl)
              clear hr hx
              generalize runAdds t ys j = u at *
              have C1 := Lib.hid (fun W h => add W bt u r x h hxb.1 hxb.2)
              go_wp2_with fail
              refine (C1.out _ (htw.new ((Chg.refl _ _).alloc _))).mono ?_
              rintro e w5 ⟨rfl, htw5, hu5⟩
              have hn5 := (hnr.alloc (.cells #[.int .i64 r, .int .i64 x] 28)).trans hu5 (fun i hi e => by omega)
              have hat5 := (hat.new ((Chg.refl _ _).alloc _)).chg hu5 (fun e => by omega)
              rw [← HS.out] at htw5
              clear hu5
              go_wp2
              go_roundw
              case rel => exact ⟨j + 1, by omega, by go_num, hat5, htw5, hn5⟩
              case measure => simp [intOf]; omega
            · obtain rfl : j = m := by omega
              have hbel := runAdds_below hat.ok ys j
              have hoku := htw.ok
              have hjn := join_below hat.ok hoku hbel
              have hB := (belowF_iff _ _).2 hbel
              generalize runAdds t ys j = u at *
              have HB3 := Lib.hid hB
              have HJ := Lib.hid hjn
              have HBr := Lib.hid ((belowF_iff _ _).2 (below_refl u))
              clear hB hjn
              have hne : bt ≠ bc := by omega
              go_wp2_with fail
              refine (value wr bc t hat).mono ?_
              rintro e v1 ⟨rfl, m1⟩
              have hat1 := hat.new m1
              have htw1 := htw.new m1
              have nn1 := hnr.trans m1 (fun _ _ => False.elim)
              have k1 := below_ v1 _ _ t u (.inl ⟨_, rfl, hat1⟩) (.inl ⟨_, rfl, htw1⟩)
              rw [HB3.out] at k1
              go_wp2_with fail
              refine k1.mono ?_
              clear k1
              rintro e v2 ⟨rfl, m2⟩
              have hat2 := hat1.new m2
              have htw2 := htw1.new m2
              have nn2 := nn1.trans m2 (fun _ _ => False.elim)
              go_wp2_with fail
              refine (value v2 bt u htw2).mono ?_
              rintro e v3 ⟨rfl, m3⟩
              have hat3 := hat2.new m3
              have htw3 := htw2.new m3
              have nn3 := nn2.trans m3 (fun _ _ => False.elim)
              have k2 := join_ v3 bt bc u t htw3 hat3 hne
              rw [HJ.out.2] at k2
              go_wp2_with fail
              refine k2.mono ?_
              clear k2
              rintro e v4 ⟨rfl, htw4, u4⟩
              have hat4 := hat3.chg u4 (fun e => hne e.symm)
              have nn4 : New w v4 := nn3.trans u4 (fun i hi e => by omega)
              have k3 := join_ v4 bc bt t u hat4 htw4 hne.symm
              rw [HJ.out.1] at k3
              go_wp2_with fail
              refine k3.mono ?_
              clear k3
              rintro e v5 ⟨rfl, hat5, u5⟩
              have htw5 := htw4.chg u5 hne
              have nn5 : New w v5 := nn4.trans u5 (fun i hi e => by omega)
              go_wp2_with fail
              refine (value v5 bt u htw5).mono ?_
              rintro e v6 ⟨rfl, m6⟩
              have hat6 := hat5.new m6
              have htw6 := htw5.new m6
              have nn6 := nn5.trans m6 (fun _ _ => False.elim)
              go_wp2_with fail
              refine (value v6 bc u hat6).mono ?_
              rintro e v7 ⟨rfl, m7⟩
              have hat7 := hat6.new m7
              have htw7 := htw6.new m7
              have nn7 := nn6.trans m7 (fun _ _ => False.elim)
              have k4 := below_ v7 _ _ u u (.inl ⟨_, rfl, hat7⟩) (.inl ⟨_, rfl, htw7⟩)
              rw [HBr.out] at k4
              go_wp2_with fail
              refine k4.mono ?_
              clear k4
              rintro e v8 ⟨rfl, m8⟩
              have nn8 := nn7.trans m8 (fun _ _ => False.elim)
              have k5 := below_ v8 _ _ u u (.inl ⟨_, rfl, htw7.new m8⟩) (.inl ⟨_, rfl, hat7.new m8⟩)
              rw [HBr.out] at k5
              go_wp2_with fail
              refine k5.mono ?_
              clear k5
              rintro e v9 ⟨rfl, m9⟩
              go_wp2
              go_ret
              exact ⟨rfl, nn8.trans m9 (fun _ _ => False.elim)⟩

theorem twins_args {H : Type} {enc : TypeId × Value → H} {W : World} {base : Nat} {args : Array Value} {ds : List (DataW H)} {ps : List MemPlace}
    (hval : ∀ (j : Nat) t v, Try.f5.params[j]? = some t → args[j]? = some v → Value.okWide Try.prog W .any base t v)
    (hw : ∀ (j : Nat) t d, Try.f5.params.toList[j]? = some t → ds[j]? = some d → ∀ n ∈ d.weights Try.prog t, n ≤ reachBytes)
    (hA : DataW.TrodAll enc Try.prog W 0 (fun _ => true) true Try.f5.params.toList args.toList ds ps) :
    Calls Try.prog 5 args W fun e w' => LawEnd W e w' := by
  rw [Try.params5] at hA hval hw
  obtain ⟨v0, v1, d0, d1, p0, p1, rfl, rfl, rfl, h0, h1⟩ := trodAll_two hA
  have o0 := hval 0 _ v0 rfl rfl
  have q0 := hw 0 _ d0 rfl rfl
  have o1 := hval 1 _ v1 rfl rfl
  have q1 := hw 1 _ d1 rfl rfl
  obtain ⟨A, n, c, xs, rfl, hx, hnc, hc, hl, hb⟩ := open_struct_ints (B := 16) (s := 2) Try.underlying22 Try.underlying28 (by kernel_rfl) rfl (by omega) (by kernel_rfl)
    (fun j f hj => by match j, hj with | 0, hj => (simp at hj; subst hj; exact Try.underlying3) | 1, hj => (simp at hj; subst hj; exact Try.underlying3)) (by kernel_rfl) (cells_slice Try.underlying22 o0) q0 h0
  obtain ⟨B, m, d, ys, rfl, hy, hmd, hd, hl2, hb2⟩ := open_struct_ints (B := 16) (s := 2) Try.underlying22 Try.underlying28 (by kernel_rfl) rfl (by omega) (by kernel_rfl)
    (fun j f hj => by match j, hj with | 0, hj => (simp at hj; subst hj; exact Try.underlying3) | 1, hj => (simp at hj; subst hj; exact Try.underlying3)) (by kernel_rfl) (cells_slice Try.underlying22 o1) q1 h1
  exact twins W A B n c m d xs ys (by omega) (by omega) hb hb2 hl hl2
end Counter

namespace lawCounterTwins
theorem own : ownKnob Try.prog.godebug = none := by kernel_rfl
theorem laidOut : laidOutB Try.prog = true := by kernel_rfl
theorem reads : ∀ t ∈ Try.f5.params.toList, Try.prog.readableRec t = true ∧ t < Try.prog.types.size := by
  have h : (Try.f5.params.toList.all fun t => Try.prog.readableRec t && decide (t < Try.prog.types.size)) = true := by kernel_rfl
  intro t ht
  have := List.all_eq_true.1 h t ht
  simpa using this
theorem spec {H : Type} (ds : List (DataW H)) (h : ds.length = 2) : Rows.counterTwinsSpec.fn H ds = { results := [.lit (.bool true)], args := ds } := by
  match ds, h with
  | [d1, d2], _ => rfl
theorem trodAll_len {H : Type} {enc : TypeId × Value → H} {P : Program} {w : World} {base : Nat} {sp : Nat → Bool} {held : Bool} : ∀ (ts : List TypeId) (vs : List Value) (ds : List (DataW H)) (ps : List MemPlace),
    DataW.TrodAll enc P w base sp held ts vs ds ps → ds.length = ts.length
  | [], _, _, _, h => by
    obtain ⟨_, rfl, _⟩ := trodAll_nil h
    rfl
  | _ :: ts, _, _, _, h => by
    obtain ⟨_, vs, _, ds, _, _, _, rfl, _, _, hr⟩ := trodAll_cons h
    simp [trodAll_len ts vs ds _ hr]
theorem contract (H : Type) (enc : TypeId × Value → H) (W : World) (base : Nat) (args : Array Value) (ds gs : List (DataW H)) (before : List MemPlace)
    (hval : ∀ (j : Nat) t v, Try.f5.params[j]? = some t → args[j]? = some v → Value.okWide Try.prog W .any base t v)
    (hW : DataW.Whole enc Try.prog Try.f5.params.toList Rows.counterTwinsSpec.vars false W args.toList ds gs before)
    (hz : (DataW.weightsEach Try.prog (Try.f5.params.toList ++ Rows.counterTwinsSpec.plain.varTypes Try.prog) (ds ++ gs)).all (· ≤ reachBytes) = true) :
    Calls Try.prog 5 args W fun e W' => ∃ v, e = .returned v ∧ Rows.counterTwinsSpec.post enc Try.prog Try.f5 false true false false W args v W' := by
  obtain ⟨p, q, hA, hV, _⟩ := id hW
  have hlen : ds.length = 2 := (trodAll_len _ _ _ _ hA).trans (by kernel_rfl)
  have hV1 : DataW.TrodVars enc Try.prog W (fun _ => true) [] gs q := hV
  obtain ⟨rfl, rfl⟩ := trodVars_none hV1
  have hw : ∀ (j : Nat) t d, Try.f5.params.toList[j]? = some t → ds[j]? = some d → ∀ n ∈ d.weights Try.prog t, n ≤ reachBytes := by
    intro j t d ht hd n hn
    rw [List.append_nil] at hz
    have hlt : j < Try.f5.params.toList.length := (List.getElem?_eq_some_iff.1 ht).1
    have := List.all_eq_true.1 hz n (DataW.weights_mem_each (by rw [List.getElem?_append_left hlt]; exact ht) hd n hn)
    simpa using this
  refine (Counter.twins_args hval hw hA).mono fun e W' ⟨he, hn⟩ => ?_
  exact ⟨_, he, law_post laidOut (tb := 4) rfl Try.underlying4 reads rfl hW (spec ds hlen) hn.below⟩
set_option maxRecDepth 100000 in
theorem lifted (os : Os) (started : os.Started) (H : Type) (enc : TypeId × Value → H) :
    ReturnsInHanded {} Try.checked os 5 .any (Rows.counterTwinsSpec.pre6 enc Try.prog Try.f5 Rows.counterTwinsRow.domain false) (Rows.counterTwinsSpec.post enc Try.prog Try.f5 false true false false) := by
  refine returnsInHanded_of_change_sized (C := Try.checked) own started (by kernel_rfl) Try.func5
    (ChangeSpec.witness6 (enc := enc) (C := Try.checked) (s := Rows.counterTwinsSpec) false ⟨#[], #[.slice none 0 0, .slice none 0 0], []⟩ 60 (by kernel_rfl) (by kernel_rfl) (by kernel_rfl) (by kernel_rfl)) ?_
  intro W base args ds gs before hval hW _ hz _
  exact contract H enc W base args ds gs before hval hW hz
theorem proved : Rows.CounterTwinsSaid :=
  OpenClaim.holds_of_wide 5 Try.f5 rfl rfl rfl rfl rfl rfl rfl ⟨rfl, rfl, rfl, rfl, rfl⟩ rfl rfl rfl rfl rfl (by kernel_rfl) Try.func5 (by kernel_rfl)
    (of_decide_eq_true (by kernel_rfl)) (by unfold Func.isWrapper; first | (rw [if_pos (by decide +kernel)]; kernel_rfl) | (rw [if_neg (by decide +kernel)]; exact ⟨rfl, rfl⟩))
    (fun os started H enc _ => lifted os started H enc)
end lawCounterTwins
end Go.Proofs.Ytihmajdgfalhdaa

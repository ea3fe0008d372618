/-
  VectorTurns: held the other way round, two vectors are told the other way round; below, join, meet and equality agree (any two vectors).
-/
import Derived.Test.YtlmdpkkodbgieaaVectorLaw
import Derived.Test.YtlmdpkkodbgieaaArrays
namespace Go.Proofs.Ytlmdpkkodbgieaa
open Go.ChangeShapes Go.WideShapes Go.RowKit
namespace Vec
attribute [local go_sem ↓] loadRow0 storeRow0
theorem below_anti {xs ys : List Int} (hx : xs.length = 16) (hy : ys.length = 16) (h1 : below xs ys) (h2 : below ys xs) : xs = ys := by
  refine ext16 hx hy fun i hi => ?_
  have := h1 i hi
  have := h2 i hi
  omega
theorem below_refl (xs : List Int) : below xs xs := fun i hi => by omega
theorem meet_same {xs ys : List Int} (hx : xs.length = 16) (hy : ys.length = 16) : (meet xs ys == xs) = belowF xs ys := by
  rw [Bool.eq_iff_iff, meetF_iff hx, belowF_iff hy]
theorem eqJ {xs ys : List Int} {b : Bool} (hy : ys.length = 16) (h : belowF xs ys = b) (w : World) : (binOp .eql 23 (vec (join xs ys)) (vec ys)).run Try.prog w = .ok (.bool b) w := by
  have := eqV (join_length xs ys) hy w
  rwa [show (join xs ys == ys) = b from h] at this
theorem eqM {xs ys : List Int} {b : Bool} (hx : xs.length = 16) (hy : ys.length = 16) (h : belowF xs ys = b) (w : World) : (binOp .eql 23 (vec (meet xs ys)) (vec xs)).run Try.prog w = .ok (.bool b) w := by
  have := eqV (meet_length xs ys) hx w
  rwa [meet_same hx hy, h] at this
theorem eqE {xs ys : List Int} {b : Bool} (hx : xs.length = 16) (hy : ys.length = 16) (h : (xs == ys) = b) (w : World) : (binOp .eql 23 (vec xs) (vec ys)).run Try.prog w = .ok (.bool b) w := by
  have := eqV hx hy w
  rwa [h] at this
theorem order_cases {xs ys : List Int} (hx : xs.length = 16) (hy : ys.length = 16) :
    (order xs ys = 0 ∧ order ys xs = 0 ∧ belowF xs ys = true ∧ (xs == ys) = true) ∨ (order xs ys = -1 ∧ order ys xs = 1 ∧ belowF xs ys = true ∧ (xs == ys) = false) ∨
    (order xs ys = 1 ∧ order ys xs = -1 ∧ belowF xs ys = false ∧ (xs == ys) = false) ∨ (order xs ys = 2 ∧ order ys xs = 2 ∧ belowF xs ys = false ∧ (xs == ys) = false) := by
  by_cases h : xs = ys
  · subst h
    have : (xs == xs) = true := by simp
    exact .inl ⟨order_eq this, order_eq this, (belowF_iff hx).2 (below_refl xs), this⟩
  · have h1 : (xs == ys) = false := by simpa using h
    have h2 : (ys == xs) = false := by simpa using Ne.symm h
    cases hb : belowF xs ys with
    | true =>
      have hc : belowF ys xs = false := by
        cases hc : belowF ys xs with
        | false => rfl
        | true => exact absurd (below_anti hx hy ((belowF_iff hy).1 hb) ((belowF_iff hx).1 hc)) h
      exact .inr (.inl ⟨order_lt h1 hb, order_gt h2 hc hb, rfl, h1⟩)
    | false =>
      cases hc : belowF ys xs with
      | true => exact .inr (.inr (.inl ⟨order_gt h1 hb hc, order_lt h2 hc, rfl, h1⟩))
      | false => exact .inr (.inr (.inr ⟨order_no h1 hb hc, order_no h2 hc hb, rfl, h1⟩))

set_option maxHeartbeats 20000000 in
set_option maxRecDepth 100000 in
theorem turns (w : World) (xs ys : List Int) (hx : xs.length = 16) (hy : ys.length = 16) :
    Calls Try.prog 5 #[vec xs, vec ys] w fun e w' => LawEnd w e w' := by
  have b1 := (Blk.new w 23 (ints xs).toArray).alloc (.cells (ints ys).toArray 23)
  have b2 := Blk.new1 w (.cells (ints xs).toArray 23) 23 (ints ys).toArray
  have hn0 : New w ((w.alloc (.cells (ints xs).toArray 23)).alloc (.cells (ints ys).toArray 23)) := ((Chg.refl _ _).alloc _).alloc _
  have eg := eqG
  rcases order_cases hx hy with ⟨h1, h2, h3, h4⟩ | ⟨h1, h2, h3, h4⟩ | ⟨h1, h2, h3, h4⟩ | ⟨h1, h2, h3, h4⟩
  all_goals
    have C1 := Lib.hid (fun W => h1 ▸ order_ W xs ys hx hy)
    have C2 := Lib.hid (fun W => h2 ▸ order_ W ys xs hy hx)
    have C3 := Lib.hid (fun W => h3 ▸ below_ W xs ys hx hy)
    have C4 := Lib.hid (fun W => join_ W xs ys hx hy)
    have C5 := Lib.hid (fun W => meet_ W xs ys hx hy)
    have E1 := fun W => eqJ hy h3 W
    have E2 := fun W => eqM hx hy h3 W
    have E3 := fun W => eqE hx hy h4 W
    have HX := Lib.hid hx
    have HY := Lib.hid hy
    clear h1 h2 h3 h4
  all_goals
    go_enter Try.func5, Try.ntmps5
    go_wp2_with fail
    refine (fixed _).mono ?_
    rintro e w1 ⟨rfl, hn1⟩
    have hn := hn0.trans hn1 (fun _ _ => False.elim)
    have c1 := b1.chg hn1 id
    have c2 := b2.chg hn1 id
    have l1 : ∀ x : ChgW (fun _ => False) w1, (LoadRow 23 ⟨w.heap.size, 0, none⟩).run Try.prog x.W = .ok (vec xs) x.W := fun x => ldB HX.out (c1.chg x.chg id)
    have l2 : ∀ x : ChgW (fun _ => False) w1, (LoadRow 23 ⟨w.heap.size + 1, 0, none⟩).run Try.prog x.W = .ok (vec ys) x.W := fun x => ldB HY.out (c2.chg x.chg id)
    go_wp2_with fail
    refine wp_region_chg (fun _ => False) (by kernel_rfl) (by kernel_rfl) ?_
    repeat (go_big_quiet_step ((first | (go_at_call 15; first | with_reducible exact calls_new (C1.out _) | with_reducible exact calls_new (C2.out _)))))
    refine wpQuiet_nil ?_
    rintro ⟨wq, hq⟩
    simp only []
    have k1 := c1.chg hq id
    have k2 := c2.chg hq id
    have hnq := hn.trans hq (fun _ _ => False.elim)
    clear l1 l2 c1 c2 hq hn
    have l1 : ∀ x : ChgW (fun _ => False) wq, (LoadRow 23 ⟨w.heap.size, 0, none⟩).run Try.prog x.W = .ok (vec xs) x.W := fun x => ldB HX.out (k1.chg x.chg id)
    have l2 : ∀ x : ChgW (fun _ => False) wq, (LoadRow 23 ⟨w.heap.size + 1, 0, none⟩).run Try.prog x.W = .ok (vec ys) x.W := fun x => ldB HY.out (k2.chg x.chg id)
    go_wp2_with fail
    refine wp_region_chg (fun _ => False) (by kernel_rfl) (by kernel_rfl) ?_
    repeat (go_big_quiet_step ((first | (go_at_call 14; exact calls_new (C3.out _)) | (go_at_call 12; exact calls_new (C4.out _)) | (go_at_call 13; exact calls_new (C5.out _)))))
    refine wpQuiet_nil ?_
    rintro ⟨wq, hq⟩
    simp only []
    go_wp2
    go_ret
    exact ⟨rfl, hnq.trans hq (fun _ _ => False.elim)⟩

theorem turns_args {H : Type} {enc : TypeId × Value → H} {W : World} {base : Nat} {args : Array Value} {ds : List (DataW H)} {ps : List MemPlace}
    (hval : ∀ (j : Nat) t v, Try.f5.params[j]? = some t → args[j]? = some v → Value.okWide Try.prog W .any base t v)
    (hw : ∀ (j : Nat) t d, Try.f5.params.toList[j]? = some t → ds[j]? = some d → ∀ n ∈ d.weights Try.prog t, n ≤ reachBytes)
    (hA : DataW.TrodAll enc Try.prog W 0 (fun _ => true) true Try.f5.params.toList args.toList ds ps) :
    Calls Try.prog 5 args W fun e w' => LawEnd W e w' := by
  rw [Try.params5] at hA hval hw
  obtain ⟨v0, v1, d0, d1, p0, p1, rfl, rfl, rfl, h0, h1⟩ := trodAll_two hA
  have o0 := hval 0 _ v0 rfl rfl
  have q0 := hw 0 _ d0 rfl rfl
  have o1 := hval 1 _ v1 rfl rfl
  have q1 := hw 1 _ d1 rfl rfl
  obtain ⟨xs, rfl, hx, _⟩ := open_array_ints Try.underlying23 Try.underlying3 (by kernel_rfl) (by kernel_rfl) o0 h0
  obtain ⟨ys, rfl, hy, _⟩ := open_array_ints Try.underlying23 Try.underlying3 (by kernel_rfl) (by kernel_rfl) o1 h1
  exact turns W xs ys hx hy
end Vec
namespace lawVectorTurns
theorem own : ownKnob Try.prog.godebug = none := by kernel_rfl
theorem laidOut : laidOutB Try.prog = true := by kernel_rfl
theorem reads : ∀ t ∈ Try.f5.params.toList, Try.prog.readableRec t = true ∧ t < Try.prog.types.size := by
  have h : (Try.f5.params.toList.all fun t => Try.prog.readableRec t && decide (t < Try.prog.types.size)) = true := by kernel_rfl
  intro t ht
  have := List.all_eq_true.1 h t ht
  simpa using this
theorem spec {H : Type} (ds : List (DataW H)) (h : ds.length = 2) : Rows.vectorTurnsSpec.fn H ds = { results := [.lit (.bool true)], args := ds } := by
  match ds, h with
  | [d1, d2], _ => rfl
theorem trodAll_len {H : Type} {enc : TypeId × Value → H} {P : Program} {w : World} {base : Nat} {sp : Nat → Bool} {held : Bool} : ∀ (ts : List TypeId) (vs : List Value) (ds : List (DataW H)) (ps : List MemPlace),
    DataW.TrodAll enc P w base sp held ts vs ds ps → ds.length = ts.length
  | [], _, _, _, h => by
    obtain ⟨_, rfl, _⟩ := trodAll_nil h
    rfl
  | _ :: ts, _, _, _, h => by
    obtain ⟨_, vs, _, ds, _, _, _, rfl, _, _, hr⟩ := trodAll_cons h
    simp [trodAll_len ts vs ds _ hr]
theorem contract (H : Type) (enc : TypeId × Value → H) (W : World) (base : Nat) (args : Array Value) (ds gs : List (DataW H)) (before : List MemPlace)
    (hval : ∀ (j : Nat) t v, Try.f5.params[j]? = some t → args[j]? = some v → Value.okWide Try.prog W .any base t v)
    (hW : DataW.Whole enc Try.prog Try.f5.params.toList Rows.vectorTurnsSpec.vars false W args.toList ds gs before)
    (hz : (DataW.weightsEach Try.prog (Try.f5.params.toList ++ Rows.vectorTurnsSpec.plain.varTypes Try.prog) (ds ++ gs)).all (· ≤ reachBytes) = true) :
    Calls Try.prog 5 args W fun e W' => ∃ v, e = .returned v ∧ Rows.vectorTurnsSpec.post enc Try.prog Try.f5 false true false false W args v W' := by
  obtain ⟨p, q, hA, hV, _⟩ := id hW
  have hlen : ds.length = 2 := (trodAll_len _ _ _ _ hA).trans (by kernel_rfl)
  have hV1 : DataW.TrodVars enc Try.prog W (fun _ => true) [] gs q := hV
  obtain ⟨rfl, rfl⟩ := trodVars_none hV1
  have hw : ∀ (j : Nat) t d, Try.f5.params.toList[j]? = some t → ds[j]? = some d → ∀ n ∈ d.weights Try.prog t, n ≤ reachBytes := by
    intro j t d ht hd n hn
    rw [List.append_nil] at hz
    have hlt : j < Try.f5.params.toList.length := (List.getElem?_eq_some_iff.1 ht).1
    have := List.all_eq_true.1 hz n (DataW.weights_mem_each (by rw [List.getElem?_append_left hlt]; exact ht) hd n hn)
    simpa using this
  refine (Vec.turns_args hval hw hA).mono fun e W' ⟨he, hn⟩ => ?_
  exact ⟨_, he, law_post laidOut (tb := 4) rfl Try.underlying4 reads rfl hW (spec ds hlen) hn.below⟩
set_option maxRecDepth 100000 in
theorem lifted (os : Os) (started : os.Started) (H : Type) (enc : TypeId × Value → H) :
    ReturnsInHanded {} Try.checked os 5 .any (Rows.vectorTurnsSpec.pre6 enc Try.prog Try.f5 Rows.vectorTurnsRow.domain false) (Rows.vectorTurnsSpec.post enc Try.prog Try.f5 false true false false) := by
  refine returnsInHanded_of_change_sized (C := Try.checked) own started (by kernel_rfl) Try.func5
    (ChangeSpec.witness6 (enc := enc) (C := Try.checked) (s := Rows.vectorTurnsSpec) false ⟨#[], #[.agg (Array.replicate 16 (.int .i64 0)), .agg (Array.replicate 16 (.int .i64 0))], []⟩ 60 (by kernel_rfl) (by kernel_rfl) (by kernel_rfl) (by kernel_rfl)) ?_
  intro W base args ds gs before hval hW _ hz _
  exact contract H enc W base args ds gs before hval hW hz
theorem proved : Rows.VectorTurnsSaid :=
  OpenClaim.holds_of_wide 5 Try.f5 rfl rfl rfl rfl rfl rfl rfl ⟨rfl, rfl, rfl, rfl, rfl⟩ rfl rfl rfl rfl rfl (by kernel_rfl) Try.func5 (by kernel_rfl)
    (of_decide_eq_true (by kernel_rfl)) (by unfold Func.isWrapper; first | (rw [if_pos (by decide +kernel)]; kernel_rfl) | (rw [if_neg (by decide +kernel)]; exact ⟨rfl, rfl⟩))
    (fun os started H enc _ => lifted os started H enc)
end lawVectorTurns
end Go.Proofs.Ytlmdpkkodbgieaa

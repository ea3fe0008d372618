/-
  VectorSums: a join and a meet have together what both had, of vectors that may be (any two vectors).
-/
import Derived.Test.YtlmdpkkodbgieaaVectorLaw
import Derived.Test.YtlmdpkkodbgieaaArrays
namespace Go.Proofs.Ytlmdpkkodbgieaa
open Go.ChangeShapes Go.WideShapes Go.RowKit
namespace Vec
attribute [local go_sem ↓] loadRow0 storeRow0
theorem getD_mem {xs : List Int} {k : Nat} (h : k < xs.length) : xs.getD k 0 ∈ xs := by
  have : xs.getD k 0 = xs[k] := by simp [List.getD_eq_getElem?_getD, List.getElem?_eq_getElem h]
  rw [this]
  exact List.getElem_mem h
theorem mem_getD {xs : List Int} {x : Int} (h : x ∈ xs) : ∃ k, k < xs.length ∧ xs.getD k 0 = x := by
  obtain ⟨k, hk, e⟩ := List.getElem_of_mem h
  exact ⟨k, hk, by simp [List.getD_eq_getElem?_getD, List.getElem?_eq_getElem hk, e]⟩
theorem right_mem {xs : List Int} : rightF xs = true ↔ ∀ x ∈ xs, 0 ≤ x ∧ x ≤ 1048576 := by
  simp [rightF, List.all_eq_true]
theorem right_at {xs : List Int} (hx : xs.length = 16) : rightF xs = true ↔ ∀ i, i < 16 → 0 ≤ xs.getD i 0 ∧ xs.getD i 0 ≤ 1048576 := by
  rw [right_mem]
  constructor
  · intro h i hi
    exact h _ (getD_mem (by omega))
  · intro h x hm
    obtain ⟨k, hk, rfl⟩ := mem_getD hm
    exact h k (by omega)
theorem right_join {xs ys : List Int} (hx : xs.length = 16) (hy : ys.length = 16) (h1 : rightF xs = true) (h2 : rightF ys = true) : rightF (join xs ys) = true := by
  rw [right_at (join_length ..)]
  intro i hi
  rw [join_getD _ _ _ hi]
  have := (right_at hx).1 h1 i hi
  have := (right_at hy).1 h2 i hi
  omega
theorem right_meet {xs ys : List Int} (hx : xs.length = 16) (hy : ys.length = 16) (h1 : rightF xs = true) (h2 : rightF ys = true) : rightF (meet xs ys) = true := by
  rw [right_at (meet_length ..)]
  intro i hi
  rw [meet_getD _ _ _ hi]
  have := (right_at hx).1 h1 i hi
  have := (right_at hy).1 h2 i hi
  omega
theorem right_i64 {xs : List Int} (h : rightF xs = true) : I64 xs := fun x hx => by
  have := right_mem.1 h x hx
  omega
theorem sumF_plain : ∀ (l : List Int) (n : Int), (∀ x ∈ l, 0 ≤ x ∧ x ≤ 1048576) → 0 ≤ n → n + l.length * 1048576 ≤ 4611686018427387904 → sumF l n = n + l.sum
  | [], n, _, _, _ => by simp [sumF]
  | x :: l, n, h, h0, h1 => by
    have hx := h x (by simp)
    simp only [List.length_cons] at h1
    rw [sumF_go (by omega), sumF_plain l _ (fun y hy => h y (by simp [hy])) (by omega) (by omega), List.sum_cons]
    omega
theorem sum_range : ∀ (l : List Int), (∀ x ∈ l, 0 ≤ x ∧ x ≤ 1048576) → 0 ≤ l.sum ∧ l.sum ≤ l.length * 1048576
  | [], _ => by simp
  | x :: l, h => by
    have := h x (by simp)
    have := sum_range l (fun y hy => h y (by simp [hy]))
    simp only [List.sum_cons, List.length_cons]
    omega
theorem sumF_right {xs : List Int} (hx : xs.length = 16) (h : rightF xs = true) : sumF xs 0 = xs.sum ∧ 0 ≤ xs.sum ∧ xs.sum ≤ 16777216 := by
  have h1 := sum_range xs (right_mem.1 h)
  rw [hx] at h1
  refine ⟨?_, h1.1, by omega⟩
  rw [sumF_plain xs 0 (right_mem.1 h) (by omega) (by rw [hx]; omega), Int.zero_add]
theorem as_map {xs : List Int} (hx : xs.length = 16) : xs = (List.range 16).map fun j => xs.getD j 0 :=
  ext16 hx (by simp) fun i hi => by
    rw [List.getD_eq_getElem?_getD (l := List.map _ _)]
    simp [hi]
theorem sum_add (f g f' g' : Nat → Int) : ∀ (l : List Nat), (∀ j ∈ l, f j + g j = f' j + g' j) → (l.map f).sum + (l.map g).sum = (l.map f').sum + (l.map g').sum
  | [], _ => rfl
  | j :: l, h => by
    have h1 := h j (by simp)
    have h2 := sum_add f g f' g' l (fun k hk => h k (by simp [hk]))
    simp only [List.map_cons, List.sum_cons]
    omega
theorem sums_law {xs ys : List Int} (hx : xs.length = 16) (hy : ys.length = 16) : (join xs ys).sum + (meet xs ys).sum = xs.sum + ys.sum := by
  rw [as_map (join_length xs ys), as_map (meet_length xs ys)]
  conv => rhs; rw [as_map hx, as_map hy]
  refine sum_add _ _ _ _ _ fun j hj => ?_
  have hj : j < 16 := by simpa using hj
  rw [join_getD _ _ _ hj, meet_getD _ _ _ hj]
  omega

set_option maxHeartbeats 20000000 in
set_option maxRecDepth 100000 in
theorem sums (w : World) (xs ys : List Int) (hx : xs.length = 16) (hy : ys.length = 16) :
    Calls Try.prog 6 #[vec xs, vec ys] w fun e w' => LawEnd w e w' := by
  have b1 := (Blk.new w 23 (ints xs).toArray).alloc (.cells (ints ys).toArray 23)
  have b2 := Blk.new1 w (.cells (ints xs).toArray 23) 23 (ints ys).toArray
  have hn0 : New w ((w.alloc (.cells (ints xs).toArray 23)).alloc (.cells (ints ys).toArray 23)) := ((Chg.refl _ _).alloc _).alloc _
  have R1 := Lib.hid (fun W => right_ W xs hx)
  have R2 := Lib.hid (fun W => right_ W ys hy)
  have HX := Lib.hid hx
  have HY := Lib.hid hy
  cases hrx : rightF xs with
  | false =>
    rw [hrx] at R1
    clear hrx hx hy
    go_enter Try.func6, Try.ntmps6
    go_wp2_with fail
    refine (fixed _).mono ?_
    rintro e w1 ⟨rfl, hn1⟩
    have hn := hn0.trans hn1 (fun _ _ => False.elim)
    have l1 := ldB HX.out (b1.chg hn1 id)
    go_wp2_with fail
    refine (R1.out _).mono ?_
    rintro e w2 ⟨rfl, hn2⟩
    go_wp2
    go_ret
    exact ⟨rfl, hn.trans hn2 (fun _ _ => False.elim)⟩
  | true =>
    cases hry : rightF ys with
    | false =>
      rw [hrx] at R1
      rw [hry] at R2
      clear hrx hry hx hy
      go_enter Try.func6, Try.ntmps6
      go_wp2_with fail
      refine (fixed _).mono ?_
      rintro e w1 ⟨rfl, hn1⟩
      have hn := hn0.trans hn1 (fun _ _ => False.elim)
      have l1 := ldB HX.out (b1.chg hn1 id)
      have c2 := b2.chg hn1 id
      go_wp2_with fail
      refine (R1.out _).mono ?_
      rintro e w2 ⟨rfl, hn2⟩
      have l2 := ldB HY.out (c2.chg hn2 id)
      go_wp2_with fail
      refine (R2.out _).mono ?_
      rintro e w3 ⟨rfl, hn3⟩
      go_wp2
      go_ret
      exact ⟨rfl, (hn.trans hn2 (fun _ _ => False.elim)).trans hn3 (fun _ _ => False.elim)⟩
    | true =>
      obtain ⟨s1, s1a, s1b⟩ := sumF_right hx hrx
      obtain ⟨s2, s2a, s2b⟩ := sumF_right hy hry
      obtain ⟨s3, s3a, s3b⟩ := sumF_right (join_length xs ys) (right_join hx hy hrx hry)
      obtain ⟨s4, s4a, s4b⟩ := sumF_right (meet_length xs ys) (right_meet hx hy hrx hry)
      have hs := sums_law hx hy
      have C1 := Lib.hid (fun W => s1 ▸ sum_ W xs hx (right_i64 hrx))
      have C2 := Lib.hid (fun W => s2 ▸ sum_ W ys hy (right_i64 hry))
      have C3 := Lib.hid (fun W => s3 ▸ sum_ W (join xs ys) (join_length ..) (right_i64 (right_join hx hy hrx hry)))
      have C4 := Lib.hid (fun W => s4 ▸ sum_ W (meet xs ys) (meet_length ..) (right_i64 (right_meet hx hy hrx hry)))
      have C5 := Lib.hid (fun W => join_ W xs ys hx hy)
      have C6 := Lib.hid (fun W => meet_ W xs ys hx hy)
      have C7 := Lib.hid (fun W => right_join hx hy hrx hry ▸ right_ W (join xs ys) (join_length ..))
      have C8 := Lib.hid (fun W => right_meet hx hy hrx hry ▸ right_ W (meet xs ys) (meet_length ..))
      rw [hrx] at R1
      rw [hry] at R2
      clear hrx hry hx hy s1 s2 s3 s4
      generalize xs.sum = n1 at *
      generalize ys.sum = n2 at *
      generalize (join xs ys).sum = n3 at *
      generalize (meet xs ys).sum = n4 at *
      have e1 : IntKind.i64.wrap (n3 + n4) = n1 + n2 := by rw [hs]; exact IntWalk.i64_in _ (by omega)
      have e2 : IntKind.i64.wrap (n1 + n2) = n1 + n2 := IntWalk.i64_in _ (by omega)
      clear hs s1a s1b s2a s2b s3a s3b s4a s4b
      go_enter Try.func6, Try.ntmps6
      go_wp2_with fail
      refine (fixed _).mono ?_
      rintro e w1 ⟨rfl, hn1⟩
      have hn := hn0.trans hn1 (fun _ _ => False.elim)
      have c1 := b1.chg hn1 id
      have c2 := b2.chg hn1 id
      have l1 := ldB HX.out c1
      go_wp2_with fail
      refine (R1.out _).mono ?_
      rintro e w2 ⟨rfl, hn2⟩
      have l2 := ldB HY.out (c2.chg hn2 id)
      go_wp2_with fail
      refine (R2.out _).mono ?_
      rintro e w3 ⟨rfl, hn3⟩
      have k1 := (c1.chg hn2 id).chg hn3 id
      have k2 := (c2.chg hn2 id).chg hn3 id
      have hn4 := (hn.trans hn2 (fun _ _ => False.elim)).trans hn3 (fun _ _ => False.elim)
      clear l1 l2 c1 c2 hn hn1 hn2 hn3
      have l1 : ∀ x : ChgW (fun _ => False) w3, (LoadRow 23 ⟨w.heap.size, 0, none⟩).run Try.prog x.W = .ok (vec xs) x.W := fun x => ldB HX.out (k1.chg x.chg id)
      have l2 : ∀ x : ChgW (fun _ => False) w3, (LoadRow 23 ⟨w.heap.size + 1, 0, none⟩).run Try.prog x.W = .ok (vec ys) x.W := fun x => ldB HY.out (k2.chg x.chg id)
      go_wp2_with fail
      refine wp_region_chg (fun _ => False) (by kernel_rfl) (by kernel_rfl) ?_
      repeat (go_big_quiet_step ((first | (go_at_call 12; with_reducible exact calls_new (C5.out _)) | (go_at_call 13; with_reducible exact calls_new (C6.out _)) | (go_at_call 17; first | with_reducible exact calls_new (C1.out _) | with_reducible exact calls_new (C2.out _) | with_reducible exact calls_new (C3.out _) | with_reducible exact calls_new (C4.out _)) | (go_at_call 16; first | with_reducible exact calls_new (C7.out _) | with_reducible exact calls_new (C8.out _)))))
      refine wpQuiet_nil ?_
      rintro ⟨wq, hq⟩
      simp only []
      go_wp2
      go_ret
      exact ⟨rfl, hn4.trans hq (fun _ _ => False.elim)⟩

theorem sums_args {H : Type} {enc : TypeId × Value → H} {W : World} {base : Nat} {args : Array Value} {ds : List (DataW H)} {ps : List MemPlace}
    (hval : ∀ (j : Nat) t v, Try.f6.params[j]? = some t → args[j]? = some v → Value.okWide Try.prog W .any base t v)
    (hw : ∀ (j : Nat) t d, Try.f6.params.toList[j]? = some t → ds[j]? = some d → ∀ n ∈ d.weights Try.prog t, n ≤ reachBytes)
    (hA : DataW.TrodAll enc Try.prog W 0 (fun _ => true) true Try.f6.params.toList args.toList ds ps) :
    Calls Try.prog 6 args W fun e w' => LawEnd W e w' := by
  rw [Try.params6] at hA hval hw
  obtain ⟨v0, v1, d0, d1, p0, p1, rfl, rfl, rfl, h0, h1⟩ := trodAll_two hA
  have o0 := hval 0 _ v0 rfl rfl
  have q0 := hw 0 _ d0 rfl rfl
  have o1 := hval 1 _ v1 rfl rfl
  have q1 := hw 1 _ d1 rfl rfl
  obtain ⟨xs, rfl, hx, _⟩ := open_array_ints Try.underlying23 Try.underlying3 (by kernel_rfl) (by kernel_rfl) o0 h0
  obtain ⟨ys, rfl, hy, _⟩ := open_array_ints Try.underlying23 Try.underlying3 (by kernel_rfl) (by kernel_rfl) o1 h1
  exact sums W xs ys hx hy
end Vec
namespace lawVectorSums
theorem own : ownKnob Try.prog.godebug = none := by kernel_rfl
theorem laidOut : laidOutB Try.prog = true := by kernel_rfl
theorem reads : ∀ t ∈ Try.f6.params.toList, Try.prog.readableRec t = true ∧ t < Try.prog.types.size := by
  have h : (Try.f6.params.toList.all fun t => Try.prog.readableRec t && decide (t < Try.prog.types.size)) = true := by kernel_rfl
  intro t ht
  have := List.all_eq_true.1 h t ht
  simpa using this
theorem spec {H : Type} (ds : List (DataW H)) (h : ds.length = 2) : Rows.vectorSumsSpec.fn H ds = { results := [.lit (.bool true)], args := ds } := by
  match ds, h with
  | [d1, d2], _ => rfl
theorem trodAll_len {H : Type} {enc : TypeId × Value → H} {P : Program} {w : World} {base : Nat} {sp : Nat → Bool} {held : Bool} : ∀ (ts : List TypeId) (vs : List Value) (ds : List (DataW H)) (ps : List MemPlace),
    DataW.TrodAll enc P w base sp held ts vs ds ps → ds.length = ts.length
  | [], _, _, _, h => by
    obtain ⟨_, rfl, _⟩ := trodAll_nil h
    rfl
  | _ :: ts, _, _, _, h => by
    obtain ⟨_, vs, _, ds, _, _, _, rfl, _, _, hr⟩ := trodAll_cons h
    simp [trodAll_len ts vs ds _ hr]
theorem contract (H : Type) (enc : TypeId × Value → H) (W : World) (base : Nat) (args : Array Value) (ds gs : List (DataW H)) (before : List MemPlace)
    (hval : ∀ (j : Nat) t v, Try.f6.params[j]? = some t → args[j]? = some v → Value.okWide Try.prog W .any base t v)
    (hW : DataW.Whole enc Try.prog Try.f6.params.toList Rows.vectorSumsSpec.vars false W args.toList ds gs before)
    (hz : (DataW.weightsEach Try.prog (Try.f6.params.toList ++ Rows.vectorSumsSpec.plain.varTypes Try.prog) (ds ++ gs)).all (· ≤ reachBytes) = true) :
    Calls Try.prog 6 args W fun e W' => ∃ v, e = .returned v ∧ Rows.vectorSumsSpec.post enc Try.prog Try.f6 false true false false W args v W' := by
  obtain ⟨p, q, hA, hV, _⟩ := id hW
  have hlen : ds.length = 2 := (trodAll_len _ _ _ _ hA).trans (by kernel_rfl)
  have hV1 : DataW.TrodVars enc Try.prog W (fun _ => true) [] gs q := hV
  obtain ⟨rfl, rfl⟩ := trodVars_none hV1
  have hw : ∀ (j : Nat) t d, Try.f6.params.toList[j]? = some t → ds[j]? = some d → ∀ n ∈ d.weights Try.prog t, n ≤ reachBytes := by
    intro j t d ht hd n hn
    rw [List.append_nil] at hz
    have hlt : j < Try.f6.params.toList.length := (List.getElem?_eq_some_iff.1 ht).1
    have := List.all_eq_true.1 hz n (DataW.weights_mem_each (by rw [List.getElem?_append_left hlt]; exact ht) hd n hn)
    simpa using this
  refine (Vec.sums_args hval hw hA).mono fun e W' ⟨he, hn⟩ => ?_
  exact ⟨_, he, law_post laidOut (tb := 4) rfl Try.underlying4 reads rfl hW (spec ds hlen) hn.below⟩
set_option maxRecDepth 100000 in
theorem lifted (os : Os) (started : os.Started) (H : Type) (enc : TypeId × Value → H) :
    ReturnsInHanded {} Try.checked os 6 .any (Rows.vectorSumsSpec.pre6 enc Try.prog Try.f6 Rows.vectorSumsRow.domain false) (Rows.vectorSumsSpec.post enc Try.prog Try.f6 false true false false) := by
  refine returnsInHanded_of_change_sized (C := Try.checked) own started (by kernel_rfl) Try.func6
    (ChangeSpec.witness6 (enc := enc) (C := Try.checked) (s := Rows.vectorSumsSpec) false ⟨#[], #[.agg (Array.replicate 16 (.int .i64 0)), .agg (Array.replicate 16 (.int .i64 0))], []⟩ 60 (by kernel_rfl) (by kernel_rfl) (by kernel_rfl) (by kernel_rfl)) ?_
  intro W base args ds gs before hval hW _ hz _
  exact contract H enc W base args ds gs before hval hW hz
theorem proved : Rows.VectorSumsSaid :=
  OpenClaim.holds_of_wide 6 Try.f6 rfl rfl rfl rfl rfl rfl rfl ⟨rfl, rfl, rfl, rfl, rfl⟩ rfl rfl rfl rfl rfl (by kernel_rfl) Try.func6 (by kernel_rfl)
    (of_decide_eq_true (by kernel_rfl)) (by unfold Func.isWrapper; first | (rw [if_pos (by decide +kernel)]; kernel_rfl) | (rw [if_neg (by decide +kernel)]; exact ⟨rfl, rfl⟩))
    (fun os started H enc _ => lifted os started H enc)
end lawVectorSums
end Go.Proofs.Ytlmdpkkodbgieaa

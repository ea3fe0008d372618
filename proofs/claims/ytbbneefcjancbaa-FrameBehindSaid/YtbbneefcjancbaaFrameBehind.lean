/-
  hedgerowlaw04.FrameBehind returns true for every input: a frame is told whatever stands behind it, and has the size that is told (no condition).
-/
import Derived.Test.YtbbneefcjancbaaFrameLaw
import Derived.Test.YtbbneefcjancbaaFrameCat
namespace Go.Proofs.Ytbbneefcjancbaa
open Go.ChangeShapes Go.WideShapes Go.RowKit
namespace Frame
theorem whole_frame (p q : List UInt8) (h : p.length ≤ 1048576) : wholeE (frameL p ++ q) = (if q.length = 0 then 0 else 2) ∧ (q.length = 0 → wholeP (frameL p ++ q) = p) := by
  obtain ⟨h1, h2, h3⟩ := take_frame p q h
  have hlen : (frameL p ++ q).length = p.length + 8 + q.length := by rw [List.length_append, frameL_length]
  refine ⟨?_, fun h0 => ?_⟩
  · unfold wholeE
    rw [if_neg (fun x => x h1), h2, hlen]
    by_cases h0 : q.length = 0
    · rw [if_neg (by omega), if_pos h0]
    · rw [if_pos (by omega), if_neg h0]
  · unfold wholeP
    rw [if_pos ⟨h1, by rw [h2, hlen]; omega⟩, h3]
set_option maxHeartbeats 20000000 in
set_option maxRecDepth 100000 in
theorem behind (w : World) (A B : Option Addr) (n c m d : Nat) (p q : List UInt8) (hn : n ≤ 140737488351232) (hm : m ≤ 140737488351232)
    (hl : Reads w (fun b => b < w.heap.size) 1 A n (u8s p)) (hl2 : Reads w (fun b => b < w.heap.size) 1 B m (u8s q)) :
    Calls Try.prog 6 #[.slice A n c, .slice B m d] w fun e w' => LawEnd w e w' := by
  by_cases hbig : 500 < (n : Int) + (m : Int)
  · go_enter Try.func6, Try.ntmps6
    go_wp2_with fail
    refine (fixed _).mono ?_
    rintro e w1 ⟨rfl, n1⟩
    go_wp2
    go_ret
    exact ⟨rfl, n1⟩
  · have hpn := hl.u8len
    have hqm := hl2.u8len
    have hT := take_frame p q (by omega)
    have hW := whole_frame p q (by omega)
    rw [hpn] at hT
    rw [hqm] at hW
    have HT := Lib.hid hT
    have HW := Lib.hid hW
    have HPn := Lib.hid hpn
    have HQm := Lib.hid hqm
    have hlen : (frameL p ++ q).length = n + 8 + m := by rw [List.length_append, frameL_length, hpn, hqm]
    have HLen := Lib.hid hlen
    have hfl : (frameL p).length = n + 8 := by rw [frameL_length, hpn]
    have HFl := Lib.hid hfl
    have hP : ∀ w', New w w' → Reads w' (fun b => b < w.heap.size) 1 A n (u8s p) := fun _ h => hl.chg' h (fun _ _ => id) (by omega)
    have hQ : ∀ w', New w w' → Reads w' (fun b => b < w.heap.size) 1 B m (u8s q) := fun _ h => hl2.chg' h (fun _ _ => id) (by omega)
    have HP := Lib.hid hP
    have HQ := Lib.hid hQ
    clear hpn hqm hT hW hlen hfl hP hQ hl hl2
    go_enter Try.func6, Try.ntmps6
    go_wp2_with fail
    refine (fixed _).mono ?_
    rintro e w1 ⟨rfl, n1⟩
    have hs1 := n1.size
    go_wp2_with fail
    refine (put w1 w1.heap.size (.slice none 0 0) [] _ A n c p OwnB.nil (Nat.le_refl _) (HP.out _ n1) (fun b hb => ⟨Nat.lt_of_lt_of_le hb hs1, by simp [Value.ownBlock]⟩) (by simp; omega)).mono ?_
    rintro e w2 ⟨v2, rfl, o2, c2, b2⟩
    rw [List.nil_append] at o2
    have n2 : New w w2 := n1.trans c2 fun i hi e => by cases e
    have hs2 := c2.size
    clear c2 b2
    go_wp2_with (at_builtin; refine stop ?_)
    delta Stop
    refine append_u8 _ rfl _ _ rfl w1.heap.size v2 (frameL p) rfl o2 _ B m d q rfl (HQ.out _ n2) (by rw [HFl.out]; omega) hs2 ?_
    intro v3 w3 o3 g3 a3
    have n3 : New w w3 := n2.grown g3 fun g e hlt => by
      have := (own_lt o2 e).1
      omega
    obtain ⟨A3, c3, rfl, hc3, _, _, hr3⟩ := o3.form
    rw [HLen.out] at hc3 hr3
    have hlenr := HLen.out
    rw [hlenr]
    have hr3 : Reads w3 (fun b => b < w3.heap.size) 1 A3 (n + 8 + m) (u8s (frameL p ++ q)) := hr3.mono fun b hb => hb.2.1
    clear o2 o3 g3 a3 n2 hlenr hs2
    go_wp2_with fail
    have k1 := take w3 _ A3 (n + 8 + m) c3 _ hr3 (fun b hb => hb) hc3 (by omega)
    rw [HT.out.1, HT.out.2.1, HT.out.2.2] at k1
    refine k1.mono ?_
    clear k1
    rintro e w4 ⟨v4, rfl, o4, m4⟩
    have hr4 := (hr3.chg' m4 (fun _ _ => id) (by omega)).mono (G := fun b => b < w4.heap.size) fun b hb => Nat.lt_of_lt_of_le hb m4.size
    have n4 := n3.trans m4 fun _ _ => id
    clear hr3 m4 n3
    go_wp2_with fail
    have k1 := whole w4 _ A3 (n + 8 + m) c3 _ hr4 (fun b hb => hb) hc3 (by omega)
    rw [HW.out.1] at k1
    have hsz := fun W => size W ((n : Int)) (by omega)
    rw [if_pos (by omega)] at hsz
    have SZ := Lib.hid hsz
    clear hsz
    by_cases hm0 : m = 0
    · subst hm0
      rw [if_pos rfl] at k1
      refine k1.mono ?_
      clear k1
      rintro e w5 ⟨v5, rfl, o5, m5⟩
      rw [HW.out.2 rfl] at o5
      have s4 := own_str o4 m5
      have s5 := own_str o5 (Chg.refl _ w5)
      have n5 := n4.trans m5 fun _ _ => id
      have sp := run_str (P := Try.prog) Try.underlying22 Try.underlying5 Try.underlying9 (HP.out _ n5) c
      clear o4 o5 m5 n4 hr4
      go_wp2_with fail
      refine (SZ.out _).mono ?_
      rintro e w6 ⟨rfl, rfl⟩
      go_wp2
      go_ret
      exact ⟨rfl, n5⟩
    · have hmb : ((m : Int) == 0) = false := by simpa using hm0
      rw [if_neg hm0] at k1
      refine k1.mono ?_
      clear k1
      rintro e w5 ⟨v5, rfl, o5, m5⟩
      have s4 := own_str o4 m5
      have n5 := n4.trans m5 fun _ _ => id
      have sp := run_str (P := Try.prog) Try.underlying22 Try.underlying5 Try.underlying9 (HP.out _ n5) c
      clear o4 o5 m5 n4 hr4 hm0
      go_wp2_with fail
      refine (SZ.out _).mono ?_
      rintro e w6 ⟨rfl, rfl⟩
      go_wp2
      go_ret
      exact ⟨rfl, n5⟩

theorem behind_args {H : Type} {enc : TypeId × Value → H} {W : World} {base : Nat} {args : Array Value} {ds : List (DataW H)} {ps : List MemPlace}
    (hval : ∀ (j : Nat) t v, Try.f6.params[j]? = some t → args[j]? = some v → Value.okWide Try.prog W .any base t v)
    (hw : ∀ (j : Nat) t d, Try.f6.params.toList[j]? = some t → ds[j]? = some d → ∀ n ∈ d.weights Try.prog t, n ≤ reachBytes)
    (hA : DataW.TrodAll enc Try.prog W 0 (fun _ => true) true Try.f6.params.toList args.toList ds ps) :
    Calls Try.prog 6 args W fun e w' => LawEnd W e w' := by
  rw [Try.params6] at hA hval hw
  obtain ⟨v0, v1, d0, d1, p0, p1, rfl, rfl, rfl, h0, h1⟩ := trodAll_two hA
  have o0 := hval 0 _ v0 rfl rfl
  have q0 := hw 0 _ d0 rfl rfl
  have o1 := hval 1 _ v1 rfl rfl
  have q1 := hw 1 _ d1 rfl rfl
  obtain ⟨A, n, c, xs, rfl, _, hnc, hc, hl⟩ := open_u8s Try.underlying22 Try.underlying5 (by kernel_rfl) (by kernel_rfl) (cells_slice Try.underlying22 o0) q0 h0
  obtain ⟨B, m, d, ys, rfl, _, hmd, hd, hl2⟩ := open_u8s Try.underlying22 Try.underlying5 (by kernel_rfl) (by kernel_rfl) (cells_slice Try.underlying22 o1) q1 h1
  exact behind W A B n c m d xs ys (by omega) (by omega) hl hl2
end Frame

namespace lawFrameBehind
theorem own : ownKnob Try.prog.godebug = none := by kernel_rfl
theorem laidOut : laidOutB Try.prog = true := by kernel_rfl
theorem reads : ∀ t ∈ Try.f6.params.toList, Try.prog.readableRec t = true ∧ t < Try.prog.types.size := by
  have h : (Try.f6.params.toList.all fun t => Try.prog.readableRec t && decide (t < Try.prog.types.size)) = true := by kernel_rfl
  intro t ht
  have := List.all_eq_true.1 h t ht
  simpa using this
theorem spec {H : Type} (ds : List (DataW H)) (h : ds.length = 2) : Rows.frameBehindSpec.fn H ds = { results := [.lit (.bool true)], args := ds } := by
  match ds, h with
  | [d1, d2], _ => rfl
theorem trodAll_len {H : Type} {enc : TypeId × Value → H} {P : Program} {w : World} {base : Nat} {sp : Nat → Bool} {held : Bool} : ∀ (ts : List TypeId) (vs : List Value) (ds : List (DataW H)) (ps : List MemPlace),
    DataW.TrodAll enc P w base sp held ts vs ds ps → ds.length = ts.length
  | [], _, _, _, h => by
    obtain ⟨_, rfl, _⟩ := trodAll_nil h
    rfl
  | _ :: ts, _, _, _, h => by
    obtain ⟨_, vs, _, ds, _, _, _, rfl, _, _, hr⟩ := trodAll_cons h
    simp [trodAll_len ts vs ds _ hr]
theorem contract (H : Type) (enc : TypeId × Value → H) (W : World) (base : Nat) (args : Array Value) (ds gs : List (DataW H)) (before : List MemPlace)
    (hval : ∀ (j : Nat) t v, Try.f6.params[j]? = some t → args[j]? = some v → Value.okWide Try.prog W .any base t v)
    (hW : DataW.Whole enc Try.prog Try.f6.params.toList Rows.frameBehindSpec.vars false W args.toList ds gs before)
    (hz : (DataW.weightsEach Try.prog (Try.f6.params.toList ++ Rows.frameBehindSpec.plain.varTypes Try.prog) (ds ++ gs)).all (· ≤ reachBytes) = true) :
    Calls Try.prog 6 args W fun e W' => ∃ v, e = .returned v ∧ Rows.frameBehindSpec.post enc Try.prog Try.f6 false true false false W args v W' := by
  obtain ⟨p, q, hA, hV, _⟩ := id hW
  have hlen : ds.length = 2 := (trodAll_len _ _ _ _ hA).trans (by kernel_rfl)
  have hV1 : DataW.TrodVars enc Try.prog W (fun _ => true) [] gs q := hV
  obtain ⟨rfl, rfl⟩ := trodVars_none hV1
  have hw : ∀ (j : Nat) t d, Try.f6.params.toList[j]? = some t → ds[j]? = some d → ∀ n ∈ d.weights Try.prog t, n ≤ reachBytes := by
    intro j t d ht hd n hn
    rw [List.append_nil] at hz
    have hlt : j < Try.f6.params.toList.length := (List.getElem?_eq_some_iff.1 ht).1
    have := List.all_eq_true.1 hz n (DataW.weights_mem_each (by rw [List.getElem?_append_left hlt]; exact ht) hd n hn)
    simpa using this
  refine (Frame.behind_args hval hw hA).mono fun e W' ⟨he, hn⟩ => ?_
  exact ⟨_, he, law_post laidOut (tb := 4) rfl Try.underlying4 reads rfl hW (spec ds hlen) hn.below⟩
set_option maxRecDepth 100000 in
theorem lifted (os : Os) (started : os.Started) (H : Type) (enc : TypeId × Value → H) :
    ReturnsInHanded {} Try.checked os 6 .any (Rows.frameBehindSpec.pre6 enc Try.prog Try.f6 Rows.frameBehindRow.domain false) (Rows.frameBehindSpec.post enc Try.prog Try.f6 false true false false) := by
  refine returnsInHanded_of_change_sized (C := Try.checked) own started (by kernel_rfl) Try.func6
    (ChangeSpec.witness6 (enc := enc) (C := Try.checked) (s := Rows.frameBehindSpec) false ⟨#[], #[.slice none 0 0, .slice none 0 0], []⟩ 60 (by kernel_rfl) (by kernel_rfl) (by kernel_rfl) (by kernel_rfl)) ?_
  intro W base args ds gs before hval hW _ hz _
  exact contract H enc W base args ds gs before hval hW hz
theorem proved : Rows.FrameBehindSaid :=
  OpenClaim.holds_of_wide 6 Try.f6 rfl rfl rfl rfl rfl rfl rfl ⟨rfl, rfl, rfl, rfl, rfl⟩ rfl rfl rfl rfl rfl (by kernel_rfl) Try.func6 (by kernel_rfl)
    (of_decide_eq_true (by kernel_rfl)) (by unfold Func.isWrapper; first | (rw [if_pos (by decide +kernel)]; kernel_rfl) | (rw [if_neg (by decide +kernel)]; exact ⟨rfl, rfl⟩))
    (fun os started H enc _ => lifted os started H enc)
end lawFrameBehind
end Go.Proofs.Ytbbneefcjancbaa

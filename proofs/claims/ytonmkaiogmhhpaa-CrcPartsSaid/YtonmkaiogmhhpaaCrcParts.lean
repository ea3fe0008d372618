/-
  hedgerowlaw03.CrcParts returns true for every input: the sum of bytes in two parts does not hang on where they are cut (no condition).
-/
import Derived.Test.YtonmkaiogmhhpaaCrcLaw
import Derived.Test.YtonmkaiogmhhpaaBytes
namespace Go.Proofs.Ytonmkaiogmhhpaa
open Go.ChangeShapes Go.WideShapes Go.RowKit
namespace Crc

set_option maxHeartbeats 2000000 in
set_option maxRecDepth 100000 in
theorem parts (w : World) (A B : Option Addr) (n c m d : Nat) (l k : List UInt8) (hn : n ≤ 140737488351232) (hm : m ≤ 140737488351232)
    (hl : Reads w (fun b => b < w.heap.size) 1 A n (u8s l)) (hk : Reads w (fun b => b < w.heap.size) 1 B m (u8s k)) :
    Calls Try.prog 5 #[.slice A n c, .slice B m d] w fun e w' => LawEnd w e w' := by
  have hnl := hl.u8len
  have hml := hk.u8len
  have HN := Lib.hid hnl
  have HM := Lib.hid hml
  clear hnl hml
  by_cases hbig : 500 < (n : Int) + m
  · go_enter Try.func5, Try.ntmps5
    go_wp2_with fail
    refine (fixed _).mono ?_
    rintro e w1 ⟨rfl, hn1⟩
    go_wp2
    go_ret
    exact ⟨rfl, hn1⟩
  · go_enter Try.func5, Try.ntmps5
    go_wp2_with fail
    refine (fixed _).mono ?_
    rintro e w1 ⟨rfl, hn1⟩
    have hl1 := hl.chg hn1 (fun b hb => ⟨hb, id⟩)
    have hk1 := hk.chg hn1 (fun b hb => ⟨hb, id⟩)
    have hz1 := hn1.size
    go_wp2_with (at_builtin; refine stop ?_)
    delta Stop
    refine append_u8 _ rfl (.tmp 17) (.tmp 18) rfl w1.heap.size (.slice (some ⟨w1.heap.size, 0, none⟩) 0 0) [] rfl (OwnB.empty (Nat.le_refl _)) _ A n c l rfl (hl1.chg ((Chg.refl (fun _ => False) _).alloc _) (fun b hb => ⟨by omega, id⟩)) (by simp; omega) (by simp) ?_
    intro v2 w2 ho2 hg2 hat2
    have hn2 : New w1 w2 := ((Chg.refl _ _).alloc _).grown hg2 (fun g hg hlt => by simp [Value.ownBlock] at hg; omega)
    go_wp2_with (at_builtin; refine stop ?_)
    delta Stop
    refine append_u8 _ rfl (.tmp 19) (.tmp 20) rfl w1.heap.size v2 _ rfl ho2 _ B m d k rfl (hk1.chg hn2 (fun b hb => ⟨by omega, id⟩)) (by rw [List.nil_append, HN.out]; omega) hn2.size ?_
    intro v3 w3 ho3 hg3 hat3
    have hn3 : New w1 w3 := hn2.grown hg3 (fun g hg hlt => by rcases hat2 with e | e <;> rw [e] at hg <;> simp [Value.ownBlock] at hg <;> omega)
    obtain ⟨z, hz⟩ : ∃ z, z = l ++ k := ⟨_, rfl⟩
    rw [List.nil_append, ← hz] at ho3
    have hzl : z.length = n + m := by rw [hz, List.length_append, HN.out, HM.out]
    have HZ := Lib.hid hz
    clear hz
    obtain ⟨A3, c3, rfl, hc3, hm3, _, hr3⟩ := ho3.form
    have hN : z.length ≤ 500 := by omega
    have hN0 : z.length ≤ maxLen := by simp only [maxLen]; omega
    have hr3 : Reads w3 (fun b => b < w3.heap.size) 1 A3 z.length (u8s z) := hr3.mono (fun b h => h.2.1)
    clear ho3 hzl hg3 hat3 ho2 hg2 hat2
    generalize hzn : z.length = N at hr3 hc3 hN hN0 ⊢
    have HN' := Lib.hid hzn
    clear hzn
    go_wp2_with fail
    refine (new_ _).mono ?_
    rintro e w4 ⟨s, rfl, hs4, hsum, hn4⟩
    have hn4' := hn3.trans hn4 (fun _ _ => False.elim)
    have h34 := hn4.size
    have h13 := hn3.size
    go_wp2_with fail
    refine (add w4 s _ _ A n c l hsum (by omega) (hl1.chg hn4' (fun b hb => ⟨by omega, id⟩)) (by omega) (by simp only [maxLen]; omega)).mono ?_
    rintro e w5 ⟨rfl, hsum5, hu5⟩
    have hn5 : New w1 w5 := hn4'.trans hu5 (fun i hi e => by omega)
    go_wp2_with fail
    refine (add w5 s _ _ B m d k hsum5 (updL_lt _ (by omega)) (hk1.chg hn5 (fun b hb => ⟨by omega, id⟩)) (by omega) (by simp only [maxLen]; omega)).mono ?_
    rintro e w6 ⟨rfl, hsum6, hu6⟩
    have hu6' : Upd s w4 w6 := hu5.trans hu6 (fun i _ e => e)
    have hn6 : New w1 w6 := hn5.trans hu6 (fun i hi e => by omega)
    go_wp2_with fail
    refine (new_ _).mono ?_
    rintro e w7 ⟨t, rfl, ht7, htsum, hn7⟩
    have hn7' := hn6.trans hn7 (fun _ _ => False.elim)
    have hsum7 := hsum6.new hn7
    rw [← updL_append] at hsum7
    have hn37 : New w3 w7 := (hn4.trans hu6' (fun i hi e => by omega)).trans hn7 (fun _ _ => False.elim)
    have h47 := hu6'.size
    have hst : s ≠ t := by have := hsum.lt; omega
    go_wp2
    go_loopw [30] (fun i wr => ∃ j : Nat, j ≤ N ∧ i = .int .i64 j ∧ SumAt wr s (updL 4294967295 (l ++ k)) ∧ SumAt wr t (updL 4294967295 (z.take j)) ∧ New w3 wr ∧ New w1 wr) (fun i _ => N - (intOf i).toNat)
    case atStart => exact ⟨0, by omega, rfl, hsum7, htsum, hn37, hn7'⟩
    case round =>
      obtain ⟨j, hj, rfl, hs, ht, hn3r, hn1r⟩ := hrel
      by_cases hlt : j < N
      · have e1 := slice_u8_mid A3 N c3 j (j + 1) (by omega) (by omega)
        have hr := hr3.chg hn3r (fun b hb => ⟨hb, id⟩)
        simp only [Int.natCast_add, Int.natCast_one] at e1
        go_wp2_with fail
        have hrj : Reads wr (fun b => b < w3.heap.size) 1 (A3.map (·.add j)) 1 (u8s ((z.drop j).take 1)) := (hr.cutB_lt (k := j) hlt hc3).takeB (k := 1) (by omega)
        refine (add wr t _ _ _ 1 _ _ ht (updL_lt _ (by omega)) hrj (by omega) (by simp [maxLen])).mono ?_
        rintro e w8 ⟨rfl, ht8, hu8⟩
        have hs8 := hs.other ht hst hu8
        go_wp2
        go_roundw
        case rel =>
          refine ⟨j + 1, by omega, by go_num, hs8, ?_, hn3r.trans hu8 (fun i hi e => by omega), hn1r.trans hu8 (fun i hi e => by omega)⟩
          rw [List.take_add, updL_append]
          exact ht8
        case measure => simp [intOf]; omega
      · obtain rfl : j = N := by omega
        have hzt : z.take j = z := List.take_of_length_le (by rw [HN'.out]; exact Nat.le_refl _)
        rw [hzt, HZ.out] at ht
        clear hzt
        have hs' := updL_lt (l ++ k) (show 4294967295 < 4294967296 by omega)
        have cs := value wr s _ hs hs'
        have ct := value wr t _ ht hs'
        rw [show 4294967295 - updL 4294967295 (l ++ k) = sum (l ++ k) from rfl] at cs ct
        go_wp2_with fail
        refine cs.mono ?_
        rintro e w8 ⟨rfl, rfl⟩
        go_wp2_with fail
        refine ct.mono ?_
        rintro e w8 ⟨rfl, rfl⟩
        have co := of_ wr _ A3 j c3 z (hr3.chg hn3r (fun b hb => ⟨hb, id⟩)) (fun b hb => by have := hn3r.size; omega) hN0
        rw [HZ.out] at co
        go_wp2_with fail
        refine co.mono ?_
        rintro e w8 ⟨rfl, hn8⟩
        have cs8 := value w8 s _ (hs.new hn8) hs'
        rw [show 4294967295 - updL 4294967295 (l ++ k) = sum (l ++ k) from rfl] at cs8
        go_wp2_with fail
        refine cs8.mono ?_
        rintro e w9 ⟨rfl, rfl⟩
        go_wp2_with fail
        refine cs8.mono ?_
        rintro e w9 ⟨rfl, rfl⟩
        go_wp2_with fail
        refine (bytes w8 _ (sum_lt _)).mono ?_
        rintro e w9 ⟨rfl, rfl⟩
        go_wp2
        go_ret
        exact ⟨rfl, hn1.trans ((hn1r.trans hn8 (fun _ _ => False.elim)).alloc _) (fun _ _ => False.elim)⟩

theorem parts_args {H : Type} {enc : TypeId × Value → H} {W : World} {base : Nat} {args : Array Value} {ds : List (DataW H)} {ps : List MemPlace}
    (hval : ∀ (j : Nat) t v, Try.f5.params[j]? = some t → args[j]? = some v → Value.okWide Try.prog W .any base t v)
    (hw : ∀ (j : Nat) t d, Try.f5.params.toList[j]? = some t → ds[j]? = some d → ∀ n ∈ d.weights Try.prog t, n ≤ reachBytes)
    (hA : DataW.TrodAll enc Try.prog W 0 (fun _ => true) true Try.f5.params.toList args.toList ds ps) :
    Calls Try.prog 5 args W fun e w' => LawEnd W e w' := by
  rw [Try.params5] at hA hval hw
  obtain ⟨v0, v1, d0, d1, p0, p1, rfl, rfl, rfl, h0, h1⟩ := trodAll_two hA
  have o0 := hval 0 _ v0 rfl rfl
  have q0 := hw 0 _ d0 rfl rfl
  have o1 := hval 1 _ v1 rfl rfl
  have q1 := hw 1 _ d1 rfl rfl
  obtain ⟨A, n, c, l, rfl, _, hnc, hc, hl⟩ := open_u8s Try.underlying22 Try.underlying5 (by kernel_rfl) (by kernel_rfl) (cells_slice Try.underlying22 o0) q0 h0
  obtain ⟨A2, n2, c2, l2, rfl, _, hnc2, hc2, hl2⟩ := open_u8s Try.underlying22 Try.underlying5 (by kernel_rfl) (by kernel_rfl) (cells_slice Try.underlying22 o1) q1 h1
  exact parts W A A2 n c n2 c2 l l2 (by omega) (by omega) hl hl2
end Crc

namespace lawCrcParts
theorem own : ownKnob Try.prog.godebug = none := by kernel_rfl
theorem laidOut : laidOutB Try.prog = true := by kernel_rfl
theorem reads : ∀ t ∈ Try.f5.params.toList, Try.prog.readableRec t = true ∧ t < Try.prog.types.size := by
  have h : (Try.f5.params.toList.all fun t => Try.prog.readableRec t && decide (t < Try.prog.types.size)) = true := by kernel_rfl
  intro t ht
  have := List.all_eq_true.1 h t ht
  simpa using this
theorem spec {H : Type} (ds : List (DataW H)) (h : ds.length = 2) : Rows.crcPartsSpec.fn H ds = { results := [.lit (.bool true)], args := ds } := by
  match ds, h with
  | [d1, d2], _ => rfl
theorem trodAll_len {H : Type} {enc : TypeId × Value → H} {P : Program} {w : World} {base : Nat} {sp : Nat → Bool} {held : Bool} : ∀ (ts : List TypeId) (vs : List Value) (ds : List (DataW H)) (ps : List MemPlace),
    DataW.TrodAll enc P w base sp held ts vs ds ps → ds.length = ts.length
  | [], _, _, _, h => by
    obtain ⟨_, rfl, _⟩ := trodAll_nil h
    rfl
  | _ :: ts, _, _, _, h => by
    obtain ⟨_, vs, _, ds, _, _, _, rfl, _, _, hr⟩ := trodAll_cons h
    simp [trodAll_len ts vs ds _ hr]
theorem contract (H : Type) (enc : TypeId × Value → H) (W : World) (base : Nat) (args : Array Value) (ds gs : List (DataW H)) (before : List MemPlace)
    (hval : ∀ (j : Nat) t v, Try.f5.params[j]? = some t → args[j]? = some v → Value.okWide Try.prog W .any base t v)
    (hW : DataW.Whole enc Try.prog Try.f5.params.toList Rows.crcPartsSpec.vars false W args.toList ds gs before)
    (hz : (DataW.weightsEach Try.prog (Try.f5.params.toList ++ Rows.crcPartsSpec.plain.varTypes Try.prog) (ds ++ gs)).all (· ≤ reachBytes) = true) :
    Calls Try.prog 5 args W fun e W' => ∃ v, e = .returned v ∧ Rows.crcPartsSpec.post enc Try.prog Try.f5 false true false false W args v W' := by
  obtain ⟨p, q, hA, hV, _⟩ := id hW
  have hlen : ds.length = 2 := (trodAll_len _ _ _ _ hA).trans (by kernel_rfl)
  have hV1 : DataW.TrodVars enc Try.prog W (fun _ => true) [] gs q := hV
  obtain ⟨rfl, rfl⟩ := trodVars_none hV1
  have hw : ∀ (j : Nat) t d, Try.f5.params.toList[j]? = some t → ds[j]? = some d → ∀ n ∈ d.weights Try.prog t, n ≤ reachBytes := by
    intro j t d ht hd n hn
    rw [List.append_nil] at hz
    have hlt : j < Try.f5.params.toList.length := (List.getElem?_eq_some_iff.1 ht).1
    have := List.all_eq_true.1 hz n (DataW.weights_mem_each (by rw [List.getElem?_append_left hlt]; exact ht) hd n hn)
    simpa using this
  refine (Crc.parts_args hval hw hA).mono fun e W' ⟨he, hn⟩ => ?_
  exact ⟨_, he, law_post laidOut (tb := 4) rfl Try.underlying4 reads rfl hW (spec ds hlen) hn.below⟩
set_option maxRecDepth 100000 in
theorem lifted (os : Os) (started : os.Started) (H : Type) (enc : TypeId × Value → H) :
    ReturnsInHanded {} Try.checked os 5 .any (Rows.crcPartsSpec.pre6 enc Try.prog Try.f5 Rows.crcPartsRow.domain false) (Rows.crcPartsSpec.post enc Try.prog Try.f5 false true false false) := by
  refine returnsInHanded_of_change_sized (C := Try.checked) own started (by kernel_rfl) Try.func5
    (ChangeSpec.witness6 (enc := enc) (C := Try.checked) (s := Rows.crcPartsSpec) false ⟨#[], #[.slice none 0 0, .slice none 0 0], []⟩ 60 (by kernel_rfl) (by kernel_rfl) (by kernel_rfl) (by kernel_rfl)) ?_
  intro W base args ds gs before hval hW _ hz _
  exact contract H enc W base args ds gs before hval hW hz
theorem proved : Rows.CrcPartsSaid :=
  OpenClaim.holds_of_wide 5 Try.f5 rfl rfl rfl rfl rfl rfl rfl ⟨rfl, rfl, rfl, rfl, rfl⟩ rfl rfl rfl rfl rfl (by kernel_rfl) Try.func5 (by kernel_rfl)
    (of_decide_eq_true (by kernel_rfl)) (by unfold Func.isWrapper; first | (rw [if_pos (by decide +kernel)]; kernel_rfl) | (rw [if_neg (by decide +kernel)]; exact ⟨rfl, rfl⟩))
    (fun os started H enc _ => lifted os started H enc)
end lawCrcParts
end Go.Proofs.Ytonmkaiogmhhpaa

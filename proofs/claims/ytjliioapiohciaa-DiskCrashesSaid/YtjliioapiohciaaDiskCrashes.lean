/-
  hedgerowlaw10.DiskCrashes returns true for every input: what is synced stays, whatever is lost of the rest; nothing comes that wasn't written (no condition).
-/
import Derived.Test.YtjliioapiohciaaDiskLaw
namespace Go.Proofs.Ytjliioapiohciaa
open Go.ChangeShapes Go.WideShapes Go.RowKit
namespace Disk
theorem cr1 (xs : List UInt8) (h : xs.length ≤ 500) : writeE fresh xs.length = 0 ∧ writeF fresh xs = ⟨xs, 0⟩ := by
  unfold writeE writeF
  rw [if_neg (by simp only [fresh, List.length_nil]; omega), if_neg (by simp only [fresh, List.length_nil]; omega)]
  exact ⟨rfl, rfl⟩
theorem cr2 (xs ys : List UInt8) (h : xs.length + ys.length ≤ 500) : writeF ⟨xs, xs.length⟩ ys = ⟨xs ++ ys, xs.length⟩ := by
  unfold writeF
  rw [if_neg (by simp only; omega)]
theorem cr3 (xs ys : List UInt8) (keep : Int) (k : Nat) (hk : min keep.toNat ys.length = k) : crashF ⟨xs ++ ys, xs.length⟩ keep (-1) 255 = ⟨(xs ++ ys).take (xs.length + k), xs.length⟩ := by
  refine crash_nil ?_ (.inl (by omega))
  unfold keepN
  simp only [List.length_append]
  rw [← hk]
  congr 1
  omega
set_option maxHeartbeats 4000000 in
set_option maxRecDepth 100000 in
theorem crashes (w : World) (A B : Option Addr) (n c m d : Nat) (xs ys : List UInt8) (keep : Int) (hn : n ≤ 140737488351232) (hm : m ≤ 140737488351232)
    (hl : Reads w (fun b => b < w.heap.size) 1 A n (u8s xs)) (hl2 : Reads w (fun b => b < w.heap.size) 1 B m (u8s ys)) :
    Calls Try.prog 5 #[.slice A n c, .slice B m d, .int .i64 keep] w fun e w' => LawEnd w e w' := by
  by_cases hbig : 500 < (n : Int) + (m : Int)
  · go_enter Try.func5, Try.ntmps5
    go_wp2_with fail
    refine (fixed _).mono ?_
    rintro e w1 ⟨rfl, n1⟩
    go_wp2
    go_ret
    exact ⟨rfl, n1⟩
  · have hx := hl.u8len
    have hy := hl2.u8len
    have HX := Lib.hid hx
    have HY := Lib.hid hy
    have S1 := Lib.hid (cr1 xs (by omega))
    have S2 := Lib.hid (cr2 xs ys (by omega))
    clear hx hy
    go_enter Try.func5, Try.ntmps5
    go_wp2_with fail
    refine (fixed _).mono ?_
    rintro e w1 ⟨rfl, n1⟩
    go_wp2_with fail
    refine (new_ _).mono ?_
    rintro e w2 ⟨rfl, h2, n2⟩
    have n12 := n1.trans n2 (fun _ _ => False.elim)
    go_wp2_with fail
    have k1 := write _ _ _ _ _ h2 A n c xs _ (hl.chg n12 (fun b hb => ⟨hb, id⟩)) (by omega)
    rw [S1.out.2] at k1
    refine k1.mono ?_
    clear k1
    rintro e w3 ⟨rfl, v3, h3, c3, b3⟩
    have n3 := h2.newF n12 c3 n1.size
    clear h2 n2 n12 c3 b3
    have hlo := n1.size
    generalize w1.heap.size = b at *
    go_wp2_with fail
    refine (sync _ _ _ _ _ h3).mono ?_
    rintro e w4 ⟨rfl, h4, c4⟩
    have n4 : New w w4 := n3.trans c4 (fun i hi e => by omega)
    clear h3 n3 c4
    go_wp2_with fail
    have k1 := write _ _ _ _ _ h4 B m d ys _ (hl2.chg n4 (fun b hb => ⟨hb, id⟩)) (by omega)
    rw [show writeF (syncF ⟨xs, 0⟩) ys = ⟨xs ++ ys, xs.length⟩ from S2.out] at k1
    refine k1.mono ?_
    clear k1
    rintro e w5 ⟨rfl, v5, h5, c5, b5⟩
    have n5 := h4.newF n4 c5 hlo
    clear h4 n4 c5 b5
    go_wp2_with fail
    obtain ⟨k, hk⟩ : ∃ k, min keep.toNat ys.length = k := ⟨_, rfl⟩
    have k1 := crash _ _ _ _ _ h5 keep (-1) 255 (by omega) (by omega)
    rw [cr3 xs ys keep k hk] at k1
    refine k1.mono ?_
    clear k1
    rintro e w6 ⟨rfl, v6, _, h6, c6⟩
    have n6 := h5.newF n5 c6 hlo
    clear h5 n5 c6
    go_wp2_with fail
    refine (bytes _ _ _ _ _ h6).mono ?_
    rintro e w7 ⟨u, rfl, ho, c7⟩
    have q7 := bstr ho _ rfl
    have n7 := n6.trans c7 (fun _ _ => False.elim)
    have h7 := h6.new c7
    have hs1 := run_str (P := Try.prog) Try.underlying26 Try.underlying5 Try.underlying9 (hl.chg n7 (fun b hb => ⟨hb, id⟩)) c
    have hs2 := run_str (P := Try.prog) Try.underlying26 Try.underlying5 Try.underlying9 (hl2.chg n7 (fun b hb => ⟨hb, id⟩)) d
    clear ho h6 c7 n6
    rw [HY.out] at hk
    by_cases h0 : keep < 0
    · have hk0 : xs.length + k = n := by rw [HX.out]; omega
      have hq := (cut_cat xs ys (n)).symm
      rw [hk0] at q7 h7
      have hcat : ¬ 9223372036854775807 < xs.length + ys.length := by rw [HX.out, HY.out]; omega
      have hb2 : ((n : Nat) : Int) ≤ (xs.length : Int) + (ys.length : Int) := by rw [HX.out, HY.out]; omega
      have k1 := synced _ _ _ _ _ h7
      simp only [HX.out] at k1
      clear hk hk0
      go_wp2_with fail
      refine k1.mono ?_
      clear k1
      rintro e w8 ⟨rfl, rfl⟩
      go_wp2
      go_ret
      exact ⟨rfl, n7⟩
    · by_cases h1 : (m : Int) < keep
      · have hk0 : xs.length + k = n + m := by rw [HX.out]; omega
        have hq := (cut_cat xs ys (n + m)).symm
        rw [hk0] at q7 h7
        have hcat : ¬ 9223372036854775807 < xs.length + ys.length := by rw [HX.out, HY.out]; omega
        have hb2 : ((n + m : Nat) : Int) ≤ (xs.length : Int) + (ys.length : Int) := by rw [HX.out, HY.out]; omega
        have k1 := synced _ _ _ _ _ h7
        simp only [HX.out] at k1
        clear hk hk0
        go_wp2_with fail
        refine k1.mono ?_
        clear k1
        rintro e w8 ⟨rfl, rfl⟩
        go_wp2
        go_ret
        exact ⟨rfl, n7⟩
      · obtain ⟨q, rfl⟩ := Int.eq_ofNat_of_zero_le (show 0 ≤ keep by omega)
        have hk0 : xs.length + k = n + q := by rw [HX.out]; omega
        have hq := (cut_cat xs ys (n + q)).symm
        rw [hk0] at q7 h7
        have hcat : ¬ 9223372036854775807 < xs.length + ys.length := by rw [HX.out, HY.out]; omega
        have hb2 : ((n + q : Nat) : Int) ≤ (xs.length : Int) + (ys.length : Int) := by rw [HX.out, HY.out]; omega
        have k1 := synced _ _ _ _ _ h7
        simp only [HX.out] at k1
        clear hk hk0
        go_wp2_with fail
        refine k1.mono ?_
        clear k1
        rintro e w8 ⟨rfl, rfl⟩
        go_wp2
        go_ret
        exact ⟨rfl, n7⟩

theorem crashes_args {H : Type} {enc : TypeId × Value → H} {W : World} {base : Nat} {args : Array Value} {ds : List (DataW H)} {ps : List MemPlace}
    (hval : ∀ (j : Nat) t v, Try.f5.params[j]? = some t → args[j]? = some v → Value.okWide Try.prog W .any base t v)
    (hw : ∀ (j : Nat) t d, Try.f5.params.toList[j]? = some t → ds[j]? = some d → ∀ n ∈ d.weights Try.prog t, n ≤ reachBytes)
    (hA : DataW.TrodAll enc Try.prog W 0 (fun _ => true) true Try.f5.params.toList args.toList ds ps) :
    Calls Try.prog 5 args W fun e w' => LawEnd W e w' := by
  rw [Try.params5] at hA hval hw
  obtain ⟨v0, v1, v2, d0, d1, d2, p0, p1, p2, rfl, rfl, rfl, h0, h1, h2⟩ := trodAll_three hA
  have o0 := hval 0 _ v0 rfl rfl
  have q0 := hw 0 _ d0 rfl rfl
  have o1 := hval 1 _ v1 rfl rfl
  have q1 := hw 1 _ d1 rfl rfl
  have o2 := hval 2 _ v2 rfl rfl
  have q2 := hw 2 _ d2 rfl rfl
  obtain ⟨A, n, c, xs, rfl, _, hnc, hc, hl⟩ := open_u8s Try.underlying26 Try.underlying5 (by kernel_rfl) (by kernel_rfl) (cells_slice Try.underlying26 o0) q0 h0
  obtain ⟨B, m, d, ys, rfl, _, hmd, hd, hl2⟩ := open_u8s Try.underlying26 Try.underlying5 (by kernel_rfl) (by kernel_rfl) (cells_slice Try.underlying26 o1) q1 h1
  obtain ⟨keep, rfl, _⟩ := open_int Try.underlying3 o2 h2
  exact crashes W A B n c m d xs ys keep (by omega) (by omega) hl hl2
end Disk

namespace lawDiskCrashes
theorem own : ownKnob Try.prog.godebug = none := by kernel_rfl
theorem laidOut : laidOutB Try.prog = true := by kernel_rfl
theorem reads : ∀ t ∈ Try.f5.params.toList, Try.prog.readableRec t = true ∧ t < Try.prog.types.size := by
  have h : (Try.f5.params.toList.all fun t => Try.prog.readableRec t && decide (t < Try.prog.types.size)) = true := by kernel_rfl
  intro t ht
  have := List.all_eq_true.1 h t ht
  simpa using this
theorem spec {H : Type} (ds : List (DataW H)) (h : ds.length = 3) : Rows.diskCrashesSpec.fn H ds = { results := [.lit (.bool true)], args := ds } := by
  match ds, h with
  | [d1, d2, d3], _ => rfl
theorem trodAll_len {H : Type} {enc : TypeId × Value → H} {P : Program} {w : World} {base : Nat} {sp : Nat → Bool} {held : Bool} : ∀ (ts : List TypeId) (vs : List Value) (ds : List (DataW H)) (ps : List MemPlace),
    DataW.TrodAll enc P w base sp held ts vs ds ps → ds.length = ts.length
  | [], _, _, _, h => by
    obtain ⟨_, rfl, _⟩ := trodAll_nil h
    rfl
  | _ :: ts, _, _, _, h => by
    obtain ⟨_, vs, _, ds, _, _, _, rfl, _, _, hr⟩ := trodAll_cons h
    simp [trodAll_len ts vs ds _ hr]
theorem contract (H : Type) (enc : TypeId × Value → H) (W : World) (base : Nat) (args : Array Value) (ds gs : List (DataW H)) (before : List MemPlace)
    (hval : ∀ (j : Nat) t v, Try.f5.params[j]? = some t → args[j]? = some v → Value.okWide Try.prog W .any base t v)
    (hW : DataW.Whole enc Try.prog Try.f5.params.toList Rows.diskCrashesSpec.vars false W args.toList ds gs before)
    (hz : (DataW.weightsEach Try.prog (Try.f5.params.toList ++ Rows.diskCrashesSpec.plain.varTypes Try.prog) (ds ++ gs)).all (· ≤ reachBytes) = true) :
    Calls Try.prog 5 args W fun e W' => ∃ v, e = .returned v ∧ Rows.diskCrashesSpec.post enc Try.prog Try.f5 false true false false W args v W' := by
  obtain ⟨p, q, hA, hV, _⟩ := id hW
  have hlen : ds.length = 3 := (trodAll_len _ _ _ _ hA).trans (by kernel_rfl)
  have hV1 : DataW.TrodVars enc Try.prog W (fun _ => true) [] gs q := hV
  obtain ⟨rfl, rfl⟩ := trodVars_none hV1
  have hw : ∀ (j : Nat) t d, Try.f5.params.toList[j]? = some t → ds[j]? = some d → ∀ n ∈ d.weights Try.prog t, n ≤ reachBytes := by
    intro j t d ht hd n hn
    rw [List.append_nil] at hz
    have hlt : j < Try.f5.params.toList.length := (List.getElem?_eq_some_iff.1 ht).1
    have := List.all_eq_true.1 hz n (DataW.weights_mem_each (by rw [List.getElem?_append_left hlt]; exact ht) hd n hn)
    simpa using this
  refine (Disk.crashes_args hval hw hA).mono fun e W' ⟨he, hn⟩ => ?_
  exact ⟨_, he, law_post laidOut (tb := 4) rfl Try.underlying4 reads rfl hW (spec ds hlen) hn.below⟩
set_option maxRecDepth 100000 in
theorem lifted (os : Os) (started : os.Started) (H : Type) (enc : TypeId × Value → H) :
    ReturnsInHanded {} Try.checked os 5 .any (Rows.diskCrashesSpec.pre6 enc Try.prog Try.f5 Rows.diskCrashesRow.domain false) (Rows.diskCrashesSpec.post enc Try.prog Try.f5 false true false false) := by
  refine returnsInHanded_of_change_sized (C := Try.checked) own started (by kernel_rfl) Try.func5
    (ChangeSpec.witness6 (enc := enc) (C := Try.checked) (s := Rows.diskCrashesSpec) false ⟨#[], #[.slice none 0 0, .slice none 0 0, .int .i64 0], []⟩ 60 (by kernel_rfl) (by kernel_rfl) (by kernel_rfl) (by kernel_rfl)) ?_
  intro W base args ds gs before hval hW _ hz _
  exact contract H enc W base args ds gs before hval hW hz
theorem proved : Rows.DiskCrashesSaid :=
  OpenClaim.holds_of_wide 5 Try.f5 rfl rfl rfl rfl rfl rfl rfl ⟨rfl, rfl, rfl, rfl, rfl⟩ rfl rfl rfl rfl rfl (by kernel_rfl) Try.func5 (by kernel_rfl)
    (of_decide_eq_true (by kernel_rfl)) (by unfold Func.isWrapper; first | (rw [if_pos (by decide +kernel)]; kernel_rfl) | (rw [if_neg (by decide +kernel)]; exact ⟨rfl, rfl⟩))
    (fun os started H enc _ => lifted os started H enc)
end lawDiskCrashes
end Go.Proofs.Ytjliioapiohciaa

/-
  hedgerowlaw10.DiskFull returns true for every input: no more is written than may be; what doesn't fit changes nothing (no condition).
-/
import Derived.Test.YtjliioapiohciaaDiskLaw
import Derived.Test.YtjliioapiohciaaOpen
namespace Go.Proofs.Ytjliioapiohciaa
open Go.ChangeShapes Go.WideShapes Go.RowKit
namespace Disk
/-- n bytes 0 -/
def zs (n : Nat) : List UInt8 := List.replicate n 0
theorem zs_length (n : Nat) : (zs n).length = n := by simp [zs]
theorem made_u8 (n : Nat) : madeCells (Value.int .u8 0).cells (n * 1) = (u8s (zs n)).toArray := by
  have h : (Value.int .u8 0).cells = #[Value.int .u8 0] := rfl
  apply Array.ext_getElem?
  intro j
  rw [h]
  by_cases hj : j < n
  · simp [madeCells, u8s, zs, hj, Nat.mod_one]
  · simp [madeCells, u8s, zs, hj]
theorem make_u8 (n : Nat) (hn : n ≤ 1099511627776) (w : World) : (Instr.makeSlice 26 (.int .i64 (n : Int)) (.int .i64 (n : Int))).run Try.prog w = .ok (.slice (some ⟨w.heap.size, 0, none⟩) n n) (w.alloc (.cells (u8s (zs n)).toArray 5)) := by
  obtain ⟨i, hi, hz0, hz1, hz2⟩ := info_parts u8info
  have := run_make (P := Try.prog) w 26 5 i (.int .u8 0) Try.underlying26 hi hz0 .i64 .i64 n n (by omega) (Int.le_refl _) (by rw [hz2]; omega) (by omega)
  rw [hz1, Int.toNat_natCast] at this
  rw [this, made_u8]
theorem fu1 (q : Nat) (hq : q < 2000) : writeE fresh (1048576 - q) = 0 ∧ writeF fresh (zs (1048576 - q)) = ⟨zs (1048576 - q), 0⟩ := by
  unfold writeE writeF
  rw [zs_length, if_neg (by simp only [fresh, List.length_nil]; omega), if_neg (by simp only [fresh, List.length_nil]; omega)]
  exact ⟨rfl, rfl⟩
theorem fu2 (q r : Nat) (hq : q < 2000) : writeE ⟨zs (1048576 - q), 0⟩ r = (if q < r then 6 else 0) ∧ (writeF ⟨zs (1048576 - q), 0⟩ (zs r)).b.length = 1048576 - q + (if q < r then 0 else r) := by
  unfold writeE writeF
  simp only [zs_length]
  by_cases h : q < r
  · rw [if_pos (by omega), if_pos h, if_pos (by omega), if_pos h]
    exact ⟨rfl, by simp only [zs_length]; omega⟩
  · rw [if_neg (by omega), if_neg h, if_neg (by omega), if_neg h]
    exact ⟨rfl, by simp only [List.length_append, zs_length]⟩
theorem fu3 (d : Dsk) : resetE 1048577 = 6 ∧ resetF d (zs 1048577) = d := by
  unfold resetE resetF
  rw [zs_length, if_pos (by omega), if_pos (by omega)]
  exact ⟨rfl, rfl⟩
set_option maxHeartbeats 4000000 in
set_option maxRecDepth 100000 in
theorem full (w : World) (f m : Nat) (hf : f < 65536) (hm : m < 65536) :
    Calls Try.prog 4 #[.int .u16 (f : Int), .int .u16 (m : Int)] w fun e w' => LawEnd w e w' := by
  obtain ⟨q, hq⟩ : ∃ q, f % 2000 = q := ⟨_, rfl⟩
  obtain ⟨r, hr⟩ : ∃ r, m % 4000 = r := ⟨_, rfl⟩
  have hq2 : q < 2000 := by omega
  have hr2 : r < 4000 := by omega
  have eq_ : (f : Int) % 2000 = (q : Int) := by omega
  have er : (m : Int) % 4000 = (r : Int) := by omega
  have e1 : ((1048576 - q : Nat) : Int) = 1048576 - (q : Int) := by omega
  have m1 := make_u8 (1048576 - q) (by omega)
  rw [e1] at m1
  have m2 := make_u8 r (by omega)
  have m3 := make_u8 1048577 (by omega)
  rw [show ((1048577 : Nat) : Int) = 1048577 from rfl] at m3
  have S1 := Lib.hid (fu1 q hq2)
  have S2 := Lib.hid (fu2 q r hq2)
  have E1 := Lib.hid e1
  clear e1 hq hr
  go_enter Try.func4, Try.ntmps4
  go_wp2_with fail
  refine (fixed _).mono ?_
  rintro e w1 ⟨rfl, n1⟩
  go_wp2_with fail
  refine (new_ _).mono ?_
  rintro e w2 ⟨rfl, h2, n2⟩
  have n12 := n1.trans n2 (fun _ _ => False.elim)
  have hl1 := Reads.lit w2 (zs (1048576 - q)) (0, 0)
  rw [zs_length] at hl1
  have HL1 := Lib.hid hl1
  have h2' := h2.new ((Chg.refl (fun _ => False) w2).alloc (.cells (u8s (zs (1048576 - q))).toArray 5))
  have n12' := n12.alloc (.cells (u8s (zs (1048576 - q))).toArray 5)
  clear hl1
  generalize hz1 : zs (1048576 - q) = z1 at *
  have HZ1 := Lib.hid hz1
  clear hz1
  go_wp2_with fail
  generalize w2.alloc (.cells (u8s z1).toArray 5) = w3 at *
  have k1 := write _ _ _ _ _ h2' (some ⟨w2.heap.size, 0, none⟩) (1048576 - q) (1048576 - q) z1 _ HL1.out (by omega)
  rw [S1.out.1, S1.out.2] at k1
  refine k1.mono ?_
  clear k1
  rintro e w4 ⟨rfl, v4, h4, c4, _⟩
  have n4 := h2'.newF n12' c4 n1.size
  have hlo := n1.size
  clear h2' n12' c4 n12 h2 n2 HL1
  generalize w1.heap.size = b at *
  have hl1 := Reads.lit w4 (zs r) (0, 0)
  rw [zs_length] at hl1
  have HL1 := Lib.hid hl1
  have h4' := h4.new ((Chg.refl (fun _ => False) w4).alloc (.cells (u8s (zs r)).toArray 5))
  have n4' := n4.alloc (.cells (u8s (zs r)).toArray 5)
  clear hl1 h4 n4
  generalize hz2 : zs r = z2 at *
  have HZ2 := Lib.hid hz2
  clear hz2
  go_wp2_with fail
  generalize w4.alloc (.cells (u8s z2).toArray 5) = w5 at *
  have k1 := write _ _ _ _ _ h4' (some ⟨w4.heap.size, 0, none⟩) r r z2 _ HL1.out (by omega)
  rw [S2.out.1] at k1
  refine k1.mono ?_
  clear k1
  rintro e w6 ⟨rfl, v6, h6, c6, _⟩
  have n6 := h4'.newF n4' c6 hlo
  clear h4' n4' c6 HL1
  obtain ⟨D, hD⟩ : ∃ D, writeF ⟨z1, 0⟩ z2 = D := ⟨_, rfl⟩
  rw [hD] at h6
  have hDl := S2.out.2
  rw [hD] at hDl
  have HDL := Lib.hid hDl
  clear hDl hD S2 S1
  have hD := h6.ok.2
  obtain ⟨L, hL⟩ : ∃ L, D.b.length = L := ⟨_, rfl⟩
  rw [hL] at hD
  have HL := Lib.hid hL
  have hT0 : (L : Int) = ((1048576 - q : Nat) : Int) + (if q < r then 0 else r) := by
    rw [← hL, HDL.out]
    split <;> omega
  have HT := Lib.hid hT0
  clear hL hT0
  by_cases hqr : (q : Int) < r
  · have e6 : (if q < r then (6 : Int) else 0) = 6 := if_pos (by omega)
    have hLb : ((L : Int) == ((1048576 - q : Nat) : Int)) = true := by
      have := HT.out
      rw [if_pos (by omega)] at this
      exact beq_iff_eq.2 (by omega)
    rw [e6]
    clear e6 HT
    go_wp2_with fail
    refine (bytes _ _ _ _ _ h6).mono ?_
    rintro e w7 ⟨u7, rfl, ho7, c7⟩
    obtain ⟨A7, d7, hu, _⟩ := ho7.form
    rw [HL.out] at hu
    subst hu
    have h7 := h6.new c7
    have n7 := n6.trans c7 (fun _ _ => False.elim)
    clear h6 n6 c7 ho7
    have hl1 := Reads.lit w7 (zs 1048577) (0, 0)
    rw [zs_length] at hl1
    have HL1 := Lib.hid hl1
    have h7' := h7.new ((Chg.refl (fun _ => False) w7).alloc (.cells (u8s (zs 1048577)).toArray 5))
    have n7' := n7.alloc (.cells (u8s (zs 1048577)).toArray 5)
    clear hl1 h7 n7
    have F3 := Lib.hid (fu3 D)
    generalize hz3 : zs 1048577 = z3 at *
    clear hz3
    go_wp2_with fail
    generalize w7.alloc (.cells (u8s z3).toArray 5) = w8 at *
    have k1 := reset _ _ _ _ _ h7' (some ⟨w7.heap.size, 0, none⟩) 1048577 1048577 z3 _ HL1.out (by omega)
    rw [F3.out.1, F3.out.2] at k1
    refine k1.mono ?_
    clear k1
    rintro e w9 ⟨rfl, v9, h9, c9, _⟩
    have n9 := h7'.newF n7' c9 hlo
    clear h7' n7' c9 HL1 F3
    go_wp2_with fail
    refine (bytes _ _ _ _ _ h9).mono ?_
    rintro e w10 ⟨u10, rfl, ho10, c10⟩
    obtain ⟨A10, d10, hu, _⟩ := ho10.form
    rw [HL.out] at hu
    subst hu
    have n10 := n9.trans c10 (fun _ _ => False.elim)
    clear h9 n9 c10 ho10
    go_wp2
    go_ret
    exact ⟨rfl, n10⟩
  · have e6 : (if q < r then (6 : Int) else 0) = 0 := if_neg (by omega)
    have key : (((L : Int) == ((1048576 - q : Nat) : Int)) = true ∧ ((r : Int) == 0) = true) ∨ (((L : Int) == ((1048576 - q : Nat) : Int)) = false ∧ ((r : Int) == 0) = false) := by
      have := HT.out
      rw [if_neg (by omega)] at this
      by_cases h : r = 0
      · exact .inl ⟨beq_iff_eq.2 (by omega), beq_iff_eq.2 (by omega)⟩
      · exact .inr ⟨beq_eq_false_iff_ne.2 (by omega), beq_eq_false_iff_ne.2 (by omega)⟩
    rw [e6]
    clear e6 HT
    rcases key with ⟨hLb, hr0⟩ | ⟨hLb, hr0⟩
    · go_wp2_with fail
      refine (bytes _ _ _ _ _ h6).mono ?_
      rintro e w7 ⟨u7, rfl, ho7, c7⟩
      obtain ⟨A7, d7, hu, _⟩ := ho7.form
      rw [HL.out] at hu
      subst hu
      have h7 := h6.new c7
      have n7 := n6.trans c7 (fun _ _ => False.elim)
      clear h6 n6 c7 ho7
      have hl1 := Reads.lit w7 (zs 1048577) (0, 0)
      rw [zs_length] at hl1
      have HL1 := Lib.hid hl1
      have h7' := h7.new ((Chg.refl (fun _ => False) w7).alloc (.cells (u8s (zs 1048577)).toArray 5))
      have n7' := n7.alloc (.cells (u8s (zs 1048577)).toArray 5)
      clear hl1 h7 n7
      have F3 := Lib.hid (fu3 D)
      generalize hz3 : zs 1048577 = z3 at *
      clear hz3
      go_wp2_with fail
      generalize w7.alloc (.cells (u8s z3).toArray 5) = w8 at *
      have k1 := reset _ _ _ _ _ h7' (some ⟨w7.heap.size, 0, none⟩) 1048577 1048577 z3 _ HL1.out (by omega)
      rw [F3.out.1, F3.out.2] at k1
      refine k1.mono ?_
      clear k1
      rintro e w9 ⟨rfl, v9, h9, c9, _⟩
      have n9 := h7'.newF n7' c9 hlo
      clear h7' n7' c9 HL1 F3
      go_wp2_with fail
      refine (bytes _ _ _ _ _ h9).mono ?_
      rintro e w10 ⟨u10, rfl, ho10, c10⟩
      obtain ⟨A10, d10, hu, _⟩ := ho10.form
      rw [HL.out] at hu
      subst hu
      have n10 := n9.trans c10 (fun _ _ => False.elim)
      clear h9 n9 c10 ho10
      go_wp2
      go_ret
      exact ⟨rfl, n10⟩
    · go_wp2_with fail
      refine (bytes _ _ _ _ _ h6).mono ?_
      rintro e w7 ⟨u7, rfl, ho7, c7⟩
      obtain ⟨A7, d7, hu, _⟩ := ho7.form
      rw [HL.out] at hu
      subst hu
      have h7 := h6.new c7
      have n7 := n6.trans c7 (fun _ _ => False.elim)
      clear h6 n6 c7 ho7
      have hl1 := Reads.lit w7 (zs 1048577) (0, 0)
      rw [zs_length] at hl1
      have HL1 := Lib.hid hl1
      have h7' := h7.new ((Chg.refl (fun _ => False) w7).alloc (.cells (u8s (zs 1048577)).toArray 5))
      have n7' := n7.alloc (.cells (u8s (zs 1048577)).toArray 5)
      clear hl1 h7 n7
      have F3 := Lib.hid (fu3 D)
      generalize hz3 : zs 1048577 = z3 at *
      clear hz3
      go_wp2_with fail
      generalize w7.alloc (.cells (u8s z3).toArray 5) = w8 at *
      have k1 := reset _ _ _ _ _ h7' (some ⟨w7.heap.size, 0, none⟩) 1048577 1048577 z3 _ HL1.out (by omega)
      rw [F3.out.1, F3.out.2] at k1
      refine k1.mono ?_
      clear k1
      rintro e w9 ⟨rfl, v9, h9, c9, _⟩
      have n9 := h7'.newF n7' c9 hlo
      clear h7' n7' c9 HL1 F3
      go_wp2_with fail
      refine (bytes _ _ _ _ _ h9).mono ?_
      rintro e w10 ⟨u10, rfl, ho10, c10⟩
      obtain ⟨A10, d10, hu, _⟩ := ho10.form
      rw [HL.out] at hu
      subst hu
      have n10 := n9.trans c10 (fun _ _ => False.elim)
      clear h9 n9 c10 ho10
      go_wp2
      go_ret
      exact ⟨rfl, n10⟩

theorem full_args {H : Type} {enc : TypeId × Value → H} {W : World} {base : Nat} {args : Array Value} {ds : List (DataW H)} {ps : List MemPlace}
    (hval : ∀ (j : Nat) t v, Try.f4.params[j]? = some t → args[j]? = some v → Value.okWide Try.prog W .any base t v)
    (hw : ∀ (j : Nat) t d, Try.f4.params.toList[j]? = some t → ds[j]? = some d → ∀ n ∈ d.weights Try.prog t, n ≤ reachBytes)
    (hA : DataW.TrodAll enc Try.prog W 0 (fun _ => true) true Try.f4.params.toList args.toList ds ps) :
    Calls Try.prog 4 args W fun e w' => LawEnd W e w' := by
  rw [Try.params4] at hA hval hw
  obtain ⟨v0, v1, d0, d1, p0, p1, rfl, rfl, rfl, h0, h1⟩ := trodAll_two hA
  have o0 := hval 0 _ v0 rfl rfl
  have q0 := hw 0 _ d0 rfl rfl
  have o1 := hval 1 _ v1 rfl rfl
  have q1 := hw 1 _ d1 rfl rfl
  obtain ⟨f, rfl, hf⟩ := open_u16 Try.underlying36 o0 h0
  obtain ⟨m, rfl, hm⟩ := open_u16 Try.underlying36 o1 h1
  exact full W f m hf hm
end Disk

namespace lawDiskFull
theorem own : ownKnob Try.prog.godebug = none := by kernel_rfl
theorem laidOut : laidOutB Try.prog = true := by kernel_rfl
theorem reads : ∀ t ∈ Try.f4.params.toList, Try.prog.readableRec t = true ∧ t < Try.prog.types.size := by
  have h : (Try.f4.params.toList.all fun t => Try.prog.readableRec t && decide (t < Try.prog.types.size)) = true := by kernel_rfl
  intro t ht
  have := List.all_eq_true.1 h t ht
  simpa using this
theorem spec {H : Type} (ds : List (DataW H)) (h : ds.length = 2) : Rows.diskFullSpec.fn H ds = { results := [.lit (.bool true)], args := ds } := by
  match ds, h with
  | [d1, d2], _ => rfl
theorem trodAll_len {H : Type} {enc : TypeId × Value → H} {P : Program} {w : World} {base : Nat} {sp : Nat → Bool} {held : Bool} : ∀ (ts : List TypeId) (vs : List Value) (ds : List (DataW H)) (ps : List MemPlace),
    DataW.TrodAll enc P w base sp held ts vs ds ps → ds.length = ts.length
  | [], _, _, _, h => by
    obtain ⟨_, rfl, _⟩ := trodAll_nil h
    rfl
  | _ :: ts, _, _, _, h => by
    obtain ⟨_, vs, _, ds, _, _, _, rfl, _, _, hr⟩ := trodAll_cons h
    simp [trodAll_len ts vs ds _ hr]
theorem contract (H : Type) (enc : TypeId × Value → H) (W : World) (base : Nat) (args : Array Value) (ds gs : List (DataW H)) (before : List MemPlace)
    (hval : ∀ (j : Nat) t v, Try.f4.params[j]? = some t → args[j]? = some v → Value.okWide Try.prog W .any base t v)
    (hW : DataW.Whole enc Try.prog Try.f4.params.toList Rows.diskFullSpec.vars false W args.toList ds gs before)
    (hz : (DataW.weightsEach Try.prog (Try.f4.params.toList ++ Rows.diskFullSpec.plain.varTypes Try.prog) (ds ++ gs)).all (· ≤ reachBytes) = true) :
    Calls Try.prog 4 args W fun e W' => ∃ v, e = .returned v ∧ Rows.diskFullSpec.post enc Try.prog Try.f4 false true false false W args v W' := by
  obtain ⟨p, q, hA, hV, _⟩ := id hW
  have hlen : ds.length = 2 := (trodAll_len _ _ _ _ hA).trans (by kernel_rfl)
  have hV1 : DataW.TrodVars enc Try.prog W (fun _ => true) [] gs q := hV
  obtain ⟨rfl, rfl⟩ := trodVars_none hV1
  have hw : ∀ (j : Nat) t d, Try.f4.params.toList[j]? = some t → ds[j]? = some d → ∀ n ∈ d.weights Try.prog t, n ≤ reachBytes := by
    intro j t d ht hd n hn
    rw [List.append_nil] at hz
    have hlt : j < Try.f4.params.toList.length := (List.getElem?_eq_some_iff.1 ht).1
    have := List.all_eq_true.1 hz n (DataW.weights_mem_each (by rw [List.getElem?_append_left hlt]; exact ht) hd n hn)
    simpa using this
  refine (Disk.full_args hval hw hA).mono fun e W' ⟨he, hn⟩ => ?_
  exact ⟨_, he, law_post laidOut (tb := 4) rfl Try.underlying4 reads rfl hW (spec ds hlen) hn.below⟩
set_option maxRecDepth 100000 in
theorem lifted (os : Os) (started : os.Started) (H : Type) (enc : TypeId × Value → H) :
    ReturnsInHanded {} Try.checked os 4 .any (Rows.diskFullSpec.pre6 enc Try.prog Try.f4 Rows.diskFullRow.domain false) (Rows.diskFullSpec.post enc Try.prog Try.f4 false true false false) := by
  refine returnsInHanded_of_change_sized (C := Try.checked) own started (by kernel_rfl) Try.func4
    (ChangeSpec.witness6 (enc := enc) (C := Try.checked) (s := Rows.diskFullSpec) false ⟨#[], #[.int .u16 0, .int .u16 0], []⟩ 60 (by kernel_rfl) (by kernel_rfl) (by kernel_rfl) (by kernel_rfl)) ?_
  intro W base args ds gs before hval hW _ hz _
  exact contract H enc W base args ds gs before hval hW hz
theorem proved : Rows.DiskFullSaid :=
  OpenClaim.holds_of_wide 4 Try.f4 rfl rfl rfl rfl rfl rfl rfl ⟨rfl, rfl, rfl, rfl, rfl⟩ rfl rfl rfl rfl rfl (by kernel_rfl) Try.func4 (by kernel_rfl)
    (of_decide_eq_true (by kernel_rfl)) (by unfold Func.isWrapper; first | (rw [if_pos (by decide +kernel)]; kernel_rfl) | (rw [if_neg (by decide +kernel)]; exact ⟨rfl, rfl⟩))
    (fun os started H enc _ => lifted os started H enc)
end lawDiskFull
end Go.Proofs.Ytjliioapiohciaa

/-
  hedgerowlaw04.FramePuts returns true for every input: any payloads' frames are the document's, and told as they were (no condition).
-/
import Derived.Test.YtbbneefcjancbaaFrameLaw
import Derived.Test.YtbbneefcjancbaaFrameCat
import Derived.Test.YtbbneefcjancbaaFrameArgs
import Derived.Outline
namespace Go.Proofs.Ytbbneefcjancbaa
open Go.ChangeShapes Go.WideShapes Go.RowKit
namespace Frame
theorem take_snoc {ps : List (List UInt8)} {k : Nat} (h : k < ps.length) : ps.take (k + 1) = ps.take k ++ [ps.getD k []] := by
  rw [List.take_add_one, List.getElem?_eq_getElem h]
  simp [List.getD_eq_getElem?_getD, h]
set_option maxHeartbeats 20000000 in
set_option maxRecDepth 100000 in
theorem puts (w : World) (A : Option Addr) (n c : Nat) (ps : List (List UInt8)) (hn : n ≤ 140737488351232) (hps : PartsR w (.slice A n c) ps) :
    Calls Try.prog 4 #[.slice A n c] w fun e w' => LawEnd w e w' := by
  have hpn := hps.len
  have HPS := Lib.hid hps
  clear hps
  by_cases hbig : 20 < (n : Int)
  · go_enter Try.func4, Try.ntmps4
    go_wp2_with fail
    refine (fixed _).mono ?_
    rintro e w1 ⟨rfl, n1⟩
    go_wp2
    go_ret
    exact ⟨rfl, n1⟩
  · go_enter Try.func4, Try.ntmps4
    go_wp2_with fail
    refine (fixed _).mono ?_
    rintro e w1 ⟨rfl, n1⟩
    have hs1 := n1.size
    have HPn := Lib.hid hpn
    clear hpn
    go_wp2_with fail
    go_loopw [3, 4, 6, 17] (fun vb0 vc0 _ i wr => ∃ (k : Nat) (vb vc : Value), vb = vb0 ∧ vc = vc0 ∧ k ≤ n ∧ i = .int .i64 k ∧ (∀ p ∈ ps.take k, p.length ≤ 200) ∧ OwnB wr w.heap.size vb (cat (ps.take k)) ∧ OwnB wr w.heap.size vc (cat (ps.take k)) ∧ (∀ g, vb.ownBlock = some g → vc.ownBlock ≠ some g) ∧ New w wr) (fun _ _ _ i _ => n - (intOf i).toNat)
    case atStart => exact ⟨0, _, _, rfl, rfl, by omega, rfl, fun p hp => by simp at hp, OwnB.nil, OwnB.nil, (fun g hg => by cases hg), n1⟩
    case round =>
      clear n1
      obtain ⟨k, vb, vc, rfl, rfl, hk, rfl, h200, hb, hc, hne, hnw⟩ := hrel
      have hclen := cat_len h200
      have htl : (ps.take k).length ≤ 20 := by rw [List.length_take]; omega
      have hcl : (cat (ps.take k)).length ≤ 4160 := Nat.le_trans hclen (by omega)
      have hswr := hnw.size
      have HCL := Lib.hid hcl
      clear hclen htl hcl
      by_cases hlt : k < n
      · obtain ⟨ad, A3, c3, rfl, hpart⟩ := HPS.out.part (i := k) (by rw [HPn.out]; exact hlt)
        have hts := take_snoc (ps := ps) (k := k) (by rw [HPn.out]; exact hlt)
        have HTS := Lib.hid hts
        have H200 := Lib.hid h200
        obtain ⟨p, hp⟩ : ∃ p, ps.getD k [] = p := ⟨_, rfl⟩
        rw [hp] at hpart
        have HPP := Lib.hid hp
        obtain ⟨n3, hn3⟩ : ∃ n3, p.length = n3 := ⟨_, rfl⟩
        rw [hn3] at hpart
        have HN3 := Lib.hid hn3
        have hcell := (hpart wr hnw).1
        have HR := Lib.hid (fun W hW => (hpart W hW).2)
        clear hts h200 hp hn3 hpart
        by_cases hp200 : 200 < (n3 : Int)
        · go_wp2_with fail
          go_ret
          exact ⟨rfl, hnw⟩
        · have hvb := fun g hg => (own_lt hb (k := g) hg)
          have hvc := fun g hg => (own_lt hc (k := g) hg)
          go_wp2_with fail
          refine (put wr w.heap.size vb _ _ A3 n3 c3 p hb hswr (HR.out _ hnw) (fun g hg => ⟨by omega, fun e => by have := (hvb g e).1; omega⟩) (by have := HCL.out; omega)).mono ?_
          rintro e w2 ⟨vb2, rfl, hb2, cb2, bb2⟩
          have hn2 : New w w2 := hnw.trans cb2 fun g hg e => by have := (hvb g e).1; omega
          have hc2 := own_chg hc cb2 fun g hg e => hne g e hg
          have hs2 := cb2.size
          obtain ⟨Ac, cc, hvcf, _, _, _, hrc⟩ := OwnB.form hc2
          subst hvcf
          clear cb2 hb hc
          go_wp2_with fail
          refine (ref_put w2 _ _ Ac A3 _ cc n3 c3 _ p hrc (HR.out _ hn2) (fun g hg => hg.2.1) (fun g hg => by omega) (by have := HCL.out; omega)).mono ?_
          rintro e w3 ⟨vc3, rfl, hc3, cn3⟩
          have hb3 := own_chg hb2 cn3 fun _ _ => id
          have hn3' := hn2.trans cn3 fun _ _ => id
          have hne3 : ∀ g, vb2.ownBlock = some g → vc3.ownBlock ≠ some g := fun g h1 h2 => by
            have := (own_lt hb2 h1).2
            have := (own_lt hc3 h2).1
            omega
          have ecat : cat (ps.take (k + 1)) = cat (ps.take k) ++ frameL p := by rw [HTS.out, cat_append, HPP.out, cat_one]
          have HE := Lib.hid ecat
          have hc3' := own_mono hc3 (show w.heap.size ≤ w2.heap.size by omega)
          clear ecat hb2 hc3 cn3 hn2 hrc hc2 bb2
          go_wp2_with fail
          go_roundw
          case rel => exact ⟨k + 1, vb2, vc3, rfl, rfl, by omega, by go_num, fun q hq => by
            rw [HTS.out] at hq
            rcases List.mem_append.1 hq with h | h
            · exact H200.out q h
            · rw [List.mem_singleton.1 h, HPP.out, HN3.out]; omega, by rw [HE.out]; exact hb3, by rw [HE.out]; exact hc3', hne3, hn3'⟩
          case measure => simp [intOf]; omega
      · obtain rfl : k = n := by omega
        have htk : ps.take k = ps := List.take_of_length_le (by rw [HPn.out]; omega)
        rw [htk] at hb hc h200
        have HCL2 := Lib.hid (show (cat ps).length ≤ 4160 from htk ▸ HCL.out)
        have hall := all_cat ps [] (fun p hp => by have := h200 p hp; omega) (.inl rfl)
        rw [List.append_nil, if_pos rfl] at hall
        have HALL := Lib.hid hall
        obtain ⟨Ab, cb, rfl, hcb, _, _, hrb⟩ := OwnB.form hb
        have HB := Lib.hid hb
        have HCc := Lib.hid hc
        clear htk hall hb hc hne h200
        go_wp2_with fail
        have k1 := all_ wr _ Ab _ cb (cat ps) hrb (fun g hg => hg.2.1) hcb (by have := HCL2.out; omega) (by have := HCL2.out; omega)
        rw [HALL.out] at k1
        refine k1.mono ?_
        clear k1
        rintro e w2 ⟨vm, rfl, hm, cm⟩
        have hn2 := hnw.trans cm fun _ _ => id
        have sb := own_str HB.out cm
        have sc := own_str HCc.out cm
        have C := Lib.hid (same w2 _ _ ps ps (HPS.out.new hn2) hm.toR (by rw [HPn.out]; omega))
        clear hm cm hrb
        go_wp2_with fail
        refine C.out.mono ?_
        rintro e w3 ⟨rfl, cm3⟩
        rw [show (ps == ps) = true from beq_self_eq_true _]
        clear sb sc
        go_wp2
        go_ret
        exact ⟨rfl, hn2.trans cm3 fun _ _ => id⟩

theorem puts_args {H : Type} {enc : TypeId × Value → H} {W : World} {base : Nat} {args : Array Value} {ds : List (DataW H)} {ps : List MemPlace}
    (hval : ∀ (j : Nat) t v, Try.f4.params[j]? = some t → args[j]? = some v → Value.okWide Try.prog W .any base t v)
    (hw : ∀ (j : Nat) t d, Try.f4.params.toList[j]? = some t → ds[j]? = some d → ∀ n ∈ d.weights Try.prog t, n ≤ reachBytes)
    (hA : DataW.TrodAll enc Try.prog W 0 (fun _ => true) true Try.f4.params.toList args.toList ds ps) :
    Calls Try.prog 4 args W fun e w' => LawEnd W e w' := by
  rw [Try.params4] at hA hval hw
  obtain ⟨v0, d0, rfl, rfl, h0⟩ := trodAll_one hA
  have o0 := hval 0 _ v0 rfl rfl
  have q0 := hw 0 _ d0 rfl rfl
  obtain ⟨A, n, c, ps, rfl, hn, _, hp⟩ := open_parts (cells_slice Try.underlying27 o0) q0 h0
  exact puts W A n c ps hn hp
end Frame

namespace lawFramePuts
theorem own : ownKnob Try.prog.godebug = none := by kernel_rfl
theorem laidOut : laidOutB Try.prog = true := by kernel_rfl
theorem reads : ∀ t ∈ Try.f4.params.toList, Try.prog.readableRec t = true ∧ t < Try.prog.types.size := by
  have h : (Try.f4.params.toList.all fun t => Try.prog.readableRec t && decide (t < Try.prog.types.size)) = true := by kernel_rfl
  intro t ht
  have := List.all_eq_true.1 h t ht
  simpa using this
theorem spec {H : Type} (ds : List (DataW H)) (h : ds.length = 1) : Rows.framePutsSpec.fn H ds = { results := [.lit (.bool true)], args := ds } := by
  match ds, h with
  | [d1], _ => rfl
theorem trodAll_len {H : Type} {enc : TypeId × Value → H} {P : Program} {w : World} {base : Nat} {sp : Nat → Bool} {held : Bool} : ∀ (ts : List TypeId) (vs : List Value) (ds : List (DataW H)) (ps : List MemPlace),
    DataW.TrodAll enc P w base sp held ts vs ds ps → ds.length = ts.length
  | [], _, _, _, h => by
    obtain ⟨_, rfl, _⟩ := trodAll_nil h
    rfl
  | _ :: ts, _, _, _, h => by
    obtain ⟨_, vs, _, ds, _, _, _, rfl, _, _, hr⟩ := trodAll_cons h
    simp [trodAll_len ts vs ds _ hr]
theorem contract (H : Type) (enc : TypeId × Value → H) (W : World) (base : Nat) (args : Array Value) (ds gs : List (DataW H)) (before : List MemPlace)
    (hval : ∀ (j : Nat) t v, Try.f4.params[j]? = some t → args[j]? = some v → Value.okWide Try.prog W .any base t v)
    (hW : DataW.Whole enc Try.prog Try.f4.params.toList Rows.framePutsSpec.vars false W args.toList ds gs before)
    (hz : (DataW.weightsEach Try.prog (Try.f4.params.toList ++ Rows.framePutsSpec.plain.varTypes Try.prog) (ds ++ gs)).all (· ≤ reachBytes) = true) :
    Calls Try.prog 4 args W fun e W' => ∃ v, e = .returned v ∧ Rows.framePutsSpec.post enc Try.prog Try.f4 false true false false W args v W' := by
  obtain ⟨p, q, hA, hV, _⟩ := id hW
  have hlen : ds.length = 1 := (trodAll_len _ _ _ _ hA).trans (by kernel_rfl)
  have hV1 : DataW.TrodVars enc Try.prog W (fun _ => true) [] gs q := hV
  obtain ⟨rfl, rfl⟩ := trodVars_none hV1
  have hw : ∀ (j : Nat) t d, Try.f4.params.toList[j]? = some t → ds[j]? = some d → ∀ n ∈ d.weights Try.prog t, n ≤ reachBytes := by
    intro j t d ht hd n hn
    rw [List.append_nil] at hz
    have hlt : j < Try.f4.params.toList.length := (List.getElem?_eq_some_iff.1 ht).1
    have := List.all_eq_true.1 hz n (DataW.weights_mem_each (by rw [List.getElem?_append_left hlt]; exact ht) hd n hn)
    simpa using this
  refine (Frame.puts_args hval hw hA).mono fun e W' ⟨he, hn⟩ => ?_
  exact ⟨_, he, law_post laidOut (tb := 4) rfl Try.underlying4 reads rfl hW (spec ds hlen) hn.below⟩
set_option maxRecDepth 100000 in
theorem lifted (os : Os) (started : os.Started) (H : Type) (enc : TypeId × Value → H) :
    ReturnsInHanded {} Try.checked os 4 .any (Rows.framePutsSpec.pre6 enc Try.prog Try.f4 Rows.framePutsRow.domain false) (Rows.framePutsSpec.post enc Try.prog Try.f4 false true false false) := by
  refine returnsInHanded_of_change_sized (C := Try.checked) own started (by kernel_rfl) Try.func4
    (ChangeSpec.witness6 (enc := enc) (C := Try.checked) (s := Rows.framePutsSpec) false ⟨#[], #[.slice none 0 0], []⟩ 60 (by kernel_rfl) (by kernel_rfl) (by kernel_rfl) (by kernel_rfl)) ?_
  intro W base args ds gs before hval hW _ hz _
  exact contract H enc W base args ds gs before hval hW hz
theorem proved : Rows.FramePutsSaid :=
  OpenClaim.holds_of_wide 4 Try.f4 rfl rfl rfl rfl rfl rfl rfl ⟨rfl, rfl, rfl, rfl, rfl⟩ rfl rfl rfl rfl rfl (by kernel_rfl) Try.func4 (by kernel_rfl)
    (of_decide_eq_true (by kernel_rfl)) (by unfold Func.isWrapper; first | (rw [if_pos (by decide +kernel)]; kernel_rfl) | (rw [if_neg (by decide +kernel)]; exact ⟨rfl, rfl⟩))
    (fun os started H enc _ => lifted os started H enc)
end lawFramePuts
end Go.Proofs.Ytbbneefcjancbaa

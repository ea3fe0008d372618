/-
  hedgerowlaw16.NetFull returns true for every input: no more are under way than may be (no condition).
-/
import Derived.Test.YtbagiehocgaoiaaNetLaw
import Derived.Test.YtbagiehocgaoiaaOpen
namespace Go.Proofs.Ytbagiehocgaoiaa
open Go.ChangeShapes Go.WideShapes Go.RowKit Go.Deep
namespace Net
attribute [local go_sem ↓] loadOnly0 loadOnly1
set_option maxHeartbeats 8000000 in
set_option maxRecDepth 100000 in
theorem full (w : World) (m : Nat) (hm : m < 256) :
    Calls Try.prog 4 #[.int .u8 (m : Int)] w fun e w' => LawEnd w e w' := by
  go_enter Try.func4, Try.ntmps4
  go_wp2_with fail
  refine (fixed _).mono ?_
  rintro e w1 ⟨rfl, n1⟩
  go_wp2_with fail
  refine (new_ _).mono ?_
  rintro e w2 ⟨rfl, h2, n2⟩
  have s2 : St w w2 w1.heap.size (.slice none 0 0) [] := ⟨h2, n1.trans n2 fun _ _ => id, n1.size⟩
  clear h2 n1 n2
  obtain ⟨b, hb⟩ : ∃ b, w1.heap.size = b := ⟨_, rfl⟩
  rw [hb] at s2 ⊢
  clear hb
  go_wp2_with fail
  go_loopw [2, 4, 5, 13] (fun _ _ _ i wr => ∃ (k : Nat) (v : Value) (fs : List Fl), k ≤ 200 + m ∧ i = .int .i64 k ∧ St w wr b v fs ∧ fs.length = min k 256 ∧ ∀ p ∈ fs, p.b.length ≤ 200) (fun _ _ _ i _ => 200 + m - (intOf i).toNat)
  case atStart => exact ⟨0, _, [], by omega, rfl, s2, rfl, fun p hp => by cases hp⟩
  case round =>
    clear s2
    obtain ⟨k, v, fs, hk, rfl, hs, hfl, h200⟩ := hrel
    by_cases hlt : k < 200 + m
    · have hltp : (k : Int) < 200 + m := by omega
      by_cases h256 : k < 256
      · have hk256 : (k : Int) < 256 := by omega
        obtain ⟨y, hy⟩ : ∃ y : UInt8, (y.toNat : Int) = (k : Int) := ⟨UInt8.ofNat k, by simp; omega⟩
        have m3 := (Chg.refl (fun _ => False) wr).alloc (.cells #[.int .u8 (k : Int)] 5)
        have hr : Reads (wr.alloc (.cells #[.int .u8 (k : Int)] 5)) (fun b => b = wr.heap.size) 1 (some ⟨wr.heap.size, 0, none⟩) 1 (u8s [y]) := by
          have := reads_lit wr [y] (0, 0) 5
          simp only [u8s, List.map_cons, List.map_nil, hy] at this ⊢
          exact this
        have C := Lib.hid (send_ok _ _ _ _ _ (hs.news m3).at_ (k : Int) _ 1 1 [y] _ hr (by omega) (by omega))
        have HS := Lib.hid (And.intro (hs.news m3) (And.intro hfl h200))
        clear hs hfl h200 m3 hy hr
        go_wp2_with fail
        refine C.out.mono ?_
        rintro e w3 ⟨rfl, u, hp⟩
        obtain ⟨v3, s3⟩ := HS.out.1.post hp
        have H3 := Lib.hid s3
        clear hp s3 C
        go_wp2_with fail
        go_roundw
        case rel =>
          refine ⟨k + 1, v3, fs ++ [⟨(k : Int), u, [y], false⟩], by omega, by go_num, H3.out, ?_, fun q hq => ?_⟩
          · rw [List.length_append, HS.out.2.1]
            simp
            omega
          · rcases List.mem_append.1 hq with h | h
            · exact HS.out.2.2 q h
            · rw [List.mem_singleton.1 h]
              show ([y] : List UInt8).length ≤ 200
              simp
        case measure => simp [intOf]; omega
      · have hk256 : (256 : Int) ≤ k := by omega
        have HS := Lib.hid (And.intro hs (And.intro hfl h200))
        have hge : 256 ≤ fs.length := by omega
        clear hs hfl h200
        go_wp2_with fail
        refine (send_full _ _ _ _ _ (At.new HS.out.1.at_ ((Chg.refl (fun _ => False) _).alloc _)) _ _ hge ⟨_, _, _, rfl⟩).mono ?_
        rintro e w3 ⟨rfl, n3⟩
        have H3 := Lib.hid (HS.out.1.news (((Chg.refl (fun _ => False) wr).alloc _).trans n3 fun _ _ => id))
        clear n3 hge
        go_wp2_with fail
        go_roundw
        case rel => exact ⟨k + 1, v, fs, by omega, by go_num, H3.out, by rw [HS.out.2.1]; omega, HS.out.2.2⟩
        case measure => simp [intOf]; omega
    · obtain rfl : k = 200 + m := by omega
      by_cases h256 : 56 ≤ m
      · have hl : fs.length = 256 := by omega
        have C := double_full _ _ _ _ _ hs.at_ 0 (by omega) (by omega)
        have C := Lib.hid (show Calls Try.prog 10 #[ptr b, .int .i64 0] wr fun e w' => e = .returned (.int .i64 6) ∧ New wr w' from by simpa using C)
        have HS := Lib.hid (And.intro hs hl)
        have hT : (256 : Int) ≤ 200 + m := by omega
        have hT2 : (56 : Int) ≤ m := by omega
        clear hs hfl h200 hl
        go_wp2_with fail
        refine C.out.mono ?_
        rintro e w3 ⟨rfl, n3⟩
        have s3 := HS.out.1.news n3
        have K := len _ _ _ _ _ s3.at_
        rw [HS.out.2] at K
        have K := Lib.hid K
        have H3 := Lib.hid s3.new
        clear n3 s3 C
        go_wp2_with fail
        refine K.out.mono ?_
        rintro e w4 ⟨rfl, rfl⟩
        go_wp2
        go_ret
        exact ⟨by simp <;> omega, H3.out⟩
      · have hl : fs.length = 200 + m := by omega
        obtain ⟨f, fs', rfl⟩ : ∃ f fs', fs = f :: fs' := by
          match fs, hl with
          | f :: fs', _ => exact ⟨f, fs', rfl⟩
          | [], hl => simp at hl; omega
        have C := double_ok _ _ _ _ _ hs.at_ 0 f rfl (by omega) (by have := h200 f (List.mem_cons_self ..); omega)
        have C := Lib.hid (show Calls Try.prog 10 #[ptr b, .int .i64 0] wr fun e w' => e = .returned (.int .i64 0) ∧ ∃ u, Post wr b b v (f :: fs') ((f :: fs') ++ [⟨f.to_, u, f.b, f.t⟩]) w' from by simpa using C)
        have HS := Lib.hid (And.intro hs hl)
        have hT : ¬ (256 : Int) ≤ 200 + m := by omega
        have hT2 : ¬ (56 : Int) ≤ m := by omega
        have hT3 : (200 : Int) + m + 1 ≤ 256 := by omega
        clear hs hfl h200 hl
        go_wp2_with fail
        refine C.out.mono ?_
        rintro e w3 ⟨rfl, u, hp⟩
        obtain ⟨v3, s3⟩ := HS.out.1.post hp
        have K := len _ _ _ _ _ s3.at_
        rw [List.length_append, HS.out.2, List.length_singleton] at K
        have K := Lib.hid K
        have H3 := Lib.hid s3.new
        clear hp s3 C
        go_wp2_with fail
        refine K.out.mono ?_
        rintro e w4 ⟨rfl, rfl⟩
        go_wp2
        go_ret
        exact ⟨by simp <;> omega, H3.out⟩
theorem full_args {H : Type} {enc : TypeId × Value → H} {W : World} {base : Nat} {args : Array Value} {ds : List (DataW H)} {ps : List MemPlace}
    (hval : ∀ (j : Nat) t v, Try.f4.params[j]? = some t → args[j]? = some v → Value.okWide Try.prog W .any base t v)
    (hw : ∀ (j : Nat) t d, Try.f4.params.toList[j]? = some t → ds[j]? = some d → ∀ n ∈ d.weights Try.prog t, n ≤ reachBytes)
    (hA : DataW.TrodAll enc Try.prog W 0 (fun _ => true) true Try.f4.params.toList args.toList ds ps) :
    Calls Try.prog 4 args W fun e w' => LawEnd W e w' := by
  rw [Try.params4] at hA hval hw
  obtain ⟨v0, d0, rfl, rfl, h0⟩ := trodAll_one hA
  have o0 := hval 0 _ v0 rfl rfl
  have q0 := hw 0 _ d0 rfl rfl
  obtain ⟨m, rfl⟩ := open_u8 Try.underlying5 o0 h0
  exact full W m.toNat (UInt8.toNat_lt m)
end Net

namespace lawNetFull
theorem own : ownKnob Try.prog.godebug = none := by kernel_rfl
theorem laidOut : laidOutB Try.prog = true := by kernel_rfl
theorem reads : ∀ t ∈ Try.f4.params.toList, Try.prog.readableRec t = true ∧ t < Try.prog.types.size := by
  have h : (Try.f4.params.toList.all fun t => Try.prog.readableRec t && decide (t < Try.prog.types.size)) = true := by kernel_rfl
  intro t ht
  have := List.all_eq_true.1 h t ht
  simpa using this
theorem spec {H : Type} (ds : List (DataW H)) (h : ds.length = 1) : Rows.netFullSpec.fn H ds = { results := [.lit (.bool true)], args := ds } := by
  match ds, h with
  | [d1], _ => rfl
theorem trodAll_len {H : Type} {enc : TypeId × Value → H} {P : Program} {w : World} {base : Nat} {sp : Nat → Bool} {held : Bool} : ∀ (ts : List TypeId) (vs : List Value) (ds : List (DataW H)) (ps : List MemPlace),
    DataW.TrodAll enc P w base sp held ts vs ds ps → ds.length = ts.length
  | [], _, _, _, h => by
    obtain ⟨_, rfl, _⟩ := trodAll_nil h
    rfl
  | _ :: ts, _, _, _, h => by
    obtain ⟨_, vs, _, ds, _, _, _, rfl, _, _, hr⟩ := trodAll_cons h
    simp [trodAll_len ts vs ds _ hr]
theorem contract (H : Type) (enc : TypeId × Value → H) (W : World) (base : Nat) (args : Array Value) (ds gs : List (DataW H)) (before : List MemPlace)
    (hval : ∀ (j : Nat) t v, Try.f4.params[j]? = some t → args[j]? = some v → Value.okWide Try.prog W .any base t v)
    (hW : DataW.Whole enc Try.prog Try.f4.params.toList Rows.netFullSpec.vars false W args.toList ds gs before)
    (hz : (DataW.weightsEach Try.prog (Try.f4.params.toList ++ Rows.netFullSpec.plain.varTypes Try.prog) (ds ++ gs)).all (· ≤ reachBytes) = true) :
    Calls Try.prog 4 args W fun e W' => ∃ v, e = .returned v ∧ Rows.netFullSpec.post enc Try.prog Try.f4 false true false false W args v W' := by
  obtain ⟨p, q, hA, hV, _⟩ := id hW
  have hlen : ds.length = 1 := (trodAll_len _ _ _ _ hA).trans (by kernel_rfl)
  have hV1 : DataW.TrodVars enc Try.prog W (fun _ => true) [] gs q := hV
  obtain ⟨rfl, rfl⟩ := trodVars_none hV1
  have hw : ∀ (j : Nat) t d, Try.f4.params.toList[j]? = some t → ds[j]? = some d → ∀ n ∈ d.weights Try.prog t, n ≤ reachBytes := by
    intro j t d ht hd n hn
    rw [List.append_nil] at hz
    have hlt : j < Try.f4.params.toList.length := (List.getElem?_eq_some_iff.1 ht).1
    have := List.all_eq_true.1 hz n (DataW.weights_mem_each (by rw [List.getElem?_append_left hlt]; exact ht) hd n hn)
    simpa using this
  refine (Net.full_args hval hw hA).mono fun e W' ⟨he, hn⟩ => ?_
  exact ⟨_, he, law_post laidOut (tb := 4) rfl Try.underlying4 reads rfl hW (spec ds hlen) hn.below⟩
set_option maxRecDepth 100000 in
theorem lifted (os : Os) (started : os.Started) (H : Type) (enc : TypeId × Value → H) :
    ReturnsInHanded {} Try.checked os 4 .any (Rows.netFullSpec.pre6 enc Try.prog Try.f4 Rows.netFullRow.domain false) (Rows.netFullSpec.post enc Try.prog Try.f4 false true false false) := by
  refine returnsInHanded_of_change_sized (C := Try.checked) own started (by kernel_rfl) Try.func4
    (ChangeSpec.witness6 (enc := enc) (C := Try.checked) (s := Rows.netFullSpec) false ⟨#[], #[.int .u8 0], []⟩ 60 (by kernel_rfl) (by kernel_rfl) (by kernel_rfl) (by kernel_rfl)) ?_
  intro W base args ds gs before hval hW _ hz _
  exact contract H enc W base args ds gs before hval hW hz
theorem proved : Rows.NetFullSaid :=
  OpenClaim.holds_of_wide 4 Try.f4 rfl rfl rfl rfl rfl rfl rfl ⟨rfl, rfl, rfl, rfl, rfl⟩ rfl rfl rfl rfl rfl (by kernel_rfl) Try.func4 (by kernel_rfl)
    (of_decide_eq_true (by kernel_rfl)) (by unfold Func.isWrapper; first | (rw [if_pos (by decide +kernel)]; kernel_rfl) | (rw [if_neg (by decide +kernel)]; exact ⟨rfl, rfl⟩))
    (fun os started H enc _ => lifted os started H enc)
end lawNetFull
end Go.Proofs.Ytbagiehocgaoiaa

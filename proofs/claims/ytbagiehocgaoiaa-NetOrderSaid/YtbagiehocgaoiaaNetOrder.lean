/-
  hedgerowlaw16.NetOrder returns true for every input: parcels that are taken from the front come in the order in which they were sent (no condition).
-/
import Derived.Test.YtbagiehocgaoiaaNetLaw
import Derived.Test.YtbagiehocgaoiaaOpen
namespace Go.Proofs.Ytbagiehocgaoiaa
open Go.ChangeShapes Go.WideShapes Go.RowKit Go.Deep
namespace Net
attribute [local go_sem ↓] loadOnly0 loadOnly1
/-- the slices of bytes ps lie at A -/
def Lies (w : World) (A : Option Addr) (ps : List (List UInt8)) : Prop := ∀ (i : Nat) (p : List UInt8), ps[i]? = some p → ∃ ad A3 c3, A = some ad ∧ ∀ W, New w W → W.cell? (ad.add i) = some (.slice A3 p.length c3) ∧ Reads W (fun b => b < w.heap.size) 1 A3 p.length (u8s p)
section
variable {H : Type} {enc : TypeId × Value → H} {w : World} {base : Nat} {held : Bool}
theorem open_lies {v : Value} {d : DataW H} {qs : List MemPlace} (hv : v.cells = #[v]) (hw : ∀ x ∈ d.weights Try.prog 45, x ≤ reachBytes) (hd : DataW.Trod enc Try.prog w base (fun _ => true) held 45 v d qs) :
    ∃ (A : Option Addr) (c : Nat) (ps : List (List UInt8)), v = .slice A ps.length c ∧ ps.length ≤ 140737488351232 ∧ Lies w A ps := by
  obtain ⟨fuel, hf⟩ := hd
  rw [hv] at hf
  rcases Deep.open_slice1 Try.underlying45 (by kernel_rfl) hf with ⟨h, _⟩ | ⟨a, len, cap, m, q, V, D, Pl, h, _, hl, hm, hmm, hdd, hx⟩
  · have hv' : v = .slice none 0 0 := by simpa using h
    exact ⟨none, 0, [], hv', by simp, fun i p hi => by simp at hi⟩
  · have hv' : v = .slice (some a) len cap := by simpa using h
    have hmc : m = cap := by simpa using hmm
    have hcap : len ≤ 140737488351232 := by
      have hd' : d = .slice ((List.range len).map D) ((List.range (m - len)).map fun j => D (len + j)) := congrArg Prod.fst hdd
      have := hw (cap * Try.prog.bytesOf 27) (by
        rw [hd']
        simp only [DataW.weights, Try.underlying45]
        refine List.mem_cons.2 (.inl ?_)
        simp only [List.length_map, List.length_range]
        rw [show len + (m - len) = cap by omega])
      rw [show Try.prog.bytesOf 27 = 24 by kernel_rfl] at this
      simp [reachBytes] at this
      omega
    have hone : ∀ i, i < len → ∃ p : List UInt8, ∃ A3 c3, ∀ W, New w W → W.cell? (a.add i) = some (.slice A3 p.length c3) ∧ Reads W (fun b => b < w.heap.size) 1 A3 p.length (u8s p) := fun i hi => by
      obtain ⟨hc, ht⟩ := hx i (by omega)
      obtain ⟨A3, n3, c3, l3, e3, hl3, hnc3, hr3⟩ := trod_bytes Try.underlying27 Try.underlying5 (by kernel_rfl) ht
      subst hl3
      rw [e3] at hc
      exact ⟨l3, A3, c3, fun W hW => ⟨(hW.cell (p := a.add i) (block_lt_of_cell hc) id).trans hc, hr3.chg' hW (fun _ _ => id) (by omega)⟩⟩
    obtain ⟨f, hf'⟩ := Deep.choose_lt hone
    refine ⟨some a, cap, (List.range len).map f, by rw [hv']; simp, by simpa using hcap, fun i p hi => ?_⟩
    have hj : i < len := by
      have := (List.getElem?_eq_some_iff.1 hi).1
      simpa using this
    have e : f i = p := by simpa [hj] using hi
    obtain ⟨A3, c3, h⟩ := hf' i hj
    exact ⟨a, A3, c3, rfl, fun W hW => e ▸ h W hW⟩
end
/-- the first k, numbered -/
def ord (ps : List (List UInt8)) (k : Nat) : List (Int × List UInt8) := (List.range k).map fun (j : Nat) => (((j : Nat) : Int), ps.getD j [])
theorem ord_len (ps : List (List UInt8)) (k : Nat) : (ord ps k).length = k := by simp [ord]
theorem ord_succ (ps : List (List UInt8)) (k : Nat) : ord ps (k + 1) = ord ps k ++ [((k : Int), ps.getD k [])] := by simp [ord, List.range_succ]
theorem ord_get {ps : List (List UInt8)} {k n : Nat} {p : List UInt8} (hk : k < n) (hp : ps[k]? = some p) : (ord ps n).drop k = ((k : Int), p) :: (ord ps n).drop (k + 1) := by
  have h : k < (ord ps n).length := by rw [ord_len]; exact hk
  rw [List.drop_eq_getElem_cons h]
  congr 1
  simp [ord, List.getD_eq_getElem?_getD, hp]
set_option maxHeartbeats 8000000 in
set_option maxRecDepth 100000 in
theorem order (w : World) (A : Option Addr) (c : Nat) (ps : List (List UInt8)) (hn : ps.length ≤ 140737488351232) (hl : Lies w A ps) :
    Calls Try.prog 5 #[.slice A ps.length c] w fun e w' => LawEnd w e w' := by
  obtain ⟨n, hnn⟩ : ∃ n, ps.length = n := ⟨_, rfl⟩
  have HL := Lib.hid hl
  have HN := Lib.hid hnn
  rw [hnn] at hn ⊢
  clear hl hnn
  by_cases hbig : 100 < (n : Int)
  · go_enter Try.func5, Try.ntmps5
    go_wp2_with fail
    refine (fixed _).mono ?_
    rintro e w1 ⟨rfl, n1⟩
    go_wp2
    go_ret
    exact ⟨rfl, n1⟩
  · go_enter Try.func5, Try.ntmps5
    go_wp2_with fail
    refine (fixed _).mono ?_
    rintro e w1 ⟨rfl, n1⟩
    go_wp2_with fail
    refine (new_ _).mono ?_
    rintro e w2 ⟨rfl, h2, n2⟩
    have s2 : St w w2 w1.heap.size (.slice none 0 0) [] := ⟨h2, n1.trans n2 fun _ _ => id, n1.size⟩
    clear h2 n1 n2
    obtain ⟨b, hb⟩ : ∃ b, w1.heap.size = b := ⟨_, rfl⟩
    rw [hb] at s2 ⊢
    clear hb
    go_wp2_with fail
    go_loopw [2, 4, 5, 20] (fun _ _ _ i wr => ∃ (k : Nat) (v : Value) (fs : List Fl), k ≤ n ∧ i = .int .i64 k ∧ St w wr b v fs ∧ told fs = ord ps k ∧ ∀ p ∈ fs, p.b.length ≤ 200) (fun _ _ _ i _ => n - (intOf i).toNat)
    case atStart => exact ⟨0, _, [], by omega, rfl, s2, rfl, fun p hp => by cases hp⟩
    case round =>
      clear s2
      obtain ⟨k, v, fs, hk, rfl, hs, ht, h200⟩ := hrel
      have hfl : fs.length = k := by
        have := congrArg List.length ht
        rw [ord_len] at this
        simpa [told] using this
      by_cases hlt : k < n
      · obtain ⟨p, hp⟩ : ∃ p, ps[k]? = some p := ⟨_, List.getElem?_eq_getElem (by rw [HN.out]; omega)⟩
        obtain ⟨ad, A3, c3, rfl, hall⟩ := HL.out k p hp
        obtain ⟨hcell, hr⟩ := hall wr hs.new
        obtain ⟨m, hm⟩ : ∃ m, p.length = m := ⟨_, rfl⟩
        rw [hm] at hcell hr
        have HNW := Lib.hid hs.new
        by_cases hbig2 : 200 < (m : Int)
        · clear hall hr hm hs ht h200 hfl hp
          go_wp2_with fail
          go_ret
          exact ⟨rfl, HNW.out⟩
        · have C := Lib.hid (send_ok _ _ _ _ _ hs.at_ (k : Int) A3 m c3 p _ hr (by omega) (by omega))
          have hpd : ps.getD k [] = p := by simp [List.getD_eq_getElem?_getD, hp]
          have HS := Lib.hid (And.intro hs (And.intro ht (And.intro h200 (And.intro hm hpd))))
          clear hall hr hm hs ht h200 hfl hp hpd
          go_wp2_with fail
          refine C.out.mono ?_
          rintro e w3 ⟨rfl, u, hp⟩
          obtain ⟨v3, s3⟩ := HS.out.1.post hp
          have H3 := Lib.hid s3
          clear hp s3 C
          go_wp2_with fail
          go_roundw
          case rel =>
            refine ⟨k + 1, v3, fs ++ [⟨(k : Int), u, p, false⟩], by omega, by go_num, H3.out, ?_, fun q hq => ?_⟩
            · rw [ord_succ, HS.out.2.2.2.2, ← HS.out.2.1]
              simp [told]
            · rcases List.mem_append.1 hq with h | h
              · exact HS.out.2.2.1 q h
              · rw [List.mem_singleton.1 h]
                have := HS.out.2.2.2.1
                show p.length ≤ 200
                omega
          case measure => simp [intOf]; omega
      · obtain rfl : k = n := by omega
        have HS := Lib.hid (And.intro hs ht)
        clear hs ht h200 hfl
        have HD := Lib.hid (show told fs = (ord ps k).drop 0 by rw [List.drop_zero]; exact HS.out.2)
        go_wp2_with fail
        go_loopw [2, 6, 7, 8, 9, 41] (fun _ _ _ _ _ i wr => ∃ (q : Nat) (v : Value) (fs : List Fl), q ≤ k ∧ i = .int .i64 q ∧ St w wr b v fs ∧ told fs = (ord ps k).drop q) (fun _ _ _ _ _ i _ => k - (intOf i).toNat)
        case atStart => exact ⟨0, v, fs, by omega, rfl, HS.out.1, HD.out⟩
        case round =>
          clear HS HD
          obtain ⟨q, v, fs, hq, rfl, hs, ht⟩ := hrel
          by_cases hlt : q < k
          · obtain ⟨p, hp⟩ : ∃ p, ps[q]? = some p := ⟨_, List.getElem?_eq_getElem (by rw [HN.out]; omega)⟩
            obtain ⟨ad, A3, c3, rfl, hall⟩ := HL.out q p hp
            rw [ord_get hlt hp] at ht
            match fs, ht with
            | f :: fs, ht =>
              simp only [told, List.map_cons, List.cons.injEq, Prod.mk.injEq] at ht
              obtain ⟨⟨hto, hbb⟩, ht⟩ := ht
              have C := take_in _ _ _ _ _ hs.at_ 0 f rfl
              rw [hto, hbb] at C
              have C := Lib.hid (show Calls Try.prog 9 #[ptr b, .int .i64 0] wr fun e w' => e = .returned (.tuple #[.agg #[.int .i64 (q : Int), f.u], .int .i64 0]) ∧ Post wr b b v (f :: fs) fs w' ∧ OwnB w' b f.u p from by simpa using C)
              have HS := Lib.hid (And.intro hs ht)
              have HALL := Lib.hid hall
              obtain ⟨hcell, _⟩ := hall wr hs.new
              obtain ⟨m, hm⟩ : ∃ m, p.length = m := ⟨_, rfl⟩
              rw [hm] at hcell HALL
              have HM := Lib.hid hm
              clear hall hs ht hp hto hbb hm
              go_wp2_with fail
              refine C.out.mono ?_
              rintro e w3 ⟨rfl, hp, hu⟩
              obtain ⟨v3, s3⟩ := HS.out.1.post hp
              obtain ⟨Af, cf, hfu⟩ := own_form hu
              rw [HM.out] at hfu
              rw [hfu] at hu ⊢
              have m4 := (Chg.refl (fun _ => False) w3).alloc (.cells #[.int .i64 (q : Int), .slice Af m cf] 35)
              have k1 := own_str hu m4
              have k2 := run_str Try.underlying27 Try.underlying5 Try.underlying9 (HALL.out _ (s3.new.trans m4 fun _ _ => id)).2 c3
              have H4 := Lib.hid (s3.news m4)
              clear hp hu hfu m4 s3 C
              go_wp2_with fail
              go_roundw
              case rel => exact ⟨q + 1, v3, fs, by omega, by go_num, H4.out, HS.out.2⟩
              case measure => simp [intOf]; omega
            | [], ht => simp [told] at ht
          · obtain rfl : q = k := by omega
            have hfs : fs = [] := by
              have := congrArg List.length ht
              rw [List.length_drop, ord_len] at this
              simpa [told] using this
            subst hfs
            have C := Lib.hid (take_none _ _ _ _ _ hs.at_ 0 (.inr (by simp)))
            have HS := Lib.hid hs
            clear hs ht
            go_wp2_with fail
            refine C.out.mono ?_
            rintro e w3 ⟨rfl, n3⟩
            have m4 := n3.trans ((Chg.refl (fun _ => False) w3).alloc (.cells #[.int .i64 0, .slice none 0 0] 35)) fun _ _ => id
            have K := Lib.hid (len _ _ _ _ _ (HS.out.news m4).at_)
            have H4 := Lib.hid ((HS.out.news m4).new)
            clear n3 m4 C
            go_wp2_with fail
            refine K.out.mono ?_
            rintro e w5 ⟨rfl, rfl⟩
            go_wp2
            go_ret
            exact ⟨rfl, H4.out⟩
theorem order_args {H : Type} {enc : TypeId × Value → H} {W : World} {base : Nat} {args : Array Value} {ds : List (DataW H)} {ps : List MemPlace}
    (hval : ∀ (j : Nat) t v, Try.f5.params[j]? = some t → args[j]? = some v → Value.okWide Try.prog W .any base t v)
    (hw : ∀ (j : Nat) t d, Try.f5.params.toList[j]? = some t → ds[j]? = some d → ∀ n ∈ d.weights Try.prog t, n ≤ reachBytes)
    (hA : DataW.TrodAll enc Try.prog W 0 (fun _ => true) true Try.f5.params.toList args.toList ds ps) :
    Calls Try.prog 5 args W fun e w' => LawEnd W e w' := by
  rw [Try.params5] at hA hval hw
  obtain ⟨v0, d0, rfl, rfl, h0⟩ := trodAll_one hA
  have o0 := hval 0 _ v0 rfl rfl
  have q0 := hw 0 _ d0 rfl rfl
  obtain ⟨A, c, ps, rfl, hn, hl⟩ := open_lies (cells_slice Try.underlying45 o0) q0 h0
  exact order W A c ps hn hl
end Net

namespace lawNetOrder
theorem own : ownKnob Try.prog.godebug = none := by kernel_rfl
theorem laidOut : laidOutB Try.prog = true := by kernel_rfl
theorem reads : ∀ t ∈ Try.f5.params.toList, Try.prog.readableRec t = true ∧ t < Try.prog.types.size := by
  have h : (Try.f5.params.toList.all fun t => Try.prog.readableRec t && decide (t < Try.prog.types.size)) = true := by kernel_rfl
  intro t ht
  have := List.all_eq_true.1 h t ht
  simpa using this
theorem spec {H : Type} (ds : List (DataW H)) (h : ds.length = 1) : Rows.netOrderSpec.fn H ds = { results := [.lit (.bool true)], args := ds } := by
  match ds, h with
  | [d1], _ => rfl
theorem trodAll_len {H : Type} {enc : TypeId × Value → H} {P : Program} {w : World} {base : Nat} {sp : Nat → Bool} {held : Bool} : ∀ (ts : List TypeId) (vs : List Value) (ds : List (DataW H)) (ps : List MemPlace),
    DataW.TrodAll enc P w base sp held ts vs ds ps → ds.length = ts.length
  | [], _, _, _, h => by
    obtain ⟨_, rfl, _⟩ := trodAll_nil h
    rfl
  | _ :: ts, _, _, _, h => by
    obtain ⟨_, vs, _, ds, _, _, _, rfl, _, _, hr⟩ := trodAll_cons h
    simp [trodAll_len ts vs ds _ hr]
theorem contract (H : Type) (enc : TypeId × Value → H) (W : World) (base : Nat) (args : Array Value) (ds gs : List (DataW H)) (before : List MemPlace)
    (hval : ∀ (j : Nat) t v, Try.f5.params[j]? = some t → args[j]? = some v → Value.okWide Try.prog W .any base t v)
    (hW : DataW.Whole enc Try.prog Try.f5.params.toList Rows.netOrderSpec.vars false W args.toList ds gs before)
    (hz : (DataW.weightsEach Try.prog (Try.f5.params.toList ++ Rows.netOrderSpec.plain.varTypes Try.prog) (ds ++ gs)).all (· ≤ reachBytes) = true) :
    Calls Try.prog 5 args W fun e W' => ∃ v, e = .returned v ∧ Rows.netOrderSpec.post enc Try.prog Try.f5 false true false false W args v W' := by
  obtain ⟨p, q, hA, hV, _⟩ := id hW
  have hlen : ds.length = 1 := (trodAll_len _ _ _ _ hA).trans (by kernel_rfl)
  have hV1 : DataW.TrodVars enc Try.prog W (fun _ => true) [] gs q := hV
  obtain ⟨rfl, rfl⟩ := trodVars_none hV1
  have hw : ∀ (j : Nat) t d, Try.f5.params.toList[j]? = some t → ds[j]? = some d → ∀ n ∈ d.weights Try.prog t, n ≤ reachBytes := by
    intro j t d ht hd n hn
    rw [List.append_nil] at hz
    have hlt : j < Try.f5.params.toList.length := (List.getElem?_eq_some_iff.1 ht).1
    have := List.all_eq_true.1 hz n (DataW.weights_mem_each (by rw [List.getElem?_append_left hlt]; exact ht) hd n hn)
    simpa using this
  refine (Net.order_args hval hw hA).mono fun e W' ⟨he, hn⟩ => ?_
  exact ⟨_, he, law_post laidOut (tb := 4) rfl Try.underlying4 reads rfl hW (spec ds hlen) hn.below⟩
set_option maxRecDepth 100000 in
theorem lifted (os : Os) (started : os.Started) (H : Type) (enc : TypeId × Value → H) :
    ReturnsInHanded {} Try.checked os 5 .any (Rows.netOrderSpec.pre6 enc Try.prog Try.f5 Rows.netOrderRow.domain false) (Rows.netOrderSpec.post enc Try.prog Try.f5 false true false false) := by
  refine returnsInHanded_of_change_sized (C := Try.checked) own started (by kernel_rfl) Try.func5
    (ChangeSpec.witness6 (enc := enc) (C := Try.checked) (s := Rows.netOrderSpec) false ⟨#[], #[.slice none 0 0], []⟩ 60 (by kernel_rfl) (by kernel_rfl) (by kernel_rfl) (by kernel_rfl)) ?_
  intro W base args ds gs before hval hW _ hz _
  exact contract H enc W base args ds gs before hval hW hz
theorem proved : Rows.NetOrderSaid :=
  OpenClaim.holds_of_wide 5 Try.f5 rfl rfl rfl rfl rfl rfl rfl ⟨rfl, rfl, rfl, rfl, rfl⟩ rfl rfl rfl rfl rfl (by kernel_rfl) Try.func5 (by kernel_rfl)
    (of_decide_eq_true (by kernel_rfl)) (by unfold Func.isWrapper; first | (rw [if_pos (by decide +kernel)]; kernel_rfl) | (rw [if_neg (by decide +kernel)]; exact ⟨rfl, rfl⟩))
    (fun os started H enc _ => lifted os started H enc)
end lawNetOrder
end Go.Proofs.Ytbagiehocgaoiaa

/-
  hedgerowlaw11.JournalSpoilt returns true for every input: of synced records of which a byte is turned nothing is recovered (no condition).
-/
import Derived.Test.YthgpphedpegbgaaJournalLaid
namespace Go.Proofs.Ythgpphedpegbgaa
open Go.ChangeShapes Go.WideShapes Go.RowKit Go.Deep
namespace Journal
open Go.Proofs.Ythgpphedpegbgaa.Frame (Part Parts PartsL Part.chg Part.new)
open Go.Proofs.Ythgpphedpegbgaa.Disk (Dsk At Post Foot ptr)
attribute [local go_sem ↓] loadOnly0
theorem few100.small {rs : List Rec} (h : few100 rs) : small rs := fun p hp => by
  obtain ⟨r, hr, rfl⟩ := List.mem_map.1 hp
  have := h.2 r hr
  simp [pay]
  omega
theorem cat_pos {rs : List Rec} (h : 0 < rs.length) : 0 < (catR rs).length := by
  match rs, h with
  | r :: rs, _ =>
    rw [show r :: rs = [r] ++ rs from rfl, catR_append, List.length_append, catR_one, Frame.frameL_length]
    simp
    omega
theorem ends_at {w : World} {base : Nat} {E : Value} {rs : List Rec} (h : OwnI w base E (Frame.endsL (rs.map pay) rs.length)) : ∃ g c, E = .slice (some ⟨g, 0, none⟩) (rs.length + 1) c ∧ ∀ W, New w W → ∀ j, j ≤ rs.length → W.cell? ⟨g, j, none⟩ = some (.int .i64 (endR rs j : Int)) := by
  obtain ⟨g, c, rfl, hb, hg⟩ := World.ownsRow.form h (by rw [Frame.endsL_len]; omega)
  refine ⟨g, c, by rw [Frame.endsL_len], fun W hW j hj => ?_⟩
  have hc := World.ownsRow.cellAt h j (by rw [Frame.endsL_len]; omega)
  rw [show (ints (Frame.endsL (rs.map pay) rs.length))[j]? = some (.int .i64 (endR rs j : Int)) by rw [ints_get, Frame.endsL_get _ hj]; rfl] at hc
  exact (hW.cell (block_lt_of_cell hc) id).trans hc
theorem up_foot {W : World} {lo b : Nat} {v : Value} {d : Dsk} (h : At W lo b v d) {k : Nat} (e : Foot b v k) : lo ≤ k := by
  rcases e with e | e
  · rw [e]; exact h.low
  · exact (own_lt h.own e).1
set_option maxHeartbeats 20000000 in
theorem spoilt (w : World) (v : Value) (rs : List Rec) (h : RecsR w v rs) (hn : rs.length ≤ 140737488351232) (at_ : Nat) (hat : at_ < 65536) (y : UInt8) :
    Calls Try.prog 3 #[v, .int .u16 (at_ : Int), .int .u8 (y.toNat : Int)] w fun e w' => LawEnd w e w' := by
  have h0 := h
  obtain ⟨A, c, rfl, hnc, _⟩ := h0.ex
  clear h0
  go_enter Try.func3, Try.ntmps3
  go_wp2_with fail
  refine (fixed _).mono ?_
  rintro e w1 ⟨rfl, n1⟩
  have R1 := Lib.hid (h.new n1)
  have N1 := Lib.hid n1
  clear h n1
  go_wp2_with fail
  refine (few_ w1 _ _ R1.out hn).mono ?_
  rintro e w2 ⟨ok, rfl, hok, n2⟩
  have R2 := Lib.hid (R1.out.new n2)
  have N2 := Lib.hid (N1.out.trans n2 fun _ _ => id)
  have HOK := Lib.hid hok
  clear R1 N1 n2 hok
  cases ok with
  | false =>
    go_wp2_with fail
    go_ret
    exact ⟨rfl, N2.out⟩
  | true =>
    have hf := HOK.out rfl
    have HF := Lib.hid hf
    obtain ⟨n, hnn⟩ : ∃ n, rs.length = n := ⟨_, rfl⟩
    have HN := Lib.hid hnn
    have C := Lib.hid (laid w2 _ rs rs.length R2.out hf hn)
    rw [hnn] at hn hnc C ⊢
    clear hnn hf HOK
    by_cases h0 : n = 0
    · subst h0
      clear C
      go_wp2_with fail
      go_ret
      exact ⟨rfl, N2.out⟩
    · have hpos : 0 < n := by omega
      have hne : ((n : Int) == 0) = false := by simp; omega
      go_wp2_with fail
      refine C.out.mono ?_
      rintro e w3 ⟨b, vd, ve, rfl, h3, e3, n3⟩
      rw [Nat.min_self, show endR rs n = (catR rs).length by rw [← HN.out, endR_all]] at h3
      have hcp := cat_pos (rs := rs) (by rw [HN.out]; exact hpos)
      have hcl := few_len HF.out.few
      rw [← HN.out] at e3
      obtain ⟨g, ce, rfl, hcell⟩ := ends_at e3
      have hc := hcell w3 (Chg.refl _ _) rs.length (Nat.le_refl _)
      rw [HN.out] at hc ⊢
      rw [show endR rs n = (catR rs).length by rw [← HN.out, endR_all]] at hc
      obtain ⟨L, hL⟩ : ∃ L, (catR rs).length = L := ⟨_, rfl⟩
      rw [hL] at hc hcp hcl
      obtain ⟨k, hk⟩ : ∃ k, at_ % L = k := ⟨_, rfl⟩
      have hkl : k < L := by rw [← hk]; exact Nat.mod_lt _ hcp
      have hmod : (at_ : Int) % (L : Int) = (k : Int) := by rw [← hk]; rfl
      have C2 := Disk.spoil _ _ _ _ _ h3 (k : Int) y (by omega) (by omega)
      rw [show Disk.spoilF ⟨catR rs, (catR rs).length⟩ (k : Int) y = ⟨Disk.turn (catR rs) k y, L⟩ by
        unfold Disk.spoilF
        simp only [Int.toNat_natCast]
        rw [hL, if_pos ⟨by omega, by omega⟩]] at C2
      have C2 := Lib.hid C2
      have HL := Lib.hid hL
      have VL := Lib.hid (fun g (hg : vd.ownBlock = some g) => (own_lt h3.own hg).1)
      have BL := Lib.hid h3.low
      have N3 := Lib.hid (N2.out.trans n3 fun _ _ => id)
      have S2 := Lib.hid N2.out.size
      clear h3 e3 n3 hcell hL hk C
      go_wp2_with fail
      refine C2.out.mono ?_
      rintro e w4 ⟨rfl, h4, c4⟩
      have n4 : New w w4 := N3.out.trans c4 fun k hk e => by
        have h1 := BL.out
        have h2 := S2.out
        rcases e with e | e
        · omega
        · have := VL.out k e; omega
      have N4 := Lib.hid n4
      have hsm := HF.out.small
      clear n4 c4 C2 N3 VL
      by_cases hy : y = 0
      · subst hy
        rw [turn_zero, ← HL.out] at h4
        have hrd := read_cat hsm
        have C3 := recover _ _ _ _ _ h4 h4.blk.lt (.inl (by rw [hrd]))
        simp only [hrd] at C3
        have C3 := Lib.hid C3
        have H4 := Lib.hid (fun g hf => up_foot h4 (k := g) hf)
        have hs4 := N4.out.size
        clear h4 hrd hsm
        go_wp2_with fail
        refine C3.out.mono ?_
        rintro e w5 ⟨u, rfl, hrec, hp⟩
        obtain ⟨Au, cu, rfl, _, _⟩ := hrec.toR.ex
        rw [HN.out]
        obtain ⟨v5, _, c5, _⟩ := hp
        have n5 := N4.out.trans c5 fun k hk e => by have := H4.out k e; have := S2.out; omega
        have N5 := Lib.hid n5
        clear hrec c5 n5
        go_wp2
        go_ret
        exact ⟨rfl, N5.out⟩
      · have hyb : ((y.toNat : Int) == 0) = false := by
          have : y.toNat ≠ 0 := fun h => hy (UInt8.toNat_inj.1 (by simpa using h))
          simp
          omega
        obtain ⟨hb1, hb2⟩ := read_spoilt hsm (k := k) (by rw [HL.out]; exact hkl) hy
        rw [HL.out] at hb2
        have C3 := recover_bad _ _ _ _ _ h4 (by show (readF (Disk.turn (catR rs) k y)).2.2 ≠ 0; rw [hb1]; omega) hb2
        simp only [hb1] at C3
        have C3 := Lib.hid C3
        clear h4 hsm hb1 hb2
        go_wp2_with fail
        refine C3.out.mono ?_
        rintro e w5 ⟨rfl, n5⟩
        have N5 := Lib.hid (N4.out.trans n5 fun _ _ => id)
        clear n5
        go_wp2
        go_ret
        exact ⟨rfl, N5.out⟩
theorem spoilt_args {H : Type} {enc : TypeId × Value → H} {W : World} {base : Nat} {args : Array Value} {ds : List (DataW H)} {ps : List MemPlace}
    (hval : ∀ (j : Nat) t v, Try.f3.params[j]? = some t → args[j]? = some v → Value.okWide Try.prog W .any base t v)
    (hw : ∀ (j : Nat) t d, Try.f3.params.toList[j]? = some t → ds[j]? = some d → ∀ n ∈ d.weights Try.prog t, n ≤ reachBytes)
    (hA : DataW.TrodAll enc Try.prog W 0 (fun _ => true) true Try.f3.params.toList args.toList ds ps) :
    Calls Try.prog 3 args W fun e w' => LawEnd W e w' := by
  rw [Try.params3] at hA hval hw
  obtain ⟨v0, v1, v2, d0, d1, d2, p0, p1, p2, rfl, rfl, rfl, h0, h1, h2⟩ := trodAll_three hA
  have o0 := hval 0 _ v0 rfl rfl
  have q0 := hw 0 _ d0 rfl rfl
  have o1 := hval 1 _ v1 rfl rfl
  have q1 := hw 1 _ d1 rfl rfl
  have o2 := hval 2 _ v2 rfl rfl
  have q2 := hw 2 _ d2 rfl rfl
  obtain ⟨rs, hr, hn⟩ := open_recs (cells_slice Try.underlying22 o0) q0 h0
  obtain ⟨at_, rfl, ha⟩ := open_u16 Try.underlying23 o1 h1
  obtain ⟨y, rfl⟩ := open_u8 Try.underlying5 o2 h2
  exact spoilt W _ rs hr hn at_ ha y
end Journal

namespace lawJournalSpoilt
theorem own : ownKnob Try.prog.godebug = none := by kernel_rfl
theorem laidOut : laidOutB Try.prog = true := by kernel_rfl
theorem reads : ∀ t ∈ Try.f3.params.toList, Try.prog.readableRec t = true ∧ t < Try.prog.types.size := by
  have h : (Try.f3.params.toList.all fun t => Try.prog.readableRec t && decide (t < Try.prog.types.size)) = true := by kernel_rfl
  intro t ht
  have := List.all_eq_true.1 h t ht
  simpa using this
theorem spec {H : Type} (ds : List (DataW H)) (h : ds.length = 3) : Rows.journalSpoiltSpec.fn H ds = { results := [.lit (.bool true)], args := ds } := by
  match ds, h with
  | [d1, d2, d3], _ => rfl
theorem trodAll_len {H : Type} {enc : TypeId × Value → H} {P : Program} {w : World} {base : Nat} {sp : Nat → Bool} {held : Bool} : ∀ (ts : List TypeId) (vs : List Value) (ds : List (DataW H)) (ps : List MemPlace),
    DataW.TrodAll enc P w base sp held ts vs ds ps → ds.length = ts.length
  | [], _, _, _, h => by
    obtain ⟨_, rfl, _⟩ := trodAll_nil h
    rfl
  | _ :: ts, _, _, _, h => by
    obtain ⟨_, vs, _, ds, _, _, _, rfl, _, _, hr⟩ := trodAll_cons h
    simp [trodAll_len ts vs ds _ hr]
theorem contract (H : Type) (enc : TypeId × Value → H) (W : World) (base : Nat) (args : Array Value) (ds gs : List (DataW H)) (before : List MemPlace)
    (hval : ∀ (j : Nat) t v, Try.f3.params[j]? = some t → args[j]? = some v → Value.okWide Try.prog W .any base t v)
    (hW : DataW.Whole enc Try.prog Try.f3.params.toList Rows.journalSpoiltSpec.vars false W args.toList ds gs before)
    (hz : (DataW.weightsEach Try.prog (Try.f3.params.toList ++ Rows.journalSpoiltSpec.plain.varTypes Try.prog) (ds ++ gs)).all (· ≤ reachBytes) = true) :
    Calls Try.prog 3 args W fun e W' => ∃ v, e = .returned v ∧ Rows.journalSpoiltSpec.post enc Try.prog Try.f3 false true false false W args v W' := by
  obtain ⟨p, q, hA, hV, _⟩ := id hW
  have hlen : ds.length = 3 := (trodAll_len _ _ _ _ hA).trans (by kernel_rfl)
  have hV1 : DataW.TrodVars enc Try.prog W (fun _ => true) [] gs q := hV
  obtain ⟨rfl, rfl⟩ := trodVars_none hV1
  have hw : ∀ (j : Nat) t d, Try.f3.params.toList[j]? = some t → ds[j]? = some d → ∀ n ∈ d.weights Try.prog t, n ≤ reachBytes := by
    intro j t d ht hd n hn
    rw [List.append_nil] at hz
    have hlt : j < Try.f3.params.toList.length := (List.getElem?_eq_some_iff.1 ht).1
    have := List.all_eq_true.1 hz n (DataW.weights_mem_each (by rw [List.getElem?_append_left hlt]; exact ht) hd n hn)
    simpa using this
  refine (Journal.spoilt_args hval hw hA).mono fun e W' ⟨he, hn⟩ => ?_
  exact ⟨_, he, law_post laidOut (tb := 4) rfl Try.underlying4 reads rfl hW (spec ds hlen) hn.below⟩
set_option maxRecDepth 100000 in
theorem lifted (os : Os) (started : os.Started) (H : Type) (enc : TypeId × Value → H) :
    ReturnsInHanded {} Try.checked os 3 .any (Rows.journalSpoiltSpec.pre6 enc Try.prog Try.f3 Rows.journalSpoiltRow.domain false) (Rows.journalSpoiltSpec.post enc Try.prog Try.f3 false true false false) := by
  refine returnsInHanded_of_change_sized (C := Try.checked) own started (by kernel_rfl) Try.func3
    (ChangeSpec.witness6 (enc := enc) (C := Try.checked) (s := Rows.journalSpoiltSpec) false ⟨#[], #[.slice none 0 0, .int .u16 0, .int .u8 0], []⟩ 60 (by kernel_rfl) (by kernel_rfl) (by kernel_rfl) (by kernel_rfl)) ?_
  intro W base args ds gs before hval hW _ hz _
  exact contract H enc W base args ds gs before hval hW hz
theorem proved : Rows.JournalSpoiltSaid :=
  OpenClaim.holds_of_wide 3 Try.f3 rfl rfl rfl rfl rfl rfl rfl ⟨rfl, rfl, rfl, rfl, rfl⟩ rfl rfl rfl rfl rfl (by kernel_rfl) Try.func3 (by kernel_rfl)
    (of_decide_eq_true (by kernel_rfl)) (by unfold Func.isWrapper; first | (rw [if_pos (by decide +kernel)]; kernel_rfl) | (rw [if_neg (by decide +kernel)]; exact ⟨rfl, rfl⟩))
    (fun os started H enc _ => lifted os started H enc)
end lawJournalSpoilt
end Go.Proofs.Ythgpphedpegbgaa

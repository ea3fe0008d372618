/-
  What the program's journal package tells of a disk, and what recovering leaves of it (no condition).
-/
import Derived.Test.YthgpphedpegbgaaJournal3
namespace Go.Proofs.Ythgpphedpegbgaa
open Go.ChangeShapes Go.WideShapes Go.RowKit Go.Deep
namespace Journal
open Go.Proofs.Ythgpphedpegbgaa.Frame (Part Parts PartsL Part.chg Part.new)
open Go.Proofs.Ythgpphedpegbgaa.Disk (Dsk At Post Foot ptr)
attribute [local go_sem ↓] loadOnly0
theorem Recs.chg {w w' : World} {base : Nat} {v : Value} {rs : List Rec} {S : Nat → Prop} (h : Recs w base v rs) (hc : Chg S w w') (hS : ∀ k, S k → k < base ∨ w.heap.size ≤ k) : Recs w' base v rs := by
  obtain ⟨kv, hl, ho, hp⟩ := h.ex
  refine ⟨⟨kv, hl, own_chg ho hc (fun k hk hs => by have := own_lt ho hk; have := hS k hs; omega), fun i p hi => ?_⟩⟩
  obtain ⟨u, hu, hq⟩ := hp i p hi
  exact ⟨u, hu, (Part.chg hq hc fun b hb hs => by have := hS b hs; have := hb.2.1; have := hb.1; omega).mono fun b hb => ⟨hb.1, Nat.lt_of_lt_of_le hb.2.1 hc.size, hb.2.2⟩⟩
theorem read_nil (w : World) : Calls Try.prog 13 #[.pointer none] w fun e w' => e = .returned (.tuple #[.slice none 0 0, .int .i64 1]) ∧ w = w' := by
  go_enter Try.func13, Try.ntmps13
  go_wp2
  go_ret2
  exact ⟨rfl, rfl⟩
set_option maxHeartbeats 4000000 in
theorem readD (w : World) (lo b : Nat) (v : Value) (d : Dsk) (h : At w lo b v d) :
    Calls Try.prog 13 #[ptr b] w fun e w' => ∃ u, e = .returned (.tuple #[u, .int .i64 (readF d.b).2.2]) ∧ Recs w' w.heap.size u (readF d.b).1 ∧ New w w' := by
  have hle := h.ok.2
  obtain ⟨hri, hel, hsm⟩ := read_inv d.b
  obtain ⟨⟨rs, en, er⟩, hR⟩ : ∃ R, readF d.b = R := ⟨_, rfl⟩
  rw [hR] at hri hel hsm ⊢
  simp only at hri hel hsm ⊢
  have HGE := Lib.hid hR
  clear hR hri hsm
  have C := Lib.hid (Disk.bytes w lo b v d h)
  clear h
  go_enter Try.func13, Try.ntmps13
  go_wp2_with fail
  refine C.out.mono ?_
  rintro e w1 ⟨x, rfl, ho, n1⟩
  obtain ⟨A, c, rfl, hnc, _, _, hr⟩ := OwnB.form ho
  have K := read w1 _ A _ c d.b hr (fun b hb => hb.2.1) hnc hle
  rw [HGE.out] at K
  have K := Lib.hid K
  have hs1 := n1.size
  have HN := Lib.hid n1
  clear ho hr n1
  go_wp2_with fail
  refine K.out.mono ?_
  rintro e w2 ⟨u, rfl, hu, n2⟩
  have H2 := Lib.hid (And.intro (hu.mono hs1) (HN.out.trans n2 fun _ _ => id))
  clear hu n2
  go_wp2
  go_ret2
  exact ⟨u, rfl, H2.out⟩
set_option maxHeartbeats 4000000 in
theorem recover_bad (w : World) (lo b : Nat) (v : Value) (d : Dsk) (h : At w lo b v d) (he : (readF d.b).2.2 ≠ 0) (hlt : (readF d.b).2.1 < d.s) :
    Calls Try.prog 11 #[ptr b] w fun e w' => e = .returned (.tuple #[.slice none 0 0, .int .i64 (readF d.b).2.2]) ∧ New w w' := by
  have hle := h.ok.2
  obtain ⟨hri, hel, hsm⟩ := read_inv d.b
  obtain ⟨⟨rs, en, er⟩, hR⟩ : ∃ R, readF d.b = R := ⟨_, rfl⟩
  rw [hR] at hri hel hsm he hlt ⊢
  simp only at hri hel hsm he hlt ⊢
  have HGE := Lib.hid hR
  clear hR hri hsm
  have C := Lib.hid (Disk.bytes w lo b v d h)
  have H := Lib.hid h
  clear h
  go_enter Try.func11, Try.ntmps11
  go_wp2_with fail
  refine C.out.mono ?_
  rintro e w1 ⟨x, rfl, ho, n1⟩
  obtain ⟨A, c, rfl, hnc, _, _, hr⟩ := OwnB.form ho
  have K := read w1 _ A _ c d.b hr (fun b hb => hb.2.1) hnc hle
  rw [HGE.out] at K
  have K := Lib.hid K
  have HN := Lib.hid n1
  clear ho hr n1
  have heb : (er == 0) = false := by simpa using he
  have heb2 : (er != 0) = true := by simpa using he
  go_wp2_with fail
  refine K.out.mono ?_
  rintro e w2 ⟨u, rfl, hu, n2⟩
  have hn2 := HN.out.trans n2 fun _ _ => id
  have S := Lib.hid (Disk.synced w2 lo b v d (H.out.new hn2))
  have HN2 := Lib.hid hn2
  clear hu n2 hn2
  go_wp2_with fail
  refine S.out.mono ?_
  rintro e w3 ⟨rfl, rfl⟩
  go_wp2_with fail
  go_ret2
  exact ⟨rfl, HN2.out⟩
set_option maxHeartbeats 4000000 in
theorem recover2 (w : World) (lo b : Nat) (v : Value) (d : Dsk) (h : At w lo b v d) (hb : b < w.heap.size) (hok : (readF d.b).2.2 = 0 ∨ d.s ≤ (readF d.b).2.1) :
    Calls Try.prog 11 #[ptr b] w fun e w' => ∃ u w2, e = .returned (.tuple #[u, .int .i64 0]) ∧ New w w2 ∧ Recs w2 w.heap.size u (readF d.b).1 ∧ Post w2 lo b v ⟨d.b.take (readF d.b).2.1, (readF d.b).2.1⟩ w' := by
  have hle := h.ok.2
  obtain ⟨hri, hel, hsm⟩ := read_inv d.b
  obtain ⟨⟨rs, en, er⟩, hR⟩ : ∃ R, readF d.b = R := ⟨_, rfl⟩
  rw [hR] at hri hel hsm hok ⊢
  simp only at hri hel hsm hok ⊢
  have HGE := Lib.hid hR
  clear hR hri hsm
  have hvl := fun k hk => (own_lt h.own (k := k) hk).2
  have C := Lib.hid (Disk.bytes w lo b v d h)
  have H := Lib.hid h
  clear h
  go_enter Try.func11, Try.ntmps11
  go_wp2_with fail
  refine C.out.mono ?_
  rintro e w1 ⟨x, rfl, ho, n1⟩
  obtain ⟨A, c, rfl, hnc, _, _, hr⟩ := OwnB.form ho
  have K := read w1 _ A _ c d.b hr (fun b hb => hb.2.1) hnc hle
  rw [HGE.out] at K
  have K := Lib.hid K
  have HN := Lib.hid n1
  have HR := Lib.hid hr
  have hs1 := n1.size
  clear ho hr n1
  have hsl := slice_u8_to A d.b.length c en (by omega)
  go_wp2_with fail
  refine K.out.mono ?_
  rintro e w2 ⟨u, rfl, hu, n2⟩
  have hn2 := HN.out.trans n2 fun _ _ => id
  have hr2 := (HR.out.chg' n2 (fun _ _ => id) (by omega)).takeB hel
  have R := Disk.reset w2 lo b v d (H.out.new hn2) A en c (d.b.take en) _ hr2 (by omega)
  have htl : (d.b.take en).length = en := by rw [List.length_take]; omega
  rw [show Disk.resetE en = 0 by unfold Disk.resetE; rw [if_neg (by omega)], show Disk.resetF d (d.b.take en) = ⟨d.b.take en, en⟩ by unfold Disk.resetF; rw [htl, if_neg (by omega)]] at R
  have R := Lib.hid R
  have S := Lib.hid (Disk.synced w2 lo b v d (H.out.new hn2))
  have HN2 := Lib.hid hn2
  have HU := Lib.hid (hu.mono hs1)
  have HV := Lib.hid hvl
  clear hu n2 hn2 hr2 hvl
  generalize d.b.length = n at *
  by_cases he : er = 0
  · subst he
    go_wp2_with fail
    refine R.out.mono ?_
    rintro e w3 ⟨rfl, hp⟩
    have HP := Lib.hid hp
    clear hp
    go_wp2
    go_ret2
    exact ⟨u, w2, rfl, HN2.out, HU.out, HP.out⟩
  · have heb : (er == 0) = false := by simpa using he
    have heb2 : (er != 0) = true := by simpa using he
    have hge : ¬ (en : Int) < d.s := by omega
    go_wp2_with fail
    refine S.out.mono ?_
    rintro e w3 ⟨rfl, rfl⟩
    go_wp2_with fail
    refine R.out.mono ?_
    rintro e w3 ⟨rfl, hp⟩
    have HP := Lib.hid hp
    clear hp
    go_wp2
    go_ret2
    exact ⟨u, w2, rfl, HN2.out, HU.out, HP.out⟩
theorem recover (w : World) (lo b : Nat) (v : Value) (d : Dsk) (h : At w lo b v d) (hb : b < w.heap.size) (hok : (readF d.b).2.2 = 0 ∨ d.s ≤ (readF d.b).2.1) :
    Calls Try.prog 11 #[ptr b] w fun e w' => ∃ u, e = .returned (.tuple #[u, .int .i64 0]) ∧ Recs w' w.heap.size u (readF d.b).1 ∧ Post w lo b v ⟨d.b.take (readF d.b).2.1, (readF d.b).2.1⟩ w' := by
  refine (recover2 w lo b v d h hb hok).mono ?_
  rintro e w' ⟨u, w2, rfl, hn, hr, hp⟩
  refine ⟨u, rfl, ?_, post_new hn hp⟩
  obtain ⟨v', _, hc, _⟩ := hp
  refine hr.chg hc fun k hk => .inl ?_
  rcases hk with e | e
  · rw [e]; exact hb
  · exact (own_lt h.own e).2
end Journal
end Go.Proofs.Ythgpphedpegbgaa

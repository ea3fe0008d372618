/-
  The fixed facts at the head of chapter 11's statements (no condition).
-/
import Derived.Test.YthgpphedpegbgaaJournal4
import Derived.Test.YthgpphedpegbgaaDiskTwin
namespace Go.Proofs.Ythgpphedpegbgaa
open Go.ChangeShapes Go.WideShapes Go.RowKit Go.Deep
namespace Journal
open Go.Proofs.Ythgpphedpegbgaa.Frame (Part Parts PartsL Part.chg Part.new)
open Go.Proofs.Ythgpphedpegbgaa.Disk (Dsk At Post Foot ptr)
attribute [local go_sem ↓] loadOnly0
/-- the fixed record, and its bytes -/
def fr : Rec := (1, [104, 105])
def fb : List UInt8 := catR [fr]
theorem fb_len : fb.length = 11 := by decide +kernel
theorem fb_two : readF (fb ++ fb ++ [9]) = ([fr, fr], 22, 2) := by decide +kernel
theorem fb_bad : readF (Disk.turn (fb ++ fb) 2 1) = ([], 0, 7) := by decide +kernel
theorem fb_cat : catR [fr, fr] = fb ++ fb := by decide +kernel
theorem fb_cut : List.take 22 (fb ++ fb ++ [9]) = fb ++ fb := by decide +kernel
theorem f1 : Disk.writeF Disk.fresh fb = ⟨fb, 0⟩ := by unfold Disk.writeF; rw [if_neg (by rw [fb_len]; simp [Disk.fresh])]; rfl
theorem f2 : Disk.writeF ⟨fb, 11⟩ fb = ⟨fb ++ fb, 11⟩ := by unfold Disk.writeF; rw [if_neg (by rw [fb_len]; omega)]
theorem f3 : Disk.writeF ⟨fb ++ fb, 11⟩ [9] = ⟨fb ++ fb ++ [9], 11⟩ := by unfold Disk.writeF; rw [if_neg (by rw [List.length_append, fb_len]; simp)]
theorem f4 : Disk.spoilF ⟨fb ++ fb, 11⟩ 2 1 = ⟨Disk.turn (fb ++ fb) 2 1, 11⟩ := by unfold Disk.spoilF; rw [if_pos ⟨by omega, by rw [List.length_append, fb_len]; omega⟩]; rfl
theorem e1 : Disk.writeE Disk.fresh 11 = 0 := by decide
theorem e2 : Disk.writeE ⟨fb, 11⟩ 11 = 0 := by unfold Disk.writeE; rw [if_neg (by simp [fb_len])]
/-- the fixed record lies at bx, its data at dx; the disk d at b -/
structure St (w W : World) (b dx bx : Nat) (v : Value) (d : Dsk) : Prop where
  at_ : At W b b v d
  new : New w W
  box : Blk W bx 39 #[.int .u8 1, .slice (some ⟨dx, 0, none⟩) 2 2]
  data : Reads W (fun g => g = dx) 1 (some ⟨dx, 0, none⟩) 2 (u8s [104, 105])
  nbx : v.ownBlock ≠ some bx
  ndx : v.ownBlock ≠ some dx
  bbx : b ≠ bx
  bdx : b ≠ dx
  lo : w.heap.size ≤ b
  lt : dx < W.heap.size
theorem St.chg {w W W' : World} {b dx bx : Nat} {v v' : Value} {d d' : Dsk} (h : St w W b dx bx v d) (ha : At W' b b v' d') (hc : Chg (Foot b v) W W') (hv : ∀ k, v'.ownBlock = some k → v.ownBlock = some k ∨ W.heap.size ≤ k) : St w W' b dx bx v' d' := by
  have hbx : ¬ Foot b v bx := fun e => e.elim (fun e => h.bbx e.symm) h.nbx
  have hdx : ¬ Foot b v dx := fun e => e.elim (fun e => h.bdx e.symm) h.ndx
  refine ⟨ha, h.new.trans hc fun k hk e => ?_, h.box.chg hc hbx, h.data.chg' hc (fun g e => e ▸ hdx) (by omega), fun e => ?_, fun e => ?_, h.bbx, h.bdx, h.lo, Nat.lt_of_lt_of_le h.lt hc.size⟩
  · rcases e with e | e
    · have := h.lo; omega
    · have := (own_lt h.at_.own e).1; have := h.lo; omega
  · rcases hv _ e with e | e
    · exact h.nbx e
    · have := h.box.lt; omega
  · rcases hv _ e with e | e
    · exact h.ndx e
    · have := h.lt; omega
theorem St.post {w W W' : World} {b dx bx : Nat} {v : Value} {d d' : Dsk} (h : St w W b dx bx v d) (hp : Post W b b v d' W') : ∃ v', St w W' b dx bx v' d' := by
  obtain ⟨v', ha, hc, hv⟩ := hp
  exact ⟨v', h.chg ha hc hv⟩
theorem St.news {w W W' : World} {b dx bx : Nat} {v : Value} {d : Dsk} (h : St w W b dx bx v d) (hc : New W W') : St w W' b dx bx v d :=
  h.chg (h.at_.new hc) (hc.mono fun _ _ => False.elim) fun _ => .inl
theorem load_blk {W : World} {g : Nat} {a c : Value} (h : Blk W g 39 #[a, c]) : (LoadRow 39 ⟨g, 0, none⟩).run Try.prog W = .ok (.agg #[a, c]) W :=
  run_LoadRow (P := Try.prog) (t := 39) Try.underlying39 rfl (n := 2) (cs := [a, c]) (by kernel_rfl) rfl h.range_all
theorem St.append {w W : World} {b dx bx : Nat} {v : Value} {d : Dsk} (h : St w W b dx bx v d) : Calls Try.prog 23 #[ptr b, .agg #[.int .u8 1, .slice (some ⟨dx, 0, none⟩) 2 2]] W fun e W' => e = .returned (.int .i64 (Disk.writeE d 11)) ∧ ∃ v', St w W' b dx bx v' (Disk.writeF d fb) := by
  refine (Journal.append W b b v d h.at_ 1 (some ⟨dx, 0, none⟩) 2 2 [104, 105] _ h.data (fun g e => e ▸ h.lt) (by omega) (by omega)).mono fun e W' hp => ?_
  exact ⟨hp.1, h.post hp.2⟩
theorem St.sync {w W : World} {b dx bx : Nat} {v : Value} (h : St w W b dx bx v ⟨fb, 0⟩) : Calls Try.prog 24 #[ptr b] W fun e W' => e = .returned (.tuple #[]) ∧ St w W' b dx bx v ⟨fb, 11⟩ := by
  refine (Disk.sync W b b v _ h.at_).mono fun e W' hp => ⟨hp.1, ?_⟩
  have ha := hp.2.1
  rw [show Disk.syncF ⟨fb, 0⟩ = ⟨fb, 11⟩ by unfold Disk.syncF; simp only; rw [fb_len]] at ha
  exact h.chg ha (hp.2.2.mono fun _ _ e => .inl e) fun _ => .inl
theorem St.far {w W W' : World} {b dx bx : Nat} {v : Value} {d : Dsk} (h : St w W b dx bx v d) (hc : Chg (fun k => W.heap.size ≤ k) W W') : St w W' b dx bx v d := by
  have hb := h.at_.blk.lt
  have hv := fun k hk => (own_lt h.at_.own (k := k) hk).2
  have hx := h.box.lt
  have hd := h.lt
  refine ⟨h.at_.chg hc (by omega) (fun k hk => by have := hv k hk; omega), h.new.trans hc fun k hk e => ?_, h.box.chg hc (by omega), h.data.chg' hc (fun g e => by subst e; omega) (by omega), h.nbx, h.ndx, h.bbx, h.bdx, h.lo, Nat.lt_of_lt_of_le h.lt hc.size⟩
  have := h.new.size
  omega
theorem far_at {W W' : World} {lo b : Nat} {v : Value} {d : Dsk} (h : At W lo b v d) (hc : Chg (fun k => W.heap.size ≤ k) W W') : At W' lo b v d :=
  h.chg hc (by have := h.blk.lt; omega) fun k hk => by have := (own_lt h.own hk).2; omega
theorem recs_two {W : World} {dx : Nat} (hd : Reads W (fun g => g = dx) 1 (some ⟨dx, 0, none⟩) 2 (u8s [104, 105])) (hlt : dx < W.heap.size) :
    RecsR (W.alloc (.cells #[.int .u8 1, .slice (some ⟨dx, 0, none⟩) 2 2, .int .u8 1, .slice (some ⟨dx, 0, none⟩) 2 2] 39)) (.slice (some ⟨W.heap.size, 0, none⟩) 2 2) [fr, fr] := by
  have hb := Blk.new W 39 #[.int .u8 1, .slice (some ⟨dx, 0, none⟩) 2 2, .int .u8 1, .slice (some ⟨dx, 0, none⟩) 2 2]
  have hp : Part (W.alloc (.cells #[.int .u8 1, .slice (some ⟨dx, 0, none⟩) 2 2, .int .u8 1, .slice (some ⟨dx, 0, none⟩) 2 2] 39)) (fun g => g = dx) (.slice (some ⟨dx, 0, none⟩) 2 2) fr.2 :=
    ⟨_, 2, rfl, Nat.le_refl _, hd.chg' ((Chg.refl (fun _ => False) W).alloc _) (fun _ _ => id) (by omega)⟩
  refine ⟨⟨_, 2, rfl, Nat.le_refl _, fun i r hi => ?_⟩⟩
  match i, hi with
  | 0, hi =>
    injection hi with hi
    subst hi
    exact RecAt.of (F := fun g => g = dx) (hb.cell 0) (hb.cell 1) hp fun b h => by subst h; rw [World.size_alloc]; omega
  | 1, hi =>
    injection hi with hi
    subst hi
    exact RecAt.of (F := fun g => g = dx) (hb.cell 2) (hb.cell 3) hp fun b h => by subst h; rw [World.size_alloc]; omega
  | i + 2, hi => simp at hi
theorem recs_nil (W : World) : RecsR W (.slice none 0 0) [] := ⟨⟨none, 0, rfl, Nat.le_refl _, fun i r hi => by simp at hi⟩⟩
theorem two_len : (catR [fr, fr]).length = 22 := by rw [fb_cat, List.length_append, fb_len]
theorem few_two : few [fr, fr] := ⟨by simp, fun r hr => by
  have : r = fr := by simpa using hr
  rw [this]
  simp [fr]⟩
theorem up {W W' : World} {n lo b : Nat} {v : Value} {d : Dsk} (h : At W lo b v d) (hc : Chg (Foot b v) W W') (hn : n ≤ lo) : Chg (fun k => n ≤ k) W W' :=
  hc.mono fun _ _ e => e.elim (fun e => e ▸ Nat.le_trans hn h.low) fun e => Nat.le_trans hn (own_lt h.own e).1
set_option maxHeartbeats 8000000 in
set_option maxRecDepth 100000 in
theorem fixed (w : World) : Calls Try.prog 7 #[] w fun e w' => LawEnd w e w' := by
  have kc := fun (w : World) (C : Array Value) (n c : Nat) => Lib.run_convert_bytes_const (P := Try.prog) w 36 5 C n c Try.underlying36 Try.underlying5
  go_enter Try.func7, Try.ntmps7
  go_wp2_with fail
  refine (Disk.new_ w).mono ?_
  rintro e w1 ⟨rfl, h1, n1⟩
  have m2 := (Chg.refl (fun _ => False) w1).alloc (.cells (u8s [104, 105]).toArray 5 (2, 3))
  have m3 := m2.alloc (.cells #[.int .u8 1, .slice (some ⟨w1.heap.size, 0, none⟩) 2 2] 39)
  have hb1 := h1.blk.lt
  have st : St w ((w1.alloc (.cells #[.int .u8 104, .int .u8 105] 5 (2, 3))).alloc (.cells #[.int .u8 1, .slice (some ⟨w1.heap.size, 0, none⟩) 2 2] 39)) w.heap.size w1.heap.size (w1.heap.size + 1) (.slice none 0 0) Disk.fresh := by
    refine ⟨h1.new m3, n1.trans m3 fun _ _ => id, ?_, ?_, by simp [Value.ownBlock], by simp [Value.ownBlock], by omega, by omega, Nat.le_refl _, by simp; omega⟩
    · have := Blk.new (w1.alloc (.cells #[.int .u8 104, .int .u8 105] 5 (2, 3))) 39 #[.int .u8 1, .slice (some ⟨w1.heap.size, 0, none⟩) 2 2]
      rwa [World.size_alloc] at this
    · exact (reads_lit w1 [104, 105] (2, 3) 5).chg' ((Chg.refl (fun _ => False) _).alloc _) (fun _ _ => id) (by omega)
  have hld := load_blk st.box
  have C := Lib.hid st.append
  clear st m2 m3 h1 n1
  go_wp2_with fail
  refine C.out.mono ?_
  rintro e w2 ⟨rfl, v2, st2⟩
  rw [f1] at st2
  rw [e1]
  clear C hld hb1
  generalize w.heap.size = b at *
  generalize w1.heap.size + 1 = bx at *
  generalize w1.heap.size = dx at *
  have C := Lib.hid st2.sync
  clear st2
  go_wp2_with fail
  refine C.out.mono ?_
  rintro e w3 ⟨rfl, st3⟩
  have hld := load_blk st3.box
  have C := Lib.hid st3.append
  clear st3
  go_wp2_with fail
  refine C.out.mono ?_
  rintro e w4 ⟨rfl, v4, st4⟩
  rw [f2] at st4
  rw [e2]
  clear C hld
  have C := Lib.hid (Disk.bytes _ _ _ _ _ st4.at_)
  have ST := Lib.hid st4
  clear st4
  go_wp2_with fail
  refine C.out.mono ?_
  rintro e w5 ⟨u, rfl, ho, n5⟩
  obtain ⟨Au, cu, rfl, _, _, _, _⟩ := OwnB.form ho
  rw [show (Dsk.mk (fb ++ fb) 11).b.length = 22 by show (fb ++ fb).length = 22; rw [List.length_append, fb_len]]
  have st5 := ST.out.news n5
  clear ho n5 C ST
  have C := Lib.hid (Disk.twin _ _ _ _ _ st5.at_)
  have ST := Lib.hid st5
  clear st5
  go_wp2_with fail
  refine C.out.mono ?_
  rintro e w6 ⟨bt, vt, rfl, t6, n6⟩
  have m7 := (Chg.refl (fun _ => False) w6).alloc (.cells (u8s [9]).toArray 5)
  have t7 := t6.new m7
  have C2 := Lib.hid (Disk.write _ _ _ _ _ t7 _ 1 1 [9] _ (reads_lit w6 [9] (0, 0) 5) (by omega))
  have T7 := Lib.hid t7
  have M7 := Lib.hid ((n6.trans m7 fun _ _ => id).mono (S' := fun k => w5.heap.size ≤ k) fun _ _ => False.elim)
  clear t6 n6 m7 t7 C
  go_wp2_with fail
  refine C2.out.mono ?_
  rintro e w8 ⟨rfl, v8, t8, c8, _⟩
  rw [f3] at t8
  have m8 := M7.out.trans (up T7.out c8 (Nat.le_refl _)) fun _ _ => id
  clear C2 c8
  have C := recover _ _ _ _ _ t8 t8.blk.lt (.inr (by show 11 ≤ (readF (fb ++ fb ++ [9])).2.1; rw [fb_two]; show 11 ≤ 22; omega))
  simp only [fb_two] at C
  rw [fb_cut] at C
  have C := Lib.hid C
  have T8 := Lib.hid t8
  have M8 := Lib.hid m8
  clear t8 m8
  go_wp2_with fail
  refine C.out.mono ?_
  rintro e w9 ⟨u9, rfl, r9, v9, t9, c9, _⟩
  have m9 := M8.out.trans (up T8.out c9 (Nat.le_refl _)) fun _ _ => id
  have st9 := ST.out.far m9
  obtain ⟨Au9, cu9, rfl, _, _⟩ := r9.toR.ex
  have ST9 := Lib.hid st9
  have T9 := Lib.hid t9
  have C := Lib.hid (Disk.twin _ _ _ _ _ st9.at_)
  clear ST m9 c9 r9 t9 T8 M8 M7 T7 st9
  go_wp2_with fail
  refine C.out.mono ?_
  rintro e w10 ⟨bu, vu, rfl, t10, n10⟩
  have C := Disk.spoil _ _ _ _ _ t10 2 1 (by omega) (by omega)
  rw [f4] at C
  have C := Lib.hid C
  have T10 := Lib.hid t10
  have M10 := Lib.hid (n10.mono (S' := fun k => w9.heap.size ≤ k) fun _ _ => False.elim)
  clear t10 n10
  go_wp2_with fail
  refine C.out.mono ?_
  rintro e w11 ⟨rfl, t11, c11⟩
  have m11 := M10.out.trans (up T10.out c11 (Nat.le_refl _)) fun _ _ => id
  have C := recover_bad _ _ _ _ _ t11 (by show (readF (Disk.turn (fb ++ fb) 2 1)).2.2 ≠ 0; rw [fb_bad]; show (7 : Int) ≠ 0; omega) (by show (readF (Disk.turn (fb ++ fb) 2 1)).2.1 < 11; rw [fb_bad]; show 0 < 11; omega)
  simp only [fb_bad] at C
  have C := Lib.hid C
  have M11 := Lib.hid m11
  clear t11 c11 m11
  go_wp2_with fail
  refine C.out.mono ?_
  rintro e w12 ⟨rfl, n12⟩
  have m12 := M11.out.trans n12 fun _ _ => False.elim
  have st12 := ST9.out.far m12
  have hld := load_blk st12.box
  have R := Lib.hid (recs_two st12.data st12.lt)
  have M12 := Lib.hid m12
  clear n12 m12 st12
  go_wp2_with fail
  refine (read_nil w12).mono ?_
  rintro e w13 ⟨rfl, rfl⟩
  have C := Lib.hid (size _ _ _ R.out few_two)
  rw [two_len] at C
  go_wp2_with fail
  refine C.out.mono ?_
  rintro e w14 ⟨rfl, n14⟩
  have m14 := (M12.out.alloc (.cells #[.int .u8 1, .slice (some ⟨dx, 0, none⟩) 2 2, .int .u8 1, .slice (some ⟨dx, 0, none⟩) 2 2] 39)).trans n14 fun _ _ => False.elim
  have C := Lib.hid (Disk.bytes _ _ _ _ _ (far_at T9.out m14))
  have M14 := Lib.hid m14
  clear n14 m14
  go_wp2_with fail
  refine C.out.mono ?_
  rintro e w15 ⟨u15, rfl, ho, n15⟩
  obtain ⟨A15, c15, rfl, _, _, _, _⟩ := OwnB.form ho
  rw [show (Dsk.mk (fb ++ fb) 22).b.length = 22 by show (fb ++ fb).length = 22; rw [List.length_append, fb_len]]
  have st15 := ST9.out.far (M14.out.trans n15 fun _ _ => False.elim)
  have C := Lib.hid (rewrite _ _ _ _ _ st15.at_ _ _ (recs_nil w15) ⟨by simp, fun r hr => by cases hr⟩)
  have ST15 := Lib.hid st15
  clear ho n15 st15
  go_wp2_with fail
  refine C.out.mono ?_
  rintro e w16 ⟨rfl, hp⟩
  obtain ⟨v16, st16⟩ := ST15.out.post hp
  have C := Lib.hid (Disk.bytes _ _ _ _ _ st16.at_)
  have HN := Lib.hid st16.new
  clear hp st16
  go_wp2_with fail
  refine C.out.mono ?_
  rintro e w17 ⟨u17, rfl, ho, n17⟩
  obtain ⟨A17, c17, rfl, _, _, _, _⟩ := OwnB.form ho
  have HE := Lib.hid (HN.out.trans n17 fun _ _ => id)
  clear ho n17
  go_wp2_with fail
  go_ret
  exact ⟨rfl, HE.out⟩
end Journal
end Go.Proofs.Ythgpphedpegbgaa

/-
  What the program's net package computes: a parcel taken out (no condition beyond the sizes).
-/
import Derived.Test.YtbagiehocgaoiaaNet2
namespace Go.Proofs.Ytbagiehocgaoiaa
open Go.ChangeShapes Go.WideShapes Go.RowKit Go.Deep
namespace Net
attribute [local go_sem ↓] loadOnly0 loadOnly1
theorem resP {fn : Func} {p q : Tmp} (h : fn.results = #[.cell p 35, .tmp q]) (tmps : Array Value) (w : World) (g : Nat) (t : TypeId) (x y : Value)
    (hp : tmps.getD p undef = .pointer (some ⟨g, 0, none⟩)) (hg : Blk w g t #[x, y]) : (results fn tmps).run Try.prog w = .ok (.tuple #[.agg #[x, y], tmps.getD q undef]) w := by
  rw [results_cell_tmp h, hp]
  have := run_LoadRow (P := Try.prog) (t := 35) Try.underlying35 rfl (n := 2) (cs := [x, y]) (by kernel_rfl) rfl (hg.range_all (cs := [x, y]))
  unfold LoadRow at this
  simp only [asAddr, Sem.run_pure, Result.andThen_ok, this]
set_option maxHeartbeats 4000000 in
theorem take_none (w : World) (lo b : Nat) (v : Value) (fs : List Fl) (h : At w lo b v fs) (i : Int) (hi : i < 0 ∨ (fs.length : Int) ≤ i) :
    Calls Try.prog 9 #[ptr b, .int .i64 i] w fun e w' => e = .returned (.tuple #[.agg #[.int .i64 0, .slice none 0 0], .int .i64 5]) ∧ New w w' := by
  have hz : ∀ W : World, (zeroValue 35).run Try.prog W = .ok (.agg #[.int .i64 0, .slice none 0 0]) W := fun W => by kernel_rfl
  have m1 := (Chg.refl (fun _ => False) w).alloc (.cells #[.int .i64 0, .slice none 0 0] 35)
  have K := Lib.hid (at_out _ lo b v fs (h.new m1) i hi)
  have hbx := Blk.new w 35 #[.int .i64 0, .slice none 0 0]
  have HB := Lib.hid (And.intro hbx m1)
  clear h hi m1 hbx
  go_enter Try.func9, Try.ntmps9
  go_wp2_with fail
  refine K.out.mono ?_
  rintro e w1 ⟨rfl, rfl⟩
  go_wp2_with fail
  exact bodyPost_ret (resP rfl _ _ w.heap.size _ _ _ rfl HB.out.1) rfl ⟨rfl, HB.out.2⟩
theorem own_len {w : World} {base : Nat} {e : TypeId} {size n : Nat} {v : Value} {xs : List Value} (h : w.ownsRow base e size v n xs) : n ≤ 9223372036854775807 := by
  rcases h.2 with ⟨rfl, h0⟩ | ⟨g, cap, cur, rfl, _, _, h1, h2, _⟩
  · omega
  · have : cap ≤ 9223372036854775807 := h2
    omega
set_option maxHeartbeats 8000000 in
theorem take_in (w : World) (lo b : Nat) (v : Value) (fs : List Fl) (h : At w lo b v fs) (i : Nat) (f : Fl) (hf : fs[i]? = some f) :
    Calls Try.prog 9 #[ptr b, .int .i64 (i : Int)] w fun e w' => e = .returned (.tuple #[.agg #[.int .i64 f.to_, f.u], .int .i64 0]) ∧ Post w lo b v fs (fs.eraseIdx i) w' ∧ OwnB w' lo f.u f.b := by
  have hz : ∀ W : World, (zeroValue 35).run Try.prog W = .ok (.agg #[.int .i64 0, .slice none 0 0]) W := fun W => by kernel_rfl
  have hi : i < fs.length := (List.getElem?_eq_some_iff.1 hf).1
  have m1 := (Chg.refl (fun _ => False) w).alloc (.cells #[.int .i64 0, .slice none 0 0] 35)
  have K := Lib.hid (at_in _ lo b v fs (h.new m1) i hi)
  obtain ⟨g, c, rfl, hlg, hgl, hall⟩ := row_at h.own hf
  have hne : g ≠ w.heap.size := by omega
  obtain ⟨_, _, _, _, _, hld⟩ := hall (w.alloc (.cells #[.int .i64 0, .slice none 0 0] 35)) (m1.block g hgl id)
  have hc : w.cell? ⟨b, 0, none⟩ = some (.slice (some ⟨g, 0, none⟩) fs.length c) := h.blk.cell 0
  have m2 := m1.alloc (.cells #[.int .i64 f.to_, f.u] 35)
  have C := Lib.hid (delete1 _ lo _ fs i f (h.new m2).own (fun q hq => by obtain ⟨A, n, hu⟩ := own_form (h.mem hq); rw [hu]; rfl) hf)
  have hbl := h.blk.lt
  obtain ⟨A, n, hu⟩ := own_form (h.mem (List.mem_of_getElem? hf))
  have H := Lib.hid (And.intro h m2)
  have HF := Lib.hid hf
  have HU := Lib.hid hu
  rw [hu] at hld C
  generalize f.b.length = L at *
  obtain ⟨N, hN⟩ : ∃ N, fs.length = N := ⟨_, rfl⟩
  rw [hN] at hc C H hi
  have hiN : (i : Int) < N := by omega
  have hib : (i : Int) + 1 ≤ 9223372036854775807 := by have := own_len h.own; omega
  have HN := Lib.hid hN
  clear h hf hu m1 m2 hall hN
  go_enter Try.func9, Try.ntmps9
  go_wp2_with fail
  refine K.out.mono ?_
  rintro e w1 ⟨rfl, rfl⟩
  go_wp2_with fail
  refine C.out.mono ?_
  rintro e w3 ⟨v3, rfl, hv3, o3, c3⟩
  have h2 := H.out.1.new H.out.2
  obtain ⟨A3, n3, hv⟩ := own_form o3
  obtain ⟨L3, hL3⟩ : ∃ L3, (fs.eraseIdx i).length = L3 := ⟨_, rfl⟩
  rw [hL3] at hv
  subst hv
  rw [← HU.out] at c3
  have b3 := h2.blk.chg c3 fun e => h2.vb e
  have hf3 := b3.frozen 0
  have hc3 := b3.cell 0
  have b4 := b3.set_ 0 (.slice A3 L3 n3)
  have c4 := (Chg.refl (fun k => k = b) w3).setCell (p := ⟨b, 0, none⟩) (fun _ => rfl) (.slice A3 L3 n3)
  have hs2 : ((w.alloc (.cells #[.int .i64 0, .slice none 0 0] 35)).alloc (.cells #[.int .i64 f.to_, f.u] 35)).heap.size = w.heap.size + 2 := by rw [World.size_alloc, World.size_alloc]
  have x1 := (Blk.new w 35 #[.int .i64 0, .slice none 0 0]).alloc (.cells #[.int .i64 f.to_, f.u] 35)
  have x2 := Blk.new1 w (.cells #[.int .i64 0, .slice none 0 0] 35) 35 #[.int .i64 f.to_, f.u]
  have hfoot : ∀ k, (k = b ∨ (Value.slice (some ⟨g, 0, none⟩) N c).ownBlock = some k) → k < w.heap.size := fun k hk => by
    rcases hk with e | e
    · omega
    · have := (own_lt H.out.1.own e).2; omega
  have c34 : Chg (fun k => k = b ∨ (Value.slice (some ⟨g, 0, none⟩) N c).ownBlock = some k) ((w.alloc (.cells #[.int .i64 0, .slice none 0 0] 35)).alloc (.cells #[.int .i64 f.to_, f.u] 35)) (w3.setCell ⟨b, 0, none⟩ (.slice A3 L3 n3)) := (c3.mono fun _ _ e => .inr e).trans (c4.mono fun _ _ e => .inl e) fun _ _ => id
  have y1 := x1.chg c34 fun e => by have := hfoot _ e; omega
  have y2 := x2.chg c34 fun e => by have := hfoot _ e; omega
  have hu4 := own_chg (h2.mem (List.mem_of_getElem? HF.out)) c34 fun k hk e => e.elim (fun e => h2.ub (List.mem_of_getElem? HF.out) (e ▸ hk)) fun e => h2.uv (List.mem_of_getElem? HF.out) hk e
  have h4 : At (w3.setCell ⟨b, 0, none⟩ (.slice A3 L3 n3)) lo b (.slice A3 L3 n3) (fs.eraseIdx i) := by
    refine ⟨b4, own_chg o3 c4 fun k hk e => own_ne o3 b3 (by decide) (e ▸ hk), fun j q hj => ?_, fun j k q r hj hk hjk => ?_, h2.low⟩
    · have hm : q ∈ fs := List.mem_of_mem_eraseIdx (List.mem_of_getElem? hj)
      exact own_chg (h2.mem hm) c34 fun k hk e => e.elim (fun e => h2.ub hm (e ▸ hk)) fun e => h2.uv hm hk e
    · rw [List.getElem?_eraseIdx] at hj hk
      split at hj <;> split at hk
      · exact h2.apart _ _ _ _ hj hk hjk
      · exact h2.apart _ _ _ _ hj hk (by omega)
      · exact h2.apart _ _ _ _ hj hk (by omega)
      · exact h2.apart _ _ _ _ hj hk (by omega)
  have hld4 : (LoadRow 35 ⟨w.heap.size + 1, 0, none⟩).run Try.prog (w3.setCell ⟨b, 0, none⟩ (.slice A3 L3 n3)) = .ok (.agg #[.int .i64 f.to_, .slice A L n]) (w3.setCell ⟨b, 0, none⟩ (.slice A3 L3 n3)) := by
    rw [← HU.out]
    exact run_LoadRow (P := Try.prog) (t := 35) Try.underlying35 rfl (n := 2) (cs := [.int .i64 f.to_, f.u]) (by kernel_rfl) rfl (y2.range_all (cs := [.int .i64 f.to_, f.u]))
  have y5 := (y1.set_ 0 (.int .i64 f.to_)).set_ 1 (.slice A L n)
  have c5 := ((Chg.refl (fun k => k = w.heap.size) (w3.setCell ⟨b, 0, none⟩ (.slice A3 L3 n3))).setCell (p := ⟨w.heap.size, 0, none⟩) (fun _ => rfl) (.int .i64 f.to_)).setCell (p := ⟨w.heap.size, 1, none⟩) (fun _ => rfl) (.slice A L n)
  have hft : ∀ k, Foot b (.slice A3 L3 n3) (fs.eraseIdx i) k → Foot b (.slice (some ⟨g, 0, none⟩) N c) fs k := fun k hk => by
    rcases hk with e | e | ⟨q, hq, e⟩
    · exact .inl e
    · exact .inr (.inl (hv3 ▸ e))
    · exact .inr (.inr ⟨q, List.mem_of_mem_eraseIdx hq, e⟩)
  have HP := Lib.hid (show Post w lo b (.slice (some ⟨g, 0, none⟩) N c) fs (fs.eraseIdx i) _ ∧ OwnB _ lo f.u f.b from
    ⟨⟨.slice A3 L3 n3, h4.chg c5 (fun k hk e => by have := (H.out.1.foot (hft k hk)).2; omega), ((H.out.2.mono (S' := Foot b (.slice (some ⟨g, 0, none⟩) N c) fs) fun _ _ => False.elim).trans c34 (fun k _ e => e.elim .inl fun e => .inr (.inl e))).trans c5 (fun k hk e => absurd hk (by omega)), fun k hk => .inl (hft k hk)⟩,
      own_chg hu4 c5 fun k hk e => by have := (own_lt (H.out.1.mem (List.mem_of_getElem? HF.out)) hk).2; omega⟩)
  have H4 := Lib.hid y5
  have z0 := y1.cell 0
  have z1 := y1.cell 1
  have q0 := y1.frozen 0
  have q1 := y1.frozen 1
  clear h4 hu4 h2 b3 b4 c4 c34 x1 x2 y1 y2 c3 o3 hv3 hs2 hfoot hL3 y5 c5 hft
  go_wp2_with fail
  exact bodyPost_ret (resP rfl _ _ w.heap.size _ _ _ rfl H4.out) rfl ⟨by rw [HU.out]; rfl, by rw [HN.out]; exact HP.out.1, HP.out.2⟩
end Net
end Go.Proofs.Ytbagiehocgaoiaa

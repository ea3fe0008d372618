/-
  What the program's net package computes: a parcel turned; all parcels (no condition beyond the sizes).
-/
import Derived.Test.YtbagiehocgaoiaaNet3
namespace Go.Proofs.Ytbagiehocgaoiaa
open Go.ChangeShapes Go.WideShapes Go.RowKit Go.Deep
namespace Net
attribute [local go_sem ↓] loadOnly0 loadOnly1
theorem u8_xor (x y : UInt8) : (x ^^^ y).toNat = x.toNat ^^^ y.toNat := by simp
theorem xor_u8 (x y : UInt8) : bits .xor .u8 (x.toNat : Int) (y.toNat : Int) = ((x ^^^ y).toNat : Int) := by
  rw [u8_xor_nat x.toNat y.toNat (UInt8.toNat_lt x) (UInt8.toNat_lt y), u8_xor]
theorem cells_set : ∀ (fs : List Fl) (i : Nat) (f f' : Fl), fs[i]? = some f → f'.to_ = f.to_ → f'.u = f.u → (cells fs).set (i * 3 + 2) (.bool f'.t) = cells (fs.set i f')
  | [], i, f, f', h, _, _ => by simp at h
  | g :: fs, 0, f, f', h, h1, h2 => by
    simp at h
    subst h
    simp [cells, flC, h1, h2]
  | g :: fs, i + 1, f, f', h, h1, h2 => by
    have := cells_set fs i f f' (by simpa using h) h1 h2
    rw [show (i + 1) * 3 + 2 = i * 3 + 2 + 1 + 1 + 1 by omega, show cells (g :: fs) = .int .i64 g.to_ :: g.u :: .bool g.t :: cells fs from rfl]
    simp only [List.set_cons_succ]
    rw [this]
    rfl
theorem turn_none (w : World) (lo b : Nat) (v : Value) (fs : List Fl) (h : At w lo b v fs) (i : Int) (hi : i < 0 ∨ (fs.length : Int) ≤ i) (at_ y : Value) :
    Calls Try.prog 11 #[ptr b, .int .i64 i, at_, y] w fun e w' => e = .returned (.int .i64 5) ∧ w = w' := by
  have K := Lib.hid (at_out w lo b _ fs h i hi)
  clear h hi
  go_enter Try.func11, Try.ntmps11
  go_wp2_with fail
  refine K.out.mono ?_
  rintro e w1 ⟨rfl, rfl⟩
  go_wp2
  go_ret
  exact ⟨rfl, rfl⟩
set_option maxHeartbeats 2000000 in
theorem turn_range (w : World) (lo b : Nat) (v : Value) (fs : List Fl) (h : At w lo b v fs) (i : Nat) (f : Fl) (hf : fs[i]? = some f) (at_ : Int) (ha : at_ < 0 ∨ (f.b.length : Int) ≤ at_) (y : Value) :
    Calls Try.prog 11 #[ptr b, .int .i64 (i : Int), .int .i64 at_, y] w fun e w' => e = .returned (.int .i64 4) ∧ w = w' := by
  have hi : i < fs.length := (List.getElem?_eq_some_iff.1 hf).1
  have K := Lib.hid (at_in w lo b _ fs h i hi)
  have hc : w.cell? ⟨b, 0, none⟩ = some v := h.blk.cell 0
  obtain ⟨g, c, rfl, _, _, hall⟩ := row_at h.own hf
  obtain ⟨_, c1, _, _, _, _⟩ := hall w rfl
  obtain ⟨A, n, hu⟩ := own_form (h.mem (List.mem_of_getElem? hf))
  rw [hu] at c1
  generalize f.b.length = m at *
  generalize fs.length = L at *
  have hiL : (i : Int) < L := by omega
  clear h hall hf hu hi
  by_cases h0 : at_ < 0
  · go_enter Try.func11, Try.ntmps11
    go_wp2_with fail
    refine K.out.mono ?_
    rintro e w1 ⟨rfl, rfl⟩
    go_wp2
    go_ret
    exact ⟨rfl, rfl⟩
  · have h1 : (m : Int) ≤ at_ := by omega
    go_enter Try.func11, Try.ntmps11
    go_wp2_with fail
    refine K.out.mono ?_
    rintro e w1 ⟨rfl, rfl⟩
    go_wp2
    go_ret
    exact ⟨rfl, rfl⟩
set_option maxHeartbeats 2000000 in
theorem turn_twice (w : World) (lo b : Nat) (v : Value) (fs : List Fl) (h : At w lo b v fs) (i : Nat) (f : Fl) (hf : fs[i]? = some f) (j : Nat) (ha : j < f.b.length) (ht : f.t = true) (y : Value) :
    Calls Try.prog 11 #[ptr b, .int .i64 (i : Int), .int .i64 (j : Int), y] w fun e w' => e = .returned (.int .i64 1) ∧ w = w' := by
  have hi : i < fs.length := (List.getElem?_eq_some_iff.1 hf).1
  have K := Lib.hid (at_in w lo b _ fs h i hi)
  have hc : w.cell? ⟨b, 0, none⟩ = some v := h.blk.cell 0
  obtain ⟨g, c, rfl, _, _, hall⟩ := row_at h.own hf
  obtain ⟨_, c1, c2, _, _, _⟩ := hall w rfl
  obtain ⟨A, n, hu⟩ := own_form (h.mem (List.mem_of_getElem? hf))
  rw [hu] at c1
  rw [ht] at c2
  generalize f.b.length = m at *
  generalize fs.length = L at *
  have hiL : (i : Int) < L := by omega
  have hjm : (j : Int) < m := by omega
  clear h hall hf hu hi ht ha
  go_enter Try.func11, Try.ntmps11
  go_wp2_with fail
  refine K.out.mono ?_
  rintro e w1 ⟨rfl, rfl⟩
  go_wp2
  go_ret
  exact ⟨rfl, rfl⟩
set_option maxHeartbeats 4000000 in
theorem turn_ok (w : World) (lo b : Nat) (v : Value) (fs : List Fl) (h : At w lo b v fs) (i : Nat) (f : Fl) (hf : fs[i]? = some f) (j : Nat) (ha : j < f.b.length) (ht : f.t = false) (y : UInt8) :
    Calls Try.prog 11 #[ptr b, .int .i64 (i : Int), .int .i64 (j : Int), .int .u8 (y.toNat : Int)] w fun e w' => e = .returned (.int .i64 0) ∧ Post w lo b v fs (fs.set i ⟨f.to_, f.u, f.b.set j (f.b.getD j 0 ^^^ y), true⟩) w' := by
  have hi : i < fs.length := (List.getElem?_eq_some_iff.1 hf).1
  have hm := List.mem_of_getElem? hf
  have K := Lib.hid (at_in w lo b _ fs h i hi)
  have hc : w.cell? ⟨b, 0, none⟩ = some v := h.blk.cell 0
  obtain ⟨g, c, rfl, _, _, hall⟩ := row_at h.own hf
  obtain ⟨_, c1, c2, f2, _, _⟩ := hall w rfl
  have hx : f.b.getD j 0 = f.b[j] := by simp [List.getD_eq_getElem?_getD, ha]
  obtain ⟨ug, uc, hu, _, _⟩ := World.ownsRow.form (h.mem hm) (by omega)
  have hub := h.mem hm
  rw [hu] at hub
  rw [hu] at c1
  have hcell := World.ownsRow.cellAt hub j (by omega)
  rw [u8s_get, List.getElem?_eq_getElem ha] at hcell
  have hfr := World.ownsRow.frozenAt hub j
  have hst := hub.stored (i := j) (f.b[j] ^^^ y)
  have hxor := xor_u8 f.b[j] y
  rw [hx]
  have hug : ug ≠ g := fun e => h.uv hm (k := ug) (by rw [hu]; rfl) (by rw [e]; rfl)
  have hubb : ug ≠ b := fun e => h.ub hm (by rw [hu, e]; rfl)
  have hgb : g ≠ b := fun e => h.vb (by rw [e]; rfl)
  have ch1 := (Chg.refl (fun k => k = ug) w).setCell (p := ⟨ug, j, none⟩) (fun _ => rfl) (.int .u8 ((f.b[j] ^^^ y).toNat : Int))
  have o1 := own_chg h.own ch1 fun k hk e => hug (by
    have : g = k := by simpa [Value.ownBlock] using hk
    rw [this, e])
  have hz := World.ownsRow.stored o1 (i * 3 + 2) (.bool true)
  have cc2 := (ch1.cell (p := ⟨g, i * 3 + 2, none⟩) (block_lt_of_cell c2) (fun e => hug e.symm)).trans c2
  have ff2 := (ch1.frozen (p := ⟨g, i * 3 + 2, none⟩) (block_lt_of_cell c2) (fun e => hug e.symm)).trans f2
  have cc1 := (ch1.cell (p := ⟨g, i * 3 + 1, none⟩) (block_lt_of_cell c1) (fun e => hug e.symm)).trans c1
  have ch2 := (Chg.refl (fun k => k = g) (w.setCell ⟨ug, j, none⟩ (.int .u8 ((f.b[j] ^^^ y).toNat : Int)))).setCell (p := ⟨g, i * 3 + 2, none⟩) (fun _ => rfl) (.bool true)
  have ch : Chg (fun k => k = ug ∨ k = g) w ((w.setCell ⟨ug, j, none⟩ (.int .u8 ((f.b[j] ^^^ y).toNat : Int))).setCell ⟨g, i * 3 + 2, none⟩ (.bool true)) := (ch1.mono fun _ _ e => .inl e).trans (ch2.mono fun _ _ e => .inr e) fun _ _ => id
  have hsl : (fs.set i ⟨f.to_, f.u, f.b.set j (f.b[j] ^^^ y), true⟩).length = fs.length := List.length_set ..
  have hfsub : ∀ q, q ∈ fs.set i ⟨f.to_, f.u, f.b.set j (f.b[j] ^^^ y), true⟩ → ∃ r ∈ fs, q.u = r.u := fun q hq => by
    rcases List.mem_or_eq_of_mem_set hq with h1 | h1
    · exact ⟨q, h1, rfl⟩
    · exact ⟨f, hm, by rw [h1]⟩
  have hget : ∀ k q, (fs.set i ⟨f.to_, f.u, f.b.set j (f.b[j] ^^^ y), true⟩)[k]? = some q → (k = i ∧ q = ⟨f.to_, f.u, f.b.set j (f.b[j] ^^^ y), true⟩) ∨ (k ≠ i ∧ fs[k]? = some q) := fun k q hk => by
    rw [List.getElem?_set] at hk
    split at hk
    · rename_i e
      try rw [if_pos hi] at hk
      injection hk with hk
      exact .inl ⟨e.symm, hk.symm⟩
    · rename_i e
      exact .inr ⟨fun e2 => e e2.symm, hk⟩
  have hu2 := own_chg (show OwnB _ lo f.u (f.b.set j (f.b[j] ^^^ y)) from by rw [hu]; exact hst) ch2 fun k hk e => h.uv hm hk (by rw [e]; rfl)
  have hAt : At ((w.setCell ⟨ug, j, none⟩ (.int .u8 ((f.b[j] ^^^ y).toNat : Int))).setCell ⟨g, i * 3 + 2, none⟩ (.bool true)) lo b (.slice (some ⟨g, 0, none⟩) fs.length c) (fs.set i ⟨f.to_, f.u, f.b.set j (f.b[j] ^^^ y), true⟩) := by
    refine ⟨h.blk.chg ch (by omega), ?_, fun k q hk => ?_, fun k l q r hk hl hkl => ?_, h.low⟩
    · unfold OwnF
      rw [hsl, ← cells_set fs i f ⟨f.to_, f.u, f.b.set j (f.b[j] ^^^ y), true⟩ hf rfl rfl]
      exact hz.1
    · rcases hget k q hk with ⟨rfl, rfl⟩ | ⟨hne, hk⟩
      · exact hu2
      · exact own_chg (h.bytes k q hk) ch fun x hx e => e.elim (fun e => h.apart k i q f hk hf hne x hx (by rw [hu, e]; rfl)) fun e => h.uv (List.mem_of_getElem? hk) hx (by rw [e]; rfl)
    · have ek : ∃ q', fs[k]? = some q' ∧ q.u = q'.u := by
        rcases hget k q hk with ⟨rfl, rfl⟩ | ⟨hne, hk⟩
        · exact ⟨f, hf, rfl⟩
        · exact ⟨q, hk, rfl⟩
      have el : ∃ r', fs[l]? = some r' ∧ r.u = r'.u := by
        rcases hget l r hl with ⟨rfl, rfl⟩ | ⟨hne, hl⟩
        · exact ⟨f, hf, rfl⟩
        · exact ⟨r, hl, rfl⟩
      obtain ⟨q', hq', eq⟩ := ek
      obtain ⟨r', hr', er⟩ := el
      rw [eq, er]
      exact h.apart k l q' r' hq' hr' hkl
  have HP := Lib.hid (show Post w lo b (.slice (some ⟨g, 0, none⟩) fs.length c) fs (fs.set i ⟨f.to_, f.u, f.b.set j (f.b[j] ^^^ y), true⟩) _ from
    ⟨_, hAt, ch.mono fun k _ e => e.elim (fun e => .inr (.inr ⟨f, hm, by rw [hu, e]; rfl⟩)) (fun e => .inr (.inl (by rw [e]; rfl))), fun k hk => .inl (by
      rcases hk with e | e | ⟨q, hq, e⟩
      · exact .inl e
      · exact .inr (.inl e)
      · obtain ⟨r, hr, e2⟩ := hfsub q hq
        exact .inr (.inr ⟨r, hr, e2 ▸ e⟩))⟩)
  have hi2 := hi
  clear h hall hf hu hi hub hst o1 hz ch1 ch2 ch hsl hfsub hget hu2 hAt hx hm hubb hgb
  rw [ht] at c2 cc2
  generalize f.b[j] = x at *
  generalize fs.length = L at *
  have hiL : (i : Int) < L := by omega
  have hjm : (j : Int) < f.b.length := by omega
  have hjn : j < f.b.length := ha
  clear ha
  generalize f.b.length = m at *
  go_enter Try.func11, Try.ntmps11
  go_wp2_with fail
  refine K.out.mono ?_
  rintro e w1 ⟨rfl, rfl⟩
  go_wp2
  go_ret
  exact ⟨rfl, HP.out⟩
end Net
end Go.Proofs.Ytbagiehocgaoiaa

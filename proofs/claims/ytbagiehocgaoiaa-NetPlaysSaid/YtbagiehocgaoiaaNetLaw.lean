/-
  The fixed facts at the head of chapter 16's statements (no condition).
-/
import Derived.Test.YtbagiehocgaoiaaNet5
namespace Go.Proofs.Ytbagiehocgaoiaa
open Go.ChangeShapes Go.WideShapes Go.RowKit Go.Deep
namespace Net
attribute [local go_sem ↓] loadOnly0 loadOnly1
/-- a net of the law's own: its parcels, and nothing that was there has changed -/
structure St (w W : World) (b : Nat) (v : Value) (fs : List Fl) : Prop where
  at_ : At W b b v fs
  new : New w W
  lo : w.heap.size ≤ b
theorem St.news {w W W' : World} {b : Nat} {v : Value} {fs : List Fl} (h : St w W b v fs) (hc : New W W') : St w W' b v fs := ⟨h.at_.new hc, h.new.trans hc fun _ _ => id, h.lo⟩
theorem St.post {w W W' : World} {b : Nat} {v : Value} {fs fs' : List Fl} (h : St w W b v fs) (hp : Post W b b v fs fs' W') : ∃ v', St w W' b v' fs' := by
  obtain ⟨v', ha, hc, _⟩ := hp
  exact ⟨v', ha, h.new.trans hc fun k hk e => by have := (h.at_.foot e).1; have := h.lo; omega, h.lo⟩
/-- parcel i of a row that was told: its cells, read whole, and its bytes as a string -/
theorem Parcs.at_ {w : World} {base : Nat} {v : Value} {ps : List (Int × List UInt8)} (h : Parcs w base v ps) {i : Nat} {p : Int × List UInt8} (hi : ps[i]? = some p) : ∃ g c u, v = .slice (some ⟨g, 0, none⟩) ps.length c ∧ (∃ A c, u = .slice A p.2.length c) ∧ ∀ W, New w W → W.cell? ⟨g, i * 2, none⟩ = some (.int .i64 p.1) ∧
    W.cell? ⟨g, i * 2 + 1, none⟩ = some u ∧ (LoadRow 35 ⟨g, i * 2, none⟩).run Try.prog W = .ok (.agg #[.int .i64 p.1, u]) W ∧ (convert 27 9 u).run Try.prog W = .ok (.string ⟨p.2.toArray⟩) W := by
  obtain ⟨kv, ho, hp⟩ := h.ex
  have hlt : i < ps.length := (List.getElem?_eq_some_iff.1 hi).1
  obtain ⟨u, hu, hq⟩ := hp i p hi
  obtain ⟨g, c, rfl, _, _⟩ := World.ownsRow.form ho (by omega)
  obtain ⟨e0, e1⟩ := pcC_get kv i p.1 u hu
  have c0 := World.ownsRow.cellAt ho (i * 2) (by omega)
  have c1 := World.ownsRow.cellAt ho (i * 2 + 1) (by omega)
  rw [e0] at c0
  rw [e1] at c1
  refine ⟨g, c, u, rfl, ?_, fun W hW => ?_⟩
  · obtain ⟨A, c, rfl, _⟩ := hq
    exact ⟨A, c, rfl⟩
  have d0 := (hW.cell (p := ⟨g, i * 2, none⟩) (block_lt_of_cell c0) id).trans c0
  have d1 := (hW.cell (p := ⟨g, i * 2 + 1, none⟩) (block_lt_of_cell c1) id).trans c1
  refine ⟨d0, d1, ?_, (hq.chg hW fun _ _ => id).str⟩
  refine run_LoadRow_at (P := Try.prog) (t := 35) Try.underlying35 rfl (n := 2) (cs := [_, _]) (by kernel_rfl) rfl fun j u hj => ?_
  rw [add_plain]
  match j, hj with
  | 0, hj => injection hj with hj; subst hj; exact d0
  | 1, hj => injection hj with hj; subst hj; exact d1
  | j + 2, hj => simp at hj
theorem Parcs.form {w : World} {base : Nat} {v : Value} {ps : List (Int × List UInt8)} (h : Parcs w base v ps) : ∃ A c, v = .slice A ps.length c := by
  obtain ⟨kv, ho, _⟩ := h.ex
  exact own_form ho
set_option maxHeartbeats 8000000 in
set_option maxRecDepth 100000 in
theorem fixed (w : World) : Calls Try.prog 6 #[] w fun e w' => LawEnd w e w' := by
  have kc := fun (w : World) (C : Array Value) (n c : Nat) => Lib.run_convert_bytes_const (P := Try.prog) w 27 5 C n c Try.underlying27 Try.underlying5
  go_enter Try.func6, Try.ntmps6
  go_wp2_with fail
  refine (new_ w).mono ?_
  rintro e w1 ⟨rfl, h1, n1⟩
  have s1 : St w w1 w.heap.size (.slice none 0 0) [] := ⟨h1, n1, Nat.le_refl _⟩
  clear h1 n1
  obtain ⟨b, hb⟩ : ∃ b, w.heap.size = b := ⟨_, rfl⟩
  rw [hb] at s1 ⊢
  clear hb
  have m1 := (Chg.refl (fun _ => False) w1).alloc (.cells (u8s [97]).toArray 5 (1, 2))
  have C := Lib.hid (send_ok _ _ _ _ _ (s1.news m1).at_ 1 _ 1 1 [97] _ (reads_lit w1 [97] (1, 2) 5) (by omega) (by simp))
  have S := Lib.hid (s1.news m1)
  clear s1 m1
  go_wp2_with fail
  refine C.out.mono ?_
  rintro e w2 ⟨rfl, u1, hp⟩
  obtain ⟨v2, s2⟩ := S.out.post hp
  clear C S hp
  have m2 := (Chg.refl (fun _ => False) w2).alloc (.cells (u8s [98]).toArray 5 (1, 2))
  have C := Lib.hid (send_ok _ _ _ _ _ (s2.news m2).at_ 2 _ 1 1 [98] _ (reads_lit w2 [98] (1, 2) 5) (by omega) (by simp))
  have S := Lib.hid (s2.news m2)
  clear s2 m2
  go_wp2_with fail
  refine C.out.mono ?_
  rintro e w3 ⟨rfl, u2, hp⟩
  obtain ⟨v3, s3⟩ := S.out.post hp
  clear C S hp
  have C := turn_ok _ _ _ _ _ s3.at_ 0 ⟨1, u1, [97], false⟩ rfl 0 (by simp) rfl 1
  have S := Lib.hid s3
  have C := Lib.hid (show Calls Try.prog 11 #[ptr b, .int .i64 0, .int .i64 0, .int .u8 1] w3 fun e w' => e = .returned (.int .i64 0) ∧ Post w3 b b v3 [⟨1, u1, [97], false⟩, ⟨2, u2, [98], false⟩] [⟨1, u1, [96], true⟩, ⟨2, u2, [98], false⟩] w' from by simpa [show (97 : UInt8) ^^^ 1 = 96 from rfl] using C)
  clear s3
  go_wp2_with fail
  refine C.out.mono ?_
  rintro e w4 ⟨rfl, hp⟩
  obtain ⟨v4, s4⟩ := S.out.post hp
  clear C S hp
  have C := double_ok _ _ _ _ _ s4.at_ 0 ⟨1, u1, [96], true⟩ rfl (by simp) (by simp)
  have S := Lib.hid s4
  have C := Lib.hid (show Calls Try.prog 10 #[ptr b, .int .i64 0] w4 fun e w' => e = .returned (.int .i64 0) ∧ ∃ u, Post w4 b b v4 [⟨1, u1, [96], true⟩, ⟨2, u2, [98], false⟩] [⟨1, u1, [96], true⟩, ⟨2, u2, [98], false⟩, ⟨1, u, [96], true⟩] w' from by simpa using C)
  clear s4
  go_wp2_with fail
  refine C.out.mono ?_
  rintro e w5 ⟨rfl, u3, hp⟩
  obtain ⟨v5, s5⟩ := S.out.post hp
  clear C S hp
  have C := turn_twice _ _ _ _ _ s5.at_ 2 ⟨1, u3, [96], true⟩ rfl 0 (by simp) rfl (.int .u8 1)
  have S := Lib.hid s5
  have C := Lib.hid (show Calls Try.prog 11 #[ptr b, .int .i64 2, .int .i64 0, .int .u8 1] w5 fun e w' => e = .returned (.int .i64 1) ∧ w5 = w' from by simpa using C)
  clear s5
  go_wp2_with fail
  refine C.out.mono ?_
  rintro e w5' ⟨rfl, rfl⟩
  clear C
  have C := take_in _ _ _ _ _ S.out.at_ 1 ⟨2, u2, [98], false⟩ rfl
  have C := Lib.hid (show Calls Try.prog 9 #[ptr b, .int .i64 1] w5 fun e w' => e = .returned (.tuple #[.agg #[.int .i64 2, u2], .int .i64 0]) ∧ Post w5 b b v5 [⟨1, u1, [96], true⟩, ⟨2, u2, [98], false⟩, ⟨1, u3, [96], true⟩] [⟨1, u1, [96], true⟩, ⟨1, u3, [96], true⟩] w' ∧ OwnB w' b u2 [98] from by simpa using C)
  go_wp2_with fail
  refine C.out.mono ?_
  rintro e w6 ⟨rfl, hp, hu2⟩
  obtain ⟨v6, s6⟩ := S.out.post hp
  obtain ⟨A2, c2, rfl, _, _, _, _⟩ := OwnB.form hu2
  clear C S hp
  have m6 := (Chg.refl (fun _ => False) w6).alloc (.cells #[.int .i64 2, .slice A2 1 c2] 35)
  have hbx := Blk.new w6 35 #[.int .i64 2, .slice A2 1 c2]
  have s6' := s6.news m6
  have S := Lib.hid (And.intro s6' (And.intro hbx (own_chg hu2 m6 fun _ _ => id)))
  have C := Lib.hid (all_ _ _ _ _ _ s6'.at_ (fun f hf => by
    rcases List.mem_cons.1 hf with h | h
    · rw [h]; simp
    · rw [List.mem_singleton.1 h]; simp) (by simp))
  clear s6 s6' m6 hbx hu2
  go_wp2_with fail
  refine C.out.mono ?_
  rintro e w7 ⟨u7, rfl, p7, n7⟩
  obtain ⟨g7, c7, ub, hv7, ⟨Ab, cb, rfl⟩, hall⟩ := p7.at_ (i := 1) (p := (1, [96])) rfl
  rw [show (told [(⟨1, u1, [96], true⟩ : Fl), ⟨1, u3, [96], true⟩]).length = 2 from rfl] at hv7
  subst hv7
  have s7 := S.out.1.news n7
  have CT := Lib.hid (take_none _ _ _ _ _ s7.at_ 9 (.inr (by simp)))
  have S7 := Lib.hid (And.intro s7 (And.intro (S.out.2.1.chg n7 id) (own_chg S.out.2.2 n7 fun _ _ => id)))
  have HA := Lib.hid hall
  clear C S n7 p7 s7 hall
  go_wp2_with fail
  refine CT.out.mono ?_
  rintro e w8 ⟨rfl, n8⟩
  have m9 := n8.trans ((Chg.refl (fun _ => False) w8).alloc (.cells #[.int .i64 0, .slice none 0 0] 35)) fun _ _ => id
  have hb9 := S7.out.2.1.chg m9 id
  have k0 := hb9.cell 0
  have k1 := hb9.cell 1
  have ks : (convert 27 9 (.slice A2 1 c2)).run Try.prog _ = _ := own_str S7.out.2.2 m9
  obtain ⟨_, k2, _, k3⟩ := HA.out _ m9
  simp only [List.length_cons, List.length_nil, Nat.zero_add] at k2 k3
  have E9 := Lib.hid ((S7.out.1.news m9).new)
  clear n8 m9 hb9 CT
  go_wp2_with fail
  refine (send_nil _ _ _).mono ?_
  rintro e w9 ⟨rfl, rfl⟩
  go_wp2_with fail
  refine (len_nil _).mono ?_
  rintro e w9 ⟨rfl, rfl⟩
  go_wp2_with fail
  go_ret
  exact ⟨rfl, E9.out⟩
end Net
end Go.Proofs.Ytbagiehocgaoiaa

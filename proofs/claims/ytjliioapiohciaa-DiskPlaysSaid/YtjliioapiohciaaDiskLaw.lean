/-
  The law's own fixed calls answer as the document says: hedgerowlaw10.fixed returns true (no condition).
-/
import Derived.Test.YtjliioapiohciaaDiskTwin
namespace Go.Proofs.Ytjliioapiohciaa
open Go.ChangeShapes Go.WideShapes Go.RowKit
namespace Disk
/-- a []byte literal, just made (of a constant: one place behind it is marked) -/
theorem Reads.lit (w : World) (l : List UInt8) (fr : Nat × Nat) : Reads (w.alloc (.cells (u8s l).toArray 5 fr)) (fun b => b = w.heap.size) 1 (some ⟨w.heap.size, 0, none⟩) l.length (u8s l) := by
  have := Reads.of_row (n := l.length) (size := 1) (heap_alloc_new w (.cells (u8s l).toArray 5 fr)) (by simp [u8s])
  simpa using this
theorem bstr {w : World} {base : Nat} {v : Value} {l : List UInt8} (h : OwnB w base v l) (W : World) (e : W = w) : (convert 26 9 v).run Try.prog W = .ok (.string ⟨l.toArray⟩) W := by
  subst e
  obtain ⟨A, c, rfl, _, _, _, hr⟩ := h.form
  exact run_str Try.underlying26 Try.underlying5 Try.underlying9 hr c
theorem bstrN {w W : World} {base : Nat} {v : Value} {l : List UInt8} (h : OwnB w base v l) (hc : New w W) : (convert 26 9 v).run Try.prog W = .ok (.string ⟨l.toArray⟩) W := by
  exact bstr (own_chg h hc fun _ _ => id) W rfl
theorem s1 : writeE fresh 2 = 0 ∧ writeF fresh [97, 98] = ⟨[97, 98], 0⟩ := ⟨by decide, rfl⟩
theorem s3 : writeF ⟨[97, 98], 2⟩ [99, 100, 101] = ⟨[97, 98, 99, 100, 101], 2⟩ := rfl
theorem s5 : crashF ⟨[97, 98, 99, 100, 101], 2⟩ 2 1 1 = ⟨[97, 98, 99, 101], 2⟩ := by rfl
theorem s6 : spoilF ⟨[97, 98, 99, 100, 101], 2⟩ 0 2 = ⟨[99, 98, 99, 100, 101], 2⟩ := by rfl
theorem s7 : resetE 1 = 0 ∧ resetF ⟨[99, 98, 99, 100, 101], 2⟩ [120] = ⟨[120], 1⟩ := ⟨by decide, rfl⟩
/-- two disks share nothing -/
def Apart (b : Nat) (v : Value) (b' : Nat) (v' : Value) : Prop := ∀ k, Foot b v k → ¬ Foot b' v' k
theorem At.foot {w : World} {lo b : Nat} {v : Value} {d : Dsk} (h : At w lo b v d) {k : Nat} (hk : Foot b v k) : lo ≤ k ∧ k < w.heap.size := by
  rcases hk with rfl | hk
  · exact ⟨h.low, h.blk.lt⟩
  · exact own_lt h.own hk
theorem Apart.symm {b b' : Nat} {v v' : Value} (h : Apart b v b' v') : Apart b' v' b v := fun k h1 h2 => h k h2 h1
theorem At.apart {w w' : World} {lo lo' b b' : Nat} {v v' : Value} {d d' : Dsk} (h : At w lo b v d) (h' : At w' lo' b' v' d') (hl : w.heap.size ≤ lo') : Apart b v b' v' := fun k h1 h2 => by
  have := (h.foot h1).2
  have := (h'.foot h2).1
  omega
theorem At.chgF {w w' : World} {lo b b' : Nat} {v v' : Value} {d : Dsk} (h : At w lo b v d) (hc : Chg (Foot b' v') w w') (ha : Apart b v b' v') : At w' lo b v d :=
  h.chg hc (ha b (.inl rfl)) fun k hk => ha k (.inr hk)
theorem At.newF {w0 w w' : World} {lo b : Nat} {v : Value} {d : Dsk} (h : At w lo b v d) (hn : New w0 w) (hc : Chg (Foot b v) w w') (hl : w0.heap.size ≤ lo) : New w0 w' :=
  hn.trans hc fun k hk e => by
    have := (h.foot e).1
    omega
/-- behind a call that may have laid the bytes anew -/
theorem Apart.step {w : World} {lo' b b' : Nat} {v u v' : Value} {d' : Dsk} (ha : Apart b v b' v') (h' : At w lo' b' v' d') (hu : ∀ k, u.ownBlock = some k → v.ownBlock = some k ∨ w.heap.size ≤ k) : Apart b u b' v' := fun k h1 h2 => by
  rcases h1 with h1 | h1
  · exact ha k (.inl h1) h2
  · rcases hu k h1 with h3 | h3
    · exact ha k (.inr h3) h2
    · have := (h'.foot h2).2
      omega
set_option maxHeartbeats 4000000 in
set_option maxRecDepth 100000 in
theorem fixed (w : World) : Calls Try.prog 7 #[] w fun e w' => LawEnd w e w' := by
  have kc := fun (w : World) (C : Array Value) (n c : Nat) => Lib.run_convert_bytes_const (P := Try.prog) w 26 5 C n c Try.underlying26 Try.underlying5
  go_enter Try.func7, Try.ntmps7
  go_wp2_with fail
  refine (new_ _).mono ?_
  rintro e w1 ⟨rfl, h1, n1⟩
  go_wp2_with fail
  have k1 := write _ _ _ _ _ (h1.new ((Chg.refl (fun _ => False) w1).alloc (.cells (u8s [97, 98]).toArray 5 (2, 3)))) _ 2 2 _ _ (Reads.lit w1 [97, 98] (2, 3)) (by omega)
  rw [s1.1, s1.2] at k1
  refine k1.mono ?_
  clear k1
  rintro e w2 ⟨rfl, v2, h2, c2, b2⟩
  have n2 : New w w2 := (n1.alloc _).trans c2 (fun i hi e => by
    rcases e with e | e
    · omega
    · cases e)
  go_wp2_with fail
  refine (sync _ _ _ _ _ h2).mono ?_
  rintro e w3 ⟨rfl, h3, c3⟩
  have n3 : New w w3 := n2.trans c3 (fun i hi e => by omega)
  clear h1 n1 h2 c2 b2 n2 c3
  go_wp2_with fail
  have k1 := write _ _ _ _ _ (h3.new ((Chg.refl (fun _ => False) w3).alloc (.cells (u8s [99, 100, 101]).toArray 5 (3, 4)))) _ 3 3 _ _ (Reads.lit w3 [99, 100, 101] (3, 4)) (by omega)
  rw [show writeF (syncF ⟨[97, 98], 0⟩) [99, 100, 101] = ⟨[97, 98, 99, 100, 101], 2⟩ from rfl] at k1
  refine k1.mono ?_
  clear k1
  rintro e w4 ⟨rfl, v4, h4, c4, b4⟩
  have hv3 := fun k hk => (own_lt h3.own (k := k) hk).1
  have n4 : New w w4 := (n3.alloc _).trans c4 (fun i hi e => by
    rcases e with e | e
    · omega
    · have := hv3 _ e
      omega)
  clear h3 c4 b4 n3 hv3
  go_wp2_with fail
  refine (twin _ _ _ _ _ h4).mono ?_
  rintro e w5 ⟨bt, vt, rfl, ht, c5⟩
  have h5 := h4.new c5
  have n5 : New w w5 := n4.trans c5 (fun _ _ => False.elim)
  have ap := h4.apart ht (Nat.le_refl _)
  have hb5 := ht.low
  have hl5 := h4.blk.lt
  clear h4 c5 n4
  go_wp2_with fail
  have k1 := crash _ _ _ _ _ h5 2 1 1 (by omega) (by omega)
  rw [s5] at k1
  refine k1.mono ?_
  clear k1
  rintro e w6 ⟨rfl, v6, e6, h6, c6⟩
  have ht6 := ht.chgF c6 ap.symm
  have n6 := h5.newF n5 c6 (Nat.le_refl _)
  have ap6 := ap.step ht (u := v6) (fun k hk => .inl (e6 ▸ hk))
  clear h5 ht n5 c6 ap e6
  go_wp2_with fail
  have k1 := spoil _ _ _ _ _ ht6 0 2 (by omega) (by omega)
  rw [s6] at k1
  refine k1.mono ?_
  clear k1
  rintro e w7 ⟨rfl, ht7, c7⟩
  have h7 := h6.chgF c7 ap6
  have n7 := ht6.newF n6 c7 (by omega)
  clear h6 ht6 n6 c7
  go_wp2_with fail
  have k1 := reset _ _ _ _ _ (ht7.new ((Chg.refl (fun _ => False) w7).alloc (.cells (u8s [120]).toArray 5 (1, 2)))) _ 1 1 _ _ (Reads.lit w7 [120] (1, 2)) (by omega)
  rw [s7.1, s7.2] at k1
  refine k1.mono ?_
  clear k1
  rintro e w8 ⟨rfl, v8, ht8, c8, b8⟩
  have h7' := h7.new ((Chg.refl (fun _ => False) w7).alloc (.cells (u8s [120]).toArray 5 (1, 2)))
  have h8 := h7'.chgF c8 ap6
  have n8 := At.newF (ht7.new ((Chg.refl (fun _ => False) w7).alloc (.cells (u8s [120]).toArray 5 (1, 2)))) (n7.alloc _) c8 (by omega)
  clear h7 h7' ht7 n7 c8 b8 ap6
  go_wp2_with fail
  refine (bytes _ _ _ _ _ h8).mono ?_
  rintro e w9 ⟨u9, rfl, ho9, c9⟩
  have q9 := bstr ho9 _ rfl
  have h9 := h8.new c9
  have ht9 := ht8.new c9
  have n9 := n8.trans c9 (fun _ _ => False.elim)
  clear ho9 h8 ht8 c9 n8
  go_wp2_with fail
  refine (synced _ _ _ _ _ h9).mono ?_
  rintro e w10 ⟨rfl, rfl⟩
  go_wp2_with fail
  refine (bytes _ _ _ _ _ ht9).mono ?_
  rintro e w10 ⟨u10, rfl, ho10, c10⟩
  have q10 := bstr ho10 _ rfl
  have ht10 := ht9.new c10
  have n10 := n9.trans c10 (fun _ _ => False.elim)
  clear ho10 h9 ht9 c10 n9 q9
  go_wp2_with fail
  refine (synced _ _ _ _ _ ht10).mono ?_
  rintro e w11 ⟨rfl, rfl⟩
  go_wp2_with fail
  refine (write_nil _ _).mono ?_
  rintro e w11 ⟨rfl, rfl⟩
  go_wp2_with fail
  refine (twin_nil _).mono ?_
  rintro e w11 ⟨rfl, rfl⟩
  go_wp2_with fail
  refine (bytes_nil _).mono ?_
  rintro e w11 ⟨rfl, rfl⟩
  go_wp2_with fail
  refine (synced_nil _).mono ?_
  rintro e w11 ⟨rfl, rfl⟩
  go_wp2
  go_ret
  exact ⟨rfl, n10⟩
end Disk
end Go.Proofs.Ytjliioapiohciaa

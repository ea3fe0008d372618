/-
  What the program's buffer package computes: what a peer tells that it knows (no condition beyond the sizes).
-/
import Derived.Test.YtgjlbifanjhcjaaBuffer5
namespace Go.Proofs.Ytgjlbifanjhcjaa
open Go.ChangeShapes Go.WideShapes Go.RowKit Go.Deep
namespace Buf
open Vec
attribute [local go_sem ↓] loadRow0 storeRow0
theorem Hd.drew {w : World} {b n me : Nat} {acks : List (List Int)} {v : Value} (h : Hd w b n me acks v) : Hd w.drew b n me acks v := ⟨h.blk, h.ha, h.hr, h.hn⟩
theorem Hd.cellE {w : World} {b n me : Nat} {acks : List (List Int)} {v : Value} (h : Hd w b n me acks v) : w.cell? ⟨b, 258, none⟩ = some v := by
  rw [h.blk.cell, List.getElem?_toArray, bufC, List.getElem?_cons_succ, List.getElem?_cons_succ, List.getElem?_append_right (by rw [ints_length, flat_len h.hr, h.ha]; omega), ints_length, flat_len h.hr, h.ha]
  rfl
theorem noF (S : Nat → Prop) (w : World) : ∀ W, Chg S w W → True := fun _ _ => trivial
theorem bufC_len (n me : Int) (acks : List (List Int)) (v : Value) (hr : ∀ a ∈ acks, a.length = 16) (ha : acks.length = 16) : (bufC n me acks v).length = 259 := by
  unfold bufC
  rw [List.length_cons, List.length_cons, List.length_append, ints_length, flat_len hr, ha]
  rfl
set_option maxHeartbeats 1000000 in
theorem ack_nil (w : World) (p : Value) (xs : List Int) : Calls Try.prog 11 #[.pointer none, p, vec xs] w fun e w' => e = .returned (.int .i64 1) ∧ New w w' := by
  generalize (ints xs).toArray = X
  go_enter Try.func11, Try.ntmps11
  go_wp2
  go_ret
  exact ⟨rfl, ((Chg.refl _ w).alloc _).alloc _⟩
set_option maxHeartbeats 4000000 in
theorem ack_me (w : World) (lo b n : Nat) (acks : List (List Int)) (v : Value) (es : List Ev) (h : At w lo b n 0 acks v es) (hn : 0 < n) (xs : List Int) :
    Calls Try.prog 11 #[ptr b, .int .i64 0, vec xs] w fun e w' => e = .returned (.int .i64 5) ∧ New w w' := by
  obtain ⟨X, hX⟩ : ∃ X, (ints xs).toArray = X := ⟨_, rfl⟩
  rw [show vec xs = .agg X by rw [← hX]]
  have n2 := ((Chg.refl (fun _ => False) w).alloc (.cells #[ptr b] 24)).alloc (.cells X 27)
  have C := Lib.hid (peer_me _ _ _ _ _ _ _ (h.new n2) hn)
  have b1 := (Blk.new w 24 #[ptr b]).alloc (.cells X 27)
  have c0 := b1.cell 0
  simp only [List.getElem?_toArray, List.getElem?_cons_zero] at c0
  have N := Lib.hid n2
  clear h n2 b1 hX
  go_enter Try.func11, Try.ntmps11
  go_wp2_with fail
  refine C.out.mono ?_
  rintro e w3 ⟨rfl, rfl⟩
  go_wp2_with fail
  go_ret
  exact ⟨rfl, N.out⟩
set_option maxHeartbeats 8000000 in
set_option maxRecDepth 100000 in
theorem ack (w : World) (lo b n me : Nat) (acks : List (List Int)) (v : Value) (es : List Ev) (h : At w lo b n me acks v es) (p : Nat) (hp : p < n) (hne : p ≠ me) (xs : List Int) (hx : xs.length = 16) (hlen : es.length ≤ 100000) (a : List Int) (ha : acks[p]? = some a) :
    Calls Try.prog 11 #[ptr b, .int .i64 (p : Int), vec xs] w fun e w' => e = .returned (.int .i64 0) ∧ ∃ v', At w' lo b n me (acks.set p (join a xs)) v' (es.filter fun e => !allF n me (acks.set p (join a xs)) e.r e.c) ∧ (v'.ownBlock = v.ownBlock ∨ v'.ownBlock = none) ∧ Chg (fun k => k = b ∨ v.ownBlock = some k) w w' := by
  have hmf : ∀ fn first cap w, (Instr.makeFunc fn first cap).run Try.prog w = .ok (.func fn first cap) w := fun _ _ _ _ => rfl
  have m1 := (Chg.refl (fun _ => False) w).alloc (.cells #[ptr b] 24)
  have b1 := Blk.new w 24 #[ptr b]
  generalize hw1 : w.alloc (.cells #[ptr b] 24) = w1 at *
  have s1 : w1.heap.size = w.heap.size + 1 := by rw [← hw1]; simp
  have m2 := (Chg.refl (fun _ => False) w1).alloc (.cells (ints xs).toArray 27)
  have b2 := Blk.new w1 27 (ints xs).toArray
  have n2 := m1.trans m2 fun _ _ => id
  have h2 := h.new n2
  have CP := Lib.hid (peer_yes _ _ _ _ _ _ _ _ h2 p hp hne)
  have c1 := (m2.cell (p := ⟨w.heap.size, 0, none⟩) b1.lt id).trans (b1.cell 0)
  simp only [List.getElem?_toArray, List.getElem?_cons_zero] at c1
  have hbw := h.blk.lt
  have how : ∀ k, v.ownBlock = some k → k < w.heap.size := fun k hk => (own_lt h.own hk).2
  have H := Lib.hid (And.intro h2 (And.intro b2 (And.intro n2 (And.intro c1 (And.intro hbw how)))))
  subst hw1
  rw [World.size_alloc] at *
  clear h m1 b1 m2 b2 n2 h2 hbw how
  go_enter Try.func11, Try.ntmps11
  go_wp2_with fail
  refine CP.out.mono ?_
  rintro e w3' ⟨rfl, rfl⟩
  have hp16 : (p : Int) < 16 := by have := H.out.1.hn; omega
  have hal := H.out.1.hr a (List.mem_of_getElem? ha)
  generalize ((w.alloc (.cells #[ptr b] 24)).alloc (.cells (ints xs).toArray 27)) = w3 at *
  have F := Lib.hid (fun W (hW : Chg (fun g => g = b) w3.drew W) => And.intro ((hW.cell (p := ⟨w.heap.size, 0, none⟩) (block_lt_of_cell c1) (fun e => by have := H.out.2.2.2.2.1; simp at e; omega)).trans c1) (ldB hx (H.out.2.1.drew.chg hW (fun e => by have := H.out.2.2.2.2.1; omega))))
  have l1 := Lib.hid ((H.out.1.new ((Chg.refl (fun _ => False) w3).drew)).ld ha)
  have C := Lib.hid (join_ w3.drew a xs hal hx)
  have HA := Lib.hid (And.intro ha hp)
  clear c1 ha hp
  go_wp2_with fail
  refine grow_start (fun g => g = b) (by kernel_rfl) ?_
  refine grow_take (i := 0) (oi := { dst := some 15, op := Op.load 24 (Operand.tmp 3), type := 24, pos := "buffer.go:56", after := #[], guard := none }) (v := ?_) rfl (by kernel_rfl) (by kernel_rfl) (by kernel_rfl) (by rfl) ?_ ?_; rotate_left; focus ((intro W hW; have fct := F.out W hW; go_simp) <;> with_reducible rfl)
  simp only [Act.put, List.setIfInBounds_toArray, List.set_cons_zero, List.set_cons_succ]
  refine grow_take (i := 1) (oi := { dst := some 16, op := Op.move (Operand.tmp 1), type := 3, pos := "buffer.go:56", after := #[], guard := none }) (v := ?_) rfl (by kernel_rfl) (by kernel_rfl) (by kernel_rfl) (by rfl) ?_ ?_; rotate_left; focus ((intro W hW; go_simp) <;> with_reducible rfl)
  simp only [Act.put, List.setIfInBounds_toArray, List.set_cons_zero, List.set_cons_succ]
  refine grow_take (i := 2) (oi := { dst := some 17, op := Op.load 24 (Operand.tmp 3), type := 24, pos := "buffer.go:56", after := #[], guard := none }) (v := ?_) rfl (by kernel_rfl) (by kernel_rfl) (by kernel_rfl) (by rfl) ?_ ?_; rotate_left; focus ((intro W hW; have fct := F.out W hW; go_simp) <;> with_reducible rfl)
  simp only [Act.put, List.setIfInBounds_toArray, List.set_cons_zero, List.set_cons_succ]
  refine grow_take (i := 3) (oi := { dst := some 18, op := Op.move (Operand.tmp 1), type := 3, pos := "buffer.go:56", after := #[], guard := none }) (v := ?_) rfl (by kernel_rfl) (by kernel_rfl) (by kernel_rfl) (by rfl) ?_ ?_; rotate_left; focus ((intro W hW; go_simp) <;> with_reducible rfl)
  simp only [Act.put, List.setIfInBounds_toArray, List.set_cons_zero, List.set_cons_succ]
  refine grow_take (i := 4) (oi := { dst := some 19, op := Op.nilCheck (Operand.tmp 17), type := 0, pos := "buffer.go:56", after := #[{ on := 2, ground := Ground.data }], guard := none }) (v := ?_) rfl (by kernel_rfl) (by kernel_rfl) (by kernel_rfl) (by rfl) ?_ ?_; rotate_left; focus ((intro W hW; go_simp) <;> with_reducible rfl)
  simp only [Act.put, List.setIfInBounds_toArray, List.set_cons_zero, List.set_cons_succ]
  refine grow_take (i := 5) (oi := { dst := some 20, op := Op.fieldAddr 49 (Operand.tmp 19) 2, type := 0, pos := "buffer.go:56", after := #[{ on := 4, ground := Ground.data }], guard := none }) (v := ?_) rfl (by kernel_rfl) (by kernel_rfl) (by kernel_rfl) (by rfl) ?_ ?_; rotate_left; focus ((intro W hW; go_simp) <;> with_reducible rfl)
  simp only [Act.put, List.setIfInBounds_toArray, List.set_cons_zero, List.set_cons_succ]
  refine grow_take (i := 6) (oi := { dst := some 21, op := Op.indexAddr 47 (Operand.tmp 20) (Operand.tmp 18), type := 0, pos := "buffer.go:56", after := #[{ on := 5, ground := Ground.data }, { on := 3, ground := Ground.data }], guard := none }) (v := ?_) rfl (by kernel_rfl) (by kernel_rfl) (by kernel_rfl) (by rfl) ?_ ?_; rotate_left; focus ((intro W hW; have fct := F.out W hW; go_simp) <;> with_reducible rfl)
  simp only [Act.put, List.setIfInBounds_toArray, List.set_cons_zero, List.set_cons_succ]
  refine grow_take (i := 8) (oi := { dst := some 23, op := Op.load 27 (Operand.tmp 5), type := 27, pos := "buffer.go:56", after := #[], guard := none }) (v := ?_) rfl (by kernel_rfl) (by kernel_rfl) (by kernel_rfl) (by rfl) ?_ ?_; rotate_left; focus ((intro W hW; have fct := F.out W hW; go_simp) <;> with_reducible rfl)
  simp only [Act.put, List.setIfInBounds_toArray, List.set_cons_zero, List.set_cons_succ]
  refine grow_take (i := 10) (oi := { dst := some 25, op := Op.nilCheck (Operand.tmp 15), type := 0, pos := "buffer.go:56", after := #[{ on := 0, ground := Ground.data }], guard := none }) (v := ?_) rfl (by kernel_rfl) (by kernel_rfl) (by kernel_rfl) (by rfl) ?_ ?_; rotate_left; focus ((intro W hW; go_simp) <;> with_reducible rfl)
  simp only [Act.put, List.setIfInBounds_toArray, List.set_cons_zero, List.set_cons_succ]
  refine grow_take (i := 11) (oi := { dst := some 26, op := Op.fieldAddr 49 (Operand.tmp 25) 2, type := 0, pos := "buffer.go:56", after := #[{ on := 10, ground := Ground.data }], guard := none }) (v := ?_) rfl (by kernel_rfl) (by kernel_rfl) (by kernel_rfl) (by rfl) ?_ ?_; rotate_left; focus ((intro W hW; go_simp) <;> with_reducible rfl)
  simp only [Act.put, List.setIfInBounds_toArray, List.set_cons_zero, List.set_cons_succ]
  refine grow_next (i := 7) (oi := { dst := some 22, op := Op.load 27 (Operand.tmp 21), type := 27, pos := "buffer.go:56", after := #[{ on := 6, ground := Ground.data }], guard := none }) (by kernel_rfl) rfl (by rfl) (fun K hK => ?_)
  go_simp
  have l1 := l1.out
  go_simp
  refine hK _ _ (Chg.refl _ _) ?_
  clear hK K
  try simp only [Act.put, List.setIfInBounds_toArray, List.set_cons_zero, List.set_cons_succ]
  refine grow_next (i := 9) (oi := { dst := some 24, op := Op.call { callee := Callee.value (Operand.func 18), args := #[Operand.tmp 22, Operand.tmp 23], argTypes := #[27, 27] }, type := 27, pos := "buffer.go:56", after := #[{ on := 7, ground := Ground.data }, { on := 8, ground := Ground.data }], guard := none }) (by kernel_rfl) rfl (by rfl) (fun K hK => ?_)
  go_simp
  refine C.out.mono ?_
  rintro e w4 ⟨rfl, n4⟩
  refine hK _ _ (n4.to _) ?_
  clear hK K
  try simp only [Act.put, List.setIfInBounds_toArray, List.set_cons_zero, List.set_cons_succ]
  have h4 := (H.out.1.new ((Chg.refl (fun _ => False) w3).drew)).new n4
  have hst := run_StoreRow (P := Try.prog) (t := 27) (n := 16) (by kernel_rfl) (by rw [ints_length, join_length]) (ints_one (join a xs)) h4.blk (o := 2 + p * 16) (by rw [bufC_len _ _ _ _ h4.hr h4.ha]; have := H.out.1.hn; have := HA.out.2; omega)
  have hb4 := Blk.setCells (ints (join a xs)) (2 + p * 16) w4 _ h4.blk (by rw [bufC_len _ _ _ _ h4.hr h4.ha, ints_length, join_length]; have := H.out.1.hn; have := HA.out.2; omega)
  rw [ints_length, join_length, ← bufC_ack _ _ _ _ h4.hr p (by rw [h4.ha]; have := H.out.1.hn; have := HA.out.2; omega)] at hb4
  have c5 := Chg.setCells (S := fun g => g = b) (a := w4) (g := b) (ints (join a xs)) (2 + p * 16) w4 (Chg.refl _ _) (fun _ => rfl)
  have H4 := Lib.hid (And.intro h4 (And.intro hb4 (And.intro c5 n4)))
  have hst := Lib.hid hst
  clear h4 hb4 c5 n4 C
  refine grow_take (i := 12) (oi := { dst := some 27, op := Op.indexAddr 47 (Operand.tmp 26) (Operand.tmp 16), type := 0, pos := "buffer.go:56", after := #[{ on := 11, ground := Ground.data }, { on := 1, ground := Ground.data }, { on := 0, ground := Ground.phase }, { on := 1, ground := Ground.phase }, { on := 2, ground := Ground.phase }, { on := 3, ground := Ground.phase }, { on := 4, ground := Ground.phase }, { on := 5, ground := Ground.phase }, { on := 6, ground := Ground.phase }, { on := 7, ground := Ground.phase }, { on := 8, ground := Ground.phase }, { on := 9, ground := Ground.phase }], guard := none }) (v := ?_) rfl (by kernel_rfl) (by kernel_rfl) (by kernel_rfl) (by rfl) ?_ ?_; rotate_left; focus ((intro W hW; have fct := (noF _ _) W hW; go_simp) <;> with_reducible rfl)
  simp only [Act.put, List.setIfInBounds_toArray, List.set_cons_zero, List.set_cons_succ]
  refine grow_next (i := 13) (oi := { dst := none, op := Op.store 27 (Operand.tmp 27) (Operand.tmp 24), type := 0, pos := "buffer.go:56", after := #[{ on := 12, ground := Ground.data }, { on := 9, ground := Ground.data }, { on := 9, ground := Ground.chain }, { on := 0, ground := Ground.phase }, { on := 1, ground := Ground.phase }, { on := 2, ground := Ground.phase }, { on := 3, ground := Ground.phase }, { on := 4, ground := Ground.phase }, { on := 5, ground := Ground.phase }, { on := 6, ground := Ground.phase }, { on := 7, ground := Ground.phase }, { on := 8, ground := Ground.phase }, { on := 9, ground := Ground.phase }], guard := none }) (by kernel_rfl) rfl (by rfl) (fun K hK => ?_)
  go_simp
  have hst := hst.out
  go_simp
  refine hK _ _ H4.out.2.2.1 ?_
  clear hK K
  try simp only [Act.put, List.setIfInBounds_toArray, List.set_cons_zero, List.set_cons_succ]
  refine grow_done (by kernel_rfl) ?_ _
  obtain ⟨acks2, hacks2⟩ : ∃ acks2, acks.set p (join a xs) = acks2 := ⟨_, rfl⟩
  obtain ⟨w5, hw5⟩ : ∃ w5, w4.setCells b (2 + p * 16) (ints (join a xs)) = w5 := ⟨_, rfl⟩
  have hdb := H4.out.2.1
  have ch5 := H4.out.2.2.1
  rw [hacks2, hw5] at hdb
  rw [hw5] at ch5 ⊢
  have ha2 : acks2.length = 16 := by rw [← hacks2, List.length_set]; exact H4.out.1.ha
  have hr2 : ∀ x ∈ acks2, x.length = 16 := by
    rw [← hacks2]
    intro x hx
    rcases List.mem_or_eq_of_mem_set hx with h | h
    · exact H4.out.1.hr x h
    · rw [h, join_length]
  have hd5 : Hd w5 b n me acks2 v := ⟨hdb, ha2, hr2, H4.out.1.hn⟩
  have ne := H4.out.1.ne
  have o5 := own_chg H4.out.1.own ch5 (fun k hk e => ne (by rw [hk, e]))
  have nw5 : Chg (fun k => k = b ∨ v.ownBlock = some k) w w5 := ((H.out.2.2.1.drew.trans H4.out.2.2.2 fun _ _ => id).mono (S' := fun k => k = b ∨ v.ownBlock = some k) fun _ _ => False.elim).trans ch5 fun _ _ => .inl
  have kb5 : w5.cell? ⟨w.heap.size, 0, none⟩ = some (ptr b) := (F.out w4 (H4.out.2.2.2.to _)).1 |> (ch5.cell (p := ⟨w.heap.size, 0, none⟩) (block_lt_of_cell (F.out w4 (H4.out.2.2.2.to _)).1) (fun e => by have := H.out.2.2.2.2.1; simp at e; omega)).trans
  have kE5 : w5.cell? ⟨b, 258, none⟩ = some v := (At.cellE (lo := lo) (es := es) ⟨hd5.blk, o5, ha2, hr2, hd5.hn, H4.out.1.low⟩)
  have G := Lib.hid (And.intro hd5 (And.intro o5 (And.intro nw5 (And.intro kb5 (And.intro ne H4.out.1.low)))))
  have HA2 := Lib.hid hacks2
  have F := Lib.hid (fun W (hW : Chg (fun k => k = b ∨ v.ownBlock = some k) w5.drew W) => (hW.cell (p := ⟨w.heap.size, 0, none⟩) (block_lt_of_cell kb5) (fun e => by
    rcases e with e | e
    · have := H.out.2.2.2.2.1; simp at e; omega
    · have := H.out.2.2.2.2.2 _ e; simp at this)).trans kb5)
  have C := Lib.hid (IterE.delete w5.drew lo v es o5 (ptr w.heap.size) (fun e => allF n me acks2 e.r e.c) (fun x hx W hW => test W b w.heap.size n me acks2 v ((show Hd w5.drew b n me acks2 v from ⟨hd5.blk, hd5.ha, hd5.hr, hd5.hn⟩).chg hW ne) ((hW.cell (p := ⟨w.heap.size, 0, none⟩) (block_lt_of_cell kb5) (fun e => by have := H.out.2.2.2.2.2 _ e; simp at this)).trans kb5) x) (by omega))
  have hE := Lib.hid kE5
  clear hdb ch5 hd5 o5 nw5 kb5 ne hst hacks2 hw5 H4 l1 ha2 hr2 kE5 CP
  go_wp2_with fail
  refine grow_start (fun k => k = b ∨ v.ownBlock = some k) (by kernel_rfl) ?_
  refine grow_take (i := 0) (oi := { dst := some 28, op := Op.load 24 (Operand.tmp 3), type := 24, pos := "buffer.go:57", after := #[], guard := none }) (v := ?_) rfl (by kernel_rfl) (by kernel_rfl) (by kernel_rfl) (by rfl) ?_ ?_; rotate_left; focus ((intro W hW; have fct := F.out W hW; go_simp) <;> with_reducible rfl)
  simp only [Act.put, List.setIfInBounds_toArray, List.set_cons_zero, List.set_cons_succ]
  refine grow_take (i := 1) (oi := { dst := some 29, op := Op.load 24 (Operand.tmp 3), type := 24, pos := "buffer.go:57", after := #[], guard := none }) (v := ?_) rfl (by kernel_rfl) (by kernel_rfl) (by kernel_rfl) (by rfl) ?_ ?_; rotate_left; focus ((intro W hW; have fct := F.out W hW; go_simp) <;> with_reducible rfl)
  simp only [Act.put, List.setIfInBounds_toArray, List.set_cons_zero, List.set_cons_succ]
  refine grow_take (i := 2) (oi := { dst := some 30, op := Op.nilCheck (Operand.tmp 29), type := 0, pos := "buffer.go:57", after := #[{ on := 1, ground := Ground.data }], guard := none }) (v := ?_) rfl (by kernel_rfl) (by kernel_rfl) (by kernel_rfl) (by rfl) ?_ ?_; rotate_left; focus ((intro W hW; go_simp) <;> with_reducible rfl)
  simp only [Act.put, List.setIfInBounds_toArray, List.set_cons_zero, List.set_cons_succ]
  refine grow_take (i := 3) (oi := { dst := some 31, op := Op.fieldAddr 49 (Operand.tmp 30) 3, type := 0, pos := "buffer.go:57", after := #[{ on := 2, ground := Ground.data }], guard := none }) (v := ?_) rfl (by kernel_rfl) (by kernel_rfl) (by kernel_rfl) (by rfl) ?_ ?_; rotate_left; focus ((intro W hW; go_simp) <;> with_reducible rfl)
  simp only [Act.put, List.setIfInBounds_toArray, List.set_cons_zero, List.set_cons_succ]
  refine grow_take (i := 5) (oi := { dst := some 33, op := Op.makeFunc (Fn.func 20) #[] #[Operand.tmp 3], type := 55, pos := "buffer.go:57", after := #[], guard := none }) (v := ?_) rfl (by kernel_rfl) (by kernel_rfl) (by kernel_rfl) (by rfl) ?_ ?_; rotate_left; focus ((intro W hW; go_simp) <;> with_reducible rfl)
  simp only [Act.put, List.setIfInBounds_toArray, List.set_cons_zero, List.set_cons_succ]
  refine grow_next (i := 4) (oi := { dst := some 32, op := Op.load 22 (Operand.tmp 31), type := 22, pos := "buffer.go:57", after := #[{ on := 3, ground := Ground.data }], guard := none }) (by kernel_rfl) rfl (by rfl) (fun K hK => ?_)
  go_simp
  have hE := hE.out
  go_simp
  refine hK _ _ (Chg.refl _ _) ?_
  clear hK K
  try simp only [Act.put, List.setIfInBounds_toArray, List.set_cons_zero, List.set_cons_succ]
  refine grow_next (i := 6) (oi := { dst := some 34, op := Op.call { callee := Callee.value (Operand.func 19), args := #[Operand.tmp 32, Operand.tmp 33], argTypes := #[22, 55] }, type := 22, pos := "buffer.go:57", after := #[{ on := 4, ground := Ground.data }, { on := 5, ground := Ground.data }], guard := none }) (by kernel_rfl) rfl (by rfl) (fun K hK => ?_)
  go_simp
  refine C.out.mono ?_
  rintro e w6 ⟨v6, rfl, o6, ho6, c6⟩
  obtain ⟨A6, L6, cc6, rfl⟩ : ∃ A L c, v6 = .slice A L c := (by obtain ⟨A, c, h⟩ := OwnE.form o6; exact ⟨A, _, c, h⟩)
  refine hK _ _ (c6.mono fun _ _ h => .inr h) ?_
  clear hK K
  try simp only [Act.put, List.setIfInBounds_toArray, List.set_cons_zero, List.set_cons_succ]
  have hd6 := G.out.1.drew.chg c6 G.out.2.2.2.2.1
  have hb6 := hd6.blk.set_ 258 (.slice A6 L6 cc6)
  rw [bufC_set _ _ _ _ _ hd6.hr hd6.ha] at hb6
  have hfz := hd6.blk.frozen 258
  have hcl := hd6.cellE
  have n6 := G.out.2.2.1.drew.trans c6 (fun _ _ h => .inr h)
  have cs6 := (Chg.refl (fun k => k = b) w6).setCell (p := ⟨b, 258, none⟩) (fun _ => rfl) (.slice A6 L6 cc6)
  have H6 := Lib.hid (And.intro hd6 (And.intro hb6 (And.intro n6 (And.intro o6 (And.intro ho6 cs6)))))
  clear C c6 hd6 hb6 n6 o6 ho6 cs6
  refine grow_take (i := 7) (oi := { dst := some 35, op := Op.nilCheck (Operand.tmp 28), type := 0, pos := "buffer.go:57", after := #[{ on := 0, ground := Ground.data }, { on := 0, ground := Ground.phase }, { on := 1, ground := Ground.phase }, { on := 2, ground := Ground.phase }, { on := 3, ground := Ground.phase }, { on := 4, ground := Ground.phase }, { on := 5, ground := Ground.phase }, { on := 6, ground := Ground.phase }], guard := none }) (v := ?_) rfl (by kernel_rfl) (by kernel_rfl) (by kernel_rfl) (by rfl) ?_ ?_; rotate_left; focus ((intro W hW; go_simp) <;> with_reducible rfl)
  simp only [Act.put, List.setIfInBounds_toArray, List.set_cons_zero, List.set_cons_succ]
  refine grow_take (i := 8) (oi := { dst := some 36, op := Op.fieldAddr 49 (Operand.tmp 35) 3, type := 0, pos := "buffer.go:57", after := #[{ on := 7, ground := Ground.data }, { on := 0, ground := Ground.phase }, { on := 1, ground := Ground.phase }, { on := 2, ground := Ground.phase }, { on := 3, ground := Ground.phase }, { on := 4, ground := Ground.phase }, { on := 5, ground := Ground.phase }, { on := 6, ground := Ground.phase }], guard := none }) (v := ?_) rfl (by kernel_rfl) (by kernel_rfl) (by kernel_rfl) (by rfl) ?_ ?_; rotate_left; focus ((intro W hW; go_simp) <;> with_reducible rfl)
  simp only [Act.put, List.setIfInBounds_toArray, List.set_cons_zero, List.set_cons_succ]
  refine grow_next (i := 9) (oi := { dst := none, op := Op.store 22 (Operand.tmp 36) (Operand.tmp 34), type := 0, pos := "buffer.go:57", after := #[{ on := 8, ground := Ground.data }, { on := 6, ground := Ground.data }, { on := 6, ground := Ground.chain }, { on := 0, ground := Ground.phase }, { on := 1, ground := Ground.phase }, { on := 2, ground := Ground.phase }, { on := 3, ground := Ground.phase }, { on := 4, ground := Ground.phase }, { on := 5, ground := Ground.phase }, { on := 6, ground := Ground.phase }], guard := none }) (by kernel_rfl) rfl (by rfl) (fun K hK => ?_)
  go_simp
  skip
  refine hK _ _ (H6.out.2.2.2.2.2.mono (fun _ _ h => .inl h)) ?_
  clear hK K
  try simp only [Act.put, List.setIfInBounds_toArray, List.set_cons_zero, List.set_cons_succ]
  refine grow_done (by kernel_rfl) ?_ _
  go_wp2_with fail
  go_ret
  have ne6 : (Value.slice A6 L6 cc6).ownBlock ≠ some b := fun e => by
    rcases H6.out.2.2.2.2.1 with h | h
    · exact G.out.2.2.2.2.1 (h ▸ e)
    · rw [h] at e; cases e
  rw [HA2.out]
  refine ⟨rfl, _, ⟨H6.out.2.1, own_chg H6.out.2.2.2.1 H6.out.2.2.2.2.2 (fun k hk e => ne6 (by rw [hk, e])), H6.out.1.ha, H6.out.1.hr, H6.out.1.hn, G.out.2.2.2.2.2⟩, H6.out.2.2.2.2.1, H6.out.2.2.1.trans H6.out.2.2.2.2.2 fun _ _ => .inl⟩
end Buf
end Go.Proofs.Ytgjlbifanjhcjaa

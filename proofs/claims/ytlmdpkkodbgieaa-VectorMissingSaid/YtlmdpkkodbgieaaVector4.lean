/-
  What the program's vector package computes, the fourth part: Missing (no condition beyond the rows' lengths and Go's int).
-/
import Derived.Test.YtlmdpkkodbgieaaVector3
import Derived.Test.YtlmdpkkodbgieaaVectorMissPlain
namespace Go.Proofs.Ytlmdpkkodbgieaa
open Go.ChangeShapes Go.WideShapes Go.RowKit
namespace Vec
attribute [local go_sem ↓] loadRow0 storeRow0
/-- dots as cells -/
def dcells (l : List (Int × Int)) : List Value := l.flatMap fun d => [.int .i64 d.1, .int .i64 d.2]
theorem dcells_append (l k : List (Int × Int)) : dcells (l ++ k) = dcells l ++ dcells k := by simp [dcells]
theorem dcells_length (l : List (Int × Int)) : (dcells l).length = l.length * 2 := by
  induction l with
  | nil => rfl
  | cons d l ih => simp only [dcells, List.flatMap_cons, List.length_append, List.length_cons, List.length_nil] at ih ⊢; omega
theorem dcells_one (l : List (Int × Int)) : ∀ u ∈ dcells l, u.oneCell' = true := by
  intro u hu
  simp only [dcells, List.mem_flatMap] at hu
  obtain ⟨d, _, h⟩ := hu
  simp at h
  rcases h with rfl | rfl <;> rfl
/-- v is a slice of the call's own (its block is at least base) whose dots are l -/
abbrev OwnD (w : World) (base : Nat) (v : Value) (l : List (Int × Int)) : Prop := w.ownsRow base 28 2 v l.length (dcells l)
theorem dotInfo : (Try.prog.info? 28).map (fun i => (i.zero, i.size, i.bytes)) = some (some (.agg #[.int .i64 0, .int .i64 0]), 2, 16) := by kernel_rfl
theorem OwnD.nil (w : World) (base : Nat) : OwnD w base (.slice none 0 0) [] := World.ownsRow_nil _ _ _ _
theorem OwnD.form {w : World} {base : Nat} {v : Value} {l : List (Int × Int)} (h : OwnD w base v l) : ∃ A c, v = .slice A l.length c ∧ l.length ≤ c ∧ c ≤ maxLen := by
  rcases h.2 with ⟨rfl, h0⟩ | ⟨g, cap, cur, rfl, _, _, h1, h2, _⟩
  · exact ⟨none, 0, by rw [h0], by omega, by simp [maxLen]⟩
  · exact ⟨_, _, rfl, h1, h2⟩
theorem OwnD.mono {w : World} {base base' : Nat} {v : Value} {l : List (Int × Int)} (h : OwnD w base v l) (hb : base' ≤ base) : OwnD w base' v l := by
  refine ⟨h.1, ?_⟩
  rcases h.2 with h | ⟨g, cap, cur, h0, h1, h2⟩
  · exact .inl h
  · exact .inr ⟨g, cap, cur, h0, by omega, h2⟩
theorem OwnD.own {w : World} {base : Nat} {v : Value} {l : List (Int × Int)} (h : OwnD w base v l) {g : Nat} (hg : v.ownBlock = some g) : base ≤ g := by
  rcases h.2 with ⟨rfl, _⟩ | ⟨g', cap, cur, rfl, h1, _⟩
  · cases hg
  · simp only [Value.ownBlock] at hg
    injection hg with e
    omega
theorem append_dot (w : World) {ops : Array Oper} {rest : List Oper} {o : Oper} {a : Act} {Q : Exit → Act → World → Prop} (hgd : o.guard = none) (s x : Operand)
    (ho : o.op = .call { callee := .builtin .append, args := #[s, x], argTypes := #[25, 25] })
    (base : Nat) (v : Value) (l : List (Int × Int)) (hs : a.eval s = v) (hown : OwnD w base v l)
    (F : Nat → Prop) (A : Option Addr) (m c : Nat) (k : List (Int × Int)) (hx : a.eval x = .slice A m c) (hr : Reads w F 2 A m (dcells k))
    (hb : l.length + m ≤ 1099511627776) (hbase : base ≤ w.heap.size)
    (h : ∀ v' w', OwnD w' base v' (l ++ k) → w.grownBy w' v.ownBlock → (v'.ownBlock = v.ownBlock ∨ v'.ownBlock = some w.heap.size) → wpList Try.prog ops Q rest (a.put o.dst v') w') : wpList Try.prog ops Q (o :: rest) a w := by
  obtain ⟨i, hi, hz0, hz1, hz2⟩ := info_parts dotInfo
  refine wpList_append_any w hgd s x _ ho base _ i _ 2 16 Try.underlying25 hi hz0 hz1 hz2 rfl (by omega) v l.length (dcells l) hs hown F A m c (dcells k) hx hr (dcells_one k) (by simp only [maxLen]; omega) (by omega) hbase ?_
  intro v' w' ho' hg hat
  refine h v' w' ?_ hg hat
  have hk : k.length = m := by
    have := hr.len
    rw [dcells_length] at this
    omega
  unfold OwnD
  rw [dcells_append, List.length_append, hk]
  exact ho'

set_option maxHeartbeats 4000000 in
set_option maxRecDepth 100000 in
theorem missing_ (w : World) (xs ys : List Int) (hx : xs.length = 16) (hy : ys.length = 16) :
    Calls Try.prog 8 #[vec xs, vec ys] w fun e w' => ∃ v, e = .returned v ∧ OwnD w' w.heap.size v (missF xs ys) ∧ New w w' := by
  have b1 := (Blk.new w 23 (ints xs).toArray).alloc (.cells (ints ys).toArray 23)
  have b2 := Blk.new1 w (.cells (ints xs).toArray 23) 23 (ints ys).toArray
  have hn0 : New w ((w.alloc (.cells (ints xs).toArray 23)).alloc (.cells (ints ys).toArray 23)) := ((Chg.refl _ _).alloc _).alloc _
  have HX := Lib.hid hx
  have HY := Lib.hid hy
  have B1 := Lib.hid b1
  have B2 := Lib.hid b2
  have HN := Lib.hid hn0
  clear hx hy b1 b2 hn0
  go_enter Try.func8, Try.ntmps8
  go_wp2
  go_loopw [5, 6, 7, 8] (fun out _ _ i wr => ∃ (k : Nat), k ≤ 16 ∧ i = .int .i64 k ∧ OwnD wr (w.heap.size + 2) out (part xs ys k 0) ∧ (part xs ys k 0).length ≤ 4096 ∧ Blk wr w.heap.size 23 (ints xs).toArray ∧ Blk wr (w.heap.size + 1) 23 (ints ys).toArray ∧ New w wr) (fun _ _ _ i _ => 16 - (intOf i).toNat)
  case atStart => exact ⟨0, by omega, rfl, OwnD.nil _ _, by simp [part_zero], B1.out, B2.out, HN.out⟩
  case round =>
    obtain ⟨k, hk, rfl, ho, hlen, ha, hb, hn⟩ := hrel
    by_cases hlt : k < 16
    · have hki : (k : Int) < 16 := by omega
      have ca : wr.cell? ⟨w.heap.size, k, none⟩ = some (.int .i64 (xs.getD k 0)) := by
        rw [ha.cell, List.getElem?_toArray, ints_get, get_getD (by rw [HX.out]; exact hlt)]; rfl
      have hlo := lo_range xs k
      have hloy := lo_range ys k
      have hgap : gap xs ys k = (lo ys k - lo xs k).toNat := rfl
      have CB : ∀ W : World, Blk W (w.heap.size + 1) 23 (ints ys).toArray → W.cell? ⟨w.heap.size + 1, k, none⟩ = some (.int .i64 (ys.getD k 0)) := fun W hb => by
        rw [hb.cell, List.getElem?_toArray, ints_get, get_getD (by rw [HY.out]; exact hlt)]; rfl
      have C1 : Hid (∀ W, Calls Try.prog 19 #[.int .i64 (xs.getD k 0)] W fun e w' => e = .returned (.int .i64 (lo xs k)) ∧ W = w') := Lib.hid (fun W => clamp_ W _)
      have C2 : Hid (∀ W, Calls Try.prog 19 #[.int .i64 (ys.getD k 0)] W fun e w' => e = .returned (.int .i64 (lo ys k)) ∧ W = w') := Lib.hid (fun W => clamp_ W _)
      have HP := Lib.hid (fun m => part_more xs ys k m)
      have HP2 := Lib.hid (part_next xs ys k)
      have HF := Lib.hid (fun m h1 h2 => missF_full (xs := xs) (ys := ys) (k := k) (m := m) hlt h1 h2)
      have HA := Lib.hid ha
      have HB := Lib.hid hb
      clear ha hb
      generalize hg : gap xs ys k = g at *
      clear hg
      generalize xs.getD k 0 = x at *
      generalize ys.getD k 0 = y at *
      generalize lo xs k = lx at *
      generalize lo ys k = ly at *
      go_wp2_with fail
      refine (C1.out _).mono ?_
      rintro e w1 ⟨rfl, rfl⟩
      go_wp2
      go_loopw [5, 7] (fun out n wr => ∃ (m : Nat), m ≤ g ∧ n = .int .i64 (lx + 1 + (m : Int)) ∧ OwnD wr (w.heap.size + 2) out (part xs ys k m) ∧ (part xs ys k m).length ≤ 4096 ∧ Blk wr w.heap.size 23 (ints xs).toArray ∧ Blk wr (w.heap.size + 1) 23 (ints ys).toArray ∧ New w wr) (fun _ n _ => (ly + 1 - intOf n).toNat)
      case atStart => exact ⟨0, by omega, by simp, ho, hlen, HA.out, HB.out, hn⟩
      case round =>
        clear ca hn ho hlen HA HB
        rename_i wo _
        obtain ⟨m, hm, rfl, ho, hlen, ha, hb, hn⟩ := hrel
        have cb := CB wr hb
        by_cases hmg : m < g
        · have hle : lx + 1 + (m : Int) ≤ ly := by omega
          obtain ⟨A, c, rfl, hlc, hcm⟩ := ho.form
          have hlm : (part xs ys k m).length ≤ maxLen := by omega
          by_cases hfull : (part xs ys k m).length = 4096
          · have hm4 := Lib.hid (HF.out m (by omega) hfull)
            rw [hfull] at hlm
            have ho3 := OwnD.mono (base' := w.heap.size) ho (by omega)
            have e4 : Value.slice A (part xs ys k m).length c = Value.slice A 4096 c := by rw [hfull]
            rw [e4, ← hm4.out] at ho3
            have ho4 := Lib.hid ho3
            have hm5 := hm4.out ▸ hfull
            clear hm4 ho ho3 e4
            go_wp2_with fail
            refine (C2.out _).mono ?_
            rintro e w1 ⟨rfl, rfl⟩
            go_wp2
            go_ret
            exact ⟨_, rfl, ho4.out, hn⟩
          · have hlt2 : ((part xs ys k m).length : Int) < 4096 := by omega
            have hne : (((part xs ys k m).length : Int) == 4096) = false := by simp; omega
            have HLN := Lib.hid hlt2
            have HLE := Lib.hid hlen
            clear hlt2 hlen hfull
            go_wp2_with fail
            refine (C2.out _).mono ?_
            rintro e w1 ⟨rfl, rfl⟩
            have hsz : w.heap.size + 2 ≤ wr.heap.size := by have := hb.lt; omega
            have hpl : (part xs ys k m).length + 1 ≤ 1099511627776 := by have := HLE.out; omega
            have HO := Lib.hid (fun g (h : (Value.slice A (part xs ys k m).length c).ownBlock = some g) => ho.own h)
            go_wp2_with (at_builtin; refine stop ?_)
            delta Stop
            refine append_dot _ rfl (.tmp 28) (.tmp 32) rfl (w.heap.size + 2) _ (part xs ys k m) rfl (ho.alloc _) _ _ 1 1 [((k : Int), lx + 1 + (m : Int))] rfl (Reads.of_blk (Blk.new _ _ _) rfl) hpl (by rw [World.size_alloc]; omega) ?_
            intro v2 w2 ho2 hg2 hat2
            have ha2 := (ha.alloc _).grown hg2 (fun e => by have := HO.out _ e.symm; omega)
            have hb2 := (hb.alloc _).grown hg2 (fun e => by have := HO.out _ e.symm; omega)
            have hn2 := (hn.alloc _).grown hg2 (fun g e hlt => by have := HO.out _ e; omega)
            rw [← HP.out m] at ho2
            have hlen2 : (part xs ys k (m + 1)).length ≤ 4096 := by
              rw [HP.out m, List.length_append]
              have := HLN.out
              simp only [List.length_cons, List.length_nil]
              omega
            clear hat2 hg2 ho ha hb hn hpl hlc hcm hlm hne
            go_wp2
            go_roundw
            case rel => exact ⟨m + 1, by omega, by go_num, ho2, hlen2, ha2, hb2, hn2⟩
            case measure => simp [intOf]; omega
        · obtain rfl : m = g := by omega
          have hle : ly < lx + 1 + (m : Int) := by omega
          rw [HP2.out] at ho hlen
          go_wp2_with fail
          refine (C2.out _).mono ?_
          rintro e w1 ⟨rfl, rfl⟩
          go_wp2
          go_roundw
          case rel => exact ⟨k + 1, by omega, by go_num, ho, hlen, ha, hb, hn⟩
          case measure => simp [intOf]; omega
    · obtain rfl : k = 16 := by omega
      rw [← missF_all hlen] at ho
      have HO := Lib.hid (OwnD.mono (base' := w.heap.size) ho (by omega))
      clear ho hlen
      go_wp2
      go_ret
      exact ⟨_, rfl, HO.out, hn⟩
end Vec
end Go.Proofs.Ytlmdpkkodbgieaa

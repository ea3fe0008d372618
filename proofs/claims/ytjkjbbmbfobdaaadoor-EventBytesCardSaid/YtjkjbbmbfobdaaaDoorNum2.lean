/-
  The program's num package: Signed, Text, and a reader's fields (no condition beyond the sizes).
-/
import Derived.Test.YtjkjbbmbfobdaaaDoorNum
namespace Go.Proofs.YtjkjbbmbfobdaaaDoor
set_option linter.unusedSimpArgs false
set_option linter.unusedVariables false
open Go.ChangeShapes Go.WideShapes Go.RowKit
namespace Num
set_option maxHeartbeats 4000000 in
set_option maxRecDepth 20000 in
theorem signed (w : World) (base : Nat) (v : Value) (l : List UInt8) (hv : OwnB w base v l) (hbase : base ≤ w.heap.size) (hb : l.length ≤ 1000000000) (n : Int) :
    Calls Tryd.prog 29 #[v, .int .i64 n] w fun e w' => Puts w base v (l ++ signedB n) e w' := by
  have C := Lib.hid fun m => put w base v l hv hbase hb m
  have HV := Lib.hid hv
  clear hv
  by_cases h0 : n < -1152921504606846976
  · rw [show signedB n = [] by unfold signedB; rw [if_pos (.inl h0)], List.append_nil]
    unfold Puts at C ⊢
    go_enter Tryd.func29, Tryd.ntmps29
    go_wp2_with fail
    go_ret
    exact ⟨_, rfl, HV.out, Chg.refl _ _, fun k hk => .inl hk⟩
  by_cases h1 : 1152921504606846976 < n
  · rw [show signedB n = [] by unfold signedB; rw [if_pos (.inr h1)], List.append_nil]
    unfold Puts at C ⊢
    go_enter Tryd.func29, Tryd.ntmps29
    go_wp2_with fail
    go_ret
    exact ⟨_, rfl, HV.out, Chg.refl _ _, fun k hk => .inl hk⟩
  by_cases h2 : n < 0
  · have hw1 : IntKind.i64.wrap (-2 * n) = -2 * n := IntWalk.i64_in _ (by omega)
    have hw2 : IntKind.i64.wrap (-2 * n - 1) = -2 * n - 1 := IntWalk.i64_in _ (by omega)
    rw [show signedB n = putB (-2 * n - 1) by unfold signedB; rw [if_neg (by omega), if_pos h2]]
    have C1 := Lib.hid (C.out (-2 * n - 1))
    clear C
    unfold Puts at C1 ⊢
    go_enter Tryd.func29, Tryd.ntmps29
    go_wp2_with fail
    with_reducible refine C1.out.mono ?_
    rintro e w1 ⟨v', rfl, h⟩
    have HE := Lib.hid h
    clear h C1
    go_wp2_with fail
    go_ret
    exact ⟨_, rfl, HE.out⟩
  · have hw1 : IntKind.i64.wrap (2 * n) = 2 * n := IntWalk.i64_in _ (by omega)
    rw [show signedB n = putB (2 * n) by unfold signedB; rw [if_neg (by omega), if_neg h2]]
    have C1 := Lib.hid (C.out (2 * n))
    clear C
    unfold Puts at C1 ⊢
    go_enter Tryd.func29, Tryd.ntmps29
    go_wp2_with fail
    with_reducible refine C1.out.mono ?_
    rintro e w1 ⟨v', rfl, h⟩
    have HE := Lib.hid h
    clear h C1
    go_wp2_with fail
    go_ret
    exact ⟨_, rfl, HE.out⟩
theorem run_append_str (w : World) (base : Nat) (t u ty e : TypeId) (i : TypeInfo) (ht : Tryd.prog.underlying t = some (.slice e)) (hu : Tryd.prog.underlying u = some .string) (hi : Tryd.prog.info? e = some i) (hz : i.zero = some (.int .u8 0))
    (hsize : i.size = 1) (hby : i.bytes = 1) (v : Value) (n : Nat) (xs : List Value) (hown : w.ownsRow base e 1 v n xs) (s : ByteArray) (h63 : n + s.size ≤ maxLen) (hbytes : n + s.size ≤ 140737488355328) (hbase : base ≤ w.heap.size) :
    ∃ v' w', (Builtin.append_ #[t, u] ty #[v, .string s]).run Tryd.prog w = .ok v' w' ∧ w'.ownsRow base e 1 v' (n + s.size) (xs ++ Lib.strCells s) ∧ w.grownBy w' v.ownBlock ∧ (v'.ownBlock = v.ownBlock ∨ v'.ownBlock = some w.heap.size) := by
  obtain ⟨v', w', hr, h2, h3, h4⟩ := Lib.run_append_own_string (P := Tryd.prog) w base t u ty e i ht hu hi hz hsize hby v n xs hown s h63 hbytes hbase
  refine ⟨v', w', hr, h2, h3, ?_⟩
  have hxl : xs.length = n := by simpa using hown.1
  rcases hown.2 with ⟨rfl, rfl⟩ | ⟨g, cap, cur, rfl, hbg, hg, hnc, hcm, hcs, htake⟩
  · by_cases hm : s.size = 0
    · rw [h4.2 ⟨rfl, hm⟩]; exact .inl rfl
    · have := run_append_nil_string (P := Tryd.prog) w t u ty e i (.int .u8 0) ht hu hi hz s (by omega) (by simp only [maxLen] at h63; omega) (by rw [hby]; omega)
      rw [hr] at this
      injection this with this _
      rw [this]; exact .inr rfl
  · by_cases hroom : n + s.size ≤ cap
    · have := Lib.run_append_room_string (P := Tryd.prog) w t u ty e i ht hu hi hsize g n cap cur hg s hroom (by simp only [maxLen] at h63; omega)
      rw [hr] at this
      injection this with this _
      rw [this]; exact .inl rfl
    · have holds : ∀ j u, xs[j]? = some u → w.cell? ((⟨g, 0, none⟩ : Addr).add j) = some u := hown.cells (g := g) rfl
      have := Lib.run_append_grow_string (P := Tryd.prog) w t u ty e i (.int .u8 0) ht hu hi hz ⟨g, 0, none⟩ n cap xs (by rw [hsize]; simpa using hxl) holds s (by omega) (by simp only [maxLen] at h63; omega) (by rw [hby]; exact growslice_fits (by omega) (by omega))
      rw [hr] at this
      injection this with this _
      rw [this]; exact .inr rfl
theorem strCells_u8s (s : ByteArray) : Lib.strCells s = u8s s.data.toList := by simp [Lib.strCells, u8s]
theorem append_str (w : World) {ops : Array Oper} {rest : List Oper} {o : Oper} {a : Act} {Q : Exit → Act → World → Prop} (hgd : o.guard = none) (sl x : Operand)
    (ho : o.op = .call { callee := .builtin .append, args := #[sl, x], argTypes := #[43, 9] })
    (base : Nat) (v : Value) (l : List UInt8) (hs : a.eval sl = v) (hown : OwnB w base v l) (s : ByteArray) (hx : a.eval x = .string s) (hb : l.length + s.size ≤ 1099511627776) (hbase : base ≤ w.heap.size)
    (h : ∀ v' w', OwnB w' base v' (l ++ s.data.toList) → w.grownBy w' v.ownBlock → (v'.ownBlock = v.ownBlock ∨ v'.ownBlock = some w.heap.size) → wpList Tryd.prog ops Q rest (a.put o.dst v') w') : wpList Tryd.prog ops Q (o :: rest) a w := by
  obtain ⟨i, hi, hz0, hz1, hz2⟩ := info_parts u8info
  refine wpList_plain hgd fun K hK => ?_
  obtain ⟨v', w', hr, h2, h3, h4⟩ := run_append_str w base 43 9 o.type 5 i Tryd.underlying43 Tryd.underlying9 hi hz0 hz1 hz2 v l.length (u8s l) hown s (by simp only [maxLen]; omega) (by omega) hbase
  unfold Oper.wp execOp
  simp only [ho, resolve, invoke, builtin, Sem.run_bind, Sem.run_pure, Result.andThen_ok, List.map_toArray, List.map_cons, List.map_nil, hs, hx, hr]
  refine hK _ _ (h v' w' ?_ h3 h4)
  have hl : (l ++ s.data.toList).length = l.length + s.size := by rw [List.length_append, Array.length_toList]; rfl
  unfold OwnB
  rw [hl, u8s_append, ← strCells_u8s]
  exact h2
set_option maxHeartbeats 4000000 in
set_option maxRecDepth 20000 in
theorem text (w : World) (base : Nat) (v : Value) (l : List UInt8) (hv : OwnB w base v l) (hbase : base ≤ w.heap.size) (hb : l.length ≤ 1000000000) (s : ByteArray) (hs : s.size ≤ 1000000000) :
    Calls Tryd.prog 28 #[v, .string s] w fun e w' => Puts w base v (l ++ textB s.data.toList) e w' := by
  have C := Lib.hid (put w base v l hv hbase hb s.size)
  have HT := Lib.hid (show textB s.data.toList = putB s.size ++ s.data.toList by unfold textB; rw [Array.length_toList]; rfl)
  have hpl := putB_len s.size
  have HPL := Lib.hid hpl
  clear hv hpl
  unfold Puts at C ⊢
  rw [HT.out]
  go_enter Tryd.func28, Tryd.ntmps28
  go_wp2_with fail
  refine C.out.mono ?_
  rintro e w1 ⟨v1, rfl, o1, c1, a1⟩
  have hs1 := c1.size
  have HC := Lib.hid (And.intro c1 a1)
  clear c1 a1 C
  go_wp2_with (at_builtin; refine stop ?_)
  delta Stop
  refine append_str w1 rfl _ _ rfl base _ _ rfl o1 s rfl (by rw [List.length_append]; have := HPL.out; omega) (by omega) ?_
  intro v2 w2 o2 g2 a2
  have c2 := Chg.grown (Chg.refl (fun k => v1.ownBlock = some k) w1) g2 fun g e _ => e
  have HE := Lib.hid (And.intro o2 (And.intro (chg_trans HC.out.1 HC.out.2 c2) (at_trans HC.out.2 (of_at a2) hs1)))
  clear o2 g2 a2 c2 o1
  go_wp2_with fail
  go_ret
  exact ⟨_, rfl, by have := HE.out.1; rwa [List.append_assoc] at this, HE.out.2.1, HE.out.2.2⟩
end Num
end Go.Proofs.YtjkjbbmbfobdaaaDoor

/-
  The program's num package: what it puts (no condition beyond the sizes).
-/
import Derived.Test.YtjkjbbmbfobdaaaDoorNumPlain
import Derived.Test.YtjkjbbmbfobdaaaDoorBytes
import Derived.Test.YtjkjbbmbfobdaaaDoorOwn
import Derived.Lib.AppendStr
namespace Go.Proofs.YtjkjbbmbfobdaaaDoor
set_option linter.unusedSimpArgs false
set_option linter.unusedVariables false
open Go.ChangeShapes Go.WideShapes Go.RowKit
namespace Num
theorem i64_and_nat (a b : Nat) (ha : a < 4611686018427387904) (hb : b < 4611686018427387904) : bits .and .i64 (a : Int) (b : Int) = ((a &&& b : Nat) : Int) := by
  have hx : a &&& b < 2 ^ 62 := Nat.and_lt_two_pow _ (by omega)
  show IntKind.i64.wrap ((BitVec.ofInt 64 (a : Int) &&& BitVec.ofInt 64 (b : Int)).toNat : Int) = _
  have h1 : ∀ x : Nat, x < 4611686018427387904 → (BitVec.ofInt 64 (x : Int)).toNat = x := fun x h => by
    rw [BitVec.ofInt_natCast, BitVec.toNat_ofNat]
    exact Nat.mod_eq_of_lt (by omega)
  rw [BitVec.toNat_and, h1 a ha, h1 b hb]
  exact IntWalk.i64_in _ (by omega)
theorem and127 (m : Nat) (h : m < 4611686018427387904) : bits .and .i64 (m : Int) 127 = ((m % 128 : Nat) : Int) := by
  have := i64_and_nat m 127 h (by decide)
  rw [show (127 : Nat) = 2 ^ 7 - 1 by decide, Nat.and_two_pow_sub_one_eq_mod] at this
  exact this
theorem or128 (d : Nat) (h : d < 128) : bits .or .i64 (d : Int) 128 = ((d + 128 : Nat) : Int) := by
  have := i64_or_nat d 128 (by omega) (by decide)
  rw [show (128 : Nat) = 1 * 128 by decide, or_mul d 1 7 128 (by decide) h] at this
  rw [show d + 128 = 1 * 128 + d by omega]
  exact this
/-- a value that holds some bytes is returned: x behind those that v held -/
def Puts (w : World) (base : Nat) (v : Value) (l : List UInt8) (e : Ending) (w' : World) : Prop :=
  ∃ v', e = .returned v' ∧ OwnB w' base v' l ∧ Chg (fun k => v.ownBlock = some k) w w' ∧ ∀ k, v'.ownBlock = some k → v.ownBlock = some k ∨ w.heap.size ≤ k
theorem lit1 (c : UInt8) : u8s [c] = [.int .u8 (c.toNat : Int)] := rfl
theorem of_at {v v' : Value} {w : World} (h : v'.ownBlock = v.ownBlock ∨ v'.ownBlock = some w.heap.size) : ∀ k, v'.ownBlock = some k → v.ownBlock = some k ∨ w.heap.size ≤ k := fun k hk => by
  rcases h with h | h
  · exact .inl (h ▸ hk)
  · rw [h] at hk
    injection hk with hk
    exact .inr (by omega)
theorem at_trans {v v' v'' : Value} {w w' : World} (h : ∀ k, v'.ownBlock = some k → v.ownBlock = some k ∨ w.heap.size ≤ k) (h' : ∀ k, v''.ownBlock = some k → v'.ownBlock = some k ∨ w'.heap.size ≤ k) (hs : w.heap.size ≤ w'.heap.size) :
    ∀ k, v''.ownBlock = some k → v.ownBlock = some k ∨ w.heap.size ≤ k := fun k hk => by
  rcases h' k hk with h1 | h1
  · exact h k h1
  · exact .inr (by omega)
theorem chg_trans {v v' : Value} {w w' w'' : World} (h : Chg (fun k => v.ownBlock = some k) w w') (ha : ∀ k, v'.ownBlock = some k → v.ownBlock = some k ∨ w.heap.size ≤ k) (h' : Chg (fun k => v'.ownBlock = some k) w' w'') :
    Chg (fun k => v.ownBlock = some k) w w'' := h.trans h' fun i hi e => by
  rcases ha i e with h1 | h1
  · exact h1
  · omega
set_option maxHeartbeats 4000000 in
set_option maxRecDepth 20000 in
theorem put (w : World) (base : Nat) (v : Value) (l : List UInt8) (hv : OwnB w base v l) (hbase : base ≤ w.heap.size) (hb : l.length ≤ 1000000000) (n : Int) :
    Calls Tryd.prog 27 #[v, .int .i64 n] w fun e w' => Puts w base v (l ++ putB n) e w' := by
  unfold Puts
  by_cases h0 : n < 0
  · rw [show putB n = [] by unfold putB; rw [if_neg (by omega)], List.append_nil]
    have HV := Lib.hid hv
    clear hv
    go_enter Tryd.func27, Tryd.ntmps27
    go_wp2_with fail
    go_ret
    exact ⟨_, rfl, HV.out, Chg.refl _ _, fun k hk => .inl hk⟩
  by_cases h1 : 4611686018427387903 < n
  · rw [show putB n = [] by unfold putB; rw [if_neg (by omega)], List.append_nil]
    have HV := Lib.hid hv
    clear hv
    go_enter Tryd.func27, Tryd.ntmps27
    go_wp2_with fail
    go_ret
    exact ⟨_, rfl, HV.out, Chg.refl _ _, fun k hk => .inl hk⟩
  obtain ⟨z, rfl⟩ : ∃ z : Nat, n = (z : Int) := ⟨n.toNat, by omega⟩
  rw [putB_at (by omega)]
  have hlen := digits_len 8 z (by omega)
  have HV := Lib.hid hv
  have HL := Lib.hid hlen
  clear hv hlen
  go_enter Tryd.func27, Tryd.ntmps27
  go_wp2_with fail
  go_loopw [0, 1] (fun bv nv wr => ∃ (m : Nat) (done : List UInt8) (v' : Value), bv = v' ∧ nv = .int .i64 m ∧ m ≤ 4611686018427387903 ∧ done ++ digits m = digits z ∧ OwnB wr base v' (l ++ done) ∧ Chg (fun k => v.ownBlock = some k) w wr ∧ (∀ k, v'.ownBlock = some k → v.ownBlock = some k ∨ w.heap.size ≤ k)) (fun _ nv _ => (intOf nv).toNat)
  case atStart => exact ⟨z, [], v, rfl, rfl, by omega, rfl, by rw [List.append_nil]; exact HV.out, Chg.refl _ _, fun k hk => .inl hk⟩
  case round =>
    obtain ⟨m, done, v', rfl, rfl, hm, hd, ho, hc, ha⟩ := hrel
    have hdl : done.length ≤ 9 := by
      have := congrArg List.length hd
      rw [List.length_append] at this
      have := HL.out
      omega
    have hsz := hc.size
    by_cases hlt : m < 128
    · rw [digits_low hlt] at hd
      have hmi : ¬ ((127 : Int) < m) := by omega
      have e : (UInt8.ofNat m).toNat = m := by simp; omega
      have hw : IntKind.u8.wrap (m : Int) = (m : Int) := IntWalk.u8_in _ (by omega)
      have hr := Reads.of_blk (size := 1) (n := 1) (Blk.new wr 5 #[.int .u8 (m : Int)]) rfl
      have hr2 : Reads (wr.alloc (.cells #[.int .u8 (m : Int)] 5)) (fun b => b = wr.heap.size) 1 (some ⟨wr.heap.size, 0, none⟩) 1 (u8s [UInt8.ofNat m]) := by
        rw [lit1, e]; exact hr
      have HD := Lib.hid hd
      have HA := Lib.hid (And.intro hc ha)
      clear hd hc ha hr e
      go_wp2_with (at_builtin; refine stop ?_)
      delta Stop
      refine append_u8 _ rfl _ _ rfl base _ (l ++ done) rfl (World.ownsRow.alloc ho _) _ _ 1 1 [UInt8.ofNat m] rfl hr2 (by rw [List.length_append]; omega) (by simp; omega) ?_
      intro v2 w2 o2 g2 a2
      have c2 := Chg.grown ((Chg.refl (fun k => u0.ownBlock = some k) wr).alloc (.cells #[.int .u8 (m : Int)] 5)) g2 fun g e _ => e
      have a3 : ∀ k, v2.ownBlock = some k → u0.ownBlock = some k ∨ wr.heap.size ≤ k := fun k hk => by
        rcases of_at a2 k hk with h | h
        · exact .inl h
        · exact .inr (by simp at h; omega)
      have HE := Lib.hid (And.intro o2 (And.intro (chg_trans HA.out.1 HA.out.2 c2) (at_trans HA.out.2 a3 hsz)))
      clear o2 g2 a2 c2 a3 hr2 ho
      go_wp2_with fail
      go_ret
      exact ⟨_, rfl, by have := HE.out.1; rwa [List.append_assoc, HD.out] at this, HE.out.2.1, HE.out.2.2⟩
    · rw [digits_high hlt] at hd
      have hmi : (127 : Int) < m := by omega
      have h1 := and127 m (by omega)
      obtain ⟨d, hde⟩ : ∃ d, m % 128 = d := ⟨_, rfl⟩
      have hd128 : d < 128 := by omega
      rw [hde] at h1 hd
      have h2 := or128 d hd128
      obtain ⟨q, hqe⟩ : ∃ q, d + 128 = q := ⟨_, rfl⟩
      rw [hqe] at h2 hd
      have e : (UInt8.ofNat q).toNat = q := by simp; omega
      have hw : IntKind.u8.wrap (q : Int) = (q : Int) := IntWalk.u8_in _ (by omega)
      have hr := Reads.of_blk (size := 1) (n := 1) (Blk.new wr 5 #[.int .u8 (q : Int)]) rfl
      have hr2 : Reads (wr.alloc (.cells #[.int .u8 (q : Int)] 5)) (fun b => b = wr.heap.size) 1 (some ⟨wr.heap.size, 0, none⟩) 1 (u8s [UInt8.ofNat q]) := by
        rw [lit1, e]; exact hr
      have hdv : (m : Int) / 128 = ((m / 128 : Nat) : Int) := by omega
      obtain ⟨p, hpe⟩ : ∃ p, m / 128 = p := ⟨_, rfl⟩
      rw [hpe] at hdv hd
      have hpm : p < m := by omega
      have HD := Lib.hid hd
      have HA := Lib.hid (And.intro hc ha)
      clear hd hc ha hr e hpe hqe hde
      go_wp2_with (at_builtin; refine stop ?_)
      delta Stop
      refine append_u8 _ rfl _ _ rfl base _ (l ++ done) rfl (World.ownsRow.alloc ho _) _ _ 1 1 [UInt8.ofNat q] rfl hr2 (by rw [List.length_append]; omega) (by simp; omega) ?_
      intro v2 w2 o2 g2 a2
      have c2 := Chg.grown ((Chg.refl (fun k => u0.ownBlock = some k) wr).alloc (.cells #[.int .u8 (q : Int)] 5)) g2 fun g e _ => e
      have a3 : ∀ k, v2.ownBlock = some k → u0.ownBlock = some k ∨ wr.heap.size ≤ k := fun k hk => by
        rcases of_at a2 k hk with h | h
        · exact .inl h
        · exact .inr (by simp at h; omega)
      have HE := Lib.hid (And.intro o2 (And.intro (chg_trans HA.out.1 HA.out.2 c2) (at_trans HA.out.2 a3 hsz)))
      clear o2 g2 a2 c2 a3 hr2 ho
      go_wp2_with fail
      go_roundw
      case rel => exact ⟨p, done ++ [UInt8.ofNat q], _, rfl, by first | rfl | (rw [hdv]), by omega, by rw [List.append_assoc]; exact HD.out, by have := HE.out.1; rwa [List.append_assoc] at this, HE.out.2.1, HE.out.2.2⟩
      case measure => simp [intOf]; omega
end Num
end Go.Proofs.YtjkjbbmbfobdaaaDoor

/-
  What chapter 38's statements reckon of keys' sums: a node's sum, by definition, is the tree's (no condition beyond the numbers' bounds).
-/
import Derived.Test.YtoddgakhiaokaaaMerkleLvl
import Derived.Test.YtoddgakhiaokaaaCrcRefK
import Derived.Maps.RangeWalk
namespace Go.Proofs.Ytoddgakhiaokaaa
open Go.ChangeShapes Go.WideShapes Go.RowKit Go.Maps
namespace Merkle
theorem MapAt.opened {P : Program} {K E T : TypeId} {q : IntKind} {w : World} {b n : Nat} {M : Int → Option Int} (h : MapAt P K E .i64 q w b n M) (hK : P.underlying K = some (.int .i64)) (hE : P.underlying E = some (.int q)) (hT : P.underlying T = some (.map K E)) (hz : ∀ w, (zeroValue E).run P w = .ok (.int q 0) w) :
    ∃ D : DataW Unit, w.ownsMap P K (plainElem P E) b n D ∧ ∀ x, inKind .i64 x → has D (.int .i64 x) = (M x).isSome := by
  obtain ⟨D, ho, hm⟩ := h.ex
  refine ⟨D, ho, fun x hx => ?_⟩
  have := hm x hx
  cases hh : has D (.int .i64 x) with
  | false =>
    rw [hh] at this
    rw [this]
    rfl
  | true =>
    obtain ⟨c, hrun, hat, _⟩ := ho.lookup_int (int_keyed hK) hT hE (hz w) (keyOf_int_mk hK hx)
    rw [hh, if_pos rfl, hat] at this
    rw [this]
    rfl
/-- above a key that is there all nodes have sums -/
theorem key_has {T : Lv} (h : Right T) {k : Int} (k0 : 0 ≤ k) (hk : (T 4 k).isSome = true) : ∀ (d l : Nat), l + d = 4 → (T l (above k l)).isSome = true
  | 0, l, hl => by
    obtain rfl : l = 4 := by omega
    rw [above_leaf]
    exact hk
  | d + 1, l, hl => by
    have ih := key_has h k0 hk d (l + 1) (by omega)
    obtain ⟨i, hi, e⟩ := above_child k0 (l := l) (by omega)
    rw [h.node l (by omega), want, if_pos]
    · rfl
    · rw [e] at ih
      exact List.any_eq_true.2 ⟨i, List.mem_range.2 hi, ih⟩
theorem node_some {T : Lv} (h : Right T) {l : Nat} (hl : l ≤ 4) {x : Int} (h0 : 0 ≤ x) (h1 : x < ((16 ^ l : Nat) : Int)) : (T l x).isSome = true ↔ ∃ k, 0 ≤ k ∧ k < 65536 ∧ above k l = x ∧ (T 4 k).isSome = true := by
  constructor
  · exact has_key h (4 - l) l x (by omega) h0 h1
  · rintro ⟨k, k0, _, rfl, hk⟩
    exact key_has h k0 hk (4 - l) l (by omega)
theorem crc_low (l : List UInt8) : Crc.sum l < 4294967296 := by unfold Crc.sum; omega
theorem sum_low {T : Lv} (h : Right T) (hk : ∀ x c, T 4 x = some c → 0 ≤ c ∧ c ≤ 4294967295) {l : Nat} (hl : l ≤ 4) (x : Int) : 0 ≤ sumAt T l x ∧ sumAt T l x ≤ 4294967295 := by
  unfold sumAt
  by_cases e : l = 4
  · subst e
    cases hc : T 4 x with
    | none => simp
    | some c => exact hk x c hc
  · rw [h.node l (by omega), want]
    split
    · have := crc_low (chB (T (l + 1)) x 16)
      simp only [ns, Option.getD_some]
      omega
    · simp
theorem chB_len (L : Int → Option Int) (x : Int) : ∀ i, (chB L x i).length = 4 * i
  | 0 => rfl
  | i + 1 => by
    rw [chB_succ, List.length_append, chB_len L x i]
    simp [Crc.sumBytes]
    omega
set_option maxHeartbeats 1000000 in
theorem lsum4 (w : World) (g n : Nat) (T : Lv) (hm : MapU w g n (T 4)) (rt : Right T) (a : Nat) (ha : a < 65536) :
    Calls Try.prog 13 #[.map (some g), .int .i64 4, .int .i64 (a : Int)] w fun e w' => e = .returned (.int .u32 (sumAt T 4 a)) ∧ New w w' := by
  have hk := hm.look Try.underlying39 Try.underlying3 Try.underlying24 zero_u32 (x := (a : Int)) (inI64 (by omega) (by omega))
  rw [show (T 4 (a : Int)).getD 0 = sumAt T 4 a from rfl] at hk
  generalize sumAt T 4 (a : Int) = s at *
  clear hm rt
  go_enter Try.func13, Try.ntmps13
  go_wp2
  go_ret
  exact ⟨rfl, Chg.refl _ _⟩
set_option maxHeartbeats 800000 in
set_option maxRecDepth 100000 in
theorem lsum3 (w : World) (g n : Nat) (T : Lv) (hm : MapU w g n (T 4)) (rt : Right T) (a : Nat) (ha : a < 4096) :
    Calls Try.prog 13 #[.map (some g), .int .i64 3, .int .i64 (a : Int)] w fun e w' => e = .returned (.int .u32 (sumAt T 3 a)) ∧ New w w' := by
  obtain ⟨D, hown, hD⟩ := MapAt.opened hm Try.underlying3 Try.underlying24 Try.underlying39 zero_u32
  have hsome := node_some rt (l := 3) (by omega) (x := (a : Int)) (by omega) (by rw [show (16 : Nat) ^ 3 = 4096 from rfl]; omega)
  obtain ⟨sb, hsb⟩ : ∃ sb, (T 3 (a : Int)).isSome = sb := ⟨_, rfl⟩
  rw [hsb] at hsome
  have hkind : ∀ x c, T 4 x = some c → 0 ≤ c ∧ c ≤ 4294967295 := fun x c hc => by
    have := hm.kind x c hc
    simp [inKind, Lit.wf, IntKind.min, IntKind.max, IntKind.signed, IntKind.bits] at this
    omega
  have HM := Lib.hid (And.intro hm (And.intro hkind hsb))
  have HD := Lib.hid (And.intro hD hsome)
  clear hm hkind hsb hD hsome
  have HA := Lib.hid ha
  have hal : (a : Int) ≤ 4096 := by omega
  clear ha
  go_enter Try.func13, Try.ntmps13
  go_wp2_with (at_range; refine wpList_range_own _ rfl _ 39 rfl 3 24 (int_keyed Try.underlying3) Try.underlying39 _ g n _ rfl hown ?_; intro w0 hrg0 hg0 hs0)
  have N0 : New w w0 := (Chg.refl _ w).grown hg0 fun g e _ => by cases e
  have HR := Lib.hid (And.intro hrg0 N0)
  clear hrg0 hg0 hs0 N0 hown
  go_frame
  go_loopw [7, 8] (fun sv _ wr => ∃ (left : Lit → Bool) (cnt : Nat) (sm : Bool), sv = .bool sm ∧ wr.ranges Try.prog 3 (plainElem Try.prog 24) g w.heap.size n D left cnt ∧ (sm = true → sb = true) ∧ (∀ x, inKind .i64 x → has D (.int .i64 x) = true → left (.int .i64 x) = false → above x 3 = a → sm = true) ∧ New w wr) (fun _ _ wr => wr.rangeLeft g w.heap.size)
  case atStart => exact ⟨_, _, false, rfl, HR.out.1, (fun h => by cases h), (fun x _ h1 h2 => by rw [h1] at h2; cases h2), HR.out.2⟩
  case round =>
    clear HR
    obtain ⟨left, cnt, sm, rfl, hrg, hi1, hi2, nw⟩ := hrel
    have HI := Lib.hid (And.intro hi1 (And.intro hi2 (And.intro nw hrg)))
    clear hi1 hi2 nw
    go_wp2_with (at_next; refine wpList_next_ranges_ii _ rfl _ rfl 3 24 .i64 .u32 (int_keyed Try.underlying3) Try.underlying3 Try.underlying24 g w.heap.size n _ _ _ rfl hrg ?_ ?_)
    · intro hc0 hl0
      have hsm : sm = sb := by
        cases sb with
        | false =>
          cases sm with
          | false => rfl
          | true => exact absurd (HI.out.1 rfl) (by simp)
        | true =>
          obtain ⟨k, k0, k1, hk, hk4⟩ := HD.out.2.1 rfl
          have hin : inKind .i64 k := inI64 (by omega) (by omega)
          exact HI.out.2.1 k hin (by rw [HD.out.1 k hin]; exact hk4) (hl0 _) hk
      subst hsm
      have HN := Lib.hid HI.out.2.2.1
      clear hrg hc0 hl0 HI
      cases sm
      · have hz : sumAt T 3 (a : Int) = 0 := by
          unfold sumAt
          cases hq : T 3 (a : Int) with
          | none => rfl
          | some c =>
            have := HM.out.2.2
            rw [hq] at this
            cases this
        have HZ := Lib.hid hz
        clear hz
        go_wp2_with fail
        go_ret
        exact ⟨by rw [HZ.out]; rfl, HN.out⟩
      · generalize wr = wo at *
        go_wp2_with fail
        go_loopw [9, 10, 35] (fun bv _ iv wr' => ∃ i : Nat, i ≤ 16 ∧ iv = .int .i64 i ∧ OwnB wr' wo.heap.size bv (chB (T 4) a i) ∧ New wo wr') (fun _ _ iv _ => 16 - (intOf iv).toNat)
        case atStart => exact ⟨0, by omega, rfl, OwnB.nil, Chg.refl _ _⟩
        case round =>
          obtain ⟨i, hi, rfl, ob, nb⟩ := hrel
          by_cases hlt : i < 16
          · have hmi := HM.out.1.chg (HN.out.trans nb fun _ _ => id) id
            have C := Lib.hid (lsum4 wr g n T hmi rt (a * 16 + i) (by have := HA.out; omega))
            have hs := sum_low rt HM.out.2.1 (l := 4) (by omega) ((a * 16 + i : Nat) : Int)
            have hch := chB_succ (T 4) (a : Int) i
            have hcl : (chB (T 4) (a : Int) i).length = 4 * i := chB_len _ _ _
            rw [show ((a * 16 + i : Nat) : Int) = (a : Int) * 16 + (i : Int) by omega] at C hs
            rw [show (T 4 ((a : Int) * 16 + (i : Int))).getD 0 = sumAt T 4 ((a : Int) * 16 + (i : Int)) from rfl] at hch
            generalize sumAt T 4 ((a : Int) * 16 + (i : Int)) = s at *
            obtain ⟨s, rfl⟩ := Int.eq_ofNat_of_zero_le hs.1
            have hi16 : (i : Int) < 16 := by omega
            have HB := Lib.hid (And.intro ob (And.intro nb (And.intro hch (And.intro hcl hs))))
            clear ob nb hch hcl hmi hs
            go_wp2_with fail
            refine C.out.mono ?_
            rintro e w3 ⟨rfl, n3⟩
            have CB := Lib.hid (Crc.ref_bytes w3 s (by have := HB.out.2.2.2.2.2; omega))
            have H3 := Lib.hid (And.intro (own_chg HB.out.1 n3 fun _ _ => id) (HB.out.2.1.trans n3 fun _ _ => id))
            clear n3 C
            go_wp2_with fail
            refine CB.out.mono ?_
            rintro e w4 ⟨rfl, rfl⟩
            clear CB
            have hsz := H3.out.2.size
            go_wp2_with (at_builtin; refine stop ?_)
            delta Stop
            refine append_u8 _ rfl _ _ rfl wo.heap.size _ _ rfl (H3.out.1.alloc _) _ _ _ _ (Crc.sumBytes s) rfl (Reads.of_row (n := 4) (size := 1) (heap_alloc_new w3 _) (by simp [u8s, Crc.sumBytes])) (by rw [HB.out.2.2.2.1]; omega) (by simp; omega) ?_
            intro v6 w6 o6 g6 a6
            have hch := HB.out.2.2.1
            rw [Int.toNat_natCast] at hch
            rw [← hch] at o6
            have n6 := (H3.out.2.alloc (.cells (u8s (Crc.sumBytes s)).toArray 5)).grown g6 fun g e hlt => by have := (own_lt H3.out.1 e).1; omega
            have H6 := Lib.hid (And.intro o6 n6)
            clear o6 n6 g6 a6 hch hsz
            go_wp2_with fail
            go_roundw
            case rel => exact ⟨i + 1, by omega, by go_num, H6.out.1, H6.out.2⟩
            case measure => simp [intOf]; omega
          · obtain rfl : i = 16 := by omega
            obtain ⟨A', c', rfl, hlc, hcm, _, hrd⟩ := OwnB.form ob
            have CO := Lib.hid (Crc.ref_of wr _ A' _ c' _ hrd (by omega))
            have hval : sumAt T 3 (a : Int) = ((Crc.sum (chB (T 4) (a : Int) 16) : Nat) : Int) := by
              have h1 := HM.out.2.2
              have h2 := rt.node 3 (by omega) (a : Int)
              unfold want at h2
              unfold sumAt
              rw [h2] at h1 ⊢
              split
              · rfl
              · rename_i hq
                rw [if_neg hq] at h1
                cases h1
            have HV := Lib.hid hval
            have HZ := Lib.hid (HN.out.trans nb fun _ _ => id)
            clear ob nb hrd hval hlc hcm
            go_wp2_with fail
            refine CO.out.mono ?_
            rintro e w7 ⟨rfl, rfl⟩
            clear CO
            go_wp2_with fail
            go_ret
            exact ⟨by rw [HV.out]; rfl, HZ.out⟩
    · intro x c w1 cnt1 hwx hwc hlx hat hrg1 hlt hg1 hs1 hen
      have hin : inKind .i64 x := hwx
      have hhx : has D (.int .i64 x) = true := has_true_of_atKey hat
      have hxs : (T 4 x).isSome = true := by rw [← HD.out.1 x hin]; exact hhx
      obtain ⟨cx, hcx⟩ := Option.isSome_iff_exists.1 hxs
      have hleaf := rt.leaf x cx hcx
      obtain ⟨y, rfl⟩ := Int.eq_ofNat_of_zero_le hleaf.1
      have N1 : New w w1 := HI.out.2.2.1.grown hg1 fun g' e hlt => by injection e with e; omega
      have hab : above (y : Int) 3 = ((y / 16 : Nat) : Int) := by rw [above_nat]
      have hdiv : (y : Int) / 16 = ((y / 16 : Nat) : Int) := rfl
      have hk1 : y / 16 = a → sb = true := fun e => HD.out.2.2 ⟨(y : Int), by omega, by omega, by rw [hab, e], hxs⟩
      have hleft : ∀ (sm' : Bool), (sm = true → sm' = true) → (y / 16 = a → sm' = true) → ∀ z, inKind .i64 z → has D (.int .i64 z) = true → (left (.int .i64 z) && !(Lit.int .i64 z).sameKey (.int .i64 (y : Int))) = false → above z 3 = a → sm' = true := fun sm' h1 h2 z hz1 hz2 hz3 hz4 => by
        by_cases ez : z = (y : Int)
        · subst ez
          exact h2 (by rw [hab] at hz4; omega)
        · have : (Lit.int .i64 z).sameKey (.int .i64 (y : Int)) = false := Maps.sameKey_ne (fun e => ez (by injection e))
          rw [this] at hz3
          exact h1 (HI.out.2.1 z hz1 hz2 (by simpa using hz3) hz4)
      obtain ⟨kd, hkd⟩ : ∃ kd, y / 16 = kd := ⟨_, rfl⟩
      rw [hkd] at hdiv hk1
      simp only [hkd] at hleft
      have hkb : kd < 65536 := by omega
      have H1 := Lib.hid (And.intro N1 (And.intro hrg1 (And.intro hlt (And.intro hk1 hleft))))
      clear N1 hrg1 hlt hk1 hleft hab hkd hleaf hcx hxs hhx hin hwx hwc hlx hat hg1 hs1
      cases sm
      · by_cases hka : kd = a
        · subst hka
          go_wp2_with fail
          go_roundw
          case rel => exact ⟨_, cnt1, true, rfl, H1.out.2.1, fun _ => H1.out.2.2.2.1 rfl, H1.out.2.2.2.2 true (fun _ => rfl) (fun _ => rfl), H1.out.1⟩
          case measure => rw [H1.out.2.1.left_eq, HI.out.2.2.2.left_eq]; exact H1.out.2.2.1
        · have e1 : ((kd : Int) == (a : Int)) = false := by simp; omega
          have e2 : decide (kd = a) = false := by simp; omega
          go_wp2_with fail
          go_roundw
          case rel => exact ⟨_, cnt1, false, rfl, H1.out.2.1, fun h => (by cases h), H1.out.2.2.2.2 false (fun h => h) (fun h => absurd h hka), H1.out.1⟩
          case measure => rw [H1.out.2.1.left_eq, HI.out.2.2.2.left_eq]; exact H1.out.2.2.1
      · go_wp2_with fail
        go_roundw
        case rel => exact ⟨_, cnt1, true, rfl, H1.out.2.1, HI.out.1, H1.out.2.2.2.2 true (fun _ => rfl) (fun _ => rfl), H1.out.1⟩
        case measure => rw [H1.out.2.1.left_eq, HI.out.2.2.2.left_eq]; exact H1.out.2.2.1
set_option maxHeartbeats 800000 in
set_option maxRecDepth 100000 in
theorem lsum2 (w : World) (g n : Nat) (T : Lv) (hm : MapU w g n (T 4)) (rt : Right T) (a : Nat) (ha : a < 256) :
    Calls Try.prog 13 #[.map (some g), .int .i64 2, .int .i64 (a : Int)] w fun e w' => e = .returned (.int .u32 (sumAt T 2 a)) ∧ New w w' := by
  obtain ⟨D, hown, hD⟩ := MapAt.opened hm Try.underlying3 Try.underlying24 Try.underlying39 zero_u32
  have hsome := node_some rt (l := 2) (by omega) (x := (a : Int)) (by omega) (by rw [show (16 : Nat) ^ 2 = 256 from rfl]; omega)
  obtain ⟨sb, hsb⟩ : ∃ sb, (T 2 (a : Int)).isSome = sb := ⟨_, rfl⟩
  rw [hsb] at hsome
  have hkind : ∀ x c, T 4 x = some c → 0 ≤ c ∧ c ≤ 4294967295 := fun x c hc => by
    have := hm.kind x c hc
    simp [inKind, Lit.wf, IntKind.min, IntKind.max, IntKind.signed, IntKind.bits] at this
    omega
  have HM := Lib.hid (And.intro hm (And.intro hkind hsb))
  have HD := Lib.hid (And.intro hD hsome)
  clear hm hkind hsb hD hsome
  have HA := Lib.hid ha
  have hal : (a : Int) ≤ 4096 := by omega
  clear ha
  go_enter Try.func13, Try.ntmps13
  go_wp2_with (at_range; refine wpList_range_own _ rfl _ 39 rfl 3 24 (int_keyed Try.underlying3) Try.underlying39 _ g n _ rfl hown ?_; intro w0 hrg0 hg0 hs0)
  have N0 : New w w0 := (Chg.refl _ w).grown hg0 fun g e _ => by cases e
  have HR := Lib.hid (And.intro hrg0 N0)
  clear hrg0 hg0 hs0 N0 hown
  go_frame
  go_loopw [7, 8] (fun sv _ wr => ∃ (left : Lit → Bool) (cnt : Nat) (sm : Bool), sv = .bool sm ∧ wr.ranges Try.prog 3 (plainElem Try.prog 24) g w.heap.size n D left cnt ∧ (sm = true → sb = true) ∧ (∀ x, inKind .i64 x → has D (.int .i64 x) = true → left (.int .i64 x) = false → above x 2 = a → sm = true) ∧ New w wr) (fun _ _ wr => wr.rangeLeft g w.heap.size)
  case atStart => exact ⟨_, _, false, rfl, HR.out.1, (fun h => by cases h), (fun x _ h1 h2 => by rw [h1] at h2; cases h2), HR.out.2⟩
  case round =>
    clear HR
    obtain ⟨left, cnt, sm, rfl, hrg, hi1, hi2, nw⟩ := hrel
    have HI := Lib.hid (And.intro hi1 (And.intro hi2 (And.intro nw hrg)))
    clear hi1 hi2 nw
    go_wp2_with (at_next; refine wpList_next_ranges_ii _ rfl _ rfl 3 24 .i64 .u32 (int_keyed Try.underlying3) Try.underlying3 Try.underlying24 g w.heap.size n _ _ _ rfl hrg ?_ ?_)
    · intro hc0 hl0
      have hsm : sm = sb := by
        cases sb with
        | false =>
          cases sm with
          | false => rfl
          | true => exact absurd (HI.out.1 rfl) (by simp)
        | true =>
          obtain ⟨k, k0, k1, hk, hk4⟩ := HD.out.2.1 rfl
          have hin : inKind .i64 k := inI64 (by omega) (by omega)
          exact HI.out.2.1 k hin (by rw [HD.out.1 k hin]; exact hk4) (hl0 _) hk
      subst hsm
      have HN := Lib.hid HI.out.2.2.1
      clear hrg hc0 hl0 HI
      cases sm
      · have hz : sumAt T 2 (a : Int) = 0 := by
          unfold sumAt
          cases hq : T 2 (a : Int) with
          | none => rfl
          | some c =>
            have := HM.out.2.2
            rw [hq] at this
            cases this
        have HZ := Lib.hid hz
        clear hz
        go_wp2_with fail
        go_ret
        exact ⟨by rw [HZ.out]; rfl, HN.out⟩
      · generalize wr = wo at *
        go_wp2_with fail
        go_loopw [9, 10, 35] (fun bv _ iv wr' => ∃ i : Nat, i ≤ 16 ∧ iv = .int .i64 i ∧ OwnB wr' wo.heap.size bv (chB (T 3) a i) ∧ New wo wr') (fun _ _ iv _ => 16 - (intOf iv).toNat)
        case atStart => exact ⟨0, by omega, rfl, OwnB.nil, Chg.refl _ _⟩
        case round =>
          obtain ⟨i, hi, rfl, ob, nb⟩ := hrel
          by_cases hlt : i < 16
          · have hmi := HM.out.1.chg (HN.out.trans nb fun _ _ => id) id
            have C := Lib.hid (lsum3 wr g n T hmi rt (a * 16 + i) (by have := HA.out; omega))
            have hs := sum_low rt HM.out.2.1 (l := 3) (by omega) ((a * 16 + i : Nat) : Int)
            have hch := chB_succ (T 3) (a : Int) i
            have hcl : (chB (T 3) (a : Int) i).length = 4 * i := chB_len _ _ _
            rw [show ((a * 16 + i : Nat) : Int) = (a : Int) * 16 + (i : Int) by omega] at C hs
            rw [show (T 3 ((a : Int) * 16 + (i : Int))).getD 0 = sumAt T 3 ((a : Int) * 16 + (i : Int)) from rfl] at hch
            generalize sumAt T 3 ((a : Int) * 16 + (i : Int)) = s at *
            obtain ⟨s, rfl⟩ := Int.eq_ofNat_of_zero_le hs.1
            have hi16 : (i : Int) < 16 := by omega
            have HB := Lib.hid (And.intro ob (And.intro nb (And.intro hch (And.intro hcl hs))))
            clear ob nb hch hcl hmi hs
            go_wp2_with fail
            refine C.out.mono ?_
            rintro e w3 ⟨rfl, n3⟩
            have CB := Lib.hid (Crc.ref_bytes w3 s (by have := HB.out.2.2.2.2.2; omega))
            have H3 := Lib.hid (And.intro (own_chg HB.out.1 n3 fun _ _ => id) (HB.out.2.1.trans n3 fun _ _ => id))
            clear n3 C
            go_wp2_with fail
            refine CB.out.mono ?_
            rintro e w4 ⟨rfl, rfl⟩
            clear CB
            have hsz := H3.out.2.size
            go_wp2_with (at_builtin; refine stop ?_)
            delta Stop
            refine append_u8 _ rfl _ _ rfl wo.heap.size _ _ rfl (H3.out.1.alloc _) _ _ _ _ (Crc.sumBytes s) rfl (Reads.of_row (n := 4) (size := 1) (heap_alloc_new w3 _) (by simp [u8s, Crc.sumBytes])) (by rw [HB.out.2.2.2.1]; omega) (by simp; omega) ?_
            intro v6 w6 o6 g6 a6
            have hch := HB.out.2.2.1
            rw [Int.toNat_natCast] at hch
            rw [← hch] at o6
            have n6 := (H3.out.2.alloc (.cells (u8s (Crc.sumBytes s)).toArray 5)).grown g6 fun g e hlt => by have := (own_lt H3.out.1 e).1; omega
            have H6 := Lib.hid (And.intro o6 n6)
            clear o6 n6 g6 a6 hch hsz
            go_wp2_with fail
            go_roundw
            case rel => exact ⟨i + 1, by omega, by go_num, H6.out.1, H6.out.2⟩
            case measure => simp [intOf]; omega
          · obtain rfl : i = 16 := by omega
            obtain ⟨A', c', rfl, hlc, hcm, _, hrd⟩ := OwnB.form ob
            have CO := Lib.hid (Crc.ref_of wr _ A' _ c' _ hrd (by omega))
            have hval : sumAt T 2 (a : Int) = ((Crc.sum (chB (T 3) (a : Int) 16) : Nat) : Int) := by
              have h1 := HM.out.2.2
              have h2 := rt.node 2 (by omega) (a : Int)
              unfold want at h2
              unfold sumAt
              rw [h2] at h1 ⊢
              split
              · rfl
              · rename_i hq
                rw [if_neg hq] at h1
                cases h1
            have HV := Lib.hid hval
            have HZ := Lib.hid (HN.out.trans nb fun _ _ => id)
            clear ob nb hrd hval hlc hcm
            go_wp2_with fail
            refine CO.out.mono ?_
            rintro e w7 ⟨rfl, rfl⟩
            clear CO
            go_wp2_with fail
            go_ret
            exact ⟨by rw [HV.out]; rfl, HZ.out⟩
    · intro x c w1 cnt1 hwx hwc hlx hat hrg1 hlt hg1 hs1 hen
      have hin : inKind .i64 x := hwx
      have hhx : has D (.int .i64 x) = true := has_true_of_atKey hat
      have hxs : (T 4 x).isSome = true := by rw [← HD.out.1 x hin]; exact hhx
      obtain ⟨cx, hcx⟩ := Option.isSome_iff_exists.1 hxs
      have hleaf := rt.leaf x cx hcx
      obtain ⟨y, rfl⟩ := Int.eq_ofNat_of_zero_le hleaf.1
      have N1 : New w w1 := HI.out.2.2.1.grown hg1 fun g' e hlt => by injection e with e; omega
      have hab : above (y : Int) 2 = ((y / 256 : Nat) : Int) := by rw [above_nat]
      have hdiv : (y : Int) / 256 = ((y / 256 : Nat) : Int) := rfl
      have hk1 : y / 256 = a → sb = true := fun e => HD.out.2.2 ⟨(y : Int), by omega, by omega, by rw [hab, e], hxs⟩
      have hleft : ∀ (sm' : Bool), (sm = true → sm' = true) → (y / 256 = a → sm' = true) → ∀ z, inKind .i64 z → has D (.int .i64 z) = true → (left (.int .i64 z) && !(Lit.int .i64 z).sameKey (.int .i64 (y : Int))) = false → above z 2 = a → sm' = true := fun sm' h1 h2 z hz1 hz2 hz3 hz4 => by
        by_cases ez : z = (y : Int)
        · subst ez
          exact h2 (by rw [hab] at hz4; omega)
        · have : (Lit.int .i64 z).sameKey (.int .i64 (y : Int)) = false := Maps.sameKey_ne (fun e => ez (by injection e))
          rw [this] at hz3
          exact h1 (HI.out.2.1 z hz1 hz2 (by simpa using hz3) hz4)
      obtain ⟨kd, hkd⟩ : ∃ kd, y / 256 = kd := ⟨_, rfl⟩
      rw [hkd] at hdiv hk1
      simp only [hkd] at hleft
      have hkb : kd < 65536 := by omega
      have H1 := Lib.hid (And.intro N1 (And.intro hrg1 (And.intro hlt (And.intro hk1 hleft))))
      clear N1 hrg1 hlt hk1 hleft hab hkd hleaf hcx hxs hhx hin hwx hwc hlx hat hg1 hs1
      cases sm
      · by_cases hka : kd = a
        · subst hka
          go_wp2_with fail
          go_roundw
          case rel => exact ⟨_, cnt1, true, rfl, H1.out.2.1, fun _ => H1.out.2.2.2.1 rfl, H1.out.2.2.2.2 true (fun _ => rfl) (fun _ => rfl), H1.out.1⟩
          case measure => rw [H1.out.2.1.left_eq, HI.out.2.2.2.left_eq]; exact H1.out.2.2.1
        · have e1 : ((kd : Int) == (a : Int)) = false := by simp; omega
          have e2 : decide (kd = a) = false := by simp; omega
          go_wp2_with fail
          go_roundw
          case rel => exact ⟨_, cnt1, false, rfl, H1.out.2.1, fun h => (by cases h), H1.out.2.2.2.2 false (fun h => h) (fun h => absurd h hka), H1.out.1⟩
          case measure => rw [H1.out.2.1.left_eq, HI.out.2.2.2.left_eq]; exact H1.out.2.2.1
      · go_wp2_with fail
        go_roundw
        case rel => exact ⟨_, cnt1, true, rfl, H1.out.2.1, HI.out.1, H1.out.2.2.2.2 true (fun _ => rfl) (fun _ => rfl), H1.out.1⟩
        case measure => rw [H1.out.2.1.left_eq, HI.out.2.2.2.left_eq]; exact H1.out.2.2.1
set_option maxHeartbeats 800000 in
set_option maxRecDepth 100000 in
theorem lsum1 (w : World) (g n : Nat) (T : Lv) (hm : MapU w g n (T 4)) (rt : Right T) (a : Nat) (ha : a < 16) :
    Calls Try.prog 13 #[.map (some g), .int .i64 1, .int .i64 (a : Int)] w fun e w' => e = .returned (.int .u32 (sumAt T 1 a)) ∧ New w w' := by
  obtain ⟨D, hown, hD⟩ := MapAt.opened hm Try.underlying3 Try.underlying24 Try.underlying39 zero_u32
  have hsome := node_some rt (l := 1) (by omega) (x := (a : Int)) (by omega) (by rw [show (16 : Nat) ^ 1 = 16 from rfl]; omega)
  obtain ⟨sb, hsb⟩ : ∃ sb, (T 1 (a : Int)).isSome = sb := ⟨_, rfl⟩
  rw [hsb] at hsome
  have hkind : ∀ x c, T 4 x = some c → 0 ≤ c ∧ c ≤ 4294967295 := fun x c hc => by
    have := hm.kind x c hc
    simp [inKind, Lit.wf, IntKind.min, IntKind.max, IntKind.signed, IntKind.bits] at this
    omega
  have HM := Lib.hid (And.intro hm (And.intro hkind hsb))
  have HD := Lib.hid (And.intro hD hsome)
  clear hm hkind hsb hD hsome
  have HA := Lib.hid ha
  have hal : (a : Int) ≤ 4096 := by omega
  clear ha
  go_enter Try.func13, Try.ntmps13
  go_wp2_with (at_range; refine wpList_range_own _ rfl _ 39 rfl 3 24 (int_keyed Try.underlying3) Try.underlying39 _ g n _ rfl hown ?_; intro w0 hrg0 hg0 hs0)
  have N0 : New w w0 := (Chg.refl _ w).grown hg0 fun g e _ => by cases e
  have HR := Lib.hid (And.intro hrg0 N0)
  clear hrg0 hg0 hs0 N0 hown
  go_frame
  go_loopw [7, 8] (fun sv _ wr => ∃ (left : Lit → Bool) (cnt : Nat) (sm : Bool), sv = .bool sm ∧ wr.ranges Try.prog 3 (plainElem Try.prog 24) g w.heap.size n D left cnt ∧ (sm = true → sb = true) ∧ (∀ x, inKind .i64 x → has D (.int .i64 x) = true → left (.int .i64 x) = false → above x 1 = a → sm = true) ∧ New w wr) (fun _ _ wr => wr.rangeLeft g w.heap.size)
  case atStart => exact ⟨_, _, false, rfl, HR.out.1, (fun h => by cases h), (fun x _ h1 h2 => by rw [h1] at h2; cases h2), HR.out.2⟩
  case round =>
    clear HR
    obtain ⟨left, cnt, sm, rfl, hrg, hi1, hi2, nw⟩ := hrel
    have HI := Lib.hid (And.intro hi1 (And.intro hi2 (And.intro nw hrg)))
    clear hi1 hi2 nw
    go_wp2_with (at_next; refine wpList_next_ranges_ii _ rfl _ rfl 3 24 .i64 .u32 (int_keyed Try.underlying3) Try.underlying3 Try.underlying24 g w.heap.size n _ _ _ rfl hrg ?_ ?_)
    · intro hc0 hl0
      have hsm : sm = sb := by
        cases sb with
        | false =>
          cases sm with
          | false => rfl
          | true => exact absurd (HI.out.1 rfl) (by simp)
        | true =>
          obtain ⟨k, k0, k1, hk, hk4⟩ := HD.out.2.1 rfl
          have hin : inKind .i64 k := inI64 (by omega) (by omega)
          exact HI.out.2.1 k hin (by rw [HD.out.1 k hin]; exact hk4) (hl0 _) hk
      subst hsm
      have HN := Lib.hid HI.out.2.2.1
      clear hrg hc0 hl0 HI
      cases sm
      · have hz : sumAt T 1 (a : Int) = 0 := by
          unfold sumAt
          cases hq : T 1 (a : Int) with
          | none => rfl
          | some c =>
            have := HM.out.2.2
            rw [hq] at this
            cases this
        have HZ := Lib.hid hz
        clear hz
        go_wp2_with fail
        go_ret
        exact ⟨by rw [HZ.out]; rfl, HN.out⟩
      · generalize wr = wo at *
        go_wp2_with fail
        go_loopw [9, 10, 35] (fun bv _ iv wr' => ∃ i : Nat, i ≤ 16 ∧ iv = .int .i64 i ∧ OwnB wr' wo.heap.size bv (chB (T 2) a i) ∧ New wo wr') (fun _ _ iv _ => 16 - (intOf iv).toNat)
        case atStart => exact ⟨0, by omega, rfl, OwnB.nil, Chg.refl _ _⟩
        case round =>
          obtain ⟨i, hi, rfl, ob, nb⟩ := hrel
          by_cases hlt : i < 16
          · have hmi := HM.out.1.chg (HN.out.trans nb fun _ _ => id) id
            have C := Lib.hid (lsum2 wr g n T hmi rt (a * 16 + i) (by have := HA.out; omega))
            have hs := sum_low rt HM.out.2.1 (l := 2) (by omega) ((a * 16 + i : Nat) : Int)
            have hch := chB_succ (T 2) (a : Int) i
            have hcl : (chB (T 2) (a : Int) i).length = 4 * i := chB_len _ _ _
            rw [show ((a * 16 + i : Nat) : Int) = (a : Int) * 16 + (i : Int) by omega] at C hs
            rw [show (T 2 ((a : Int) * 16 + (i : Int))).getD 0 = sumAt T 2 ((a : Int) * 16 + (i : Int)) from rfl] at hch
            generalize sumAt T 2 ((a : Int) * 16 + (i : Int)) = s at *
            obtain ⟨s, rfl⟩ := Int.eq_ofNat_of_zero_le hs.1
            have hi16 : (i : Int) < 16 := by omega
            have HB := Lib.hid (And.intro ob (And.intro nb (And.intro hch (And.intro hcl hs))))
            clear ob nb hch hcl hmi hs
            go_wp2_with fail
            refine C.out.mono ?_
            rintro e w3 ⟨rfl, n3⟩
            have CB := Lib.hid (Crc.ref_bytes w3 s (by have := HB.out.2.2.2.2.2; omega))
            have H3 := Lib.hid (And.intro (own_chg HB.out.1 n3 fun _ _ => id) (HB.out.2.1.trans n3 fun _ _ => id))
            clear n3 C
            go_wp2_with fail
            refine CB.out.mono ?_
            rintro e w4 ⟨rfl, rfl⟩
            clear CB
            have hsz := H3.out.2.size
            go_wp2_with (at_builtin; refine stop ?_)
            delta Stop
            refine append_u8 _ rfl _ _ rfl wo.heap.size _ _ rfl (H3.out.1.alloc _) _ _ _ _ (Crc.sumBytes s) rfl (Reads.of_row (n := 4) (size := 1) (heap_alloc_new w3 _) (by simp [u8s, Crc.sumBytes])) (by rw [HB.out.2.2.2.1]; omega) (by simp; omega) ?_
            intro v6 w6 o6 g6 a6
            have hch := HB.out.2.2.1
            rw [Int.toNat_natCast] at hch
            rw [← hch] at o6
            have n6 := (H3.out.2.alloc (.cells (u8s (Crc.sumBytes s)).toArray 5)).grown g6 fun g e hlt => by have := (own_lt H3.out.1 e).1; omega
            have H6 := Lib.hid (And.intro o6 n6)
            clear o6 n6 g6 a6 hch hsz
            go_wp2_with fail
            go_roundw
            case rel => exact ⟨i + 1, by omega, by go_num, H6.out.1, H6.out.2⟩
            case measure => simp [intOf]; omega
          · obtain rfl : i = 16 := by omega
            obtain ⟨A', c', rfl, hlc, hcm, _, hrd⟩ := OwnB.form ob
            have CO := Lib.hid (Crc.ref_of wr _ A' _ c' _ hrd (by omega))
            have hval : sumAt T 1 (a : Int) = ((Crc.sum (chB (T 2) (a : Int) 16) : Nat) : Int) := by
              have h1 := HM.out.2.2
              have h2 := rt.node 1 (by omega) (a : Int)
              unfold want at h2
              unfold sumAt
              rw [h2] at h1 ⊢
              split
              · rfl
              · rename_i hq
                rw [if_neg hq] at h1
                cases h1
            have HV := Lib.hid hval
            have HZ := Lib.hid (HN.out.trans nb fun _ _ => id)
            clear ob nb hrd hval hlc hcm
            go_wp2_with fail
            refine CO.out.mono ?_
            rintro e w7 ⟨rfl, rfl⟩
            clear CO
            go_wp2_with fail
            go_ret
            exact ⟨by rw [HV.out]; rfl, HZ.out⟩
    · intro x c w1 cnt1 hwx hwc hlx hat hrg1 hlt hg1 hs1 hen
      have hin : inKind .i64 x := hwx
      have hhx : has D (.int .i64 x) = true := has_true_of_atKey hat
      have hxs : (T 4 x).isSome = true := by rw [← HD.out.1 x hin]; exact hhx
      obtain ⟨cx, hcx⟩ := Option.isSome_iff_exists.1 hxs
      have hleaf := rt.leaf x cx hcx
      obtain ⟨y, rfl⟩ := Int.eq_ofNat_of_zero_le hleaf.1
      have N1 : New w w1 := HI.out.2.2.1.grown hg1 fun g' e hlt => by injection e with e; omega
      have hab : above (y : Int) 1 = ((y / 4096 : Nat) : Int) := by rw [above_nat]
      have hdiv : (y : Int) / 4096 = ((y / 4096 : Nat) : Int) := rfl
      have hk1 : y / 4096 = a → sb = true := fun e => HD.out.2.2 ⟨(y : Int), by omega, by omega, by rw [hab, e], hxs⟩
      have hleft : ∀ (sm' : Bool), (sm = true → sm' = true) → (y / 4096 = a → sm' = true) → ∀ z, inKind .i64 z → has D (.int .i64 z) = true → (left (.int .i64 z) && !(Lit.int .i64 z).sameKey (.int .i64 (y : Int))) = false → above z 1 = a → sm' = true := fun sm' h1 h2 z hz1 hz2 hz3 hz4 => by
        by_cases ez : z = (y : Int)
        · subst ez
          exact h2 (by rw [hab] at hz4; omega)
        · have : (Lit.int .i64 z).sameKey (.int .i64 (y : Int)) = false := Maps.sameKey_ne (fun e => ez (by injection e))
          rw [this] at hz3
          exact h1 (HI.out.2.1 z hz1 hz2 (by simpa using hz3) hz4)
      obtain ⟨kd, hkd⟩ : ∃ kd, y / 4096 = kd := ⟨_, rfl⟩
      rw [hkd] at hdiv hk1
      simp only [hkd] at hleft
      have hkb : kd < 65536 := by omega
      have H1 := Lib.hid (And.intro N1 (And.intro hrg1 (And.intro hlt (And.intro hk1 hleft))))
      clear N1 hrg1 hlt hk1 hleft hab hkd hleaf hcx hxs hhx hin hwx hwc hlx hat hg1 hs1
      cases sm
      · by_cases hka : kd = a
        · subst hka
          go_wp2_with fail
          go_roundw
          case rel => exact ⟨_, cnt1, true, rfl, H1.out.2.1, fun _ => H1.out.2.2.2.1 rfl, H1.out.2.2.2.2 true (fun _ => rfl) (fun _ => rfl), H1.out.1⟩
          case measure => rw [H1.out.2.1.left_eq, HI.out.2.2.2.left_eq]; exact H1.out.2.2.1
        · have e1 : ((kd : Int) == (a : Int)) = false := by simp; omega
          have e2 : decide (kd = a) = false := by simp; omega
          go_wp2_with fail
          go_roundw
          case rel => exact ⟨_, cnt1, false, rfl, H1.out.2.1, fun h => (by cases h), H1.out.2.2.2.2 false (fun h => h) (fun h => absurd h hka), H1.out.1⟩
          case measure => rw [H1.out.2.1.left_eq, HI.out.2.2.2.left_eq]; exact H1.out.2.2.1
      · go_wp2_with fail
        go_roundw
        case rel => exact ⟨_, cnt1, true, rfl, H1.out.2.1, HI.out.1, H1.out.2.2.2.2 true (fun _ => rfl) (fun _ => rfl), H1.out.1⟩
        case measure => rw [H1.out.2.1.left_eq, HI.out.2.2.2.left_eq]; exact H1.out.2.2.1
set_option maxHeartbeats 800000 in
set_option maxRecDepth 100000 in
theorem lsum0 (w : World) (g n : Nat) (T : Lv) (hm : MapU w g n (T 4)) (rt : Right T) (a : Nat) (ha : a < 1) :
    Calls Try.prog 13 #[.map (some g), .int .i64 0, .int .i64 (a : Int)] w fun e w' => e = .returned (.int .u32 (sumAt T 0 a)) ∧ New w w' := by
  obtain ⟨D, hown, hD⟩ := MapAt.opened hm Try.underlying3 Try.underlying24 Try.underlying39 zero_u32
  have hsome := node_some rt (l := 0) (by omega) (x := (a : Int)) (by omega) (by rw [show (16 : Nat) ^ 0 = 1 from rfl]; omega)
  obtain ⟨sb, hsb⟩ : ∃ sb, (T 0 (a : Int)).isSome = sb := ⟨_, rfl⟩
  rw [hsb] at hsome
  have hkind : ∀ x c, T 4 x = some c → 0 ≤ c ∧ c ≤ 4294967295 := fun x c hc => by
    have := hm.kind x c hc
    simp [inKind, Lit.wf, IntKind.min, IntKind.max, IntKind.signed, IntKind.bits] at this
    omega
  have HM := Lib.hid (And.intro hm (And.intro hkind hsb))
  have HD := Lib.hid (And.intro hD hsome)
  clear hm hkind hsb hD hsome
  have HA := Lib.hid ha
  have hal : (a : Int) ≤ 4096 := by omega
  clear ha
  go_enter Try.func13, Try.ntmps13
  go_wp2_with (at_range; refine wpList_range_own _ rfl _ 39 rfl 3 24 (int_keyed Try.underlying3) Try.underlying39 _ g n _ rfl hown ?_; intro w0 hrg0 hg0 hs0)
  have N0 : New w w0 := (Chg.refl _ w).grown hg0 fun g e _ => by cases e
  have HR := Lib.hid (And.intro hrg0 N0)
  clear hrg0 hg0 hs0 N0 hown
  go_frame
  go_loopw [7, 8] (fun sv _ wr => ∃ (left : Lit → Bool) (cnt : Nat) (sm : Bool), sv = .bool sm ∧ wr.ranges Try.prog 3 (plainElem Try.prog 24) g w.heap.size n D left cnt ∧ (sm = true → sb = true) ∧ (∀ x, inKind .i64 x → has D (.int .i64 x) = true → left (.int .i64 x) = false → above x 0 = a → sm = true) ∧ New w wr) (fun _ _ wr => wr.rangeLeft g w.heap.size)
  case atStart => exact ⟨_, _, false, rfl, HR.out.1, (fun h => by cases h), (fun x _ h1 h2 => by rw [h1] at h2; cases h2), HR.out.2⟩
  case round =>
    clear HR
    obtain ⟨left, cnt, sm, rfl, hrg, hi1, hi2, nw⟩ := hrel
    have HI := Lib.hid (And.intro hi1 (And.intro hi2 (And.intro nw hrg)))
    clear hi1 hi2 nw
    go_wp2_with (at_next; refine wpList_next_ranges_ii _ rfl _ rfl 3 24 .i64 .u32 (int_keyed Try.underlying3) Try.underlying3 Try.underlying24 g w.heap.size n _ _ _ rfl hrg ?_ ?_)
    · intro hc0 hl0
      have hsm : sm = sb := by
        cases sb with
        | false =>
          cases sm with
          | false => rfl
          | true => exact absurd (HI.out.1 rfl) (by simp)
        | true =>
          obtain ⟨k, k0, k1, hk, hk4⟩ := HD.out.2.1 rfl
          have hin : inKind .i64 k := inI64 (by omega) (by omega)
          exact HI.out.2.1 k hin (by rw [HD.out.1 k hin]; exact hk4) (hl0 _) hk
      subst hsm
      have HN := Lib.hid HI.out.2.2.1
      clear hrg hc0 hl0 HI
      cases sm
      · have hz : sumAt T 0 (a : Int) = 0 := by
          unfold sumAt
          cases hq : T 0 (a : Int) with
          | none => rfl
          | some c =>
            have := HM.out.2.2
            rw [hq] at this
            cases this
        have HZ := Lib.hid hz
        clear hz
        go_wp2_with fail
        go_ret
        exact ⟨by rw [HZ.out]; rfl, HN.out⟩
      · generalize wr = wo at *
        go_wp2_with fail
        go_loopw [9, 10, 35] (fun bv _ iv wr' => ∃ i : Nat, i ≤ 16 ∧ iv = .int .i64 i ∧ OwnB wr' wo.heap.size bv (chB (T 1) a i) ∧ New wo wr') (fun _ _ iv _ => 16 - (intOf iv).toNat)
        case atStart => exact ⟨0, by omega, rfl, OwnB.nil, Chg.refl _ _⟩
        case round =>
          obtain ⟨i, hi, rfl, ob, nb⟩ := hrel
          by_cases hlt : i < 16
          · have hmi := HM.out.1.chg (HN.out.trans nb fun _ _ => id) id
            have C := Lib.hid (lsum1 wr g n T hmi rt (a * 16 + i) (by have := HA.out; omega))
            have hs := sum_low rt HM.out.2.1 (l := 1) (by omega) ((a * 16 + i : Nat) : Int)
            have hch := chB_succ (T 1) (a : Int) i
            have hcl : (chB (T 1) (a : Int) i).length = 4 * i := chB_len _ _ _
            rw [show ((a * 16 + i : Nat) : Int) = (a : Int) * 16 + (i : Int) by omega] at C hs
            rw [show (T 1 ((a : Int) * 16 + (i : Int))).getD 0 = sumAt T 1 ((a : Int) * 16 + (i : Int)) from rfl] at hch
            generalize sumAt T 1 ((a : Int) * 16 + (i : Int)) = s at *
            obtain ⟨s, rfl⟩ := Int.eq_ofNat_of_zero_le hs.1
            have hi16 : (i : Int) < 16 := by omega
            have HB := Lib.hid (And.intro ob (And.intro nb (And.intro hch (And.intro hcl hs))))
            clear ob nb hch hcl hmi hs
            go_wp2_with fail
            refine C.out.mono ?_
            rintro e w3 ⟨rfl, n3⟩
            have CB := Lib.hid (Crc.ref_bytes w3 s (by have := HB.out.2.2.2.2.2; omega))
            have H3 := Lib.hid (And.intro (own_chg HB.out.1 n3 fun _ _ => id) (HB.out.2.1.trans n3 fun _ _ => id))
            clear n3 C
            go_wp2_with fail
            refine CB.out.mono ?_
            rintro e w4 ⟨rfl, rfl⟩
            clear CB
            have hsz := H3.out.2.size
            go_wp2_with (at_builtin; refine stop ?_)
            delta Stop
            refine append_u8 _ rfl _ _ rfl wo.heap.size _ _ rfl (H3.out.1.alloc _) _ _ _ _ (Crc.sumBytes s) rfl (Reads.of_row (n := 4) (size := 1) (heap_alloc_new w3 _) (by simp [u8s, Crc.sumBytes])) (by rw [HB.out.2.2.2.1]; omega) (by simp; omega) ?_
            intro v6 w6 o6 g6 a6
            have hch := HB.out.2.2.1
            rw [Int.toNat_natCast] at hch
            rw [← hch] at o6
            have n6 := (H3.out.2.alloc (.cells (u8s (Crc.sumBytes s)).toArray 5)).grown g6 fun g e hlt => by have := (own_lt H3.out.1 e).1; omega
            have H6 := Lib.hid (And.intro o6 n6)
            clear o6 n6 g6 a6 hch hsz
            go_wp2_with fail
            go_roundw
            case rel => exact ⟨i + 1, by omega, by go_num, H6.out.1, H6.out.2⟩
            case measure => simp [intOf]; omega
          · obtain rfl : i = 16 := by omega
            obtain ⟨A', c', rfl, hlc, hcm, _, hrd⟩ := OwnB.form ob
            have CO := Lib.hid (Crc.ref_of wr _ A' _ c' _ hrd (by omega))
            have hval : sumAt T 0 (a : Int) = ((Crc.sum (chB (T 1) (a : Int) 16) : Nat) : Int) := by
              have h1 := HM.out.2.2
              have h2 := rt.node 0 (by omega) (a : Int)
              unfold want at h2
              unfold sumAt
              rw [h2] at h1 ⊢
              split
              · rfl
              · rename_i hq
                rw [if_neg hq] at h1
                cases h1
            have HV := Lib.hid hval
            have HZ := Lib.hid (HN.out.trans nb fun _ _ => id)
            clear ob nb hrd hval hlc hcm
            go_wp2_with fail
            refine CO.out.mono ?_
            rintro e w7 ⟨rfl, rfl⟩
            clear CO
            go_wp2_with fail
            go_ret
            exact ⟨by rw [HV.out]; rfl, HZ.out⟩
    · intro x c w1 cnt1 hwx hwc hlx hat hrg1 hlt hg1 hs1 hen
      have hin : inKind .i64 x := hwx
      have hhx : has D (.int .i64 x) = true := has_true_of_atKey hat
      have hxs : (T 4 x).isSome = true := by rw [← HD.out.1 x hin]; exact hhx
      obtain ⟨cx, hcx⟩ := Option.isSome_iff_exists.1 hxs
      have hleaf := rt.leaf x cx hcx
      obtain ⟨y, rfl⟩ := Int.eq_ofNat_of_zero_le hleaf.1
      have N1 : New w w1 := HI.out.2.2.1.grown hg1 fun g' e hlt => by injection e with e; omega
      have hab : above (y : Int) 0 = ((y / 65536 : Nat) : Int) := by rw [above_nat]
      have hdiv : (y : Int) / 65536 = ((y / 65536 : Nat) : Int) := rfl
      have hk1 : y / 65536 = a → sb = true := fun e => HD.out.2.2 ⟨(y : Int), by omega, by omega, by rw [hab, e], hxs⟩
      have hleft : ∀ (sm' : Bool), (sm = true → sm' = true) → (y / 65536 = a → sm' = true) → ∀ z, inKind .i64 z → has D (.int .i64 z) = true → (left (.int .i64 z) && !(Lit.int .i64 z).sameKey (.int .i64 (y : Int))) = false → above z 0 = a → sm' = true := fun sm' h1 h2 z hz1 hz2 hz3 hz4 => by
        by_cases ez : z = (y : Int)
        · subst ez
          exact h2 (by rw [hab] at hz4; omega)
        · have : (Lit.int .i64 z).sameKey (.int .i64 (y : Int)) = false := Maps.sameKey_ne (fun e => ez (by injection e))
          rw [this] at hz3
          exact h1 (HI.out.2.1 z hz1 hz2 (by simpa using hz3) hz4)
      obtain ⟨kd, hkd⟩ : ∃ kd, y / 65536 = kd := ⟨_, rfl⟩
      rw [hkd] at hdiv hk1
      simp only [hkd] at hleft
      have hkb : kd < 65536 := by omega
      have H1 := Lib.hid (And.intro N1 (And.intro hrg1 (And.intro hlt (And.intro hk1 hleft))))
      clear N1 hrg1 hlt hk1 hleft hab hkd hleaf hcx hxs hhx hin hwx hwc hlx hat hg1 hs1
      cases sm
      · by_cases hka : kd = a
        · subst hka
          go_wp2_with fail
          go_roundw
          case rel => exact ⟨_, cnt1, true, rfl, H1.out.2.1, fun _ => H1.out.2.2.2.1 rfl, H1.out.2.2.2.2 true (fun _ => rfl) (fun _ => rfl), H1.out.1⟩
          case measure => rw [H1.out.2.1.left_eq, HI.out.2.2.2.left_eq]; exact H1.out.2.2.1
        · have e1 : ((kd : Int) == (a : Int)) = false := by simp; omega
          have e2 : decide (kd = a) = false := by simp; omega
          go_wp2_with fail
          go_roundw
          case rel => exact ⟨_, cnt1, false, rfl, H1.out.2.1, fun h => (by cases h), H1.out.2.2.2.2 false (fun h => h) (fun h => absurd h hka), H1.out.1⟩
          case measure => rw [H1.out.2.1.left_eq, HI.out.2.2.2.left_eq]; exact H1.out.2.2.1
      · go_wp2_with fail
        go_roundw
        case rel => exact ⟨_, cnt1, true, rfl, H1.out.2.1, HI.out.1, H1.out.2.2.2.2 true (fun _ => rfl) (fun _ => rfl), H1.out.1⟩
        case measure => rw [H1.out.2.1.left_eq, HI.out.2.2.2.left_eq]; exact H1.out.2.2.1
end Merkle
end Go.Proofs.Ytoddgakhiaokaaa

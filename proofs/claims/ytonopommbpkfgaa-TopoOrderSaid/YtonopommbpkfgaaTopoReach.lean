/-
  hedgerowlaw32.TopoReach returns true for every input: to which pairs lead from each, and which numbers can't come, is what goes over all pairs tells (no condition).
-/
import Derived.Test.YtonopommbpkfgaaTopoLevelled
namespace Go.Proofs.Ytonopommbpkfgaa
open Go.ChangeShapes Go.WideShapes Go.RowKit Go.Deep Heap
namespace Topo
attribute [local go_sem ↓] loadOnly0
theorem range_pick (f : Nat → Bool) : ∀ (n k : Nat), k < n → f k = true → (((List.range n).filter f).map fun k : Nat => (k : Int)).getD (((List.range k).filter f).map fun k : Nat => (k : Int)).length 0 = (k : Int) ∧ (((List.range k).filter f).map fun k : Nat => (k : Int)).length < (((List.range n).filter f).map fun k : Nat => (k : Int)).length := by
  intro n k hk hf
  obtain ⟨d, rfl⟩ : ∃ d, n = (k + 1) + d := ⟨n - (k + 1), by omega⟩
  rw [List.range_add, List.range_succ, List.filter_append, List.filter_append]
  simp [hf, List.getD_eq_getElem?_getD]
theorem reachL_pick {B : List Bool} {n k : Nat} (hk : k < n) (h : B.getD k false = true) : (reachL B n).getD (reachL B k).length 0 = (k : Int) ∧ (reachL B k).length < (reachL B n).length := range_pick (fun k => B.getD k false) n k hk h
theorem lefts_pick {out : List Int} {n k : Nat} (hk : k < n) (h : (k : Int) ∉ out) : (lefts out n).getD (lefts out k).length 0 = (k : Int) ∧ (lefts out k).length < (lefts out n).length := range_pick (fun k => decide ((k : Int) ∉ out)) n k hk (by simpa using h)
/-- what is told from a number: B is empty where it is none -/
def seenF (n : Nat) (ps : List (Int × Int)) (from_ : Int) (B : List Bool) : Prop := ∀ k : Nat, k < n → (B.getD k false = true ↔ (0 ≤ from_ ∧ from_ < n) ∧ Path n ps from_ k)
/-- some ring leads to k -/
def stuckB (M : Nat → List Bool) (k i : Nat) : Bool := matAt M k k || (List.range i).any fun i => matAt M i i && matAt M i k
theorem stuck_zero (M : Nat → List Bool) (k : Nat) : stuckB M k 0 = matAt M k k := by simp [stuckB]
theorem stuck_succ (M : Nat → List Bool) (k i : Nat) : stuckB M k (i + 1) = (stuckB M k i || matAt M i i && matAt M i k) := by
  unfold stuckB
  rw [List.range_succ, List.any_append, Bool.or_assoc]
  simp
theorem stuck_iff {n : Nat} {ps : List (Int × Int)} {M : Nat → List Bool} (h : WInv n ps n 0 0 M) {out : List Int} {x : Int} {a v : Nat → Int} (inv : Inv n ps out [] [] x a v) {k : Nat} (hk : k < n) : stuckB M k n = true ↔ (k : Int) ∉ out := by
  rw [inv.out_iff hk]
  unfold stuckB
  simp only [Bool.or_eq_true, List.any_eq_true, List.mem_range, Bool.and_eq_true]
  constructor
  · rintro (h1 | ⟨i, hi, h1, h2⟩)
    · exact ⟨k, (h.done hk hk).1 h1, .inl rfl⟩
    · exact ⟨i, (h.done hi hi).1 h1, .inr ((h.done hi hk).1 h2)⟩
  · rintro ⟨i, h1, h2⟩
    have hr := h1.right
    obtain ⟨j, rfl⟩ : ∃ j : Nat, i = (j : Int) := ⟨i.toNat, by omega⟩
    have hj : j < n := by omega
    rcases h2 with e | e
    · have e : j = k := by omega
      subst e
      exact .inl ((h.done hj hj).2 h1)
    · exact .inr ⟨j, hj, (h.done hj hj).2 h1, (h.done hj hk).2 e⟩
/-- Reach from whatever number -/
theorem reachAny (w : World) (n m c : Nat) (f : Int) (hn : n ≤ 256) (A : Option Addr) (ps : List (Int × Int)) (hP : PAt w A ps) (hm : ps.length = m) (hf : m ≤ 200) :
    Calls Try.prog 10 #[.int .i64 (n : Int), .slice A m c, .int .i64 f] w fun e w' => ∃ v B, e = .returned v ∧ OwnI w' w.heap.size v (reachL B n) ∧ seenF n ps f B ∧ New w w' := by
  by_cases h : 0 ≤ f ∧ f < n
  · obtain ⟨k, rfl⟩ : ∃ k : Nat, f = (k : Int) := ⟨f.toNat, by omega⟩
    refine (reach w n m c k hn (by omega) A ps hP hm hf).mono ?_
    rintro e w' ⟨v, B, x, rfl, o, inv, nw⟩
    refine ⟨v, B, rfl, o, fun j hj => ?_, nw⟩
    rw [← inv.done]
    simp [seenB]
    omega
  · refine (reach_no w n f (by omega) _).mono ?_
    rintro e w' ⟨rfl, rfl⟩
    refine ⟨_, [], rfl, ?_, fun k hk => by simp; intro h1 h2; omega, Chg.refl _ _⟩
    have : reachL [] n = [] := by
      unfold reachL
      simp
    rw [this]
    exact OwnI.nil _ _
theorem OwnI.mk' {w : World} {lo : Nat} {A : Option Addr} {n c : Nat} {l : List Int} (h : OwnI w lo (.slice A l.length c) l) (hn : l.length = n) : OwnI w lo (.slice A n c) l := by
  rw [← hn]; exact h
set_option maxHeartbeats 4000000 in
set_option maxRecDepth 20000 in
theorem lawTopoReach (w : World) (n : Int) (m c : Nat) (A : Option Addr) (ps : List (Int × Int)) (f : Int) (hP : PAt w A ps) (hm : ps.length = m) :
    Calls Try.prog 4 #[.int .i64 n, .slice A m c, .int .i64 f] w fun e w' => LawEnd w e w' := by
  have HP := Lib.hid (And.intro hP hm)
  clear hP hm
  by_cases h40 : 40 < n
  · go_enter Try.func4, Try.ntmps4
    go_wp2_with fail
    refine (fixed _).mono ?_
    rintro e w1 ⟨rfl, n1⟩
    go_wp2_with fail
    go_ret
    exact ⟨rfl, n1⟩
  by_cases h0 : n < 0
  · go_enter Try.func4, Try.ntmps4
    go_wp2_with fail
    refine (fixed _).mono ?_
    rintro e w1 ⟨rfl, n1⟩
    go_wp2_with fail
    go_ret
    exact ⟨rfl, n1⟩
  by_cases h200 : (200 : Int) < m
  · go_enter Try.func4, Try.ntmps4
    go_wp2_with fail
    refine (fixed _).mono ?_
    rintro e w1 ⟨rfl, n1⟩
    go_wp2_with fail
    go_ret
    exact ⟨rfl, n1⟩
  obtain ⟨n, rfl⟩ : ∃ k : Nat, n = (k : Int) := ⟨n.toNat, by omega⟩
  have hn : n ≤ 40 := by omega
  have hm2 : m ≤ 200 := by omega
  go_enter Try.func4, Try.ntmps4
  go_wp2_with fail
  refine (fixed _).mono ?_
  rintro e w1 ⟨rfl, n1⟩
  have CW := Lib.hid (lawReach w1 n m c (by omega) A ps (HP.out.1.new n1) HP.out.2 hm2)
  have N1 := Lib.hid n1
  clear n1
  obtain ⟨g, hg⟩ : ∃ g, w1.heap.size = g := ⟨_, rfl⟩
  rw [hg] at CW
  go_wp2_with fail
  refine CW.out.mono ?_
  rintro e w2 ⟨M, rfl, hM, wi, n2⟩
  have CR := Lib.hid (reachAny w2 n m c f (by omega) A ps ((HP.out.1.new N1.out).new n2) HP.out.2 hm2)
  have CF := Lib.hid fun W (hW : New w2 W) => left W n m c (by omega) A ps (((HP.out.1.new N1.out).new n2).new hW) HP.out.2 hm2
  have H2 := Lib.hid (And.intro hM (And.intro wi (N1.out.trans n2 fun _ _ => id)))
  clear CW hM wi n2 hg
  go_wp2_with fail
  refine CR.out.mono ?_
  rintro e w3 ⟨v, B, rfl, o3, hB, n3⟩
  have CF2 := Lib.hid (CF.out w3 n3)
  have H3 := Lib.hid (And.intro o3 (And.intro hB (And.intro (H2.out.1.new n3) (And.intro H2.out.2.1 (H2.out.2.2.trans n3 fun _ _ => id)))))
  obtain ⟨A3, c3, hv⟩ := o3.form
  obtain ⟨L3, hL3⟩ : ∃ L, (reachL B n).length = L := ⟨_, rfl⟩
  have HL3 := Lib.hid hL3
  rw [hL3] at hv
  subst hv
  clear CR CF H2 N1 o3 hB n3 hL3
  go_wp2_with fail
  refine CF2.out.mono ?_
  rintro e w4 ⟨v4, out, x, a, V, rfl, o4, inv, n4⟩
  have H4 := Lib.hid (And.intro (own_chg H3.out.1 n4 fun _ _ => id) (And.intro H3.out.2.1 (And.intro (H3.out.2.2.1.new n4) (And.intro H3.out.2.2.2.1 (And.intro (H3.out.2.2.2.2.trans n4 fun _ _ => id) (And.intro o4 inv))))))
  obtain ⟨A4, c4, hv⟩ := o4.form
  obtain ⟨L4, hL4⟩ : ∃ L, (lefts out n).length = L := ⟨_, rfl⟩
  have HL4 := Lib.hid hL4
  rw [hL4] at hv
  subst hv
  have hb3 : L3 ≤ 40 := by have := reachL_len B n; have := HL3.out; omega
  have hb4 : L4 ≤ 40 := by have := lefts_len out n; omega
  clear CF2 H3 o4 inv n4 hL4
  go_wp2_with fail
  go_loopw [10, 11, 12, 13, 14, 39] (fun av bv _ _ _ kv wr => ∃ k : Nat, k ≤ n ∧ kv = .int .i64 k ∧ av = .int .i64 ((reachL B k).length : Nat) ∧ bv = .int .i64 ((lefts out k).length : Nat) ∧ New w4 wr) (fun _ _ _ _ _ kv _ => n - (intOf kv).toNat)
  case atStart => exact ⟨0, by omega, by go_num, rfl, rfl, Chg.refl _ _⟩
  case round =>
    obtain ⟨k, hk, rfl, rfl, rfl, nw⟩ := hrel
    have ha := reachL_len B k
    have hb := lefts_len out k
    by_cases hlt : k < n
    · have hki : (k : Int) < n := by omega
      have hbk := H4.out.2.1 k hlt
      have hst := stuck_iff H4.out.2.2.2.1 H4.out.2.2.2.2.2.2 hlt
      obtain ⟨a, hae⟩ : ∃ a, (reachL B k).length = a := ⟨_, rfl⟩
      obtain ⟨b, hbe⟩ : ∃ b, (lefts out k).length = b := ⟨_, rfl⟩
      rw [hae] at ha ⊢
      rw [hbe] at hb ⊢
      have HK := Lib.hid (And.intro hbk (And.intro hst (And.intro nw (And.intro hae hbe))))
      clear hbk hst nw hae hbe
      by_cases hf0 : 0 ≤ f
      · by_cases hfn : f < n
        · obtain ⟨fn, rfl⟩ : ∃ fn : Nat, f = (fn : Int) := ⟨f.toNat, by omega⟩
          have hfn2 : fn < n := by omega
          have hm := H4.out.2.2.1.new HK.out.2.2.1
          have hri := hm.row hfn2
          have hc := hm.cell hfn2 (H4.out.2.2.2.1.len fn hfn2) hlt
          have hiff := H4.out.2.2.2.1.done hfn2 hlt
          have hbt := HK.out.1
          obtain ⟨t, ht⟩ : ∃ t, matAt M fn k = t := ⟨_, rfl⟩
          rw [ht] at hc hiff
          obtain ⟨gf, hgf⟩ : ∃ gf, g + 1 + fn = gf := ⟨_, rfl⟩
          rw [hgf] at hri hc
          cases t
          · have hB : B.getD k false = false := by
              rw [Bool.eq_false_iff]
              intro e
              exact absurd (hiff.2 (hbt.1 e).2) (by simp)
            have HA := Lib.hid (show (reachL B (k + 1)).length = a by rw [reachL_not hB, HK.out.2.2.2.1])
            clear hm hiff hbt ht hgf hB
            have hmk := H4.out.2.2.1.new HK.out.2.2.1
            have z1 := hmk.row hlt
            have z2 := hmk.cell hlt (H4.out.2.2.2.1.len k hlt) hlt
            obtain ⟨gk, hgk⟩ : ∃ gk, g + 1 + k = gk := ⟨_, rfl⟩
            obtain ⟨s0, hs0⟩ : ∃ s, matAt M k k = s := ⟨_, rfl⟩
            rw [hgk] at z1 z2
            rw [hs0] at z2
            have HS0 := Lib.hid hs0
            clear hmk hgk hs0
            go_wp2_with fail
            go_loopw [13, 14, 80] (fun sv _ iv wx => ∃ i : Nat, i ≤ n ∧ iv = .int .i64 i ∧ sv = .bool (stuckB M k i) ∧ wx = wr) (fun _ _ iv _ => n - (intOf iv).toNat)
            case atStart => exact ⟨0, by omega, by go_num, by rw [stuck_zero, HS0.out], rfl⟩
            case round =>
              obtain ⟨i, hi, rfl, rfl, rfl⟩ := hrel
              by_cases hli : i < n
              · have hii : (i : Int) < n := by omega
                have hm := H4.out.2.2.1.new HK.out.2.2.1
                have q1 := hm.row hli
                have q2 := hm.cell hli (H4.out.2.2.2.1.len i hli) hli
                have q3 := hm.cell hli (H4.out.2.2.2.1.len i hli) hlt
                have hsu := stuck_succ M k i
                obtain ⟨s, hs⟩ : ∃ s, stuckB M k i = s := ⟨_, rfl⟩
                obtain ⟨x1, hx1⟩ : ∃ x, matAt M i i = x := ⟨_, rfl⟩
                obtain ⟨x2, hx2⟩ : ∃ x, matAt M i k = x := ⟨_, rfl⟩
                rw [hs, hx1, hx2] at hsu
                rw [hx1] at q2
                rw [hx2] at q3
                obtain ⟨gi, hgi⟩ : ∃ gi, g + 1 + i = gi := ⟨_, rfl⟩
                rw [hgi] at q1 q2 q3
                have HS := Lib.hid hsu
                rw [hs]
                clear hm hsu hs hx1 hx2 hgi z1 z2
                cases s
                · cases x1
                  · go_wp2_with fail
                    go_roundw
                    case rel => exact ⟨i + 1, by omega, by go_num, by rw [HS.out]; rfl, by first | trivial | rfl⟩
                    case measure => simp [intOf]; omega
                  · go_wp2_with fail
                    go_roundw
                    case rel => exact ⟨i + 1, by omega, by go_num, by rw [HS.out]; rfl, by first | trivial | rfl⟩
                    case measure => simp [intOf]; omega
                · go_wp2_with fail
                  go_roundw
                  case rel => exact ⟨i + 1, by omega, by go_num, by rw [HS.out]; rfl, by first | trivial | rfl⟩
                  case measure => simp [intOf]; omega
              · obtain rfl : n = i := by omega
                have hs2 := HK.out.2.1
                obtain ⟨s, hs⟩ : ∃ s, stuckB M k n = s := ⟨_, rfl⟩
                rw [hs] at hs2 ⊢
                clear hs
                cases s
                · have hin : (k : Int) ∈ out := Classical.byContradiction fun h => absurd (hs2.2 h) (by simp)
                  have HI := Lib.hid hin
                  clear hs2 hin
                  go_wp2_with fail
                  go_roundw
                  case rel => exact ⟨k + 1, by omega, by go_num, by rw [HA.out]; first | done | rfl, by rw [lefts_not HI.out, HK.out.2.2.2.2], HK.out.2.2.1⟩
                  case measure => simp [intOf]; omega
                · have hno := hs2.1 rfl
                  have hp := lefts_pick hlt hno
                  rw [HK.out.2.2.2.2, HL4.out] at hp
                  obtain ⟨g4, rfl, _, _⟩ := own_at H4.out.2.2.2.2.2.1 (by rw [HL4.out]; omega)
                  have hc4 : wr.cell? ⟨g4, b, none⟩ = some (.int .i64 ((lefts out n).getD b 0)) := OwnI.cell (own_chg H4.out.2.2.2.2.2.1 HK.out.2.2.1 fun _ _ => id) (by rw [HL4.out]; omega)
                  rw [hp.1] at hc4
                  have hbi : (b : Int) < L4 := by omega
                  have hbl : b < L4 := hp.2
                  have HI := Lib.hid hno
                  clear hs2 hno hp
                  go_wp2_with fail
                  go_roundw
                  case rel => exact ⟨k + 1, by omega, by go_num, by rw [HA.out]; first | done | rfl, by rw [lefts_yes HI.out, List.length_append, HK.out.2.2.2.2]; rfl, HK.out.2.2.1⟩
                  case measure => simp [intOf]; omega
          · have hB : B.getD k false = true := hbt.2 ⟨⟨hf0, hfn⟩, hiff.1 rfl⟩
            have hp := reachL_pick hlt hB
            rw [HK.out.2.2.2.1, HL3.out] at hp
            obtain ⟨g3, rfl, _, _⟩ := own_at H4.out.1 (by rw [HL3.out]; omega)
            have hc3 : wr.cell? ⟨g3, a, none⟩ = some (.int .i64 ((reachL B n).getD a 0)) := OwnI.cell (own_chg H4.out.1 HK.out.2.2.1 fun _ _ => id) (by rw [HL3.out]; omega)
            rw [hp.1] at hc3
            have hai : (a : Int) < L3 := by omega
            have hal : a < L3 := hp.2
            have HA := Lib.hid (show (reachL B (k + 1)).length = a + 1 by rw [reachL_yes hB, List.length_append, HK.out.2.2.2.1]; rfl)
            clear hm hiff hbt ht hgf hp
            have hmk := H4.out.2.2.1.new HK.out.2.2.1
            have z1 := hmk.row hlt
            have z2 := hmk.cell hlt (H4.out.2.2.2.1.len k hlt) hlt
            obtain ⟨gk, hgk⟩ : ∃ gk, g + 1 + k = gk := ⟨_, rfl⟩
            obtain ⟨s0, hs0⟩ : ∃ s, matAt M k k = s := ⟨_, rfl⟩
            rw [hgk] at z1 z2
            rw [hs0] at z2
            have HS0 := Lib.hid hs0
            clear hmk hgk hs0
            go_wp2_with fail
            go_loopw [13, 14, 80] (fun sv _ iv wx => ∃ i : Nat, i ≤ n ∧ iv = .int .i64 i ∧ sv = .bool (stuckB M k i) ∧ wx = wr) (fun _ _ iv _ => n - (intOf iv).toNat)
            case atStart => exact ⟨0, by omega, by go_num, by rw [stuck_zero, HS0.out], rfl⟩
            case round =>
              obtain ⟨i, hi, rfl, rfl, rfl⟩ := hrel
              by_cases hli : i < n
              · have hii : (i : Int) < n := by omega
                have hm := H4.out.2.2.1.new HK.out.2.2.1
                have q1 := hm.row hli
                have q2 := hm.cell hli (H4.out.2.2.2.1.len i hli) hli
                have q3 := hm.cell hli (H4.out.2.2.2.1.len i hli) hlt
                have hsu := stuck_succ M k i
                obtain ⟨s, hs⟩ : ∃ s, stuckB M k i = s := ⟨_, rfl⟩
                obtain ⟨x1, hx1⟩ : ∃ x, matAt M i i = x := ⟨_, rfl⟩
                obtain ⟨x2, hx2⟩ : ∃ x, matAt M i k = x := ⟨_, rfl⟩
                rw [hs, hx1, hx2] at hsu
                rw [hx1] at q2
                rw [hx2] at q3
                obtain ⟨gi, hgi⟩ : ∃ gi, g + 1 + i = gi := ⟨_, rfl⟩
                rw [hgi] at q1 q2 q3
                have HS := Lib.hid hsu
                rw [hs]
                clear hm hsu hs hx1 hx2 hgi z1 z2
                cases s
                · cases x1
                  · go_wp2_with fail
                    go_roundw
                    case rel => exact ⟨i + 1, by omega, by go_num, by rw [HS.out]; rfl, by first | trivial | rfl⟩
                    case measure => simp [intOf]; omega
                  · go_wp2_with fail
                    go_roundw
                    case rel => exact ⟨i + 1, by omega, by go_num, by rw [HS.out]; rfl, by first | trivial | rfl⟩
                    case measure => simp [intOf]; omega
                · go_wp2_with fail
                  go_roundw
                  case rel => exact ⟨i + 1, by omega, by go_num, by rw [HS.out]; rfl, by first | trivial | rfl⟩
                  case measure => simp [intOf]; omega
              · obtain rfl : n = i := by omega
                have hs2 := HK.out.2.1
                obtain ⟨s, hs⟩ : ∃ s, stuckB M k n = s := ⟨_, rfl⟩
                rw [hs] at hs2 ⊢
                clear hs
                cases s
                · have hin : (k : Int) ∈ out := Classical.byContradiction fun h => absurd (hs2.2 h) (by simp)
                  have HI := Lib.hid hin
                  clear hs2 hin
                  go_wp2_with fail
                  go_roundw
                  case rel => exact ⟨k + 1, by omega, by go_num, by rw [HA.out]; first | done | rfl, by rw [lefts_not HI.out, HK.out.2.2.2.2], HK.out.2.2.1⟩
                  case measure => simp [intOf]; omega
                · have hno := hs2.1 rfl
                  have hp := lefts_pick hlt hno
                  rw [HK.out.2.2.2.2, HL4.out] at hp
                  obtain ⟨g4, rfl, _, _⟩ := own_at H4.out.2.2.2.2.2.1 (by rw [HL4.out]; omega)
                  have hc4 : wr.cell? ⟨g4, b, none⟩ = some (.int .i64 ((lefts out n).getD b 0)) := OwnI.cell (own_chg H4.out.2.2.2.2.2.1 HK.out.2.2.1 fun _ _ => id) (by rw [HL4.out]; omega)
                  rw [hp.1] at hc4
                  have hbi : (b : Int) < L4 := by omega
                  have hbl : b < L4 := hp.2
                  have HI := Lib.hid hno
                  clear hs2 hno hp
                  go_wp2_with fail
                  go_roundw
                  case rel => exact ⟨k + 1, by omega, by go_num, by rw [HA.out]; first | done | rfl, by rw [lefts_yes HI.out, List.length_append, HK.out.2.2.2.2]; rfl, HK.out.2.2.1⟩
                  case measure => simp [intOf]; omega
        · have hB : B.getD k false = false := by
            rw [Bool.eq_false_iff]
            intro e
            exact hfn (HK.out.1.1 e).1.2
          have HA := Lib.hid (show (reachL B (k + 1)).length = a by rw [reachL_not hB, HK.out.2.2.2.1])
          clear hB
          have hmk := H4.out.2.2.1.new HK.out.2.2.1
          have z1 := hmk.row hlt
          have z2 := hmk.cell hlt (H4.out.2.2.2.1.len k hlt) hlt
          obtain ⟨gk, hgk⟩ : ∃ gk, g + 1 + k = gk := ⟨_, rfl⟩
          obtain ⟨s0, hs0⟩ : ∃ s, matAt M k k = s := ⟨_, rfl⟩
          rw [hgk] at z1 z2
          rw [hs0] at z2
          have HS0 := Lib.hid hs0
          clear hmk hgk hs0
          go_wp2_with fail
          go_loopw [13, 14, 80] (fun sv _ iv wx => ∃ i : Nat, i ≤ n ∧ iv = .int .i64 i ∧ sv = .bool (stuckB M k i) ∧ wx = wr) (fun _ _ iv _ => n - (intOf iv).toNat)
          case atStart => exact ⟨0, by omega, by go_num, by rw [stuck_zero, HS0.out], rfl⟩
          case round =>
            obtain ⟨i, hi, rfl, rfl, rfl⟩ := hrel
            by_cases hli : i < n
            · have hii : (i : Int) < n := by omega
              have hm := H4.out.2.2.1.new HK.out.2.2.1
              have q1 := hm.row hli
              have q2 := hm.cell hli (H4.out.2.2.2.1.len i hli) hli
              have q3 := hm.cell hli (H4.out.2.2.2.1.len i hli) hlt
              have hsu := stuck_succ M k i
              obtain ⟨s, hs⟩ : ∃ s, stuckB M k i = s := ⟨_, rfl⟩
              obtain ⟨x1, hx1⟩ : ∃ x, matAt M i i = x := ⟨_, rfl⟩
              obtain ⟨x2, hx2⟩ : ∃ x, matAt M i k = x := ⟨_, rfl⟩
              rw [hs, hx1, hx2] at hsu
              rw [hx1] at q2
              rw [hx2] at q3
              obtain ⟨gi, hgi⟩ : ∃ gi, g + 1 + i = gi := ⟨_, rfl⟩
              rw [hgi] at q1 q2 q3
              have HS := Lib.hid hsu
              rw [hs]
              clear hm hsu hs hx1 hx2 hgi z1 z2
              cases s
              · cases x1
                · go_wp2_with fail
                  go_roundw
                  case rel => exact ⟨i + 1, by omega, by go_num, by rw [HS.out]; rfl, by first | trivial | rfl⟩
                  case measure => simp [intOf]; omega
                · go_wp2_with fail
                  go_roundw
                  case rel => exact ⟨i + 1, by omega, by go_num, by rw [HS.out]; rfl, by first | trivial | rfl⟩
                  case measure => simp [intOf]; omega
              · go_wp2_with fail
                go_roundw
                case rel => exact ⟨i + 1, by omega, by go_num, by rw [HS.out]; rfl, by first | trivial | rfl⟩
                case measure => simp [intOf]; omega
            · obtain rfl : n = i := by omega
              have hs2 := HK.out.2.1
              obtain ⟨s, hs⟩ : ∃ s, stuckB M k n = s := ⟨_, rfl⟩
              rw [hs] at hs2 ⊢
              clear hs
              cases s
              · have hin : (k : Int) ∈ out := Classical.byContradiction fun h => absurd (hs2.2 h) (by simp)
                have HI := Lib.hid hin
                clear hs2 hin
                go_wp2_with fail
                go_roundw
                case rel => exact ⟨k + 1, by omega, by go_num, by rw [HA.out]; first | done | rfl, by rw [lefts_not HI.out, HK.out.2.2.2.2], HK.out.2.2.1⟩
                case measure => simp [intOf]; omega
              · have hno := hs2.1 rfl
                have hp := lefts_pick hlt hno
                rw [HK.out.2.2.2.2, HL4.out] at hp
                obtain ⟨g4, rfl, _, _⟩ := own_at H4.out.2.2.2.2.2.1 (by rw [HL4.out]; omega)
                have hc4 : wr.cell? ⟨g4, b, none⟩ = some (.int .i64 ((lefts out n).getD b 0)) := OwnI.cell (own_chg H4.out.2.2.2.2.2.1 HK.out.2.2.1 fun _ _ => id) (by rw [HL4.out]; omega)
                rw [hp.1] at hc4
                have hbi : (b : Int) < L4 := by omega
                have hbl : b < L4 := hp.2
                have HI := Lib.hid hno
                clear hs2 hno hp
                go_wp2_with fail
                go_roundw
                case rel => exact ⟨k + 1, by omega, by go_num, by rw [HA.out]; first | done | rfl, by rw [lefts_yes HI.out, List.length_append, HK.out.2.2.2.2]; rfl, HK.out.2.2.1⟩
                case measure => simp [intOf]; omega
      · have hB : B.getD k false = false := by
          rw [Bool.eq_false_iff]
          intro e
          exact hf0 (HK.out.1.1 e).1.1
        have HA := Lib.hid (show (reachL B (k + 1)).length = a by rw [reachL_not hB, HK.out.2.2.2.1])
        clear hB
        have hmk := H4.out.2.2.1.new HK.out.2.2.1
        have z1 := hmk.row hlt
        have z2 := hmk.cell hlt (H4.out.2.2.2.1.len k hlt) hlt
        obtain ⟨gk, hgk⟩ : ∃ gk, g + 1 + k = gk := ⟨_, rfl⟩
        obtain ⟨s0, hs0⟩ : ∃ s, matAt M k k = s := ⟨_, rfl⟩
        rw [hgk] at z1 z2
        rw [hs0] at z2
        have HS0 := Lib.hid hs0
        clear hmk hgk hs0
        go_wp2_with fail
        go_loopw [13, 14, 80] (fun sv _ iv wx => ∃ i : Nat, i ≤ n ∧ iv = .int .i64 i ∧ sv = .bool (stuckB M k i) ∧ wx = wr) (fun _ _ iv _ => n - (intOf iv).toNat)
        case atStart => exact ⟨0, by omega, by go_num, by rw [stuck_zero, HS0.out], rfl⟩
        case round =>
          obtain ⟨i, hi, rfl, rfl, rfl⟩ := hrel
          by_cases hli : i < n
          · have hii : (i : Int) < n := by omega
            have hm := H4.out.2.2.1.new HK.out.2.2.1
            have q1 := hm.row hli
            have q2 := hm.cell hli (H4.out.2.2.2.1.len i hli) hli
            have q3 := hm.cell hli (H4.out.2.2.2.1.len i hli) hlt
            have hsu := stuck_succ M k i
            obtain ⟨s, hs⟩ : ∃ s, stuckB M k i = s := ⟨_, rfl⟩
            obtain ⟨x1, hx1⟩ : ∃ x, matAt M i i = x := ⟨_, rfl⟩
            obtain ⟨x2, hx2⟩ : ∃ x, matAt M i k = x := ⟨_, rfl⟩
            rw [hs, hx1, hx2] at hsu
            rw [hx1] at q2
            rw [hx2] at q3
            obtain ⟨gi, hgi⟩ : ∃ gi, g + 1 + i = gi := ⟨_, rfl⟩
            rw [hgi] at q1 q2 q3
            have HS := Lib.hid hsu
            rw [hs]
            clear hm hsu hs hx1 hx2 hgi z1 z2
            cases s
            · cases x1
              · go_wp2_with fail
                go_roundw
                case rel => exact ⟨i + 1, by omega, by go_num, by rw [HS.out]; rfl, by first | trivial | rfl⟩
                case measure => simp [intOf]; omega
              · go_wp2_with fail
                go_roundw
                case rel => exact ⟨i + 1, by omega, by go_num, by rw [HS.out]; rfl, by first | trivial | rfl⟩
                case measure => simp [intOf]; omega
            · go_wp2_with fail
              go_roundw
              case rel => exact ⟨i + 1, by omega, by go_num, by rw [HS.out]; rfl, by first | trivial | rfl⟩
              case measure => simp [intOf]; omega
          · obtain rfl : n = i := by omega
            have hs2 := HK.out.2.1
            obtain ⟨s, hs⟩ : ∃ s, stuckB M k n = s := ⟨_, rfl⟩
            rw [hs] at hs2 ⊢
            clear hs
            cases s
            · have hin : (k : Int) ∈ out := Classical.byContradiction fun h => absurd (hs2.2 h) (by simp)
              have HI := Lib.hid hin
              clear hs2 hin
              go_wp2_with fail
              go_roundw
              case rel => exact ⟨k + 1, by omega, by go_num, by rw [HA.out]; first | done | rfl, by rw [lefts_not HI.out, HK.out.2.2.2.2], HK.out.2.2.1⟩
              case measure => simp [intOf]; omega
            · have hno := hs2.1 rfl
              have hp := lefts_pick hlt hno
              rw [HK.out.2.2.2.2, HL4.out] at hp
              obtain ⟨g4, rfl, _, _⟩ := own_at H4.out.2.2.2.2.2.1 (by rw [HL4.out]; omega)
              have hc4 : wr.cell? ⟨g4, b, none⟩ = some (.int .i64 ((lefts out n).getD b 0)) := OwnI.cell (own_chg H4.out.2.2.2.2.2.1 HK.out.2.2.1 fun _ _ => id) (by rw [HL4.out]; omega)
              rw [hp.1] at hc4
              have hbi : (b : Int) < L4 := by omega
              have hbl : b < L4 := hp.2
              have HI := Lib.hid hno
              clear hs2 hno hp
              go_wp2_with fail
              go_roundw
              case rel => exact ⟨k + 1, by omega, by go_num, by rw [HA.out]; first | done | rfl, by rw [lefts_yes HI.out, List.length_append, HK.out.2.2.2.2]; rfl, HK.out.2.2.1⟩
              case measure => simp [intOf]; omega
    · obtain rfl : n = k := by omega
      have HZ := Lib.hid (H4.out.2.2.2.2.1.trans nw fun _ _ => id)
      rw [HL3.out, HL4.out]
      clear nw ha hb
      go_wp2_with fail
      go_ret
      exact ⟨rfl, HZ.out⟩
theorem reach_args {H : Type} {enc : TypeId × Value → H} {W : World} {base : Nat} {args : Array Value} {ds : List (DataW H)} {ps : List MemPlace}
    (hval : ∀ (j : Nat) t v, Try.f4.params[j]? = some t → args[j]? = some v → Value.okWide Try.prog W .any base t v)
    (hw : ∀ (j : Nat) t d, Try.f4.params.toList[j]? = some t → ds[j]? = some d → ∀ n ∈ d.weights Try.prog t, n ≤ reachBytes)
    (hA : DataW.TrodAll enc Try.prog W 0 (fun _ => true) true Try.f4.params.toList args.toList ds ps) :
    Calls Try.prog 4 args W fun e w' => LawEnd W e w' := by
  rw [Try.params4] at hA hval hw
  obtain ⟨v0, v1, v2, d0, d1, d2, p0, p1, p2, rfl, rfl, rfl, h0, h1, h2⟩ := trodAll_three hA
  have o0 := hval 0 _ v0 rfl rfl
  have q0 := hw 0 _ d0 rfl rfl
  have o1 := hval 1 _ v1 rfl rfl
  have q1 := hw 1 _ d1 rfl rfl
  have o2 := hval 2 _ v2 rfl rfl
  have q2 := hw 2 _ d2 rfl rfl
  obtain ⟨n, rfl, _, _⟩ := open_i64 Try.underlying3 o0 h0
  obtain ⟨f, rfl, _, _⟩ := open_i64 Try.underlying3 o2 h2
  obtain ⟨A, m, c, xs, rfl, hx, _, _, hl, _⟩ := open_struct_ints (B := 16) (s := 2) Try.underlying22 Try.underlying35 (by kernel_rfl) rfl (by omega) (by kernel_rfl)
    (fun j f hj => by match j, hj with | 0, hj => (simp at hj; subst hj; exact Try.underlying3) | 1, hj => (simp at hj; subst hj; exact Try.underlying3)) (by kernel_rfl) (cells_slice Try.underlying22 o1) q1 h1
  obtain ⟨ps, hps, hP⟩ := PAt.of_reads hl hx
  exact lawTopoReach W n m c A ps f hP hps
end Topo
namespace lawTopoReach
theorem own : ownKnob Try.prog.godebug = none := by kernel_rfl
theorem laidOut : laidOutB Try.prog = true := by kernel_rfl
theorem reads : ∀ t ∈ Try.f4.params.toList, Try.prog.readableRec t = true ∧ t < Try.prog.types.size := by
  have h : (Try.f4.params.toList.all fun t => Try.prog.readableRec t && decide (t < Try.prog.types.size)) = true := by kernel_rfl
  intro t ht
  have := List.all_eq_true.1 h t ht
  simpa using this
theorem spec {H : Type} (ds : List (DataW H)) (h : ds.length = 3) : Rows.topoReachSpec.fn H ds = { results := [.lit (.bool true)], args := ds } := by
  match ds, h with
  | [d1, d2, d3], _ => rfl
theorem trodAll_len {H : Type} {enc : TypeId × Value → H} {P : Program} {w : World} {base : Nat} {sp : Nat → Bool} {held : Bool} : ∀ (ts : List TypeId) (vs : List Value) (ds : List (DataW H)) (ps : List MemPlace),
    DataW.TrodAll enc P w base sp held ts vs ds ps → ds.length = ts.length
  | [], _, _, _, h => by
    obtain ⟨_, rfl, _⟩ := trodAll_nil h
    rfl
  | _ :: ts, _, _, _, h => by
    obtain ⟨_, vs, _, ds, _, _, _, rfl, _, _, hr⟩ := trodAll_cons h
    simp [trodAll_len ts vs ds _ hr]
theorem contract (H : Type) (enc : TypeId × Value → H) (W : World) (base : Nat) (args : Array Value) (ds gs : List (DataW H)) (before : List MemPlace)
    (hval : ∀ (j : Nat) t v, Try.f4.params[j]? = some t → args[j]? = some v → Value.okWide Try.prog W .any base t v)
    (hW : DataW.Whole enc Try.prog Try.f4.params.toList Rows.topoReachSpec.vars false W args.toList ds gs before)
    (hz : (DataW.weightsEach Try.prog (Try.f4.params.toList ++ Rows.topoReachSpec.plain.varTypes Try.prog) (ds ++ gs)).all (· ≤ reachBytes) = true) :
    Calls Try.prog 4 args W fun e W' => ∃ v, e = .returned v ∧ Rows.topoReachSpec.post enc Try.prog Try.f4 false true false false W args v W' := by
  obtain ⟨p, q, hA, hV, _⟩ := id hW
  have hlen : ds.length = 3 := (trodAll_len _ _ _ _ hA).trans (by kernel_rfl)
  have hV1 : DataW.TrodVars enc Try.prog W (fun _ => true) [] gs q := hV
  obtain ⟨rfl, rfl⟩ := trodVars_none hV1
  have hw : ∀ (j : Nat) t d, Try.f4.params.toList[j]? = some t → ds[j]? = some d → ∀ n ∈ d.weights Try.prog t, n ≤ reachBytes := by
    intro j t d ht hd n hn
    rw [List.append_nil] at hz
    have hlt : j < Try.f4.params.toList.length := (List.getElem?_eq_some_iff.1 ht).1
    have := List.all_eq_true.1 hz n (DataW.weights_mem_each (by rw [List.getElem?_append_left hlt]; exact ht) hd n hn)
    simpa using this
  refine (Topo.reach_args hval hw hA).mono fun e W' ⟨he, hn⟩ => ?_
  exact ⟨_, he, law_post laidOut (tb := 4) rfl Try.underlying4 reads rfl hW (spec ds hlen) hn.below⟩
set_option maxRecDepth 100000 in
theorem lifted (os : Os) (started : os.Started) (H : Type) (enc : TypeId × Value → H) :
    ReturnsInHanded {} Try.checked os 4 .any (Rows.topoReachSpec.pre6 enc Try.prog Try.f4 Rows.topoReachRow.domain false) (Rows.topoReachSpec.post enc Try.prog Try.f4 false true false false) := by
  refine returnsInHanded_of_change_sized (C := Try.checked) own started (by kernel_rfl) Try.func4
    (ChangeSpec.witness6 (enc := enc) (C := Try.checked) (s := Rows.topoReachSpec) false ⟨#[], #[.int .i64 0, .slice none 0 0, .int .i64 0], []⟩ 60 (by kernel_rfl) (by kernel_rfl) (by kernel_rfl) (by kernel_rfl)) ?_
  intro W base args ds gs before hval hW _ hz _
  exact contract H enc W base args ds gs before hval hW hz
theorem proved : Rows.TopoReachSaid :=
  OpenClaim.holds_of_wide 4 Try.f4 rfl rfl rfl rfl rfl rfl rfl ⟨rfl, rfl, rfl, rfl, rfl⟩ rfl rfl rfl rfl rfl (by kernel_rfl) Try.func4 (by kernel_rfl)
    (of_decide_eq_true (by kernel_rfl)) (by unfold Func.isWrapper; first | (rw [if_pos (by decide +kernel)]; kernel_rfl) | (rw [if_neg (by decide +kernel)]; exact ⟨rfl, rfl⟩))
    (fun os started H enc _ => lifted os started H enc)
end lawTopoReach
end Go.Proofs.Ytonopommbpkfgaa

/-
  The laws' fixed calls, and pairs as arguments (no condition).
-/
import Derived.Test.YtonopommbpkfgaaWars
namespace Go.Proofs.Ytonopommbpkfgaa
open Go.ChangeShapes Go.WideShapes Go.RowKit Go.Deep Heap
namespace Topo
def flat (ps : List (Int × Int)) : List Value := ps.flatMap fun p => [.int .i64 p.1, .int .i64 p.2]
theorem flat_at (ps : List (Int × Int)) (k : Nat) (p : Int × Int) (h : ps[k]? = some p) : (flat ps)[k * 2]? = some (.int .i64 p.1) ∧ (flat ps)[k * 2 + 1]? = some (.int .i64 p.2) := by
  induction ps generalizing k with
  | nil => simp at h
  | cons q ps ih =>
    have e : flat (q :: ps) = .int .i64 q.1 :: .int .i64 q.2 :: flat ps := rfl
    rw [e]
    cases k with
    | zero => simp at h; subst h; exact ⟨rfl, rfl⟩
    | succ k =>
      have := ih k (by simpa using h)
      rw [Nat.add_mul]
      exact this
theorem PAt.of_at {w : World} {A : Option Addr} {ps : List (Int × Int)} (h : ∀ k p, ps[k]? = some p → ∃ ad, A = some ad ∧ ad.block < w.heap.size ∧ w.cell? (ad.add (k * 2)) = some (.int .i64 p.1) ∧ w.cell? (ad.add (k * 2 + 1)) = some (.int .i64 p.2)) : PAt w A ps := fun k p hp => by
  obtain ⟨ad, e, hb, h1, h2⟩ := h k p hp
  refine ⟨ad, e, fun W hW => ?_⟩
  refine run_LoadRow_at (P := Try.prog) (n := 2) Try.underlying35 rfl (by kernel_rfl) rfl fun j v hv => ?_
  rw [add_of_add, hW.cell (by rw [block_of_add]; exact hb) id]
  cases j with
  | zero => simp at hv; rw [← hv]; exact h1
  | succ j => cases j with
    | zero => simp at hv; rw [← hv]; exact h2
    | succ j => simp at hv
theorem PAt.lit {w : World} {g : Nat} {t : TypeId} {cs : Array Value} (ps : List (Int × Int)) (h : Blk w g t cs) (e : cs = (flat ps).toArray) : PAt w (some ⟨g, 0, none⟩) ps := by
  subst e
  refine PAt.of_at fun k p hp => ⟨_, rfl, h.lt, ?_⟩
  have := flat_at ps k p hp
  simp only [add_plain, Nat.zero_add]
  rw [h.cell, h.cell]
  simpa using this
theorem PAt.of_reads {w : World} {A : Option Addr} {n : Nat} {xs : List Int} (h : Reads w (fun b => b < w.heap.size) 2 A n (ints xs)) (hl : xs.length = n * 2) : ∃ ps, ps.length = n ∧ PAt w A ps := by
  refine ⟨(List.range n).map fun k => (xs.getD (k * 2) 0, xs.getD (k * 2 + 1) 0), by simp, PAt.of_at fun k p hp => ?_⟩
  have hk : k < n := by
    have := (List.getElem?_eq_some_iff.1 hp).1
    simpa using this
  obtain ⟨ad, e, hb, hc⟩ := h.at0 (by omega)
  have hp : (xs.getD (k * 2) 0, xs.getD (k * 2 + 1) 0) = p := by simpa [hk] using hp
  subst hp
  refine ⟨ad, e, hb, hc _ _ ?_, hc _ _ ?_⟩
  · rw [ints_get, List.getElem?_eq_getElem (by omega)]; simp [List.getD_eq_getElem?_getD, List.getElem?_eq_getElem (show k * 2 < xs.length by omega)]
  · rw [ints_get, List.getElem?_eq_getElem (by omega)]; simp [List.getD_eq_getElem?_getD, List.getElem?_eq_getElem (show k * 2 + 1 < xs.length by omega)]
theorem reach_no (w : World) (n : Int) (f : Int) (h : n < 0 ∨ 256 < n ∨ f < 0 ∨ n ≤ f) (v : Value) : Calls Try.prog 10 #[.int .i64 n, v, .int .i64 f] w fun e w' => e = .returned (.slice none 0 0) ∧ w' = w := by
  by_cases hr : n < 0 ∨ 256 < n
  · have C := Lib.hid (right_no w n hr)
    clear h hr
    go_enter Try.func10, Try.ntmps10
    go_wp2_with fail
    refine C.out.mono ?_
    rintro e w1 ⟨rfl, rfl⟩
    clear C
    go_wp2_with fail
    go_ret
    exact ⟨rfl, rfl⟩
  · obtain ⟨m, rfl⟩ : ∃ m : Nat, n = (m : Int) := ⟨n.toNat, by omega⟩
    have C := Lib.hid (right_yes w m (by omega))
    by_cases h0 : f < 0
    · clear h hr
      go_enter Try.func10, Try.ntmps10
      go_wp2_with fail
      refine C.out.mono ?_
      rintro e w1 ⟨rfl, rfl⟩
      clear C
      go_wp2_with fail
      go_ret
      exact ⟨rfl, rfl⟩
    · have h1 : (m : Int) ≤ f := by omega
      clear h hr
      go_enter Try.func10, Try.ntmps10
      go_wp2_with fail
      refine C.out.mono ?_
      rintro e w1 ⟨rfl, rfl⟩
      clear C
      go_wp2_with fail
      go_ret
      exact ⟨rfl, rfl⟩
set_option maxHeartbeats 4000000 in
set_option maxRecDepth 20000 in
theorem fixed (w : World) : Calls Try.prog 7 #[] w fun e w' => e = .returned (.bool true) ∧ New w w' := by
  have C1 := Lib.hid fun (W : World) (A : Option Addr) (hP : PAt W A [(2, 0)]) => order W 3 1 1 (by omega) A [(2, 0)] hP rfl (by omega)
  have C2 := Lib.hid fun (W : World) (A : Option Addr) (hP : PAt W A [(0, 1), (1, 0)]) => order W 2 2 2 (by omega) A [(0, 1), (1, 0)] hP rfl (by omega)
  have C3 := Lib.hid fun (W : World) (A : Option Addr) (hP : PAt W A [(0, 1), (1, 2)]) => levels W 3 2 2 (by omega) A [(0, 1), (1, 2)] hP rfl (by omega)
  have C4 := Lib.hid fun (W : World) (A : Option Addr) (hP : PAt W A [(1, 1), (1, 2)]) => left W 3 2 2 (by omega) A [(1, 1), (1, 2)] hP rfl (by omega)
  have C5 := Lib.hid fun (W : World) (A : Option Addr) (hP : PAt W A [(0, 1)]) => reach W 3 1 1 0 (by omega) (by omega) A [(0, 1)] hP rfl (by omega)
  go_enter Try.func7, Try.ntmps7
  go_wp2_with fail
  refine (C1.out _ _ (PAt.lit _ (Blk.new w _ _) (by rfl))).mono ?_
  rintro e w1 ⟨v1, o1, x1, a1, V1, rfl, h1, inv1, n1⟩
  obtain rfl := fix1 inv1
  have N1 := Lib.hid (((Chg.refl (fun _ => False) w).alloc _).trans n1 fun _ _ => id)
  have h1 : OwnI w1 _ v1 [1, 2, 0] := h1
  obtain ⟨A1, c1, rfl⟩ := h1.form
  obtain ⟨g1, rfl⟩ : ∃ g, A1 = some ⟨g, 0, none⟩ := by
    rcases h1.2 with ⟨e, _⟩ | ⟨g, cap, cur, e, _⟩
    · injection e with _ e; cases e
    · injection e with e; exact ⟨g, e⟩
  have H1 := Lib.hid h1
  rw [show decide (([1, 2, 0] : List Int).length = 3) = true from rfl]
  clear h1 inv1 n1 C1
  try simp only [List.length_cons, List.length_nil, Nat.zero_add, Nat.reduceAdd]
  go_wp2_with fail
  refine (C2.out _ _ (PAt.lit _ (Blk.new w1 _ _) (by rfl))).mono ?_
  rintro e w2 ⟨v2, o2, x2, a2, V2, rfl, _, inv2, n2⟩
  rw [decide_eq_false (fix2 inv2)]
  have M2 := ((Chg.refl (fun _ => False) w1).alloc _).trans n2 fun _ _ => id
  have N2 := Lib.hid (N1.out.trans M2 fun _ _ => id)
  have H2 := Lib.hid (own_chg H1.out M2 fun _ _ => id)
  clear inv2 n2 C2 H1 N1 M2
  go_wp2_with fail
  refine (C3.out _ _ (PAt.lit _ (Blk.new w2 _ _) (by rfl))).mono ?_
  rintro e w3 ⟨v3, o3, x3, a3, V3, W3, rfl, h3, inv3, k3, n3⟩
  have hl3 := (fix3 inv3).1
  obtain ⟨hW3, _, _, _, inv3'⟩ := k3 hl3
  have hv2 := (fix3 inv3').2
  try simp only [] at hv2
  rw [if_pos hl3] at h3
  rw [decide_eq_true hl3]
  obtain ⟨A3, c3, rfl⟩ := h3.form
  obtain ⟨g3, rfl⟩ : ∃ g, A3 = some ⟨g, 0, none⟩ := by
    rcases h3.2 with ⟨e, h0⟩ | ⟨g, cap, cur, e, _⟩
    · omega
    · injection e with e; exact ⟨g, e⟩
  have M3 := ((Chg.refl (fun _ => False) w2).alloc _).trans n3 fun _ _ => id
  have N3 := Lib.hid (N2.out.trans M3 fun _ _ => id)
  have H3 := Lib.hid (And.intro (own_chg H2.out M3 fun _ _ => id) (And.intro h3 (And.intro hv2 hW3)))
  rw [hW3]
  clear inv3 inv3' k3 n3 C3 H2 N2 M3 h3 hv2 hW3 hl3
  go_wp2_with fail
  refine (C4.out _ _ (PAt.lit _ (Blk.new w3 _ _) (by rfl))).mono ?_
  rintro e w4 ⟨v4, o4, x4, a4, V4, rfl, h4, inv4, n4⟩
  have hf4 := fix4 inv4
  have e4 : lefts o4 3 = [1, 2] := by
    have h0 : lefts o4 0 = [] := rfl
    rw [show (3 : Nat) = 0 + 1 + 1 + 1 from rfl, lefts_yes hf4.2.2, lefts_yes hf4.2.1, lefts_not hf4.1, h0]
    rfl
  rw [e4] at h4
  obtain ⟨A4, c4, rfl⟩ := h4.form
  obtain ⟨g4, rfl⟩ : ∃ g, A4 = some ⟨g, 0, none⟩ := by
    rcases h4.2 with ⟨e, h0⟩ | ⟨g, cap, cur, e, _⟩
    · cases h0
    · injection e with e; exact ⟨g, e⟩
  have M4 := ((Chg.refl (fun _ => False) w3).alloc _).trans n4 fun _ _ => id
  have N4 := Lib.hid (N3.out.trans M4 fun _ _ => id)
  have k1 := own_chg H3.out.1 M4 fun _ _ => id
  have k3 := own_chg H3.out.2.1 M4 fun _ _ => id
  have d10 : w4.cell? ⟨g1, 0, none⟩ = some (.int .i64 1) := OwnI.cell k1 (i := 0) (by simp)
  have d12 : w4.cell? ⟨g1, 2, none⟩ = some (.int .i64 0) := OwnI.cell k1 (i := 2) (by simp)
  have d32 : w4.cell? ⟨g3, 2, none⟩ = some (.int .i64 2) := by
    have := OwnI.cell k3 (i := 2) (by rw [H3.out.2.2.2]; omega)
    rw [H3.out.2.2.1] at this
    exact this
  have d40 : w4.cell? ⟨g4, 0, none⟩ = some (.int .i64 1) := OwnI.cell h4 (i := 0) (by simp)
  clear C4 N3 H3 hf4 inv4 n4 M4 k1 k3 h4 e4
  try simp only [List.length_cons, List.length_nil, Nat.zero_add, Nat.reduceAdd]
  go_wp2_with fail
  refine (C5.out _ _ (PAt.lit _ (Blk.new w4 _ _) (by rfl))).mono ?_
  rintro e w5 ⟨v5, B5, x5, rfl, h5, inv5, n5⟩
  obtain rfl := fix5 inv5
  obtain ⟨A5, c5, rfl⟩ := h5.form
  have N5 := Lib.hid ((N4.out.trans ((Chg.refl (fun _ => False) w4).alloc _) fun _ _ => id).trans n5 fun _ _ => id)
  rw [show (reachL [false, true, false] 3).length = 1 from rfl]
  clear C5 N4 h5 inv5 n5
  go_wp2_with fail
  go_ret
  exact ⟨rfl, N5.out⟩
end Topo
end Go.Proofs.Ytonopommbpkfgaa

/-
  What the program's frame package and the document's reference compute of rows of frames: all payloads, where they end, and what is wrong there (no condition beyond the sizes).
-/
import Derived.Test.YthgpphedpegbgaaFrameRef
import Derived.Outline
namespace Go.Proofs.Ythgpphedpegbgaa
open Go.ChangeShapes Go.WideShapes Go.RowKit
namespace Frame
theorem Part.chg {w w' : World} {F S : Nat → Prop} {v : Value} {p : List UInt8} (h : Part w F v p) (hc : Chg S w w') (hF : ∀ b, F b → ¬ S b) : Part w' F v p := by
  obtain ⟨A, c, rfl, hl, hr⟩ := h
  exact ⟨A, c, rfl, hl, hr.chg' hc hF (by omega)⟩
theorem Part.one {w : World} {F : Nat → Prop} {v : Value} {p : List UInt8} (h : Part w F v p) : v.oneCell' = true := by
  obtain ⟨A, c, rfl, _, _⟩ := h
  rfl
/-- v is a slice of the call's own whose elements are slices of the bytes ps -/
structure PartsL (lo : Nat) (w : World) (base : Nat) (v : Value) (ps : List (List UInt8)) : Prop where
  ex : ∃ vs : List Value, w.ownsRow base 36 1 v ps.length vs ∧ ∀ (i : Nat) (p : List UInt8), ps[i]? = some p → ∃ u, vs[i]? = some u ∧ Part w (fun b => lo ≤ b ∧ b < w.heap.size ∧ v.ownBlock ≠ some b) u p
abbrev Parts := PartsL 0
theorem PartsL.nil (lo : Nat) (w : World) (base : Nat) : PartsL lo w base (.slice none 0 0) [] := ⟨⟨[], World.ownsRow_nil _ _ _ _, fun i p h => by simp at h⟩⟩
theorem PartsL.new {lo : Nat} {w w' : World} {base : Nat} {v : Value} {ps : List (List UInt8)} (h : PartsL lo w base v ps) (hc : New w w') : PartsL lo w' base v ps := by
  obtain ⟨vs, ho, hp⟩ := h.ex
  refine ⟨⟨vs, own_chg ho hc (fun _ _ => id), fun i p hi => ?_⟩⟩
  obtain ⟨u, hu, hq⟩ := hp i p hi
  exact ⟨u, hu, (hq.new hc).mono fun b hb => ⟨hb.1, Nat.lt_of_lt_of_le hb.2.1 hc.size, hb.2.2⟩⟩
theorem PartsL.mono {lo : Nat} {w : World} {base base' : Nat} {v : Value} {ps : List (List UInt8)} (h : PartsL lo w base v ps) (hb : base' ≤ base) : PartsL lo w base' v ps := by
  obtain ⟨vs, ho, hp⟩ := h.ex
  exact ⟨⟨vs, own_mono ho hb, hp⟩⟩
theorem partInfo : (Try.prog.info? 36).map (fun i => (i.zero, i.size, i.bytes)) = some (some (.slice none 0 0), 1, 24) := by kernel_rfl
/-- out = append(out, payload) -/
theorem append_part {lo : Nat} (w : World) {ops : Array Oper} {rest : List Oper} {o : Oper} {a : Act} {Q : Exit → Act → World → Prop} (hgd : o.guard = none) (s x : Operand)
    (ho : o.op = .call { callee := .builtin .append, args := #[s, x], argTypes := #[37, 37] })
    (base : Nat) (v : Value) (ps : List (List UInt8)) (hs : a.eval s = v) (hp : PartsL lo w base v ps) (u : Value) (p : List UInt8) (G : Nat → Prop) (hu : Part w G u p) (hG : ∀ b, G b → lo ≤ b ∧ b < w.heap.size ∧ v.ownBlock ≠ some b)
    (g c : Nat) (hx : a.eval x = .slice (some ⟨g, 0, none⟩) 1 c) (hg : Reads w (fun b => b = g) 1 (some ⟨g, 0, none⟩) 1 [u])
    (hb : ps.length ≤ 1099511627776) (hbase : base ≤ w.heap.size)
    (h : ∀ v' w', PartsL lo w' base v' (ps ++ [p]) → w.grownBy w' v.ownBlock → (v'.ownBlock = v.ownBlock ∨ v'.ownBlock = some w.heap.size) → wpList Try.prog ops Q rest (a.put o.dst v') w') : wpList Try.prog ops Q (o :: rest) a w := by
  obtain ⟨i, hi, hz0, hz1, hz2⟩ := info_parts partInfo
  obtain ⟨vs, hown, hps⟩ := hp.ex
  refine wpList_append_any w hgd s x _ ho base _ i _ 1 24 Try.underlying37 hi hz0 hz1 hz2 rfl (by omega) v ps.length vs hs hown (fun b => b = g) (some ⟨g, 0, none⟩) 1 c [u] hx hg (fun y hy => by
    rw [List.mem_singleton.1 hy]; exact hu.one) (by simp only [maxLen]; omega) (by omega) hbase ?_
  intro v' w' ho' hgr hat
  refine h v' w' ⟨⟨vs ++ [u], by rw [List.length_append]; exact ho', fun j q hj => ?_⟩⟩ hgr hat
  have hvl : vs.length = ps.length := by have := hown.1; omega
  have hF : ∀ b, (lo ≤ b ∧ b < w.heap.size ∧ v.ownBlock ≠ some b) → lo ≤ b ∧ b < w'.heap.size ∧ v'.ownBlock ≠ some b := fun b hb => by
    refine ⟨hb.1, Nat.lt_of_lt_of_le hb.2.1 hgr.size, ?_⟩
    rcases hat with e | e
    · rw [e]; exact hb.2.2
    · rw [e]; intro e2; injection e2 with e2; omega
  have hkeep : ∀ {F : Nat → Prop} {y : Value} {r : List UInt8}, Part w F y r → (∀ b, F b → lo ≤ b ∧ b < w.heap.size ∧ v.ownBlock ≠ some b) → Part w' (fun b => lo ≤ b ∧ b < w'.heap.size ∧ v'.ownBlock ≠ some b) y r := fun h0 hf => by
    obtain ⟨A, c, rfl, hl, hr⟩ := h0
    exact ⟨A, c, rfl, hl, (hr.keep fun b hb => hgr.block b (hf b hb).2.1 (fun e => (hf b hb).2.2 e.symm)).mono fun b hb => hF b (hf b hb)⟩
  by_cases hlt : j < ps.length
  · rw [List.getElem?_append_left hlt] at hj
    obtain ⟨y, hy, hq⟩ := hps j q hj
    exact ⟨y, by rw [List.getElem?_append_left (by omega)]; exact hy, hkeep hq fun b hb => hb⟩
  · rw [List.getElem?_append_right (by omega)] at hj
    have hj0 : j = ps.length := by
      rcases Nat.lt_or_ge (j - ps.length) 1 with h1 | h1
      · omega
      · rw [List.getElem?_eq_none (by simpa using h1)] at hj; cases hj
    subst hj0
    rw [Nat.sub_self] at hj
    injection hj with hj
    subst hj
    exact ⟨u, by rw [← hvl]; simp, hkeep hu hG⟩
set_option maxHeartbeats 4000000 in
theorem all_ (w : World) (F : Nat → Prop) (A : Option Addr) (n c : Nat) (l : List UInt8) (hl : Reads w F 1 A n (u8s l)) (hF : ∀ b, F b → b < w.heap.size) (hnc : n ≤ c) (hc : n ≤ 140737488351232) (hn40 : n ≤ 1099511627776) :
    Calls Try.prog 33 #[.slice A n c] w fun e w' => ∃ v, e = .returned (.tuple #[v, .int .i64 ((allF l).2.1 : Int), .int .i64 (allF l).2.2]) ∧ PartsL w.heap.size w' w.heap.size v (allF l).1 ∧ New w w' := by
  have hln := hl.u8len
  have HL := Lib.hid hln
  clear hln
  go_enter Try.func33, Try.ntmps33
  go_wp2
  go_loopw [5, 6, 7, 8, 9, 14] (fun v0 i _ _ _ _ wr => ∃ (v : Value) (at_ f : Nat) (out : List (List UInt8)), v = v0 ∧ at_ ≤ n ∧ i = .int .i64 at_ ∧ l.length < at_ + f ∧ allGo l f at_ out = allF l ∧ out.length ≤ at_ ∧ PartsL w.heap.size wr w.heap.size v out ∧ New w wr) (fun _ i _ _ _ _ _ => n - (intOf i).toNat)
  case atStart => exact ⟨_, 0, l.length + 1, [], rfl, by omega, rfl, by omega, rfl, Nat.le_refl _, PartsL.nil _ _ _, Chg.refl _ _⟩
  case round =>
    obtain ⟨v, at_, f, out, rfl, hat, rfl, hf, hgo, hout, hp, hn⟩ := hrel
    by_cases hlt : at_ < n
    · have hE : ∀ (e : Int), takeE (l.drop at_) = e → e ≠ 0 → allF l = (out, at_, e) := fun e h h0 => by rw [← hgo, allGo_bad hf (by rw [HL.out]; exact hlt) (by rw [h]; exact h0), h]
      have hM : takeE (l.drop at_) = 0 → ∃ f', l.length < at_ + takeN (l.drop at_) + f' ∧ allGo l f' (at_ + takeN (l.drop at_)) (out ++ [takeP (l.drop at_)]) = allF l := fun h => by
        obtain ⟨f', h1, h2⟩ := allGo_more (out := out) hf (by rw [HL.out]; exact hlt) h
        exact ⟨f', h1, by rw [← h2, hgo]⟩
      have hNle := takeN_le (l.drop at_)
      rw [List.length_drop, HL.out] at hNle
      have hNpos : takeE (l.drop at_) = 0 → 8 ≤ takeN (l.drop at_) := fun h => by unfold takeN; rw [if_pos h]; omega
      obtain ⟨ad, _, rfl, _⟩ := (hl.chg hn (fun b hb => ⟨hF b hb, id⟩)).at_ hlt
      have hsl : ∀ W, (Instr.sliceAt 36 (.slice (some ad) n c) (some (.int .i64 (at_ : Int))) none none).run Try.prog W = .ok (.slice (some (ad.add at_)) (n - at_) (c - at_)) W := fun W => by
        have := slice_u8_from (some ad) n c at_ hat W
        rw [if_neg (by omega)] at this
        exact this
      have hr := (hl.chg hn (fun b hb => ⟨hF b hb, id⟩)).cutB_lt hlt hnc
      have H1 := Lib.hid hE
      have H2 := Lib.hid hM
      have H3 := Lib.hid hNpos
      have HF2 := Lib.hid (fun b hb => Nat.lt_of_lt_of_le (hF b hb) hn.size)
      have HG := Lib.hid hgo
      clear hE hM hNpos hgo
      go_wp2_with fail
      refine (take wr F (some (ad.add at_)) (n - at_) (c - at_) (l.drop at_) hr HF2.out (by omega) (by omega)).mono ?_
      rintro e w1 ⟨u, rfl, hu, hn1⟩
      have hp1 := hp.new hn1
      have hnn := hn.trans hn1 (fun _ _ => id)
      have hsz := hn.size
      have hsz1 := hn1.size
      have hvlt : ∀ b, v.ownBlock = some b → w.heap.size ≤ b ∧ b < wr.heap.size := fun b hb => by
        obtain ⟨vs, ho, _⟩ := hp.ex
        exact own_lt ho hb
      have hpu := Part.of_own hu
      have hG : ∀ b, (wr.heap.size ≤ b ∧ b < w1.heap.size) → w.heap.size ≤ b ∧ b < w1.heap.size ∧ v.ownBlock ≠ some b := fun b hb => ⟨Nat.le_trans hsz hb.1, hb.2, fun e => by
        have := (hvlt b e).2
        omega⟩
      obtain ⟨G, hGd⟩ : ∃ G : Nat → Prop, G = (fun b => wr.heap.size ≤ b ∧ b < w1.heap.size) := ⟨_, rfl⟩
      rw [← hGd] at hpu
      have HG2 := Lib.hid (show ∀ b, G b → w.heap.size ≤ b ∧ b < w1.heap.size ∧ v.ownBlock ≠ some b from fun b hb => hG b (by rw [hGd] at hb; exact hb))
      clear hGd hG
      clear hp hr hn hn1 hu hvlt HF2
      generalize takeN (l.drop at_) = N at *
      generalize takeE (l.drop at_) = E at *
      generalize takeP (l.drop at_) = P at *
      obtain ⟨A2, c2, rfl, hl2, hr2⟩ := hpu
      have HPU := Lib.hid (show Part w1 G (.slice A2 P.length c2) P from ⟨A2, c2, rfl, hl2, hr2⟩)
      have HPN := Lib.hid hp1
      clear hl2 hr2 hp1
      by_cases hE0 : E = 0
      · have h2 := H2.out hE0
        have h3 := H3.out hE0
        obtain ⟨f', h2a, h2b⟩ := h2
        have HB := Lib.hid h2b
        have HFm := Lib.hid h2a
        subst hE0
        clear h2b h2a
        go_wp2_with (at_builtin; refine stop ?_)
        delta Stop
        refine append_part _ rfl _ _ rfl w.heap.size v out rfl (HPN.out.new ((Chg.refl (fun _ => False) w1).alloc _)) (.slice A2 P.length c2) P G (HPU.out.new ((Chg.refl (fun _ => False) w1).alloc _)) (fun b hb => ⟨(HG2.out b hb).1, Nat.lt_of_lt_of_le (HG2.out b hb).2.1 (by simp), (HG2.out b hb).2.2⟩) w1.heap.size 1 rfl (Reads.of_row (heap_alloc_new w1 _) rfl) (by omega) (by simp; omega) ?_
        intro v' w2 hp2 hgr hat2
        have hvb : ∀ b, v.ownBlock = some b → w.heap.size ≤ b := fun b hb => by
          obtain ⟨vs, ho, _⟩ := HPN.out.ex
          exact (own_lt ho hb).1
        have hn2 : New w w2 := (hnn.alloc _).grown hgr fun b hb hlt => by
          have := hvb b hb
          omega
        clear hgr hat2 hvb
        go_wp2
        go_roundw
        case rel => exact ⟨v', at_ + N, f', out ++ [P], rfl, by omega, by go_num, HFm.out, HB.out, by simp; omega, hp2, hn2⟩
        case measure => simp [intOf]; omega
      · have hEb : (E != 0) = true := by simpa using hE0
        have HA := Lib.hid (H1.out E rfl hE0)
        clear hE0
        go_wp2
        go_ret3
        refine ⟨v, ?_, ?_, hnn⟩
        · rw [HA.out]
          rfl
        · rw [HA.out]
          exact HPN.out
    · obtain rfl : at_ = n := by omega
      have hA : allF l = (out, at_, 0) := by rw [← hgo, allGo_end hf (by rw [HL.out]; exact Nat.le_refl _)]
      have HA := Lib.hid hA
      clear hA hgo
      go_wp2
      go_ret3
      refine ⟨v, ?_, ?_, hn⟩
      · rw [HA.out]
        rfl
      · rw [HA.out]
        exact hp
end Frame
end Go.Proofs.Ythgpphedpegbgaa

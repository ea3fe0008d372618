/-
  hedgerowlaw03.CrcTells returns true for every input: the sum of any bytes, in whatever parts they come, and a sum's bytes, are the reference's (no condition).
-/
import Derived.Test.YtonmkaiogmhhpaaCrcLaw
namespace Go.Proofs.Ytonmkaiogmhhpaa
open Go.ChangeShapes Go.WideShapes Go.RowKit
namespace Crc

set_option maxHeartbeats 2000000 in
set_option maxRecDepth 100000 in
theorem tells (w : World) (A A2 : Option Addr) (n c n2 c2 s : Nat) (l l2 : List UInt8) (hs : s < 4294967296) (hnc : n ≤ c) (hc : c ≤ maxLen) (hc2 : n2 ≤ maxLen)
    (hl : Reads w (fun b => b < w.heap.size) 1 A n (u8s l)) (hl2 : Reads w (fun b => b < w.heap.size) 1 A2 n2 (u8s l2)) :
    Calls Try.prog 3 #[.slice A n c, .slice A2 n2 c2, .int .u32 (s : Int)] w fun e w' => LawEnd w e w' := by
  have hc' := hc
  unfold maxLen at hc hc2
  by_cases hbig : 500 < (n : Int) ∨ 50 < (n2 : Int)
  · go_enter Try.func3, Try.ntmps3
    go_wp2_with fail
    refine (fixed _).mono ?_
    rintro e w1 ⟨rfl, hn1⟩
    by_cases hb1 : 500 < (n : Int)
    · go_wp2
      go_ret
      exact ⟨rfl, hn1⟩
    · have hb2 : 50 < (n2 : Int) := by omega
      clear hbig
      go_wp2
      go_ret
      exact ⟨rfl, hn1⟩
  · have hb1 : (n : Int) ≤ 500 := by omega
    have hb2 : (n2 : Int) ≤ 50 := by omega
    clear hbig
    go_enter Try.func3, Try.ntmps3
    go_wp2_with fail
    refine (fixed _).mono ?_
    rintro e w1 ⟨rfl, hn1⟩
    go_wp2_with fail
    refine (new_ _).mono ?_
    rintro e w2 ⟨b, rfl, hb, hsum, hn2⟩
    have hn := hn1.trans hn2 (fun _ _ => False.elim)
    have hge : w.heap.size ≤ b := Nat.le_trans hn1.size hb
    go_wp2
    go_loopw [8, 10, 11, 27] (fun rest _ _ i wr => ∃ (k : Nat) (A' : Option Addr) (n' c' : Nat) (p q : List UInt8), k ≤ n2 ∧ i = .int .i64 k ∧ rest = .slice A' n' c' ∧ l = p ++ q ∧ n' ≤ c' ∧ c' ≤ c ∧
        Reads wr (fun b => b < w.heap.size) 1 A' n' (u8s q) ∧ SumAt wr b (updL 4294967295 p) ∧ New w wr) (fun _ _ _ i _ => n2 - (intOf i).toNat)
    case atStart => exact ⟨0, A, n, c, [], l, by omega, rfl, rfl, rfl, hnc, by omega, hl.chg hn (fun b hb => ⟨hb, id⟩), hsum, hn⟩
    case round =>
      obtain ⟨k, A', n', c', p, q, hk, rfl, rfl, hpq, hn', hc', hr, hsum', hnw⟩ := hrel
      by_cases hlt : k < n2
      · obtain ⟨ad, ch, rfl, hFa, hch, hcell⟩ := (hl2.chg hnw (fun b hb => ⟨hb, id⟩)).byte hlt
        have HP := Lib.hid hpq
        clear hpq hch
        have hcb := UInt8.toNat_lt ch
        generalize ch.toNat = m at *
        have hql := hr.u8len
        have HQ := Lib.hid hql
        clear hql
        obtain ⟨i0, hi, hz0, hz1, hz2⟩ := info_parts (P := Try.prog) (e := 5) (z := .int .u8 0) (size := 1) (bytes := 1) (by kernel_rfl)
        have HZ := Lib.hid hz1
        clear hz0 hz1 hz2
        by_cases hmn : (m : Int) ≤ n'
        · skip
          have e1 := run_slice_to (P := Try.prog) Try.underlying22 hi A' n' c' m (by omega)
          have e2 := run_slice_from (P := Try.prog) Try.underlying22 hi A' n' c' m (by omega)
          rw [HZ.out] at e2
          clear hi
          go_wp2_with fail
          refine (add wr b _ _ A' m c' (q.take m) hsum' (updL_lt p (by omega)) (by have := hr.take (k := m) (by omega); rwa [Nat.mul_one, u8s_take] at this) (by omega) (by unfold maxLen; omega)).mono ?_
          rintro e w3 ⟨rfl, hs3, hu3⟩
          go_wp2
          go_roundw
          case rel =>
            refine ⟨k + 1, _, _, _, p ++ q.take m, q.drop m, by omega, by go_num, rfl, by rw [HP.out, List.append_assoc, List.take_append_drop], by omega, by omega, ?_, ?_, hnw.trans hu3 (fun i hi e => by omega)⟩
            · have := (hr.chg' hu3 (fun b hb e => by omega) (by omega)).cut (k := m) (cap := c') (by omega) hn'
              simpa only [Nat.mul_one, Nat.sub_self, u8s_drop] using this
            · rw [updL_append]
              exact hs3
          case measure => simp [intOf]; omega
        · skip
          have e1 := run_slice_to (P := Try.prog) Try.underlying22 hi A' n' c' n' (by omega)
          have e2 := run_slice_from (P := Try.prog) Try.underlying22 hi A' n' c' n' (by omega)
          rw [HZ.out] at e2
          clear hi
          go_wp2_with fail
          refine (add wr b _ _ A' n' c' (q.take n') hsum' (updL_lt p (by omega)) (by have := hr.take (k := n') (by omega); rwa [Nat.mul_one, u8s_take] at this) (by omega) (by unfold maxLen; omega)).mono ?_
          rintro e w3 ⟨rfl, hs3, hu3⟩
          go_wp2
          go_roundw
          case rel =>
            refine ⟨k + 1, _, _, _, p ++ q.take n', q.drop n', by omega, by go_num, rfl, by rw [HP.out, List.append_assoc, List.take_append_drop], by omega, by omega, ?_, ?_, hnw.trans hu3 (fun i hi e => by omega)⟩
            · have := (hr.chg' hu3 (fun b hb e => by omega) (by omega)).cut (k := n') (cap := c') (by omega) hn'
              simpa only [Nat.mul_one, Nat.sub_self, u8s_drop] using this
            · rw [updL_append]
              exact hs3
          case measure => simp [intOf]; omega
      · obtain rfl : k = n2 := by omega
        have HP := Lib.hid hpq
        clear hpq
        go_wp2_with fail
        refine (ref_of wr _ A n c l (hl.chg hnw (fun b hb => ⟨hb, id⟩)) (by unfold maxLen; omega)).mono ?_
        rintro e w4 ⟨rfl, rfl⟩
        have hsl := sum_lt l
        have hS : updL (updL 4294967295 p) q = updL 4294967295 l := by rw [HP.out, updL_append]
        have HS := Lib.hid hS
        clear hS
        go_wp2_with fail
        have ca := add wr.drew b _ _ A' n' c' q hsum' (updL_lt p (by omega)) (hr.drewN 1) (by omega) (by unfold maxLen; omega)
        have hnd : New w wr.drew := hnw.drew
        rw [HS.out] at ca
        have CA := Lib.hid ca
        clear ca
        have cv : ∀ W : World, SumAt W b (updL 4294967295 l) → Calls Try.prog 10 #[ptr b] W fun e w' => e = .returned (.int .u32 ((sum l : Nat) : Int)) ∧ W = w' :=
          fun W hW => value W b _ hW (updL_lt l (by omega))
        have CV := Lib.hid cv
        clear cv
        have str1 := fun (W : World) => run_str (P := Try.prog) (dst := 9) Try.underlying22 Try.underlying5 Try.underlying9 (Reads.of_blk (size := 1) (n := 4) (Blk.new W 40 (u8s (sumBytes s)).toArray) rfl) 4
        have str2 := fun (W : World) (o : Obj) => run_str (P := Try.prog) (dst := 9) Try.underlying22 Try.underlying5 Try.underlying9 (Reads.of_blk (size := 1) (n := 4) ((Blk.new W 40 (u8s (sumBytes s)).toArray).alloc o) rfl) 4
        have str3 := fun (W : World) (o : Obj) => run_str (P := Try.prog) (dst := 9) Try.underlying22 Try.underlying5 Try.underlying9 (Reads.of_blk (size := 1) (n := 4) (Blk.new (W.alloc o) 5 (u8s (sumBytes s)).toArray) rfl) 4
        simp only [World.size_alloc] at str3
        go_region_with (first
          | (go_at_call 8; refine CA.out.mono ?_; rintro e w5 ⟨rfl, hs5, hu5⟩)
          | (go_at_call 10; refine (CV.out _ (by assumption)).mono ?_; rintro e w6 ⟨rfl, rfl⟩)
          | (go_at_call 11; refine (of_ _ _ A n c l (hl.chg (hnd.trans hu5 (fun i hi e => by omega)) (fun b hb => ⟨hb, id⟩)) (fun b hb => Nat.lt_of_lt_of_le hb (Nat.le_trans hnd.size hu5.size)) (by unfold maxLen; omega)).mono ?_; rintro e w7 ⟨rfl, hn7⟩)
          | (go_at_call 12; refine (bytes _ s hs).mono ?_; rintro e w8 ⟨rfl, rfl⟩)
          | (go_at_call 13; refine (ref_bytes _ s hs).mono ?_; rintro e w9 ⟨rfl, rfl⟩))
        all_goals go_wp2
        all_goals go_ret
        all_goals exact ⟨by first | rfl | simp [Act.put], (((hnd.trans hu5 (fun i hi e => by omega)).trans hn7 (fun _ _ => False.elim)).alloc _).alloc _⟩

theorem tells_args {H : Type} {enc : TypeId × Value → H} {W : World} {base : Nat} {args : Array Value} {ds : List (DataW H)} {ps : List MemPlace}
    (hval : ∀ (j : Nat) t v, Try.f3.params[j]? = some t → args[j]? = some v → Value.okWide Try.prog W .any base t v)
    (hA : DataW.TrodAll enc Try.prog W 0 (fun _ => true) true Try.f3.params.toList args.toList ds ps) :
    Calls Try.prog 3 args W fun e w' => LawEnd W e w' := by
  rw [Try.params3] at hA hval
  obtain ⟨v0, v1, v2, d0, d1, d2, p0, p1, p2, rfl, rfl, rfl, h0, h1, h2⟩ := trodAll_three hA
  have o0 := hval 0 _ v0 rfl rfl
  have o1 := hval 1 _ v1 rfl rfl
  have o2 := hval 2 _ v2 rfl rfl
  obtain ⟨A, n, c, l, rfl, _, hnc, hc, hl⟩ := open_u8s Try.underlying22 Try.underlying5 (by kernel_rfl) (cells_slice Try.underlying22 o0) h0
  obtain ⟨A2, n2, c2, l2, rfl, _, hnc2, hc2, hl2⟩ := open_u8s Try.underlying22 Try.underlying5 (by kernel_rfl) (cells_slice Try.underlying22 o1) h1
  obtain ⟨s, rfl, _, _, ws⟩ := open_int Try.underlying23 o2 h2
  have hx : 0 ≤ s ∧ s ≤ 4294967295 := by simpa [Lit.wf, IntKind.min, IntKind.max, IntKind.signed, IntKind.bits] using ws
  obtain ⟨m, rfl⟩ := Int.eq_ofNat_of_zero_le hx.1
  exact tells W A A2 n c n2 c2 m l l2 (by omega) hnc hc (by omega) hl hl2
end Crc

namespace lawCrcTells
theorem own : ownKnob Try.prog.godebug = none := by kernel_rfl
theorem laidOut : laidOutB Try.prog = true := by kernel_rfl
theorem reads : ∀ t ∈ Try.f3.params.toList, Try.prog.readableRec t = true ∧ t < Try.prog.types.size := by
  have h : (Try.f3.params.toList.all fun t => Try.prog.readableRec t && decide (t < Try.prog.types.size)) = true := by kernel_rfl
  intro t ht
  have := List.all_eq_true.1 h t ht
  simpa using this
theorem spec {H : Type} (ds : List (DataW H)) (h : ds.length = 3) : Rows.crcTellsSpec.fn H ds = { results := [.lit (.bool true)], args := ds } := by
  match ds, h with
  | [d1, d2, d3], _ => rfl
theorem trodAll_len {H : Type} {enc : TypeId × Value → H} {P : Program} {w : World} {base : Nat} {sp : Nat → Bool} {held : Bool} : ∀ (ts : List TypeId) (vs : List Value) (ds : List (DataW H)) (ps : List MemPlace),
    DataW.TrodAll enc P w base sp held ts vs ds ps → ds.length = ts.length
  | [], _, _, _, h => by
    obtain ⟨_, rfl, _⟩ := trodAll_nil h
    rfl
  | _ :: ts, _, _, _, h => by
    obtain ⟨_, vs, _, ds, _, _, _, rfl, _, _, hr⟩ := trodAll_cons h
    simp [trodAll_len ts vs ds _ hr]
theorem contract (H : Type) (enc : TypeId × Value → H) (W : World) (base : Nat) (args : Array Value) (ds gs : List (DataW H)) (before : List MemPlace)
    (hval : ∀ (j : Nat) t v, Try.f3.params[j]? = some t → args[j]? = some v → Value.okWide Try.prog W .any base t v)
    (hW : DataW.Whole enc Try.prog Try.f3.params.toList Rows.crcTellsSpec.vars false W args.toList ds gs before) :
    Calls Try.prog 3 args W fun e W' => ∃ v, e = .returned v ∧ Rows.crcTellsSpec.post enc Try.prog Try.f3 false true false false W args v W' := by
  obtain ⟨p, q, hA, _⟩ := id hW
  have hlen : ds.length = 3 := (trodAll_len _ _ _ _ hA).trans (by kernel_rfl)
  refine (Crc.tells_args hval hA).mono fun e W' ⟨he, hn⟩ => ?_
  exact ⟨_, he, law_post laidOut (tb := 4) rfl Try.underlying4 reads rfl hW (spec ds hlen) hn.below⟩
set_option maxRecDepth 100000 in
theorem lifted (os : Os) (started : os.Started) (H : Type) (enc : TypeId × Value → H) :
    ReturnsInHanded {} Try.checked os 3 .any (Rows.crcTellsSpec.pre6 enc Try.prog Try.f3 Rows.crcTellsRow.domain false) (Rows.crcTellsSpec.post enc Try.prog Try.f3 false true false false) := by
  refine returnsInHanded_of_change (C := Try.checked) own started (by kernel_rfl) Try.func3
    (ChangeSpec.witness6 (enc := enc) (C := Try.checked) (s := Rows.crcTellsSpec) false ⟨#[], #[.slice none 0 0, .slice none 0 0, .int .u32 0], []⟩ 60 (by kernel_rfl) (by kernel_rfl) (by kernel_rfl) (by kernel_rfl)) ?_
  intro W base args ds gs before hval hW _ _
  exact contract H enc W base args ds gs before hval hW
theorem proved : Rows.CrcTellsSaid :=
  OpenClaim.holds_of_wide 3 Try.f3 rfl rfl rfl rfl rfl rfl rfl ⟨rfl, rfl, rfl, rfl, rfl⟩ rfl rfl rfl rfl rfl (by kernel_rfl) Try.func3 (by kernel_rfl)
    (of_decide_eq_true (by kernel_rfl)) (by unfold Func.isWrapper; first | (rw [if_pos (by decide +kernel)]; kernel_rfl) | (rw [if_neg (by decide +kernel)]; exact ⟨rfl, rfl⟩))
    (fun os started H enc _ => lifted os started H enc)
end lawCrcTells
end Go.Proofs.Ytonmkaiogmhhpaa

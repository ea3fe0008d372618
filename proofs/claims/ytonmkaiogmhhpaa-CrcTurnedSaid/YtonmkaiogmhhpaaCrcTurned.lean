/-
  hedgerowlaw03.CrcTurned returns true for every input: bytes in which bits within 32 places side by side are turned have another sum (no condition).
-/
import Derived.Test.YtonmkaiogmhhpaaCrcLaw
import Derived.Test.YtonmkaiogmhhpaaBytes
import Derived.Test.YtonmkaiogmhhpaaCrcTurnPlain
namespace Go.Proofs.Ytonmkaiogmhhpaa
open Go.ChangeShapes Go.WideShapes Go.RowKit
namespace Crc

set_option maxHeartbeats 2000000 in
set_option maxRecDepth 100000 in
theorem turned_walk (w : World) (A : Option Addr) (n c pa b : Nat) (l : List UInt8) (hn : n ≤ 140737488351232) (hpa : pa < 65536) (hb : b < 4294967296)
    (hl : Reads w (fun b => b < w.heap.size) 1 A n (u8s l)) :
    Calls Try.prog 4 #[.slice A n c, .int .u16 (pa : Int), .int .u32 (b : Int)] w fun e w' => LawEnd w e w' := by
  have hnl := hl.u8len
  have HN := Lib.hid hnl
  clear hnl
  by_cases hbig : 500 < (n : Int)
  · go_enter Try.func4, Try.ntmps4
    go_wp2_with fail
    refine (fixed _).mono ?_
    rintro e w1 ⟨rfl, hn1⟩
    go_wp2
    go_ret
    exact ⟨rfl, hn1⟩
  · by_cases hb0 : ((b : Int) == 0) = true
    · go_enter Try.func4, Try.ntmps4
      go_wp2_with fail
      refine (fixed _).mono ?_
      rintro e w1 ⟨rfl, hn1⟩
      go_wp2
      go_ret
      exact ⟨rfl, hn1⟩
    · have hb0 : ((b : Int) == 0) = false := by simpa using hb0
      have hn5 : (n : Int) ≤ 500 := by omega
      go_enter Try.func4, Try.ntmps4
      go_wp2_with fail
      refine (fixed _).mono ?_
      rintro e w1 ⟨rfl, hn1⟩
      have hz1 := hn1.size
      have hl1 := hl.chg hn1 (fun b hb => ⟨hb, id⟩)
      go_wp2_with (at_builtin; refine stop ?_)
      delta Stop
      refine append_u8 _ rfl (.tmp 20) (.tmp 21) rfl w1.heap.size (.slice (some ⟨w1.heap.size, 0, none⟩) 0 0) [] rfl (OwnB.empty (Nat.le_refl _)) _ A n c l rfl (hl1.chg ((Chg.refl (fun _ => False) _).alloc _) (fun b hb => ⟨by omega, id⟩)) (by simp; omega) (by simp) ?_
      intro v2 w2 ho2 hg2 hat2
      have hn2 : New w1 w2 := ((Chg.refl _ _).alloc _).grown hg2 (fun g hg hlt => by simp [Value.ownBlock] at hg; omega)
      rw [List.nil_append] at ho2
      obtain ⟨A2, c2, rfl, hc2, hm2, _, _⟩ := ho2.form
      clear hat2 hg2
      have ho2' : w2.ownsRow w1.heap.size 5 1 (.slice A2 n c2) n (u8s l) := by
        have := ho2
        unfold OwnB at this
        rwa [HN.out] at this
      rw [HN.out] at hc2 ⊢
      clear ho2
      obtain ⟨p0, hp0⟩ : ∃ p0, p0 = pa % (8 * n + 1) := ⟨_, rfl⟩
      have hp0l : p0 ≤ 8 * n := by have := Nat.mod_lt pa (show 0 < 8 * n + 1 by omega); omega
      have hpe : ((pa : Nat) : Int) % (8 * (n : Int) + 1) = (p0 : Int) := by rw [hp0]; simp
      clear hp0
      go_wp2
      go_loopw [8, 9, 10, 23] (fun sm _ _ i wr => ∃ (k : Nat) (z : List UInt8), k ≤ 32 ∧ i = .int .i64 k ∧ sm = .bool (decide (turn b p0 (8 * n) k ≠ 0)) ∧ wr.ownsRow w1.heap.size 5 1 (.slice A2 n c2) n (u8s z) ∧ z.length = n ∧ num z = num l ^^^ turn b p0 (8 * n) k ∧ New w1 wr) (fun _ _ _ i _ => 32 - (intOf i).toNat)
      case atStart => exact ⟨0, l, by omega, rfl, by simp [turn_zero], ho2', HN.out, by simp [turn_zero], hn2⟩
      case round =>
        obtain ⟨k, z, hk, rfl, rfl, ho, hzl, hnum, hnw⟩ := hrel
        have HZ := Lib.hid hzl
        have HM := Lib.hid hnum
        clear hzl hnum
        by_cases hlt : k < 32
        · have hand : bits .and .u32 ((b : Int) / 2 ^ k) 1 = ((b / 2 ^ k % 2 : Nat) : Int) := by
            have h1 : b / 2 ^ k < 4294967296 := Nat.lt_of_le_of_lt (Nat.div_le_self _ _) hb
            have h2 := u32_and_nat (b / 2 ^ k) 1 h1 (by omega)
            rw [Nat.and_one_is_mod] at h2
            rw [← h2]
            simp
          have HA := Lib.hid hand
          clear hand
          by_cases hbit : b.testBit k = true
          · have ht : (bits .and .u32 ((b : Int) / 2 ^ k) 1 == 0) = false := by
              rw [HA.out]
              rw [Nat.testBit_eq_decide_div_mod_eq] at hbit
              simp at hbit
              simp [hbit]
            by_cases hpl : (8 : Int) * n ≤ p0 + k
            · have HT := Lib.hid (turn_no b p0 (8 * n) k (.inr (by omega)))
              clear hbit
              go_wp2
              go_roundw
              case rel => exact ⟨k + 1, z, by omega, by go_num, by rw [HT.out], ho, HZ.out, by rw [HT.out]; exact HM.out, hnw⟩
              case measure => simp [intOf]; omega
            · have HT := Lib.hid (turn_yes b p0 (8 * n) k hbit (by omega))
              have HTn := Lib.hid (turn_yes_ne b p0 (8 * n) k hbit (by omega))
              obtain ⟨g, cap, hv, hgb, hgl⟩ := ho.form (by omega)
              obtain rfl : A2 = some ⟨g, 0, none⟩ := by injection hv
              clear hv hbit
              obtain ⟨d, hd⟩ : ∃ d, d = (p0 + k) / 8 := ⟨_, rfl⟩
              obtain ⟨r, hr⟩ : ∃ r, r = (p0 + k) % 8 := ⟨_, rfl⟩
              have hdl : d < z.length := by rw [HZ.out]; omega
              have hdi : (d : Int) < n := by omega
              have hri : r < 8 := by omega
              have e1 : ((p0 : Int) + k) / 8 = (d : Int) := by rw [hd]; omega
              have e2 : ((p0 : Int) + k) % 8 = (r : Int) := by rw [hr]; omega
              have HD := Lib.hid hd
              have HR := Lib.hid hr
              clear hd hr
              have hcell := ho.cellAt d (by omega)
              have hfr := ho.frozenAt d
              rw [u8s_get, List.getElem?_eq_getElem hdl] at hcell
              simp only [Option.map_some] at hcell
              have HC := Lib.hid (List.getElem?_eq_getElem hdl)
              have hcb := UInt8.toNat_lt z[d]
              generalize z[d] = ch at *
              go_wp2
              have hx : bits .xor .u8 ((ch.toNat : Nat) : Int) (2 ^ r % 256) = (((ch ^^^ UInt8.ofNat (2 ^ r)).toNat : Nat) : Int) := by
                have h2 : (2 : Nat) ^ r < 256 := by
                  have := Nat.pow_lt_pow_right (a := 2) (by omega) hri
                  omega
                have h3 := u8_xor_nat ch.toNat (2 ^ r) hcb h2
                rw [UInt8.toNat_xor, UInt8.toNat_ofNat', Nat.mod_eq_of_lt h2, ← h3, show ((2 : Int) ^ r % 256) = ((2 ^ r % 256 : Nat) : Int) by simp, Nat.mod_eq_of_lt h2]
              rw [hx]
              go_roundw
              case rel =>
                refine ⟨k + 1, z.set d (ch ^^^ UInt8.ofNat (2 ^ r)), by omega, by go_num, by simp [HTn.out], ?_, by rw [List.length_set]; exact HZ.out, ?_, hnw.setCell (fun h => by simp at h; omega) _⟩
                · have := (ho.stored d (.int .u8 (((ch ^^^ UInt8.ofNat (2 ^ r)).toNat : Nat) : Int))).1
                  rwa [u8s_set] at this
                · rw [HT.out, ← Nat.xor_assoc, ← HM.out, HD.out, HR.out]
                  exact num_set z (p0 + k) ch (by rw [← HD.out]; exact HC.out)
              case measure => simp [intOf]; omega
          · have hbit : b.testBit k = false := by simpa using hbit
            have ht : (bits .and .u32 ((b : Int) / 2 ^ k) 1 == 0) = true := by
              rw [HA.out]
              rw [Nat.testBit_eq_decide_div_mod_eq] at hbit
              simp at hbit
              simp [hbit]
            have HT := Lib.hid (turn_no b p0 (8 * n) k (.inl hbit))
            clear hbit
            go_wp2
            go_roundw
            case rel => exact ⟨k + 1, z, by omega, by go_num, by rw [HT.out], ho, HZ.out, by rw [HT.out]; exact HM.out, hnw⟩
            case measure => simp [intOf]; omega
        · obtain rfl : k = 32 := by omega
          have hNm : n ≤ maxLen := by simp only [maxLen]; omega
          have hrz : ∀ W : World, New wr W → Reads W (fun b => b < wr.heap.size) 1 A2 n (u8s z) := fun W hW => ((Reads.of_own ho).mono (fun b h => h.2.1)).chg hW (fun b hb => ⟨hb, id⟩)
          have hrl : ∀ W : World, New wr W → Reads W (fun b => b < w.heap.size) 1 A n (u8s l) := fun W hW => hl1.chg (hnw.trans hW (fun _ _ => False.elim)) (fun b hb => ⟨by omega, id⟩)
          have HRZ := Lib.hid hrz
          have HRL := Lib.hid hrl
          have hws := hnw.size
          clear hrz hrl ho ho2'
          by_cases hne : turn b p0 (8 * n) 32 = 0
          · have hd : decide (turn b p0 (8 * n) 32 ≠ 0) = false := by simp [hne]
            rw [hd]
            clear hd
            go_wp2
            go_ret
            exact ⟨rfl, hn1.trans hnw (fun _ _ => False.elim)⟩
          · have hd : decide (turn b p0 (8 * n) 32 ≠ 0) = true := by simp [hne]
            rw [hd]
            have hsum : sum z ≠ sum l := turned l z b p0 hb (by rw [HZ.out, HN.out]) (by rw [HN.out]; exact hp0l) (by rw [HN.out]; exact HM.out) (by rw [HN.out]; exact hne)
            have hneq : (((sum z : Nat) : Int) != ((sum l : Nat) : Int)) = true := by simp; omega
            clear hd hsum hne
            go_wp2_with fail
            refine (of_ wr _ A2 n c2 z (HRZ.out _ (Chg.refl _ _)) (fun b hb => hb) hNm).mono ?_
            rintro e w8 ⟨rfl, hn8⟩
            go_wp2_with fail
            refine (of_ w8 _ A n c l (HRL.out _ hn8) (fun b hb => by have := hn8.size; omega) hNm).mono ?_
            rintro e w9 ⟨rfl, hn9⟩
            go_wp2
            go_ret
            exact ⟨rfl, hn1.trans ((hnw.trans hn8 (fun _ _ => False.elim)).trans hn9 (fun _ _ => False.elim)) (fun _ _ => False.elim)⟩

theorem turned_args {H : Type} {enc : TypeId × Value → H} {W : World} {base : Nat} {args : Array Value} {ds : List (DataW H)} {ps : List MemPlace}
    (hval : ∀ (j : Nat) t v, Try.f4.params[j]? = some t → args[j]? = some v → Value.okWide Try.prog W .any base t v)
    (hw : ∀ (j : Nat) t d, Try.f4.params.toList[j]? = some t → ds[j]? = some d → ∀ n ∈ d.weights Try.prog t, n ≤ reachBytes)
    (hA : DataW.TrodAll enc Try.prog W 0 (fun _ => true) true Try.f4.params.toList args.toList ds ps) :
    Calls Try.prog 4 args W fun e w' => LawEnd W e w' := by
  rw [Try.params4] at hA hval hw
  obtain ⟨v0, v1, v2, d0, d1, d2, p0, p1, p2, rfl, rfl, rfl, h0, h1, h2⟩ := trodAll_three hA
  have o0 := hval 0 _ v0 rfl rfl
  have q0 := hw 0 _ d0 rfl rfl
  have o1 := hval 1 _ v1 rfl rfl
  have q1 := hw 1 _ d1 rfl rfl
  have o2 := hval 2 _ v2 rfl rfl
  have q2 := hw 2 _ d2 rfl rfl
  obtain ⟨A, n, c, l, rfl, _, hnc, hc, hl⟩ := open_u8s Try.underlying22 Try.underlying5 (by kernel_rfl) (by kernel_rfl) (cells_slice Try.underlying22 o0) q0 h0
  obtain ⟨x, rfl, _, _, wx⟩ := open_int Try.underlying32 o1 h1
  have hx : 0 ≤ x ∧ x ≤ 65535 := by simpa [Lit.wf, IntKind.min, IntKind.max, IntKind.signed, IntKind.bits] using wx
  obtain ⟨pa, rfl⟩ := Int.eq_ofNat_of_zero_le hx.1
  obtain ⟨s, rfl, _, _, ws⟩ := open_int Try.underlying23 o2 h2
  have hs : 0 ≤ s ∧ s ≤ 4294967295 := by simpa [Lit.wf, IntKind.min, IntKind.max, IntKind.signed, IntKind.bits] using ws
  obtain ⟨m, rfl⟩ := Int.eq_ofNat_of_zero_le hs.1
  exact turned_walk W A n c pa m l (by omega) (by omega) (by omega) hl
end Crc

namespace lawCrcTurned
theorem own : ownKnob Try.prog.godebug = none := by kernel_rfl
theorem laidOut : laidOutB Try.prog = true := by kernel_rfl
theorem reads : ∀ t ∈ Try.f4.params.toList, Try.prog.readableRec t = true ∧ t < Try.prog.types.size := by
  have h : (Try.f4.params.toList.all fun t => Try.prog.readableRec t && decide (t < Try.prog.types.size)) = true := by kernel_rfl
  intro t ht
  have := List.all_eq_true.1 h t ht
  simpa using this
theorem spec {H : Type} (ds : List (DataW H)) (h : ds.length = 3) : Rows.crcTurnedSpec.fn H ds = { results := [.lit (.bool true)], args := ds } := by
  match ds, h with
  | [d1, d2, d3], _ => rfl
theorem trodAll_len {H : Type} {enc : TypeId × Value → H} {P : Program} {w : World} {base : Nat} {sp : Nat → Bool} {held : Bool} : ∀ (ts : List TypeId) (vs : List Value) (ds : List (DataW H)) (ps : List MemPlace),
    DataW.TrodAll enc P w base sp held ts vs ds ps → ds.length = ts.length
  | [], _, _, _, h => by
    obtain ⟨_, rfl, _⟩ := trodAll_nil h
    rfl
  | _ :: ts, _, _, _, h => by
    obtain ⟨_, vs, _, ds, _, _, _, rfl, _, _, hr⟩ := trodAll_cons h
    simp [trodAll_len ts vs ds _ hr]
theorem contract (H : Type) (enc : TypeId × Value → H) (W : World) (base : Nat) (args : Array Value) (ds gs : List (DataW H)) (before : List MemPlace)
    (hval : ∀ (j : Nat) t v, Try.f4.params[j]? = some t → args[j]? = some v → Value.okWide Try.prog W .any base t v)
    (hW : DataW.Whole enc Try.prog Try.f4.params.toList Rows.crcTurnedSpec.vars false W args.toList ds gs before)
    (hz : (DataW.weightsEach Try.prog (Try.f4.params.toList ++ Rows.crcTurnedSpec.plain.varTypes Try.prog) (ds ++ gs)).all (· ≤ reachBytes) = true) :
    Calls Try.prog 4 args W fun e W' => ∃ v, e = .returned v ∧ Rows.crcTurnedSpec.post enc Try.prog Try.f4 false true false false W args v W' := by
  obtain ⟨p, q, hA, hV, _⟩ := id hW
  have hlen : ds.length = 3 := (trodAll_len _ _ _ _ hA).trans (by kernel_rfl)
  have hV1 : DataW.TrodVars enc Try.prog W (fun _ => true) [] gs q := hV
  obtain ⟨rfl, rfl⟩ := trodVars_none hV1
  have hw : ∀ (j : Nat) t d, Try.f4.params.toList[j]? = some t → ds[j]? = some d → ∀ n ∈ d.weights Try.prog t, n ≤ reachBytes := by
    intro j t d ht hd n hn
    rw [List.append_nil] at hz
    have hlt : j < Try.f4.params.toList.length := (List.getElem?_eq_some_iff.1 ht).1
    have := List.all_eq_true.1 hz n (DataW.weights_mem_each (by rw [List.getElem?_append_left hlt]; exact ht) hd n hn)
    simpa using this
  refine (Crc.turned_args hval hw hA).mono fun e W' ⟨he, hn⟩ => ?_
  exact ⟨_, he, law_post laidOut (tb := 4) rfl Try.underlying4 reads rfl hW (spec ds hlen) hn.below⟩
set_option maxRecDepth 100000 in
theorem lifted (os : Os) (started : os.Started) (H : Type) (enc : TypeId × Value → H) :
    ReturnsInHanded {} Try.checked os 4 .any (Rows.crcTurnedSpec.pre6 enc Try.prog Try.f4 Rows.crcTurnedRow.domain false) (Rows.crcTurnedSpec.post enc Try.prog Try.f4 false true false false) := by
  refine returnsInHanded_of_change_sized (C := Try.checked) own started (by kernel_rfl) Try.func4
    (ChangeSpec.witness6 (enc := enc) (C := Try.checked) (s := Rows.crcTurnedSpec) false ⟨#[], #[.slice none 0 0, .int .u16 0, .int .u32 0], []⟩ 60 (by kernel_rfl) (by kernel_rfl) (by kernel_rfl) (by kernel_rfl)) ?_
  intro W base args ds gs before hval hW _ hz _
  exact contract H enc W base args ds gs before hval hW hz
theorem proved : Rows.CrcTurnedSaid :=
  OpenClaim.holds_of_wide 4 Try.f4 rfl rfl rfl rfl rfl rfl rfl ⟨rfl, rfl, rfl, rfl, rfl⟩ rfl rfl rfl rfl rfl (by kernel_rfl) Try.func4 (by kernel_rfl)
    (of_decide_eq_true (by kernel_rfl)) (by unfold Func.isWrapper; first | (rw [if_pos (by decide +kernel)]; kernel_rfl) | (rw [if_neg (by decide +kernel)]; exact ⟨rfl, rfl⟩))
    (fun os started H enc _ => lifted os started H enc)
end lawCrcTurned
end Go.Proofs.Ytonmkaiogmhhpaa

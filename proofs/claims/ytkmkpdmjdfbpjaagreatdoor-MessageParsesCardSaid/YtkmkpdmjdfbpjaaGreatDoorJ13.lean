/-
  Messages' bytes read again, cut, turned, and with more behind, in plain words (no condition).
-/
import Derived.Test.YtkmkpdmjdfbpjaaGreatDoorJ12
/- message.Same: two messages held against each other (no condition beyond the sizes). -/
namespace Go.Proofs.YtkmkpdmjdfbpjaaGreatDoor
set_option linter.unusedSimpArgs false
set_option linter.unusedVariables false
open Go.ChangeShapes Go.WideShapes Go.RowKit Go.Deep
namespace Msg
open Val (JoinC)
open Num Evt Vec
attribute [local go_sem ↓] loadRow0 storeRow0
attribute [local go_sem ↓] Evt.loadDot Evt.loadVec Evt.loadRow0 Evt.storeRow0 Evt.loadOnly0 Evt.loadOnly1 Evt.loadOnly2
def eqEs : List Ev → List Ev → Bool
  | [], [] => true
  | a :: l, b :: k => eqE a b && eqEs l k
  | _, _ => false
theorem eqEs_iff : ∀ {l k : List Ev}, eqEs l k = true ↔ l.map Ev.items = k.map Ev.items
  | [], [] => by simp [eqEs]
  | [], _ :: _ => by simp [eqEs]
  | _ :: _, [] => by simp [eqEs]
  | a :: l, b :: k => by simp [eqEs, eqE_iff, eqEs_iff (l := l) (k := k)]
theorem eqEs_len : ∀ {l k : List Ev}, l.length ≠ k.length → eqEs l k = false := fun {l k} h => by
  cases hq : eqEs l k
  · rfl
  · exact (h (by have := congrArg List.length (eqEs_iff.1 hq); simpa using this)).elim
def sameM (m k : Ms) : Bool := (m.n 0 == k.n 0) && ((m.n 1 == k.n 1) && ((m.n 2 == k.n 2) && ((known m == known k) && eqEs m.es k.es)))
theorem eqGE (x y : Operand) (a b : Array Value) (w : World) : (eqGuard .neq 48 x y (.agg a) (.agg b)).run Tryz.prog w = .ok () w := _root_.Go.run_eqGuard_agg w .neq _ x y a b (by kernel_rfl)
theorem drop_get {l : List Ev} {i : Nat} {e : Ev} (h : l[i]? = some e) : l.drop i = e :: l.drop (i + 1) := by
  obtain ⟨hi, he⟩ := List.getElem?_eq_some_iff.1 h
  rw [List.drop_eq_getElem_cons hi, he]
set_option maxHeartbeats 4000000 in
set_option maxRecDepth 20000 in
theorem equal_ (w : World) (F G : Nat → Prop) (v u : Value) (l k : List Ev) (hv : RowE w F v l) (hu : RowE w G u k) (hl : l.length ≤ 1000000) :
    Calls Tryz.prog 36 #[v, u] w fun x w' => x = .returned (.bool (eqEs l k)) ∧ New w w' := by
  obtain ⟨A, c, rfl, hA⟩ := hv
  obtain ⟨B, d, rfl, hB⟩ := hu
  by_cases hlk : l.length = k.length
  · obtain ⟨n, hn⟩ : ∃ n, l.length = n := ⟨_, rfl⟩
    rw [hn] at hlk hl hA ⊢
    rw [← hlk] at hB ⊢
    have HA := Lib.hid (And.intro hA (And.intro hB (And.intro hn hlk)))
    have eg := eqGE
    obtain ⟨Q, hQ⟩ : ∃ q, eqEs l k = q := ⟨_, rfl⟩
    rw [hQ]
    have HQ := Lib.hid hQ
    clear hA hB hn hlk hQ
    go_enter Tryz.func36, Tryz.ntmps36
    go_wp2_with fail
    go_loopw [13] (fun iv wr => ∃ i : Nat, i ≤ n ∧ iv = .int .i64 i ∧ eqEs l k = eqEs (l.drop i) (k.drop i) ∧ New w wr) (fun iv _ => n - (intOf iv).toNat)
    case atStart => exact ⟨0, by omega, by go_num, rfl, Chg.refl _ _⟩
    case round =>
      obtain ⟨i, hi, rfl, hrest, hnw⟩ := hrel
      by_cases hlt : i < n
      · have hli : (i : Int) < n := by omega
        obtain ⟨a, ha⟩ : ∃ e, l[i]? = some e := ⟨_, List.getElem?_eq_getElem (by rw [HA.out.2.2.1]; exact hlt)⟩
        obtain ⟨b, hb⟩ : ∃ e, k[i]? = some e := ⟨_, List.getElem?_eq_getElem (by rw [← HA.out.2.2.2]; exact hlt)⟩
        obtain ⟨X, hX⟩ : ∃ X, a.cs.toArray = X := ⟨_, rfl⟩
        obtain ⟨Y, hY⟩ : ∃ X, b.cs.toArray = X := ⟨_, rfl⟩
        obtain ⟨ad, rfl, l1⟩ : ∃ ad, A = some ad ∧ ∀ x : ChgW (fun _ => False) wr, (LoadRow 48 (ad.add (i * 27))).run Tryz.prog x.W = .ok (.agg X) x.W := by
          obtain ⟨ad, rfl, _⟩ := ld_ev HA.out.1 ha
          refine ⟨ad, rfl, fun x => ?_⟩
          obtain ⟨ad', h1, h2⟩ := ld_ev (HA.out.1.chg' (hnw.trans x.chg fun _ _ => id) (fun _ _ => id) (by omega)) ha
          injection h1 with h1
          subst h1
          rw [← hX]
          exact h2
        obtain ⟨bd, rfl, l2⟩ : ∃ ad, B = some ad ∧ ∀ x : ChgW (fun _ => False) wr, (LoadRow 48 (ad.add (i * 27))).run Tryz.prog x.W = .ok (.agg Y) x.W := by
          obtain ⟨ad, rfl, _⟩ := ld_ev HA.out.2.1 hb
          refine ⟨ad, rfl, fun x => ?_⟩
          obtain ⟨ad', h1, h2⟩ := ld_ev (HA.out.2.1.chg' (hnw.trans x.chg fun _ _ => id) (fun _ _ => id) (by omega)) hb
          injection h1 with h1
          subst h1
          rw [← hY]
          exact h2
        have hr2 : eqEs l k = (eqE a b && eqEs (l.drop (i + 1)) (k.drop (i + 1))) := by rw [hrest, drop_get ha, drop_get hb]; rfl
        obtain ⟨q, hq⟩ : ∃ q, eqE a b = q := ⟨_, rfl⟩
        have ne : ∀ W, (binOp .neq 48 (.agg X) (.agg Y)).run Tryz.prog W = .ok (.bool (!q)) W := fun W => by
          rw [← hX, ← hY, ← hq]
          exact neqE a b W
        rw [hq] at hr2
        have HR := Lib.hid (And.intro hr2 hnw)
        have hw : IntKind.i64.wrap ((i : Int) + 1) = (i : Int) + 1 := IntWalk.i64_in _ (by omega)
        clear hr2 hnw hrest ha hb hX hY hq
        cases q
        · go_wp2_with fail
          refine wp_region_chg (fun _ => False) (by kernel_rfl) (by kernel_rfl) ?_
          repeat (go_big_quiet_step (fail))
          refine wpQuiet_nil ?_
          rintro ⟨wq, hq⟩
          simp only []
          go_wp2_with fail
          go_ret
          exact ⟨by rw [← HQ.out, HR.out.1]; rfl, HR.out.2.trans hq fun _ _ => id⟩
        · go_wp2_with fail
          refine wp_region_chg (fun _ => False) (by kernel_rfl) (by kernel_rfl) ?_
          repeat (go_big_quiet_step (fail))
          refine wpQuiet_nil ?_
          rintro ⟨wq, hq⟩
          simp only []
          have HN := Lib.hid (HR.out.2.trans hq fun _ _ => id)
          clear hq
          go_wp2_with fail
          go_roundw
          case rel => exact ⟨i + 1, by omega, by go_num, by rw [HR.out.1, Bool.true_and], HN.out⟩
          case measure => simp [intOf]; omega
      · have hgi : ¬ ((i : Int) < n) := by omega
        have he : eqEs l k = true := by
          rw [hrest, List.drop_of_length_le (by rw [HA.out.2.2.1]; omega), List.drop_of_length_le (by rw [← HA.out.2.2.2]; omega)]
          rfl
        have HE := Lib.hid (And.intro he hnw)
        clear he hnw hrest
        go_wp2_with fail
        go_ret
        exact ⟨by rw [← HQ.out, HE.out.1]; rfl, HE.out.2⟩
  · have hb : ((l.length : Int) != (k.length : Int)) = true := by simp; omega
    rw [eqEs_len hlk]
    clear hA hB
    go_enter Tryz.func36, Tryz.ntmps36
    go_wp2_with fail
    go_ret
    exact ⟨rfl, Chg.refl _ _⟩
theorem eqGV (x y : Operand) (a b : Array Value) (w : World) : (eqGuard .neq 23 x y (.agg a) (.agg b)).run Tryz.prog w = .ok () w := _root_.Go.run_eqGuard_agg w .neq _ x y a b (by kernel_rfl)
theorem neV {xs ys : List Int} (hx : xs.length = 16) (hy : ys.length = 16) (w : World) : (binOp .neq 23 (vec xs) (vec ys)).run Tryz.prog w = .ok (.bool (!(xs == ys))) w := by
  have h := run_equalIn_ints (P := Tryz.prog) 9998 Tryz.underlying23 Tryz.underlying3 Vec.intInfo.1 Vec.intInfo.2 xs ys hx hy w
  unfold vec
  rw [run_neq_struct, show (10000 : Nat) = 9998 + 2 from rfl, h]
  rfl
set_option maxHeartbeats 8000000 in
set_option maxRecDepth 20000 in
theorem same_ (w : World) (F G : Nat → Prop) (m m' : Ms) (v u : Value) (hv : RowE w F v m.es) (hu : RowE w G u m'.es) (hl : m.es.length ≤ 1000000) :
    Calls Tryz.prog 16 #[m.val v, m'.val u] w fun x w' => x = .returned (.bool (sameM m m')) ∧ New w w' := by
  have n1 := (Chg.refl (fun _ => False) w).alloc (.cells (m.cs v).toArray 26)
  have n2 := n1.alloc (.cells (m'.cs u).toArray 26)
  have B1 := (Blk.new w 26 (m.cs v).toArray).alloc (.cells (m'.cs u).toArray 26)
  have B2 := Blk.new1 w (.cells (m.cs v).toArray 26) 26 (m'.cs u).toArray
  obtain ⟨_, lk1, a0, a1, a2, a19⟩ := blk_ms B1
  obtain ⟨_, lk2, b0, b1, b2, b19⟩ := blk_ms B2
  obtain ⟨X, hX⟩ : ∃ X, m.knownV = .agg X := ⟨_, rfl⟩
  obtain ⟨Y, hY⟩ : ∃ X, m'.knownV = .agg X := ⟨_, rfl⟩
  rw [hX] at lk1
  rw [hY] at lk2
  have eg := Vec.eqG
  have gn := eqGV
  have ev : ∀ W, (binOp .eql 23 (.agg X) (.agg Y)).run Tryz.prog W = .ok (.bool (known m == known m')) W := fun W => by
    rw [← hX, ← hY]
    exact Vec.eqV (xs := known m) (ys := known m') rfl rfl W
  have C := equal_ _ F G v u m.es m'.es (hv.new n2) (hu.new n2) hl
  obtain ⟨r, hr⟩ : ∃ r, sameM m m' = r := ⟨_, rfl⟩
  rw [hr]
  unfold sameM at hr
  obtain ⟨q3, h3⟩ : ∃ b, (known m == known m') = b := ⟨_, rfl⟩
  obtain ⟨q4, h4⟩ : ∃ b, eqEs m.es m'.es = b := ⟨_, rfl⟩
  simp only [h3] at ev
  rw [h4] at C
  rw [h3, h4] at hr
  obtain ⟨Av, nv, cv, hvv⟩ : ∃ A n c, v = .slice A n c := by obtain ⟨A, c, h, _⟩ := hv; exact ⟨A, _, c, h⟩
  obtain ⟨Au, nu, cu, huu⟩ : ∃ A n c, u = .slice A n c := by obtain ⟨A, c, h, _⟩ := hu; exact ⟨A, _, c, h⟩
  subst hvv huu
  have g1 := B1.lt
  have g2 := B2.lt
  have N2 := Lib.hid n2
  have C := Lib.hid C
  have HR := Lib.hid hr.symm
  clear hv hu hl hX hY n1 n2 B1 B2 h3 h4 hr
  by_cases h0 : m.n 0 = m'.n 0
  · by_cases h1 : m.n 1 = m'.n 1
    · by_cases h2 : m.n 2 = m'.n 2
      · cases q3
        · go_enter Tryz.func16, Tryz.ntmps16
          go_wp2_with fail
          go_ret
          exact ⟨by rw [HR.out] <;> simp [*], N2.out⟩
        · go_enter Tryz.func16, Tryz.ntmps16
          go_wp2_with fail
          with_reducible refine C.out.mono ?_
          rintro x w3 ⟨rfl, n3⟩
          go_wp2_with fail
          go_ret
          exact ⟨by rw [HR.out] <;> simp [*], N2.out.trans n3 fun _ _ => id⟩
      · have hb : (m.n 2 == m'.n 2) = false := by simpa using h2
        go_enter Tryz.func16, Tryz.ntmps16
        go_wp2_with fail
        go_ret
        exact ⟨by rw [HR.out] <;> simp [*], N2.out⟩
    · have hb : (m.n 1 == m'.n 1) = false := by simpa using h1
      go_enter Tryz.func16, Tryz.ntmps16
      go_wp2_with fail
      go_ret
      exact ⟨by rw [HR.out] <;> simp [*], N2.out⟩
  · have hb : (m.n 0 == m'.n 0) = false := by simpa using h0
    go_enter Tryz.func16, Tryz.ntmps16
    go_wp2_with fail
    go_ret
    exact ⟨by rw [HR.out] <;> simp [*], N2.out⟩
end Msg
end Go.Proofs.YtkmkpdmjdfbpjaaGreatDoor

/- Frames, whatever stands behind them, are told as they were (plain lists; no program). -/
namespace Go.Proofs.YtkmkpdmjdfbpjaaGreatDoor
namespace Frame
theorem frame_cons (p q : List UInt8) : frameL p ++ q = UInt8.ofNat p.length :: UInt8.ofNat (p.length / 256) :: UInt8.ofNat (p.length / 65536) :: (165 ^^^ UInt8.ofNat p.length ^^^ UInt8.ofNat (p.length / 256) ^^^ UInt8.ofNat (p.length / 65536)) :: (p ++ (crcL p ++ q)) := by
  simp [frameL, headL]
theorem frame_len (p q : List UInt8) (h : p.length ≤ 1048576) : lenOf (frameL p ++ q) = p.length := by
  rw [frame_cons]
  simp [lenOf]
  omega
theorem frame_take4 (p q : List UInt8) : (frameL p ++ q).take 4 = headL p.length := by
  rw [frame_cons]
  rfl
theorem frame_mid (p q : List UInt8) : ((frameL p ++ q).take (p.length + 4)).drop 4 = p := by
  rw [frame_cons]
  simp only [List.take_succ_cons, List.drop_succ_cons, List.drop_zero]
  rw [List.take_left]
theorem frame_sum (p q : List UInt8) : ((frameL p ++ q).take (p.length + 8)).drop (p.length + 4) = crcL p := by
  rw [frame_cons]
  simp only [List.take_succ_cons, List.drop_succ_cons]
  rw [List.take_length_add_append, List.drop_left]
  rfl
theorem take_frame (p q : List UInt8) (h : p.length ≤ 1048576) : takeE (frameL p ++ q) = 0 ∧ takeN (frameL p ++ q) = p.length + 8 ∧ takeP (frameL p ++ q) = p := by
  have hl := frame_len p q h
  have hlen : (frameL p ++ q).length = p.length + 8 + q.length := by rw [List.length_append, frameL_length]
  have hE : takeE (frameL p ++ q) = 0 := by
    refine takeE_ok (by omega) ?_ (by omega) (by omega) ?_
    · rw [hl, frame_take4]
    · rw [hl, frame_mid, frame_sum]
  refine ⟨hE, ?_, ?_⟩
  · unfold takeN
    rw [if_pos hE, hl]
  · unfold takeP
    rw [if_pos hE, hl, frame_mid]
/-- payloads' frames, one behind the other -/
def cat : List (List UInt8) → List UInt8
  | [] => []
  | p :: ps => frameL p ++ cat ps
theorem cat_append (ps qs : List (List UInt8)) : cat (ps ++ qs) = cat ps ++ cat qs := by
  induction ps with
  | nil => rfl
  | cons p ps ih => simp [cat, ih]
theorem cat_one (p : List UInt8) : cat [p] = frameL p := by simp [cat]
theorem cat_len {ps : List (List UInt8)} {m : Nat} (h : ∀ p ∈ ps, p.length ≤ m) : (cat ps).length ≤ (m + 8) * ps.length := by
  induction ps with
  | nil => simp [cat]
  | cons p ps ih =>
    have h1 := h p (List.mem_cons_self ..)
    have h2 := ih fun q hq => h q (List.mem_cons_of_mem _ hq)
    simp only [cat, List.length_append, frameL_length, List.length_cons, Nat.mul_add, Nat.mul_one]
    omega
theorem allGo_cat (L tail : List UInt8) (ht : tail = [] ∨ takeE tail ≠ 0) : ∀ (rest : List (List UInt8)) (pre : List UInt8) (out : List (List UInt8)) (f : Nat), (∀ p ∈ rest, p.length ≤ 1048576) → L = pre ++ (cat rest ++ tail) → L.length < pre.length + f →
    allGo L f pre.length out = (out ++ rest, (pre ++ cat rest).length, if tail = [] then 0 else takeE tail)
  | [], pre, out, f, _, hL, hf => by
    have hd : L.drop pre.length = tail := by rw [hL]; simp [cat]
    by_cases h0 : tail = []
    · rw [if_pos h0]
      have hlen : L.length = pre.length := by rw [hL, h0]; simp [cat]
      rw [allGo_end hf (by omega)]
      simp [cat]
    · rw [if_neg h0]
      have hlen : L.length = pre.length + tail.length := by rw [hL]; simp [cat]
      have hpos : 0 < tail.length := List.length_pos_iff.2 h0
      rw [allGo_bad hf (by omega) (by rw [hd]; exact ht.resolve_left h0), hd]
      simp [cat]
  | p :: rest, pre, out, f, hp, hL, hf => by
    have hd : L.drop pre.length = frameL p ++ (cat rest ++ tail) := by rw [hL]; simp [cat]
    have h1 := take_frame p (cat rest ++ tail) (hp p (List.mem_cons_self ..))
    have hlen : L.length = pre.length + (p.length + 8) + (cat rest ++ tail).length := by rw [hL]; simp [cat, frameL_length]; omega
    obtain ⟨f', hf', e⟩ := allGo_more (out := out) hf (by omega) (by rw [hd]; exact h1.1)
    rw [hd, h1.2.1] at hf'
    rw [e, hd, h1.2.1, h1.2.2]
    have := allGo_cat L tail ht rest (pre ++ frameL p) (out ++ [p]) f' (fun q hq => hp q (List.mem_cons_of_mem _ hq)) (by rw [hL]; simp [cat]) (by rw [List.length_append, frameL_length]; omega)
    rw [List.length_append, frameL_length] at this
    rw [this]
    simp [cat]
theorem all_cat (ps : List (List UInt8)) (tail : List UInt8) (hp : ∀ p ∈ ps, p.length ≤ 1048576) (ht : tail = [] ∨ takeE tail ≠ 0) : allF (cat ps ++ tail) = (ps, (cat ps).length, if tail = [] then 0 else takeE tail) := by
  have := allGo_cat (cat ps ++ tail) tail ht ps [] [] ((cat ps ++ tail).length + 1) hp (by simp) (by simp)
  simpa [allF] using this
end Frame
end Go.Proofs.YtkmkpdmjdfbpjaaGreatDoor

/- The plain part of CrcTurned: bytes as one number; a sum is linear in it; bits within 32 places that are turned give another register (no condition beyond the numbers' sizes). -/
namespace Go.Proofs.YtkmkpdmjdfbpjaaGreatDoor
namespace Crc

/-- bytes as one number, the first byte lowest -/
def num : List UInt8 → Nat
  | [] => 0
  | c :: l => c.toNat ^^^ (2 ^ 8 * num l)
theorem num_lt (l : List UInt8) : num l < 2 ^ (8 * l.length) := by
  induction l with
  | nil => simp [num]
  | cons c l ih =>
    have hc := UInt8.toNat_lt c
    simp only [num, List.length_cons]
    refine Nat.xor_lt_two_pow ?_ ?_
    · exact Nat.lt_of_lt_of_le hc (Nat.pow_le_pow_right (by omega) (by omega))
    · rw [show 8 * (l.length + 1) = 8 + 8 * l.length by omega, Nat.pow_add]
      exact Nat.mul_lt_mul_of_pos_left ih (by omega)
theorem updL_num (l : List UInt8) : ∀ r, updL r l = stpN (8 * l.length) (r ^^^ num l) := by
  induction l with
  | nil => intro r; simp [updL, num, stpN]
  | cons c l ih =>
    intro r
    show updL (upd r c) l = _
    rw [ih, upd_bits, List.length_cons, show 8 * (l.length + 1) = 8 * l.length + 8 by omega, stpN_add]
    congr 1
    rw [num, ← Nat.xor_assoc, stpN_xor 8 (r ^^^ c.toNat) (2 ^ 8 * num l), stpN_shift]
/-- a bit that is turned -/
theorem num_set (l : List UInt8) : ∀ (p : Nat) (c : UInt8), l[p / 8]? = some c → num (l.set (p / 8) (c ^^^ UInt8.ofNat (2 ^ (p % 8)))) = num l ^^^ 2 ^ p := by
  induction l with
  | nil => intro p c h; simp at h
  | cons d l ih =>
    intro p c h
    by_cases hp : p < 8
    · have h0 : p / 8 = 0 := by omega
      have h1 : p % 8 = p := by omega
      rw [h0] at h
      simp only [List.getElem?_cons_zero, Option.some.injEq] at h
      subst h
      rw [h0, h1]
      simp only [List.set_cons_zero, num]
      have h2 : (2 : Nat) ^ p < 256 := by
        have := Nat.pow_lt_pow_right (a := 2) (by omega) hp
        omega
      have : (d ^^^ UInt8.ofNat (2 ^ p)).toNat = d.toNat ^^^ 2 ^ p := by
        rw [UInt8.toNat_xor]
        congr 1
        simp only [UInt8.toNat_ofNat']
        exact Nat.mod_eq_of_lt h2
      rw [this, Nat.xor_assoc, Nat.xor_comm (2 ^ p), ← Nat.xor_assoc]
    · obtain ⟨q, rfl⟩ : ∃ q, p = q + 8 := ⟨p - 8, by omega⟩
      have h0 : (q + 8) / 8 = q / 8 + 1 := by omega
      have h1 : (q + 8) % 8 = q % 8 := by omega
      rw [h0] at h
      simp only [List.getElem?_cons_succ] at h
      rw [h0, h1]
      simp only [List.set_cons_succ, num]
      rw [ih q c h, Nat.xor_assoc]
      congr 1
      rw [Nat.pow_add, Nat.mul_comm (2 ^ q) (2 ^ 8)]
      apply Nat.eq_of_testBit_eq
      intro i
      simp only [Nat.testBit_xor, Nat.testBit_two_pow_mul]
      by_cases hi : 8 ≤ i <;> simp [hi]
theorem stp_ne {e : Nat} (h : e < 4294967296) (h0 : e ≠ 0) : stp e ≠ 0 := by
  unfold stp
  rcases Nat.mod_two_eq_zero_or_one e with hm | hm
  · simp [hm]; omega
  · simp only [hm, if_true]
    intro h1
    have h2 : e / 2 = 3988292384 := by
      have := congrArg (· ^^^ 3988292384) h1
      simpa [Nat.xor_assoc] using this
    omega
theorem stpN_ne (n : Nat) {e : Nat} (h : e < 4294967296) (h0 : e ≠ 0) : stpN n e ≠ 0 := by
  induction n with
  | zero => exact h0
  | succ n ih => exact stp_ne (stpN_lt n h) ih
/-- what is turned behind k bits of 'by', from place p on, in L bits -/
def turn (b p L k : Nat) : Nat := 2 ^ p * (b % 2 ^ k) % 2 ^ L
theorem turn_bit (b p L k j : Nat) : (turn b p L k).testBit j = (decide (j < L) && decide (p ≤ j) && decide (j - p < k) && b.testBit (j - p)) := by
  unfold turn
  rw [Nat.testBit_mod_two_pow, Nat.testBit_two_pow_mul, Nat.testBit_mod_two_pow]
  by_cases h1 : j < L <;> by_cases h2 : p ≤ j <;> by_cases h3 : j - p < k <;> simp [h1, h2, h3]
theorem turn_zero (b p L : Nat) : turn b p L 0 = 0 := by simp [turn, Nat.mod_one]
theorem turn_no (b p L k : Nat) (h : b.testBit k = false ∨ L ≤ p + k) : turn b p L (k + 1) = turn b p L k := by
  apply Nat.eq_of_testBit_eq
  intro j
  rw [turn_bit, turn_bit]
  by_cases h2 : p ≤ j
  · by_cases hk : j - p = k
    · rcases h with h | h
      · rw [hk, h]; simp
      · have : ¬ j < L := by omega
        simp [this]
    · have : (j - p < k + 1) = (j - p < k) := by simp only [eq_iff_iff]; omega
      simp [this]
  · simp [h2]
theorem turn_yes (b p L k : Nat) (h : b.testBit k = true) (hl : p + k < L) : turn b p L (k + 1) = turn b p L k ^^^ 2 ^ (p + k) := by
  apply Nat.eq_of_testBit_eq
  intro j
  rw [Nat.testBit_xor, turn_bit, turn_bit, Nat.testBit_two_pow]
  by_cases h2 : p ≤ j
  · by_cases hk : j - p = k
    · have hj : j = p + k := by omega
      subst hj
      have : p + k - p = k := by omega
      simp [this, h, hl]
    · have : (j - p < k + 1) = (j - p < k) := by simp only [eq_iff_iff]; omega
      have h3 : ¬ p + k = j := by omega
      simp [this, h3]
  · have h3 : ¬ p + k = j := by omega
    simp [h2, h3]
theorem turn_yes_ne (b p L k : Nat) (h : b.testBit k = true) (hl : p + k < L) : turn b p L (k + 1) ≠ 0 := by
  intro h0
  have := turn_bit b p L (k + 1) (p + k)
  rw [h0] at this
  have e : p + k - p = k := by omega
  simp [e, h, hl] at this
/-- THE PLAIN LAW -/
theorem turned (l z : List UInt8) (b p : Nat) (hb : b < 4294967296) (hlen : z.length = l.length) (hp : p ≤ 8 * l.length) (hz : num z = num l ^^^ turn b p (8 * l.length) 32) (hne : turn b p (8 * l.length) 32 ≠ 0) :
    sum z ≠ sum l := by
  have h1 := updL_num z 4294967295
  have h2 := updL_num l 4294967295
  rw [hlen, hz, ← Nat.xor_assoc, stpN_xor, ← h2] at h1
  have ht : turn b p (8 * l.length) 32 = 2 ^ p * (b % 2 ^ (8 * l.length - p)) := by
    unfold turn
    rw [Nat.mod_eq_of_lt (show b < 2 ^ 32 by omega)]
    rw [show 8 * l.length = p + (8 * l.length - p) by omega, Nat.pow_add, Nat.mul_mod_mul_left]
    congr 3
    omega
  have he : b % 2 ^ (8 * l.length - p) ≠ 0 := by
    intro h0
    rw [ht, h0] at hne
    exact hne rfl
  have hs : stpN (8 * l.length) (turn b p (8 * l.length) 32) ≠ 0 := by
    rw [ht, show 8 * l.length = (8 * l.length - p) + p by omega, stpN_add]
    have : (8 * l.length - p) + p - p = 8 * l.length - p := by omega
    rw [this, stpN_shift]
    exact stpN_ne _ (Nat.lt_of_le_of_lt (Nat.mod_le _ _) hb) he
  have hz' := updL_lt z (show 4294967295 < 4294967296 by omega)
  have hl' := updL_lt l (show 4294967295 < 4294967296 by omega)
  unfold sum
  intro h
  have h3 : updL 4294967295 z = updL 4294967295 l := by omega
  rw [h3] at h1
  apply hs
  have := congrArg (updL 4294967295 l ^^^ ·) h1
  simpa [← Nat.xor_assoc] using this.symm
end Crc
end Go.Proofs.YtkmkpdmjdfbpjaaGreatDoor

/- Of frames that are cut, or of which a byte is turned, all ahead are told (plain lists; no program). -/
namespace Go.Proofs.YtkmkpdmjdfbpjaaGreatDoor
namespace Frame
/-! ### a byte turned has another sum -/
theorem updL_ne (l : List UInt8) {r r' : Nat} (h : r < 4294967296) (h' : r' < 4294967296) (hne : r ≠ r') : Crc.updL r l ≠ Crc.updL r' l := by
  intro e
  rw [Crc.updL_num, Crc.updL_num] at e
  have h1 := Crc.stpN_xor (8 * l.length) (r ^^^ Crc.num l) (r' ^^^ Crc.num l)
  rw [e, Nat.xor_self] at h1
  have h2 : (r ^^^ Crc.num l) ^^^ (r' ^^^ Crc.num l) = r ^^^ r' := by
    rw [Nat.xor_comm r' (Crc.num l), Nat.xor_assoc, ← Nat.xor_assoc (Crc.num l), Nat.xor_self, Nat.zero_xor]
  rw [h2] at h1
  refine Crc.stpN_ne (8 * l.length) (e := r ^^^ r') (Nat.xor_lt_two_pow (n := 32) h h') (fun h0 => hne ?_) h1
  have := congrArg (· ^^^ r') h0
  simpa [Nat.xor_assoc] using this
theorem upd_ne {r : Nat} {c c' : UInt8} (_h : r < 4294967296) (hne : c ≠ c') : Crc.upd r c ≠ Crc.upd r c' := by
  intro e
  rw [Crc.upd_bits, Crc.upd_bits] at e
  have h1 := Crc.stpN_xor 8 (r ^^^ c.toNat) (r ^^^ c'.toNat)
  rw [e, Nat.xor_self] at h1
  have h2 : (r ^^^ c.toNat) ^^^ (r ^^^ c'.toNat) = c.toNat ^^^ c'.toNat := by
    rw [Nat.xor_comm r c.toNat, Nat.xor_assoc, ← Nat.xor_assoc r, Nat.xor_self, Nat.zero_xor]
  rw [h2] at h1
  have hc := UInt8.toNat_lt c
  have hc' := UInt8.toNat_lt c'
  have h8 : c.toNat ^^^ c'.toNat < 2 ^ 8 := Nat.xor_lt_two_pow hc hc'
  refine Crc.stpN_ne 8 (e := c.toNat ^^^ c'.toNat) (by omega) (fun h0 => hne ?_) h1
  apply UInt8.toNat_inj.1
  have := congrArg (· ^^^ c'.toNat) h0
  simpa [Nat.xor_assoc] using this
theorem sum_ne (a b : List UInt8) {c c' : UInt8} (hne : c ≠ c') : Crc.sum (a ++ c :: b) ≠ Crc.sum (a ++ c' :: b) := by
  have h1 : ∀ d, Crc.updL 4294967295 (a ++ d :: b) = Crc.updL (Crc.upd (Crc.updL 4294967295 a) d) b := fun d => by
    rw [Crc.updL_append]
    rfl
  have hr := Crc.updL_lt a (r := 4294967295) (by omega)
  have h2 := updL_ne b (Crc.upd_lt c hr) (Crc.upd_lt c' hr) (upd_ne hr hne)
  have l1 := Crc.updL_lt (a ++ c :: b) (r := 4294967295) (by omega)
  have l2 := Crc.updL_lt (a ++ c' :: b) (r := 4294967295) (by omega)
  unfold Crc.sum
  rw [h1] at l1 ⊢
  rw [h1] at l2 ⊢
  omega
theorem sumL_inj {s t : Nat} (hs : s < 4294967296) (ht : t < 4294967296) (h : sumL s = sumL t) : s = t := by
  unfold sumL at h
  simp only [List.cons.injEq, and_true] at h
  obtain ⟨h0, h1, h2, h3⟩ := h
  have e0 := congrArg UInt8.toNat h0
  have e1 := congrArg UInt8.toNat h1
  have e2 := congrArg UInt8.toNat h2
  have e3 := congrArg UInt8.toNat h3
  simp at e0 e1 e2 e3
  omega
/-! ### a frame cut -/
theorem take_cut (p q : List UInt8) (r : Nat) (hp : p.length ≤ 1048576) (hr : r < p.length + 8) : takeE ((frameL p ++ q).take r) = 2 := by
  have hlen : ((frameL p ++ q).take r).length = r := by rw [List.length_take, List.length_append, frameL_length]; omega
  by_cases h4 : r < 4
  · exact takeE_short (by omega)
  · obtain ⟨s, rfl⟩ : ∃ s, r = s + 4 := ⟨r - 4, by omega⟩
    have hl : lenOf ((frameL p ++ q).take (s + 4)) = p.length := by
      have := frame_len p q hp
      rw [frame_cons] at this ⊢
      simp only [List.take_succ_cons, lenOf, List.getD_cons_zero, List.getD_cons_succ] at this ⊢
      exact this
    refine takeE_cut (by omega) ?_ (by omega) (by omega)
    rw [hl, List.take_take, Nat.min_eq_left (by omega), frame_take4]
/-! ### a byte turned -/
theorem xor_ne {x y : UInt8} (hy : y ≠ 0) : x ^^^ y ≠ x := fun h => hy (by
  have := congrArg (x ^^^ ·) h
  simpa [← UInt8.xor_assoc] using this)
theorem xor_cancel {a b c : UInt8} (h : a ^^^ c = b ^^^ c) : a = b := by
  have := congrArg (· ^^^ c) h
  simpa [UInt8.xor_assoc] using this
/-- a head of which a byte is turned -/
theorem head_turned {a b c d : UInt8} {t : List UInt8} (h : d ≠ 165 ^^^ a ^^^ b ^^^ c) : takeE (a :: b :: c :: d :: t) = 7 := by
  refine takeE_head (by simp) fun e => h ?_
  have hb := UInt8.toNat_lt b
  have ha := UInt8.toNat_lt a
  have hc := UInt8.toNat_lt c
  have hl : lenOf (a :: b :: c :: d :: t) = a.toNat + 256 * b.toNat + 65536 * c.toNat := by simp [lenOf]
  rw [hl] at e
  have e0 : UInt8.ofNat (a.toNat + 256 * b.toNat + 65536 * c.toNat) = a := by apply UInt8.toNat_inj.1; simp <;> omega
  have e1 : UInt8.ofNat ((a.toNat + 256 * b.toNat + 65536 * c.toNat) / 256) = b := by apply UInt8.toNat_inj.1; simp <;> omega
  have e2 : UInt8.ofNat ((a.toNat + 256 * b.toNat + 65536 * c.toNat) / 65536) = c := by apply UInt8.toNat_inj.1; simp <;> omega
  unfold headL at e
  rw [e0, e1, e2] at e
  simp at e
  exact e.symm
theorem turned_body (p q m s : List UInt8) (hp : p.length ≤ 1048576) (hm : m.length = p.length) (hs : s.length = 4) (hne : crcL m ≠ s) : takeE (headL p.length ++ (m ++ (s ++ q))) = 7 := by
  have hl : lenOf (headL p.length ++ (m ++ (s ++ q))) = p.length := by
    have := frame_len p q hp
    rw [frame_cons] at this
    simpa [headL, lenOf] using this
  have hlen : (headL p.length ++ (m ++ (s ++ q))).length = p.length + 8 + q.length := by
    simp only [List.length_append, headL_length, hm, hs]; omega
  refine takeE_sum (by omega) ?_ (by omega) (by omega) ?_
  · rw [hl]
    rfl
  · rw [hl]
    have e1 : ((headL p.length ++ (m ++ (s ++ q))).take (p.length + 4)).drop 4 = m := by
      rw [← hm]
      simp only [headL, List.cons_append, List.nil_append, List.take_succ_cons, List.drop_succ_cons, List.drop_zero]
      rw [List.take_left]
    have e2 : ((headL p.length ++ (m ++ (s ++ q))).take (p.length + 8)).drop (p.length + 4) = s := by
      rw [← hm]
      simp only [headL, List.cons_append, List.nil_append, List.take_succ_cons, List.drop_succ_cons]
      rw [show m.length + 4 = m.length + s.length by omega, List.take_length_add_append, List.drop_left, List.take_left]
    rw [e1, e2]
    exact hne
theorem set_mid {l : List UInt8} {i : Nat} (h : i < l.length) (y : UInt8) : ∃ a x b, l = a ++ x :: b ∧ l.set i y = a ++ y :: b ∧ l.getD i 0 = x ∧ a.length = i := by
  refine ⟨l.take i, l[i], l.drop (i + 1), ?_, ?_, ?_, ?_⟩
  · rw [List.getElem_cons_drop, List.take_append_drop]
  · rw [List.set_eq_take_append_cons_drop, if_pos h]
  · simp [List.getD_eq_getElem?_getD, h]
  · rw [List.length_take]; omega
/-- a frame of which byte i is turned -/
theorem frame_turned (p q : List UInt8) (hp : p.length ≤ 1048576) {i : Nat} (hi : i < p.length + 8) {y : UInt8} (hy : y ≠ 0) :
    takeE ((frameL p).set i ((frameL p).getD i 0 ^^^ y) ++ q) = 7 := by
  have hf : frameL p = headL p.length ++ (p ++ crcL p) := by simp [frameL]
  by_cases h4 : i < 4
  · have hc := frame_cons p []
    rw [List.append_nil, List.append_nil] at hc
    rw [hc]
    match i, h4 with
    | 0, _ =>
      simp only [List.set_cons_zero, List.getD_cons_zero, List.cons_append]
      refine head_turned fun e => ?_
      have e2 := xor_cancel (xor_cancel e)
      rw [← UInt8.xor_assoc] at e2
      exact xor_ne hy e2.symm
    | 1, _ =>
      simp only [List.set_cons_zero, List.set_cons_succ, List.getD_cons_zero, List.getD_cons_succ, List.cons_append]
      refine head_turned fun e => ?_
      have e2 := xor_cancel e
      rw [← UInt8.xor_assoc] at e2
      exact xor_ne hy e2.symm
    | 2, _ =>
      simp only [List.set_cons_zero, List.set_cons_succ, List.getD_cons_zero, List.getD_cons_succ, List.cons_append]
      refine head_turned fun e => ?_
      rw [← UInt8.xor_assoc] at e
      exact xor_ne hy e.symm
    | 3, _ =>
      simp only [List.set_cons_zero, List.set_cons_succ, List.getD_cons_zero, List.getD_cons_succ, List.cons_append]
      exact head_turned fun e => xor_ne hy e
  · by_cases hm : i < p.length + 4
    · obtain ⟨a, x, b, e1, e2, e3, e4⟩ := set_mid (l := p) (i := i - 4) (by omega) (p.getD (i - 4) 0 ^^^ y)
      have hg : (frameL p).getD i 0 = p.getD (i - 4) 0 := by
        rw [hf, List.getD_eq_getElem?_getD, List.getElem?_append_right (by rw [headL_length]; omega), headL_length, List.getElem?_append_left (by omega), List.getD_eq_getElem?_getD]
      have hs : (frameL p).set i (p.getD (i - 4) 0 ^^^ y) = headL p.length ++ (p.set (i - 4) (p.getD (i - 4) 0 ^^^ y) ++ crcL p) := by
        rw [hf, List.set_append_right _ _ (by rw [headL_length]; omega), headL_length, List.set_append_left _ _ (by omega)]
      rw [hg, hs]
      simp only [List.append_assoc]
      refine turned_body p q _ _ hp (by simp) rfl fun h => ?_
      have h2 := sumL_inj (Crc.sum_lt _) (Crc.sum_lt _) h
      rw [e2] at h2
      have h3 : Crc.sum p = Crc.sum (a ++ x :: b) := by rw [← e1]
      rw [h3, e3] at h2
      exact sum_ne a b (xor_ne hy) h2
    · have hg : (frameL p).getD i 0 = (crcL p).getD (i - 4 - p.length) 0 := by
        rw [hf, List.getD_eq_getElem?_getD, List.getElem?_append_right (by rw [headL_length]; omega), headL_length, List.getElem?_append_right (by omega), List.getD_eq_getElem?_getD]
      have hs : (frameL p).set i ((crcL p).getD (i - 4 - p.length) 0 ^^^ y) = headL p.length ++ (p ++ (crcL p).set (i - 4 - p.length) ((crcL p).getD (i - 4 - p.length) 0 ^^^ y)) := by
        rw [hf, List.set_append_right _ _ (by rw [headL_length]; omega), headL_length, List.set_append_right _ _ (by omega)]
      obtain ⟨a, x, b, e1, e2, e3, e4⟩ := set_mid (l := crcL p) (i := i - 4 - p.length) (by rw [crcL_length]; omega) ((crcL p).getD (i - 4 - p.length) 0 ^^^ y)
      rw [hg, hs]
      simp only [List.append_assoc]
      refine turned_body p q _ _ hp rfl (by rw [List.length_set, crcL_length]) fun h => ?_
      rw [e2, e3, e1] at h
      have := (List.append_cancel_left h)
      injection this with h1
      exact xor_ne hy h1.symm
/-! ### rows of frames -/
/-- where the first j frames end -/
def endAt (ps : List (List UInt8)) (j : Nat) : Nat := (cat (ps.take j)).length
theorem endAt_zero (ps : List (List UInt8)) : endAt ps 0 = 0 := by simp [endAt, cat]
theorem endAt_succ {ps : List (List UInt8)} {j : Nat} (h : j < ps.length) : endAt ps (j + 1) = endAt ps j + (ps[j].length + 8) := by
  unfold endAt
  rw [List.take_add_one, List.getElem?_eq_getElem h, cat_append, List.length_append]
  simp [cat, frameL_length]
theorem endAt_all {ps : List (List UInt8)} {j : Nat} (h : ps.length ≤ j) : endAt ps j = (cat ps).length := by
  unfold endAt
  rw [List.take_of_length_le h]
theorem endAt_le (ps : List (List UInt8)) (j : Nat) : endAt ps j ≤ (cat ps).length := by
  have : (cat ps).length = endAt ps j + (cat (ps.drop j)).length := by
    rw [endAt, ← List.length_append, ← cat_append, List.take_append_drop]
  omega
theorem cat_split {ps : List (List UInt8)} {j : Nat} (h : j < ps.length) : cat ps = cat (ps.take j) ++ (frameL ps[j] ++ cat (ps.drop (j + 1))) := by
  have : ps = ps.take j ++ (ps[j] :: ps.drop (j + 1)) := by
    rw [List.getElem_cons_drop, List.take_append_drop]
  conv => lhs; rw [this]
  rw [cat_append]
  rfl
/-- frames that are cut -/
theorem all_cut {ps : List (List UInt8)} (hp : ∀ p ∈ ps, p.length ≤ 1048576) {n j : Nat} (hn : n ≤ (cat ps).length) (h1 : endAt ps j ≤ n) (hj : j ≤ ps.length) (h2 : j = ps.length ∨ n < endAt ps (j + 1)) :
    allF ((cat ps).take n) = (ps.take j, endAt ps j, if n = endAt ps j then 0 else 2) := by
  have hpt : ∀ p ∈ ps.take j, p.length ≤ 1048576 := fun p h => hp p (List.mem_of_mem_take h)
  by_cases hlt : j < ps.length
  · have hn2 : n < endAt ps j + (ps[j].length + 8) := by
      rcases h2 with h2 | h2
      · omega
      · rw [endAt_succ hlt] at h2; exact h2
    have e : (cat ps).take n = cat (ps.take j) ++ (frameL ps[j] ++ cat (ps.drop (j + 1))).take (n - endAt ps j) := by
      rw [cat_split hlt, List.take_append, List.take_of_length_le (by unfold endAt at h1; exact h1)]
      rfl
    have hc := take_cut ps[j] (cat (ps.drop (j + 1))) (n - endAt ps j) (hp _ (List.getElem_mem hlt)) (by omega)
    rw [e, all_cat (ps.take j) _ hpt (.inr (by rw [hc]; omega)), hc]
    by_cases h0 : n = endAt ps j
    · rw [if_pos h0, if_pos (by rw [h0, Nat.sub_self]; rfl)]
      rfl
    · rw [if_neg h0, if_neg]
      · rfl
      · intro hnil
        have := congrArg List.length hnil
        rw [List.length_take, List.length_append, frameL_length] at this
        simp at this
        omega
  · have hjl : j = ps.length := by omega
    have he : endAt ps j = (cat ps).length := endAt_all (by omega)
    have e : (cat ps).take n = cat (ps.take j) ++ [] := by
      rw [List.take_of_length_le (by omega), List.append_nil, List.take_of_length_le (by omega)]
    rw [e, all_cat (ps.take j) [] hpt (.inl rfl), if_pos rfl, if_pos (by omega)]
    rfl
/-- frames of which a byte is turned -/
theorem all_turned {ps : List (List UInt8)} (hp : ∀ p ∈ ps, p.length ≤ 1048576) {k j : Nat} (hj : j < ps.length) (h1 : endAt ps j ≤ k) (h2 : k < endAt ps (j + 1)) {y : UInt8} (hy : y ≠ 0) :
    allF ((cat ps).set k ((cat ps).getD k 0 ^^^ y)) = (ps.take j, endAt ps j, 7) := by
  rw [endAt_succ hj] at h2
  have hs := cat_split hj
  have hla : (cat (ps.take j)).length = endAt ps j := rfl
  have hg : (cat ps).getD k 0 = (frameL ps[j]).getD (k - endAt ps j) 0 := by
    rw [hs, List.getD_eq_getElem?_getD, List.getElem?_append_right (by rw [hla]; exact h1), hla, List.getElem?_append_left (by rw [frameL_length]; omega), List.getD_eq_getElem?_getD]
  have e : (cat ps).set k ((cat ps).getD k 0 ^^^ y) = cat (ps.take j) ++ ((frameL ps[j]).set (k - endAt ps j) ((frameL ps[j]).getD (k - endAt ps j) 0 ^^^ y) ++ cat (ps.drop (j + 1))) := by
    rw [hg]
    conv => lhs; rw [hs]
    rw [List.set_append_right _ _ (by rw [hla]; exact h1), hla, List.set_append_left _ _ (by rw [frameL_length]; omega)]
  have ht := frame_turned ps[j] (cat (ps.drop (j + 1))) (hp _ (List.getElem_mem hj)) (i := k - endAt ps j) (by omega) hy
  rw [e, all_cat (ps.take j) _ (fun p h => hp p (List.mem_of_mem_take h)) (.inr (by rw [ht]; omega)), ht, if_neg]
  · rfl
  · intro hnil
    have := congrArg List.length hnil
    simp [frameL_length] at this
/-- the row of ends -/
def endsL (ps : List (List UInt8)) (k : Nat) : List Int := (List.range (k + 1)).map fun j => (endAt ps j : Int)
theorem endsL_len (ps : List (List UInt8)) (k : Nat) : (endsL ps k).length = k + 1 := by simp [endsL]
theorem endsL_get (ps : List (List UInt8)) {k j : Nat} (h : j ≤ k) : (endsL ps k)[j]? = some (endAt ps j : Int) := by
  simp [endsL, show j < k + 1 by omega]
theorem endsL_succ (ps : List (List UInt8)) (k : Nat) : endsL ps (k + 1) = endsL ps k ++ [(endAt ps (k + 1) : Int)] := by
  simp [endsL, List.range_succ]
end Frame
end Go.Proofs.YtkmkpdmjdfbpjaaGreatDoor

/- Messages' bytes read again, cut, turned, and with more behind, in plain words (no condition). -/
namespace Go.Proofs.YtkmkpdmjdfbpjaaGreatDoor
set_option linter.unusedSimpArgs false
set_option linter.unusedVariables false
namespace Msg
open Num Evt
/-- a message as it is read again -/
def back (m : Ms) : Ms := msOf (heads m) (m.es.map fun e => evOf e.items)
theorem back_items (m : Ms) : (back m).es.map Ev.items = m.es.map Ev.items := by
  show (m.es.map fun e => evOf e.items).map Ev.items = _
  rw [List.map_map]
  exact List.map_congr_left fun e _ => items_evOf e.kinds
theorem sameM_iff {m k : Ms} : sameM m k = true ↔ heads m = heads k ∧ m.es.map Ev.items = k.es.map Ev.items := by
  simp only [sameM, Bool.and_eq_true, beq_iff_eq, eqEs_iff, heads, known, List.cons.injEq, It.n.injEq, and_true]
  constructor
  · rintro ⟨h0, h1, h2, ⟨h3, h4, h5, h6, h7, h8, h9, h10, h11, h12, h13, h14, h15, h16, h17, h18⟩, h⟩
    exact ⟨⟨h0, h1, h2, h3, h4, h5, h6, h7, h8, h9, h10, h11, h12, h13, h14, h15, h16, h17, h18⟩, h⟩
  · rintro ⟨⟨h0, h1, h2, h3, h4, h5, h6, h7, h8, h9, h10, h11, h12, h13, h14, h15, h16, h17, h18⟩, h⟩
    exact ⟨h0, h1, h2, ⟨h3, h4, h5, h6, h7, h8, h9, h10, h11, h12, h13, h14, h15, h16, h17, h18⟩, h⟩
theorem sameM_back (m : Ms) : sameM m (back m) = true := sameM_iff.2 ⟨rfl, (back_items m).symm⟩
theorem sameM_back' (m : Ms) : sameM (back m) m = true := sameM_iff.2 ⟨rfl, back_items m⟩
theorem payload_eq {m k : Ms} (h : sameM m k = true) : payload m = payload k := by
  obtain ⟨h1, h2⟩ := sameM_iff.1 h
  have hl : m.es.length = k.es.length := by have := congrArg List.length h2; simpa using this
  have hb : m.es.flatMap Ev.bytes = k.es.flatMap Ev.bytes := by
    have : ∀ l : List Ev, l.flatMap Ev.bytes = (l.map Ev.items).flatMap putAll := fun l => by rw [List.flatMap_map]; rfl
    rw [this, this, h2]
  unfold payload
  rw [h1, hl, hb]
theorem right_len {m : Ms} (h : rightM m = true) : m.es.length ≤ 200 := by
  unfold rightM at h
  simp only [Bool.and_eq_true, decide_eq_true_eq] at h
  have h3 := h.1.2
  unfold mostB at h3
  split at h3
  · omega
  · split at h3 <;> omega
theorem right_all {m : Ms} (h : rightM m = true) : ∀ e ∈ m.es, rightE e = true := by
  intro e he
  unfold rightM at h
  simp only [Bool.and_eq_true, Bool.not_eq_true'] at h
  have h4 := h.2
  rw [List.any_eq_false] at h4
  have := h4 e he
  unfold oddB at this
  cases hr : rightE e
  · rw [hr] at this; simp at this
  · rfl
theorem readM_payload {m : Ms} (h : rightM m = true) : readM (payload m) = some (back m) := by
  have h1 : readAll shapeM ⟨payload m, false⟩ = (heads m, ⟨putB m.es.length ++ m.es.flatMap Ev.bytes, false⟩) := by
    have e : readAll shapeM ⟨payload m, false⟩ = readAll (heads m) ⟨payload m, false⟩ := readAll_like rfl _
    rw [e]
    unfold payload
    rw [List.append_assoc]
    exact readAll_put (heads_ok h) _
  have h2 := numP_put (n := (m.es.length : Int)) (most := 200) (by omega) (by have := right_len h; omega) (by decide) (m.es.flatMap Ev.bytes)
  have h3 := readEs_put (right_all h) []
  rw [List.append_nil] at h3
  unfold readM
  rw [h1]
  dsimp only
  rw [h2]
  dsimp only
  rw [Int.toNat_natCast, h3]
  rfl
theorem right_back (m : Ms) : rightM (back m) = rightM m := by
  have h1 : (back m).es.any (oddB (back m)) = m.es.any (oddB m) := by
    show (m.es.map fun e => evOf e.items).any _ = _
    rw [List.any_map]
    rfl
  have h2 : (back m).es.length = m.es.length := List.length_map ..
  unfold rightM
  rw [h1, h2]
  rfl
theorem wholeF (p q : List UInt8) (h : p.length ≤ 1048576) : Frame.wholeE (Frame.frameL p ++ q) = (if q.length = 0 then 0 else 2) ∧ (q.length = 0 → Frame.wholeP (Frame.frameL p ++ q) = p) := by
  obtain ⟨h1, h2, h3⟩ := Frame.take_frame p q h
  have hl : (Frame.frameL p ++ q).length = p.length + 8 + q.length := by rw [List.length_append, Frame.frameL_length]
  unfold Frame.wholeE Frame.wholeP
  rw [h1, h2, h3, hl]
  constructor
  · rw [if_neg (by simp)]
    by_cases h0 : q.length = 0
    · rw [if_neg (by omega), if_pos h0]
    · rw [if_pos (by omega), if_neg h0]
  · intro h0
    rw [if_pos ⟨rfl, by omega⟩]
theorem parse_frame {m : Ms} (h : rightM m = true) (hp : (payload m).length ≤ 1048576) : parseM (Frame.frameL (payload m)) = some (back m) ∧ parseE (Frame.frameL (payload m)) = 0 := by
  have hw := wholeF (payload m) [] hp
  rw [List.append_nil] at hw
  have h1 : Frame.wholeE (Frame.frameL (payload m)) = 0 := hw.1
  have h2 := hw.2 rfl
  have hpm : parseM (Frame.frameL (payload m)) = some (back m) := by
    unfold parseM payM
    rw [if_pos h1, h2, readM_payload h]
    show (if rightM (back m) = true then some (back m) else none) = _
    rw [if_pos (by rw [right_back]; exact h)]
  exact ⟨hpm, by unfold parseE; rw [if_pos h1, hpm]; rfl⟩
theorem parseE_ne {l : List UInt8} {e : Int} (h : Frame.wholeE l = e) (he : e ≠ 0) : parseE l = e ∧ parseM l = none := by
  unfold parseE parseM
  rw [h, if_neg he, if_neg he]
  exact ⟨rfl, rfl⟩
theorem parse_behind (p q : List UInt8) (hp : p.length ≤ 1048576) (hq : q ≠ []) : parseE (Frame.frameL p ++ q) = 2 := by
  refine (parseE_ne ?_ (by decide)).1
  rw [(wholeF p q hp).1, if_neg (by intro h; exact hq (List.eq_nil_of_length_eq_zero h))]
theorem parse_part (p : List UInt8) {k : Nat} (hp : p.length ≤ 1048576) (hk : k < p.length + 8) : parseE ((Frame.frameL p).take k) = 2 := by
  have := Frame.take_cut p [] k hp hk
  rw [List.append_nil] at this
  refine (parseE_ne ?_ (by decide)).1
  unfold Frame.wholeE
  rw [this, if_pos (by decide)]
theorem parse_turn (p : List UInt8) {i : Nat} (hp : p.length ≤ 1048576) (hi : i < p.length + 8) {y : UInt8} (hy : y ≠ 0) : parseE ((Frame.frameL p).set i ((Frame.frameL p).getD i 0 ^^^ y)) = 7 := by
  have := Frame.frame_turned p [] hp hi hy
  rw [List.append_nil] at this
  refine (parseE_ne ?_ (by decide)).1
  unfold Frame.wholeE
  rw [this, if_pos (by decide)]
theorem parse_inj {m k : Ms} (hm : rightM m = true) (hk : rightM k = true) (pm : (payload m).length ≤ 1048576) (pk : (payload k).length ≤ 1048576) : Frame.frameL (payload m) = Frame.frameL (payload k) ↔ sameM m k = true := by
  constructor
  · intro h
    have h1 := (parse_frame hm pm).1
    rw [h, (parse_frame hk pk).1] at h1
    have h2 := Option.some.inj h1
    have e1 := sameM_iff.1 (sameM_back m)
    have e2 := sameM_iff.1 (sameM_back k)
    rw [sameM_iff, e1.1, e1.2, e2.1, e2.2, h2]
    exact ⟨rfl, rfl⟩
  · intro h
    rw [payload_eq h]
theorem small_payload {m : Ms} (hs : ∀ e ∈ m.es, total e ≤ 300) (hl : m.es.length ≤ 30) : (payload m).length ≤ 18180 := by
  have h1 : ∀ l : List Ev, (∀ e ∈ l, total e ≤ 300) → (l.flatMap Ev.bytes).length ≤ 600 * l.length := by
    intro l
    induction l with
    | nil => intro _; simp
    | cons e l ih =>
      intro h
      have h2 := ih fun x hx => h x (List.mem_cons_of_mem _ hx)
      have h3 := short_len (h e (List.mem_cons_self ..))
      rw [List.flatMap_cons, List.length_append, List.length_cons]
      omega
  have h2 := h1 m.es hs
  have h3 : (putAll (heads m)).length ≤ 9 * (heads m).length + ((heads m).map tl).sum := putAll_len (heads m)
  have h4 : ((heads m).map tl).sum = 0 := by simp [heads, tl]
  have h5 : (heads m).length = 19 := by simp [heads]
  rw [h4, h5] at h3
  have h6 := putB_len m.es.length
  unfold payload
  rw [List.length_append, List.length_append]
  generalize (putAll (heads m)).length = a at *
  generalize (putB m.es.length).length = b at *
  generalize (m.es.flatMap Ev.bytes).length = c at *
  omega
end Msg
end Go.Proofs.YtkmkpdmjdfbpjaaGreatDoor

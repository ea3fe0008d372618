/-
  slices.Clone, IndexFunc and DeleteFunc on rows of events (no condition beyond the sizes).
-/
import Derived.Test.YtgfkopimjmggdaaDoorJ8
import Derived.Lib.SliceRun
import Derived.Deep.WholeRow
/- slices.SortStableFunc at events (no condition beyond the sizes and what the comparison gives). -/
namespace Go.Proofs.YtgfkopimjmggdaaDoor
set_option linter.unusedSimpArgs false
set_option linter.unusedVariables false
open Go.ChangeShapes Go.WideShapes Go.RowKit Go.Deep
namespace Acc
open Evt Vec Num Stable
attribute [local go_sem ↓] Evt.loadDot Evt.loadVec Evt.loadRow0 Evt.storeRow0 Evt.loadOnly0 Evt.loadOnly1 Evt.loadOnly2
theorem dvd_step {d p a : Nat} (hp : d ∣ p) (ha : d ∣ a) (h1 : a ≤ p) (h2 : p < a + d) : p = a := by
  have h3 : d ∣ p - a := Nat.dvd_sub hp ha
  have h4 : p - a = 0 := Nat.eq_zero_of_dvd_of_lt h3 (by omega)
  omega
/-- blocks of s, each in order -/
def Bks (s n : Nat) (xs : List Ev) : Prop := ∀ p, s ∣ p → Srt le p (min (p + s) n) xs
set_option maxHeartbeats 20000000 in
set_option maxRecDepth 20000 in
theorem stable_ (hC : Cmps) (w : World) (g n c : Nat) (es : List Ev) (sp : List Value) (hr : RowAt w g es sp) (hk : ∀ e ∈ es, Ok e) (hn : es.length = n) (hbig : n ≤ 1000000) :
    Calls Tryd.prog 36 #[.slice (some ⟨g, 0, none⟩) n c, .int .i64 (n : Int), cmpV] w fun x w' => x = .returned (.tuple #[]) ∧ ∃ es', RowAt w' g es' sp ∧ Mix 0 n es es' ∧ Srt le 0 n es' ∧ Chg (fun q => q = g) w w' := by
  have HR := Lib.hid (And.intro hr (And.intro hn hk))
  have ok : ∀ {es' : List Ev}, Mix 0 n es es' → ∀ e ∈ es', Ok e := fun h e he => HR.out.2.2 e (h.perm.mem_iff.1 he)
  have OK := Lib.hid (fun es' => @ok es')
  clear hr hn hk ok
  go_enter Tryd.func36, Tryd.ntmps36
  go_wp2_with fail
  go_loopw [7, 8] (fun av bv wr => ∃ (a b : Nat) (es' : List Ev), a ≤ n ∧ a + 20 = b ∧ av = .int .i64 a ∧ bv = .int .i64 b ∧ Hid (20 ∣ a) ∧ RowAt wr g es' sp ∧ Mix 0 n es es' ∧ Hid (∀ p, 20 ∣ p → p < a → Srt le p (min (p + 20) n) es') ∧ Chg (fun q => q = g) w wr) (fun av _ _ => n - (intOf av).toNat)
  case atStart => exact ⟨0, 20, es, by omega, by omega, by go_num, by go_num, Lib.hid (Nat.dvd_zero _), HR.out.1, Mix.refl _ _ _, Lib.hid (fun p _ h => by omega), Chg.refl _ _⟩
  case round =>
    obtain ⟨a, b, es', han, hab, rfl, rfl, HD, hrow, hmx, HB, hch⟩ := hrel
    by_cases hlt : b ≤ n
    · have hbi : (b : Int) ≤ n := by omega
      have hwb : IntKind.i64.wrap ((b : Int) + 20) = (b : Int) + 20 := IntWalk.i64_in _ (by omega)
      have C := Lib.hid (ins_ hC wr g n c a b es' sp hrow (OK.out _ hmx) (by rw [hmx.len, HR.out.2.1]) hlt hbig han)
      have H1 := Lib.hid (And.intro hmx hch)
      clear hrow hmx hch
      go_wp2_with fail
      with_reducible refine C.out.mono ?_
      rintro x w2 ⟨rfl, es2, r2, m2, s2, c2⟩
      have HE := Lib.hid (show RowAt w2 g es2 sp ∧ Mix 0 n es es2 ∧ (∀ p, 20 ∣ p → p < b → Srt le p (min (p + 20) n) es2) ∧ Chg (fun q => q = g) w w2 from
        ⟨r2, H1.out.1.trans (m2.mono (Nat.zero_le _) hlt), fun p hp hpb => by
          rcases Nat.lt_or_ge p a with h | h
          · refine (HB.out p hp h).keep m2 (.inl ?_)
            have : p + 20 ≤ a := by
              obtain ⟨k, hk⟩ := hp
              obtain ⟨l, hl⟩ := HD.out
              omega
            omega
          · have := dvd_step hp HD.out h (by omega)
            subst this
            exact s2.mono (Nat.le_refl _) (by omega), H1.out.2.trans c2 fun _ _ => id⟩)
      clear r2 m2 s2 c2 C
      go_wp2_with fail
      go_roundw
      case rel => exact ⟨b, b + 20, es2, by omega, by omega, rfl, by go_num, Lib.hid (by rw [← hab]; exact Nat.dvd_add HD.out (Nat.dvd_refl _)), HE.out.1, HE.out.2.1, Lib.hid HE.out.2.2.1, HE.out.2.2.2⟩
      case measure => simp [intOf]; omega
    · have hbi : ¬ (b : Int) ≤ n := by omega
      have C := Lib.hid (ins_ hC wr g n c a n es' sp hrow (OK.out _ hmx) (by rw [hmx.len, HR.out.2.1]) (Nat.le_refl _) hbig han)
      have H1 := Lib.hid (And.intro hmx hch)
      clear hrow hmx hch
      go_wp2_with fail
      with_reducible refine C.out.mono ?_
      rintro x w2 ⟨rfl, es2, r2, m2, s2, c2⟩
      have HE := Lib.hid (show RowAt w2 g es2 sp ∧ Mix 0 n es es2 ∧ Bks 20 n es2 ∧ Chg (fun q => q = g) w w2 from
        ⟨r2, H1.out.1.trans (m2.mono (Nat.zero_le _) (Nat.le_refl _)), fun p hp => by
          rcases Nat.lt_or_ge p a with h | h
          · refine (HB.out p hp h).keep m2 (.inl ?_)
            have : p + 20 ≤ a := by
              obtain ⟨k, hk⟩ := hp
              obtain ⟨l, hl⟩ := HD.out
              omega
            omega
          · rcases Nat.lt_or_ge p (a + 20) with h2 | h2
            · have := dvd_step hp HD.out h h2
              subst this
              exact s2.mono (Nat.le_refl _) (by omega)
            · exact Srt.one _ _ _ _ (by omega), H1.out.2.trans c2 fun _ _ => id⟩)
      clear r2 m2 s2 c2 C HB HD H1 hlt hbi hab han
      go_wp2_with fail
      generalize w2 = wo at *
      go_loopw [6, 7, 8, 9] (fun sv _ _ _ wr => ∃ (s : Nat) (es' : List Ev), 20 ≤ s ∧ s ≤ 2 * n + 20 ∧ sv = .int .i64 s ∧ RowAt wr g es' sp ∧ Mix 0 n es es' ∧ Hid (Bks s n es') ∧ Chg (fun q => q = g) w wr) (fun sv _ _ _ _ => 2 * n + 20 - (intOf sv).toNat)
      case atStart => exact ⟨20, es2, by omega, by omega, by go_num, HE.out.1, HE.out.2.1, Lib.hid HE.out.2.2.1, HE.out.2.2.2⟩
      case round =>
        obtain ⟨s, es1, hs20, hsn, rfl, hrow, hmx, HK, hch⟩ := hrel
        by_cases hsl : s < n
        · have hsli : (s : Int) < n := by omega
          obtain ⟨s2, hs2⟩ : ∃ q, 2 * s = q := ⟨_, rfl⟩
          have hw2 : IntKind.i64.wrap (2 * (s : Int)) = (s2 : Int) := by rw [show 2 * (s : Int) = (s2 : Int) by omega]; exact IntWalk.i64_in _ (by omega)
          have hw3 : IntKind.i64.wrap ((s : Int) * 2) = (s2 : Int) := by rw [show (s : Int) * 2 = (s2 : Int) by omega]; exact IntWalk.i64_in _ (by omega)
          have HS2 := Lib.hid hs2
          have H0 := Lib.hid (And.intro hrow (And.intro hmx hch))
          clear hrow hmx hch HE
          go_wp2_with fail
          generalize wr = wp at *
          go_loopw [7, 8] (fun av bv wr => ∃ (a b : Nat) (es' : List Ev), a ≤ n ∧ a + s2 = b ∧ av = .int .i64 a ∧ bv = .int .i64 b ∧ Hid (s2 ∣ a) ∧ RowAt wr g es' sp ∧ Mix 0 n es es' ∧ Hid (∀ p, s2 ∣ p → p < a → Srt le p (min (p + s2) n) es') ∧ Hid (∀ p, s ∣ p → a ≤ p → Srt le p (min (p + s) n) es') ∧ Chg (fun q => q = g) w wr) (fun av _ _ => n - (intOf av).toNat)
          case atStart => exact ⟨0, s2, es1, by omega, by omega, by go_num, by go_num, Lib.hid (Nat.dvd_zero _), H0.out.1, H0.out.2.1, Lib.hid (fun p _ h => by omega), Lib.hid (fun p hp _ => HK.out p hp), H0.out.2.2⟩
          case round =>
            obtain ⟨a, b, es', han, hab, rfl, rfl, HD, hrow, hmx, HB, HL, hch⟩ := hrel
            have HSD := Lib.hid (show s ∣ a from Nat.dvd_trans ⟨2, by omega⟩ HD.out)
            obtain ⟨m, hm⟩ : ∃ m, a + s = m := ⟨_, rfl⟩
            have hwm : IntKind.i64.wrap ((a : Int) + (s : Int)) = (m : Int) := by rw [← Int.natCast_add, hm]; exact IntWalk.i64_in _ (by omega)
            by_cases hlt : b ≤ n
            · have hbi : (b : Int) ≤ n := by omega
              have hwb : IntKind.i64.wrap ((b : Int) + (s2 : Int)) = (b : Int) + (s2 : Int) := IntWalk.i64_in _ (by omega)
              have C := Lib.hid (sym_ hC n wr g n c a m b es' sp (by omega) hrow (OK.out _ hmx) (by rw [hmx.len, HR.out.2.1]) (by omega) (by omega) hlt hbig
                ((HL.out a HSD.out (Nat.le_refl _)).mono (Nat.le_refl _) (by omega)) ((HL.out m (by rw [← hm]; exact Nat.dvd_add HSD.out (Nat.dvd_refl _)) (by omega)).mono (Nat.le_refl _) (by omega)))
              have H1 := Lib.hid (And.intro hmx hch)
              clear hrow hmx hch
              go_wp2_with fail
              with_reducible refine C.out.mono ?_
              rintro x w3 ⟨rfl, es3, r3, m3, s3, c3⟩
              have HE := Lib.hid (show RowAt w3 g es3 sp ∧ Mix 0 n es es3 ∧ (∀ p, s2 ∣ p → p < b → Srt le p (min (p + s2) n) es3) ∧ (∀ p, s ∣ p → b ≤ p → Srt le p (min (p + s) n) es3) ∧ Chg (fun q => q = g) w w3 from
                ⟨r3, H1.out.1.trans (m3.mono (Nat.zero_le _) hlt), fun p hp hpb => by
                  rcases Nat.lt_or_ge p a with h | h
                  · refine (HB.out p hp h).keep m3 (.inl ?_)
                    have h3 : s2 ∣ a - p := Nat.dvd_sub HD.out hp
                    have h4 : s2 ≤ a - p := Nat.le_of_dvd (by omega) h3
                    omega
                  · have := dvd_step hp HD.out h (by omega)
                    subst this
                    exact s3.mono (Nat.le_refl _) (by omega), fun p hp hpb => (HL.out p hp (by omega)).keep m3 (.inr hpb), H1.out.2.trans c3 fun _ _ => id⟩)
              clear r3 m3 s3 c3 C
              go_wp2_with fail
              go_roundw
              case rel => exact ⟨b, b + s2, es3, by omega, by omega, rfl, by go_num, Lib.hid (by rw [← hab]; exact Nat.dvd_add HD.out (Nat.dvd_refl _)), HE.out.1, HE.out.2.1, Lib.hid HE.out.2.2.1, Lib.hid HE.out.2.2.2.1, HE.out.2.2.2.2⟩
              case measure => simp [intOf]; have := HS2.out; omega
            · have hbi : ¬ (b : Int) ≤ n := by omega
              by_cases hmn : m < n
              · have hmni : (m : Int) < n := by omega
                have C := Lib.hid (sym_ hC n wr g n c a m n es' sp (by omega) hrow (OK.out _ hmx) (by rw [hmx.len, HR.out.2.1]) (by omega) hmn (Nat.le_refl _) hbig
                  ((HL.out a HSD.out (Nat.le_refl _)).mono (Nat.le_refl _) (by omega)) ((HL.out m (by rw [← hm]; exact Nat.dvd_add HSD.out (Nat.dvd_refl _)) (by omega)).mono (Nat.le_refl _) (by omega)))
                have H1 := Lib.hid (And.intro hmx hch)
                clear hrow hmx hch
                go_wp2_with fail
                with_reducible refine C.out.mono ?_
                rintro x w3 ⟨rfl, es3, r3, m3, s3, c3⟩
                have HE := Lib.hid (show RowAt w3 g es3 sp ∧ Mix 0 n es es3 ∧ Bks s2 n es3 ∧ Chg (fun q => q = g) w w3 from
                  ⟨r3, H1.out.1.trans (m3.mono (Nat.zero_le _) (Nat.le_refl _)), fun p hp => by
                    rcases Nat.lt_or_ge p a with h | h
                    · refine (HB.out p hp h).keep m3 (.inl ?_)
                      have h3 : s2 ∣ a - p := Nat.dvd_sub HD.out hp
                      have h4 : s2 ≤ a - p := Nat.le_of_dvd (by omega) h3
                      omega
                    · rcases Nat.lt_or_ge p (a + s2) with h2 | h2
                      · have := dvd_step hp HD.out h h2
                        subst this
                        exact s3.mono (Nat.le_refl _) (by omega)
                      · exact Srt.one _ _ _ _ (by omega), H1.out.2.trans c3 fun _ _ => id⟩)
                clear r3 m3 s3 c3 C
                go_wp2_with fail
                go_roundw
                case rel => exact ⟨s2, es3, by omega, by omega, by go_num, HE.out.1, HE.out.2.1, Lib.hid HE.out.2.2.1, HE.out.2.2.2⟩
                case measure => simp [intOf]; have := HS2.out; omega
              · have hmni : ¬ (m : Int) < n := by omega
                have HE := Lib.hid (show RowAt wr g es' sp ∧ Mix 0 n es es' ∧ Bks s2 n es' ∧ Chg (fun q => q = g) w wr from
                  ⟨hrow, hmx, fun p hp => by
                    rcases Nat.lt_or_ge p a with h | h
                    · exact HB.out p hp h
                    · rcases Nat.lt_or_ge p (a + s2) with h2 | h2
                      · have := dvd_step hp HD.out h h2
                        subst this
                        exact (HL.out p HSD.out (Nat.le_refl _)).mono (Nat.le_refl _) (by omega)
                      · exact Srt.one _ _ _ _ (by omega), hch⟩)
                clear hrow hmx hch
                go_wp2_with fail
                go_roundw
                case rel => exact ⟨s2, es', by omega, by omega, by go_num, HE.out.1, HE.out.2.1, Lib.hid HE.out.2.2.1, HE.out.2.2.2⟩
                case measure => simp [intOf]; have := HS2.out; omega
        · have hsli : ¬ (s : Int) < n := by omega
          have HE := Lib.hid (show ∃ es', RowAt wr g es' sp ∧ Mix 0 n es es' ∧ Srt le 0 n es' ∧ Chg (fun q => q = g) w wr from
            ⟨es1, hrow, hmx, (HK.out 0 (Nat.dvd_zero _)).mono (Nat.le_refl _) (by omega), hch⟩)
          clear hrow hmx hch
          go_wp2_with fail
          go_end0
          exact ⟨rfl, HE.out⟩
set_option maxRecDepth 20000 in
theorem sorts_ (hC : Cmps) (w : World) (g n c : Nat) (es : List Ev) (sp : List Value) (hr : RowAt w g es sp) (hk : ∀ e ∈ es, Ok e) (hn : es.length = n) (hbig : n ≤ 1000000) :
    Calls Tryd.prog 27 #[.slice (some ⟨g, 0, none⟩) n c, cmpV] w fun x w' => x = .returned (.tuple #[]) ∧ ∃ es', RowAt w' g es' sp ∧ Mix 0 n es es' ∧ Srt le 0 n es' ∧ Chg (fun q => q = g) w w' := by
  have C := Lib.hid (stable_ hC w g n c es sp hr hk hn hbig)
  clear hr hk hn
  go_enter Tryd.func27, Tryd.ntmps27
  go_wp2_with fail
  with_reducible refine C.out.mono ?_
  rintro x w2 ⟨rfl, HE⟩
  have HE := Lib.hid HE
  go_wp2_with fail
  go_end0
  exact ⟨rfl, HE.out⟩
end Acc
end Go.Proofs.YtgfkopimjmggdaaDoor

/- accept.byPast: two events held against each other (no condition beyond the numbers' sizes). -/
namespace Go.Proofs.YtgfkopimjmggdaaDoor
set_option linter.unusedSimpArgs false
set_option linter.unusedVariables false
open Go.ChangeShapes Go.WideShapes Go.RowKit Go.Deep
namespace Acc
open Evt Vec Num Stable Cmp
attribute [local go_sem ↓] Evt.loadDot Evt.loadVec Evt.loadRow0 Evt.storeRow0 Evt.loadOnly0 Evt.loadOnly1 Evt.loadOnly2
set_option maxHeartbeats 8000000 in
set_option maxRecDepth 20000 in
theorem cmps : Cmps := by
  intro a b ha hb w
  have n1 := (Chg.refl (fun _ => False) w).alloc (.cells a.cs.toArray 35)
  have n2 := n1.alloc (.cells b.cs.toArray 35)
  have B1 := (Blk.new w 35 a.cs.toArray).alloc (.cells b.cs.toArray 35)
  have B2 := Blk.new1 w (.cells a.cs.toArray 35) 35 b.cs.toArray
  obtain ⟨w2, hw2⟩ : ∃ W, (w.alloc (.cells a.cs.toArray 35)).alloc (.cells b.cs.toArray 35) = W := ⟨_, rfl⟩
  rw [hw2] at n2 B1 B2
  have C1 := fun W => (show Calls Tryd.prog 39 #[a.pastV] W fun e w' => e = .returned (.int .i64 (sumE a)) ∧ New W w' from sum_ W (past a) rfl ha)
  have C2 := fun W => (show Calls Tryd.prog 39 #[b.pastV] W fun e w' => e = .returned (.int .i64 (sumE b)) ∧ New W w' from sum_ W (past b) rfl hb)
  obtain ⟨d, hd⟩ : ∃ d, cmpE a b = d := ⟨_, rfl⟩
  rw [hd]
  unfold cmpE at hd
  obtain ⟨x, hx⟩ : ∃ x, sumE a = x := ⟨_, rfl⟩
  obtain ⟨y, hy⟩ : ∃ x, sumE b = x := ⟨_, rfl⟩
  simp only [hx] at C1
  simp only [hy] at C2
  rw [hx, hy] at hd
  obtain ⟨c1, hc1⟩ : ∃ c, cmpI x y = c := ⟨_, rfl⟩
  obtain ⟨c2, hc2⟩ : ∃ c, cmpI (a.n 0) (b.n 0) = c := ⟨_, rfl⟩
  obtain ⟨c3, hc3⟩ : ∃ c, cmpI (a.n 1) (b.n 1) = c := ⟨_, rfl⟩
  rw [hc1, hc2, hc3] at hd
  have D1 := Lib.hid (fun W => compI W x y)
  have D2 := Lib.hid (fun W => compI W (a.n 0) (b.n 0))
  have D3 := Lib.hid (fun W => compI W (a.n 1) (b.n 1))
  rw [hc1] at D1
  rw [hc2] at D2
  rw [hc3] at D3
  have C1 := Lib.hid C1
  have C2 := Lib.hid C2
  have HD := Lib.hid hd
  have HN := Lib.hid n2
  obtain ⟨g, hg⟩ : ∃ g, w.heap.size = g := ⟨_, rfl⟩
  rw [hg] at B1 B2
  have F := Lib.hid (fun W (hW : New w2.drew W) => (⟨(blk_ev (B1.drew.chg hW id)).2.1, (blk_ev (B2.drew.chg hW id)).2.1, (B1.drew.chg hW id).cell 0, (B1.drew.chg hW id).cell 1, (B2.drew.chg hW id).cell 0, (B2.drew.chg hW id).cell 1⟩ :
    (LoadRow 23 ⟨g, 2, none⟩).run Tryd.prog W = .ok a.pastV W ∧ (LoadRow 23 ⟨g + 1, 2, none⟩).run Tryd.prog W = .ok b.pastV W ∧ W.cell? ⟨g, 0, none⟩ = some (.int .i64 (a.n 0)) ∧ W.cell? ⟨g, 1, none⟩ = some (.int .i64 (a.n 1)) ∧ W.cell? ⟨g + 1, 0, none⟩ = some (.int .i64 (b.n 0)) ∧ W.cell? ⟨g + 1, 1, none⟩ = some (.int .i64 (b.n 1))))
  have g1 := B1.lt
  have g2 := B2.lt
  clear n1 n2 B1 B2 hd hx hy hc1 hc2 hc3 ha hb
  go_enter Tryd.func28, Tryd.ntmps28
  go_upto_region 1 with fail
  try rw [hw2]
  try rw [hg]
  clear hw2 hg
  refine grow_start (fun _ => False) (by kernel_rfl) ?_
  refine grow_take (i := 0) (oi := { dst := some 5, op := Op.fieldAddr 35 (Operand.tmp 2) 1, type := 0, pos := "accept.go:44", after := #[], guard := none }) (v := ?_) rfl (by kernel_rfl) (by kernel_rfl) (by kernel_rfl) (by rfl) ?_ ?_; rotate_left; focus ((intro W hW; go_simp) <;> with_reducible rfl)
  simp only [Act.put, List.setIfInBounds_toArray, List.set_cons_zero, List.set_cons_succ]
  refine grow_take (i := 1) (oi := { dst := some 6, op := Op.load 23 (Operand.tmp 5), type := 23, pos := "accept.go:44", after := #[{ on := 0, ground := Ground.data }], guard := none }) (v := ?_) rfl (by kernel_rfl) (by kernel_rfl) (by kernel_rfl) (by rfl) ?_ ?_; rotate_left; focus ((intro W hW; have fct := F.out W hW; go_simp) <;> with_reducible rfl)
  simp only [Act.put, List.setIfInBounds_toArray, List.set_cons_zero, List.set_cons_succ]
  refine grow_take (i := 3) (oi := { dst := some 8, op := Op.fieldAddr 35 (Operand.tmp 3) 1, type := 0, pos := "accept.go:44", after := #[], guard := none }) (v := ?_) rfl (by kernel_rfl) (by kernel_rfl) (by kernel_rfl) (by rfl) ?_ ?_; rotate_left; focus ((intro W hW; go_simp) <;> with_reducible rfl)
  simp only [Act.put, List.setIfInBounds_toArray, List.set_cons_zero, List.set_cons_succ]
  refine grow_take (i := 4) (oi := { dst := some 9, op := Op.load 23 (Operand.tmp 8), type := 23, pos := "accept.go:44", after := #[{ on := 3, ground := Ground.data }], guard := none }) (v := ?_) rfl (by kernel_rfl) (by kernel_rfl) (by kernel_rfl) (by rfl) ?_ ?_; rotate_left; focus ((intro W hW; have fct := F.out W hW; go_simp) <;> with_reducible rfl)
  simp only [Act.put, List.setIfInBounds_toArray, List.set_cons_zero, List.set_cons_succ]
  refine grow_take (i := 7) (oi := { dst := some 12, op := Op.fieldAddr 35 (Operand.tmp 2) 0, type := 0, pos := "accept.go:44", after := #[], guard := none }) (v := ?_) rfl (by kernel_rfl) (by kernel_rfl) (by kernel_rfl) (by rfl) ?_ ?_; rotate_left; focus ((intro W hW; go_simp) <;> with_reducible rfl)
  simp only [Act.put, List.setIfInBounds_toArray, List.set_cons_zero, List.set_cons_succ]
  refine grow_take (i := 8) (oi := { dst := some 13, op := Op.fieldAddr 29 (Operand.tmp 12) 0, type := 0, pos := "accept.go:44", after := #[{ on := 7, ground := Ground.data }], guard := none }) (v := ?_) rfl (by kernel_rfl) (by kernel_rfl) (by kernel_rfl) (by rfl) ?_ ?_; rotate_left; focus ((intro W hW; go_simp) <;> with_reducible rfl)
  simp only [Act.put, List.setIfInBounds_toArray, List.set_cons_zero, List.set_cons_succ]
  refine grow_take (i := 9) (oi := { dst := some 14, op := Op.load 3 (Operand.tmp 13), type := 3, pos := "accept.go:44", after := #[{ on := 8, ground := Ground.data }], guard := none }) (v := ?_) rfl (by kernel_rfl) (by kernel_rfl) (by kernel_rfl) (by rfl) ?_ ?_; rotate_left; focus ((intro W hW; have fct := F.out W hW; go_simp) <;> with_reducible rfl)
  simp only [Act.put, List.setIfInBounds_toArray, List.set_cons_zero, List.set_cons_succ]
  refine grow_take (i := 10) (oi := { dst := some 15, op := Op.fieldAddr 35 (Operand.tmp 3) 0, type := 0, pos := "accept.go:44", after := #[], guard := none }) (v := ?_) rfl (by kernel_rfl) (by kernel_rfl) (by kernel_rfl) (by rfl) ?_ ?_; rotate_left; focus ((intro W hW; go_simp) <;> with_reducible rfl)
  simp only [Act.put, List.setIfInBounds_toArray, List.set_cons_zero, List.set_cons_succ]
  refine grow_take (i := 11) (oi := { dst := some 16, op := Op.fieldAddr 29 (Operand.tmp 15) 0, type := 0, pos := "accept.go:44", after := #[{ on := 10, ground := Ground.data }], guard := none }) (v := ?_) rfl (by kernel_rfl) (by kernel_rfl) (by kernel_rfl) (by rfl) ?_ ?_; rotate_left; focus ((intro W hW; go_simp) <;> with_reducible rfl)
  simp only [Act.put, List.setIfInBounds_toArray, List.set_cons_zero, List.set_cons_succ]
  refine grow_take (i := 12) (oi := { dst := some 17, op := Op.load 3 (Operand.tmp 16), type := 3, pos := "accept.go:44", after := #[{ on := 11, ground := Ground.data }], guard := none }) (v := ?_) rfl (by kernel_rfl) (by kernel_rfl) (by kernel_rfl) (by rfl) ?_ ?_; rotate_left; focus ((intro W hW; have fct := F.out W hW; go_simp) <;> with_reducible rfl)
  simp only [Act.put, List.setIfInBounds_toArray, List.set_cons_zero, List.set_cons_succ]
  refine grow_take (i := 14) (oi := { dst := some 19, op := Op.fieldAddr 35 (Operand.tmp 2) 0, type := 0, pos := "accept.go:44", after := #[], guard := none }) (v := ?_) rfl (by kernel_rfl) (by kernel_rfl) (by kernel_rfl) (by rfl) ?_ ?_; rotate_left; focus ((intro W hW; go_simp) <;> with_reducible rfl)
  simp only [Act.put, List.setIfInBounds_toArray, List.set_cons_zero, List.set_cons_succ]
  refine grow_take (i := 15) (oi := { dst := some 20, op := Op.fieldAddr 29 (Operand.tmp 19) 1, type := 0, pos := "accept.go:44", after := #[{ on := 14, ground := Ground.data }], guard := none }) (v := ?_) rfl (by kernel_rfl) (by kernel_rfl) (by kernel_rfl) (by rfl) ?_ ?_; rotate_left; focus ((intro W hW; go_simp) <;> with_reducible rfl)
  simp only [Act.put, List.setIfInBounds_toArray, List.set_cons_zero, List.set_cons_succ]
  refine grow_take (i := 16) (oi := { dst := some 21, op := Op.load 3 (Operand.tmp 20), type := 3, pos := "accept.go:44", after := #[{ on := 15, ground := Ground.data }], guard := none }) (v := ?_) rfl (by kernel_rfl) (by kernel_rfl) (by kernel_rfl) (by rfl) ?_ ?_; rotate_left; focus ((intro W hW; have fct := F.out W hW; go_simp) <;> with_reducible rfl)
  simp only [Act.put, List.setIfInBounds_toArray, List.set_cons_zero, List.set_cons_succ]
  refine grow_take (i := 17) (oi := { dst := some 22, op := Op.fieldAddr 35 (Operand.tmp 3) 0, type := 0, pos := "accept.go:44", after := #[], guard := none }) (v := ?_) rfl (by kernel_rfl) (by kernel_rfl) (by kernel_rfl) (by rfl) ?_ ?_; rotate_left; focus ((intro W hW; go_simp) <;> with_reducible rfl)
  simp only [Act.put, List.setIfInBounds_toArray, List.set_cons_zero, List.set_cons_succ]
  refine grow_take (i := 18) (oi := { dst := some 23, op := Op.fieldAddr 29 (Operand.tmp 22) 1, type := 0, pos := "accept.go:44", after := #[{ on := 17, ground := Ground.data }], guard := none }) (v := ?_) rfl (by kernel_rfl) (by kernel_rfl) (by kernel_rfl) (by rfl) ?_ ?_; rotate_left; focus ((intro W hW; go_simp) <;> with_reducible rfl)
  simp only [Act.put, List.setIfInBounds_toArray, List.set_cons_zero, List.set_cons_succ]
  refine grow_take (i := 19) (oi := { dst := some 24, op := Op.load 3 (Operand.tmp 23), type := 3, pos := "accept.go:44", after := #[{ on := 18, ground := Ground.data }], guard := none }) (v := ?_) rfl (by kernel_rfl) (by kernel_rfl) (by kernel_rfl) (by rfl) ?_ ?_; rotate_left; focus ((intro W hW; have fct := F.out W hW; go_simp) <;> with_reducible rfl)
  simp only [Act.put, List.setIfInBounds_toArray, List.set_cons_zero, List.set_cons_succ]
  refine grow_next (i := 2) (oi := { dst := some 7, op := Op.call { callee := Callee.value (Operand.func 39), args := #[Operand.tmp 6], argTypes := #[23] }, type := 3, pos := "accept.go:44", after := #[{ on := 1, ground := Ground.data }], guard := none }) (by kernel_rfl) rfl (by rfl) (fun K hK => ?_)
  go_simp
  with_reducible refine (C1.out _).mono ?_
  rintro z w3 ⟨rfl, n3⟩
  refine hK _ _ n3 ?_
  clear hK K
  try simp only [Act.put, List.setIfInBounds_toArray, List.set_cons_zero, List.set_cons_succ]
  have N3 := Lib.hid n3
  clear n3
  refine grow_next (i := 5) (oi := { dst := some 10, op := Op.call { callee := Callee.value (Operand.func 39), args := #[Operand.tmp 9], argTypes := #[23] }, type := 3, pos := "accept.go:44", after := #[{ on := 4, ground := Ground.data }, { on := 2, ground := Ground.chain }], guard := none }) (by kernel_rfl) rfl (by rfl) (fun K hK => ?_)
  go_simp
  with_reducible refine (C2.out _).mono ?_
  rintro z w4 ⟨rfl, n4⟩
  refine hK _ _ n4 ?_
  clear hK K
  try simp only [Act.put, List.setIfInBounds_toArray, List.set_cons_zero, List.set_cons_succ]
  have N4 := Lib.hid (N3.out.trans n4 fun _ _ => id)
  clear n4
  refine grow_next (i := 6) (oi := { dst := some 11, op := Op.call { callee := Callee.value (Operand.func 38), args := #[Operand.tmp 7, Operand.tmp 10], argTypes := #[3, 3] }, type := 3, pos := "accept.go:44", after := #[{ on := 2, ground := Ground.data }, { on := 5, ground := Ground.data }, { on := 5, ground := Ground.chain }], guard := none }) (by kernel_rfl) rfl (by rfl) (fun K hK => ?_)
  go_simp
  with_reducible refine (D1.out _).mono ?_
  rintro z w5 ⟨rfl, rfl⟩
  refine hK _ _ (Chg.refl _ _) ?_
  clear hK K
  try simp only [Act.put, List.setIfInBounds_toArray, List.set_cons_zero, List.set_cons_succ]
  refine grow_next (i := 13) (oi := { dst := some 18, op := Op.call { callee := Callee.value (Operand.func 38), args := #[Operand.tmp 14, Operand.tmp 17], argTypes := #[3, 3] }, type := 3, pos := "accept.go:44", after := #[{ on := 9, ground := Ground.data }, { on := 12, ground := Ground.data }, { on := 6, ground := Ground.chain }], guard := none }) (by kernel_rfl) rfl (by rfl) (fun K hK => ?_)
  go_simp
  with_reducible refine (D2.out _).mono ?_
  rintro z w6 ⟨rfl, rfl⟩
  refine hK _ _ (Chg.refl _ _) ?_
  clear hK K
  try simp only [Act.put, List.setIfInBounds_toArray, List.set_cons_zero, List.set_cons_succ]
  refine grow_next (i := 20) (oi := { dst := some 25, op := Op.call { callee := Callee.value (Operand.func 38), args := #[Operand.tmp 21, Operand.tmp 24], argTypes := #[3, 3] }, type := 3, pos := "accept.go:44", after := #[{ on := 16, ground := Ground.data }, { on := 19, ground := Ground.data }, { on := 13, ground := Ground.chain }], guard := none }) (by kernel_rfl) rfl (by rfl) (fun K hK => ?_)
  go_simp
  with_reducible refine (D3.out _).mono ?_
  rintro z w7 ⟨rfl, rfl⟩
  refine hK _ _ (Chg.refl _ _) ?_
  clear hK K
  try simp only [Act.put, List.setIfInBounds_toArray, List.set_cons_zero, List.set_cons_succ]
  refine grow_next (i := 21) (oi := { dst := some 26, op := Op.buildSlice 45 3 #[(0, Operand.tmp 11), (1, Operand.tmp 18), (2, Operand.tmp 25)], type := 45, pos := "accept.go:44", after := #[{ on := 6, ground := Ground.data }, { on := 13, ground := Ground.data }, { on := 20, ground := Ground.data }], guard := none }) (by kernel_rfl) rfl (by rfl) (fun K hK => ?_)
  go_simp
  refine hK _ _ ((Chg.refl _ _).alloc _) ?_
  clear hK K
  try simp only [Act.put, List.setIfInBounds_toArray, List.set_cons_zero, List.set_cons_succ]
  have N8 := Lib.hid (N4.out.alloc (.cells #[.int .i64 c1, .int .i64 c2, .int .i64 c3] 3))
  have hro := (Reads.of_row (w := w7.alloc (.cells #[.int .i64 c1, .int .i64 c2, .int .i64 c3] 3)) (g := w7.heap.size) (n := 3) (size := 1) (heap_alloc_new w7 _) (by simp)).mono (G := fun b => b < (w7.alloc (.cells #[.int .i64 c1, .int .i64 c2, .int .i64 c3] 3)).heap.size) (fun b hb => by subst hb; simp)
  have D4 := Lib.hid (orI _ _ 3 3 [c1, c2, c3] hro (by decide))
  clear hro
  refine grow_next (i := 22) (oi := { dst := some 27, op := Op.call { callee := Callee.value (Operand.func 37), args := #[Operand.tmp 26], argTypes := #[45] }, type := 3, pos := "accept.go:44", after := #[{ on := 21, ground := Ground.data }, { on := 20, ground := Ground.chain }], guard := none }) (by kernel_rfl) rfl (by rfl) (fun K hK => ?_)
  go_simp
  with_reducible refine D4.out.mono ?_
  rintro z w9 ⟨rfl, rfl⟩
  refine hK _ _ (Chg.refl _ _) ?_
  clear hK K
  try simp only [Act.put, List.setIfInBounds_toArray, List.set_cons_zero, List.set_cons_succ]
  refine grow_take (i := 23) (oi := { dst := some 4, op := Op.assign (Operand.tmp 27), type := 3, pos := "accept.go:44", after := #[{ on := 22, ground := Ground.data }, { on := 22, ground := Ground.chain }, { on := 0, ground := Ground.phase }, { on := 1, ground := Ground.phase }, { on := 2, ground := Ground.phase }, { on := 3, ground := Ground.phase }, { on := 4, ground := Ground.phase }, { on := 5, ground := Ground.phase }, { on := 6, ground := Ground.phase }, { on := 7, ground := Ground.phase }, { on := 8, ground := Ground.phase }, { on := 9, ground := Ground.phase }, { on := 10, ground := Ground.phase }, { on := 11, ground := Ground.phase }, { on := 12, ground := Ground.phase }, { on := 13, ground := Ground.phase }, { on := 14, ground := Ground.phase }, { on := 15, ground := Ground.phase }, { on := 16, ground := Ground.phase }, { on := 17, ground := Ground.phase }, { on := 18, ground := Ground.phase }, { on := 19, ground := Ground.phase }, { on := 20, ground := Ground.phase }, { on := 21, ground := Ground.phase }, { on := 22, ground := Ground.phase }], guard := none }) (v := ?_) rfl (by kernel_rfl) (by kernel_rfl) (by kernel_rfl) (by rfl) ?_ ?_; rotate_left; focus ((intro W hW; go_simp) <;> with_reducible rfl)
  simp only [Act.put, List.setIfInBounds_toArray, List.set_cons_zero, List.set_cons_succ]
  refine grow_done (by kernel_rfl) ?_ _
  go_wp2_with fail
  go_ret
  exact ⟨by rw [HD.out] <;> rfl, HN.out.drew.trans N8.out fun _ _ => id⟩
end Acc
end Go.Proofs.YtgfkopimjmggdaaDoor

/- slices.Clone, IndexFunc and DeleteFunc on rows of events (no condition beyond the sizes). -/
namespace Go.Proofs.YtgfkopimjmggdaaDoor
set_option linter.unusedSimpArgs false
set_option linter.unusedVariables false
open Go.ChangeShapes Go.WideShapes Go.RowKit Go.Deep
namespace IterE
open Evt
attribute [local go_sem ↓] Evt.loadRow0
theorem OwnE.empty {w : World} {base : Nat} (hb : base ≤ w.heap.size) : OwnE (w.alloc (.cells #[] 35)) base (.slice (some ⟨w.heap.size, 0, none⟩) 0 0) [] := by
  have := World.ownsRow_lit (e := 35) (size := 27) w #[] 0 hb (by simp) (by simp)
  simp at this
  exact this
set_option maxHeartbeats 2000000 in
theorem clone (w : World) (A : Option Addr) (n c : Nat) (es : List Ev) (F : Nat → Prop) (hr : Reads w F 27 A n (rowE es)) (hn : n ≤ 1000000) :
    Calls Tryd.prog 25 #[.slice A n c] w fun e w' => ∃ v, e = .returned v ∧ OwnE w' w.heap.size v es ∧ New w w' := by
  have hq := fun (w : World) (a : Option Addr) (n c n' c' : Nat) => Lib.run_eql_slice_nil (P := Tryd.prog) w 24 35 a n c n' c' Tryd.underlying24
  have hlen := hr.len
  rw [rowE_length] at hlen
  rcases A with _ | ad
  · have h0 : n = 0 := by
      rcases Nat.eq_zero_or_pos n with h | h
      · exact h
      · obtain ⟨_, h, _⟩ := hr.at0 h
        cases h
    have hx : es = [] := List.eq_nil_of_length_eq_zero (by omega)
    subst hx
    clear hr
    go_enter Tryd.func25, Tryd.ntmps25
    go_wp2
    go_ret
    exact ⟨_, rfl, OwnE.nil _ _, Chg.refl _ _⟩
  · have HR := Lib.hid hr
    clear hr hlen
    go_enter Tryd.func25, Tryd.ntmps25
    go_wp2_with (at_builtin; refine stop ?_)
    delta Stop
    refine append_ev _ rfl _ _ rfl w.heap.size _ [] rfl (OwnE.empty (Nat.le_refl _)) F (some ad) n c es rfl ?_ (by simp; omega) (by simp) ?_
    · exact HR.out.chg' ((Chg.refl (fun _ => False) w).alloc _) (fun _ _ => id) (by omega)
    · intro v w1 ho hg hat
      rw [List.nil_append] at ho
      go_wp2
      go_ret
      refine ⟨_, rfl, ho, ((Chg.refl _ _).alloc _).grown hg fun g e h => ?_⟩
      have := (own_lt (OwnE.empty (w := w) (Nat.le_refl _)) e).1
      omega
variable {α : Type}
/-- the first one that meets p -/
def idxOf (l : List α) (p : α → Bool) : Int := match l.findIdx? p with | some i => (i : Int) | none => -1
theorem idx_before {l : List α} {p : α → Bool} {k : Nat} (h : ∀ x ∈ l.take k, p x = false) {x : α} (hx : l[k]? = some x) (hp : p x = true) : idxOf l p = (k : Int) := by
  unfold idxOf
  have hk := (List.getElem?_eq_some_iff.1 hx).1
  have : l.findIdx? p = some k := by
    rw [List.findIdx?_eq_some_iff_getElem]
    refine ⟨hk, ?_, fun j hj => ?_⟩
    · have := (List.getElem?_eq_some_iff.1 hx).2
      rw [this]
      exact hp
    · have hjl : j < l.length := by omega
      have := h l[j] (List.mem_take_iff_getElem.2 ⟨j, by omega, rfl⟩)
      simp [this]
  rw [this]
theorem idx_none {l : List α} {p : α → Bool} (h : ∀ x ∈ l, p x = false) : idxOf l p = -1 := by
  unfold idxOf
  have : l.findIdx? p = none := by
    rw [List.findIdx?_eq_none_iff]
    exact h
  rw [this]
theorem idx_some {l : List α} {p : α → Bool} (h : ∃ x ∈ l, p x = true) : ∃ (k : Nat) (x : α), idxOf l p = (k : Int) ∧ l[k]? = some x ∧ p x = true ∧ (∀ y ∈ l.take k, p y = false) := by
  cases hf : l.findIdx? p with
  | none =>
    rw [List.findIdx?_eq_none_iff] at hf
    obtain ⟨x, hx, hp⟩ := h
    rw [hf x hx] at hp
    cases hp
  | some k =>
    have hf2 := hf
    rw [List.findIdx?_eq_some_iff_getElem] at hf
    obtain ⟨hk, hp, hb⟩ := hf
    refine ⟨k, l[k], by unfold idxOf; rw [hf2], List.getElem?_eq_getElem hk, hp, fun y hy => ?_⟩
    obtain ⟨j, hj, rfl⟩ := List.mem_take_iff_getElem.1 hy
    have := hb j (by omega)
    simpa using this
theorem filter_take {l : List α} {p : α → Bool} {j : Nat} {x : α} (h : l[j]? = some x) : (l.take (j + 1)).filter p = (l.take j).filter p ++ (if p x then [x] else []) := by
  rw [List.take_add_one, h, List.filter_append]
  by_cases e : p x = true <;> simp [e]
/-- the test (Lacks'), with what it has caught, tells p of all of l, as long as only S has changed -/
def Tests (w : World) (c1 : Value) (S : Nat → Prop) (l : List Ev) (p : Ev → Bool) : Prop := ∀ x ∈ l, ∀ W, Chg S w W → Calls Tryd.prog 26 #[x.val, c1] W fun e W' => e = .returned (.bool (p x)) ∧ New W W'
set_option maxHeartbeats 2000000 in
set_option maxRecDepth 100000 in
theorem index (w : World) (base : Nat) (v : Value) (l : List Ev) (h : OwnE w base v l) (c1 : Value) (p : Ev → Bool) (ht : Tests w c1 (fun _ => False) l p) (hn : l.length ≤ 1000000) :
    Calls Tryd.prog 35 #[v, .func (.func 26) #[] #[c1]] w fun e w' => e = .returned (.int .i64 (idxOf l p)) ∧ New w w' := by
  have HT := Lib.hid ht
  have H := Lib.hid h
  obtain ⟨n, hn2⟩ : ∃ n, l.length = n := ⟨_, rfl⟩
  obtain ⟨A, c, hv⟩ := h.form
  rw [hn2] at hv hn
  have HN := Lib.hid hn2
  clear h ht hn2
  subst hv
  go_enter Tryd.func35, Tryd.ntmps35
  go_wp2_with fail
  go_loopw [5, 8] (fun _ i wr => ∃ (k : Nat), k ≤ n ∧ i = .int .i64 k ∧ (∀ x ∈ l.take k, p x = false) ∧ New w wr) (fun _ i _ => n - (intOf i).toNat)
  case atStart => exact ⟨0, by omega, rfl, fun x hx => by simp at hx, Chg.refl _ _⟩
  case round =>
    obtain ⟨k, hk, rfl, hp, hnw⟩ := hrel
    by_cases hlt : k < n
    · obtain ⟨x, hx⟩ : ∃ x, l[k]? = some x := ⟨_, List.getElem?_eq_getElem (by rw [HN.out]; exact hlt)⟩
      have ho := own_chg H.out hnw fun _ _ => id
      obtain ⟨ad, rfl, hld⟩ := ld_ev (Reads.of_own (by rw [HN.out] at ho; exact ho)) hx
      have C := HT.out x (List.mem_of_getElem? hx) wr hnw
      obtain ⟨X, hX⟩ : ∃ X, x.cs.toArray = X := ⟨_, rfl⟩
      rw [show x.val = .agg X by rw [← hX]] at hld C
      have HP := Lib.hid (And.intro hp (And.intro hx hnw))
      have hkp : (k : Int) < n := by omega
      obtain ⟨q, hq⟩ : ∃ q, p x = q := ⟨_, rfl⟩
      rw [hq] at C
      have HQ := Lib.hid hq
      have C := Lib.hid C
      clear hp hx hnw ho hq hX
      cases q
      · go_wp2_with fail
        refine C.out.mono ?_
        rintro e w2 ⟨rfl, n2⟩
        have HZ := Lib.hid (HP.out.2.2.trans n2 fun _ _ => id)
        clear n2 C
        go_wp2_with fail
        go_roundw
        case rel => exact ⟨k + 1, by omega, by go_num, fun y hy => by
          rw [List.take_add_one, HP.out.2.1] at hy
          rcases List.mem_append.1 hy with h | h
          · exact HP.out.1 y h
          · simp at h
            rw [h]
            exact HQ.out, HZ.out⟩
        case measure => simp [intOf]; omega
      · go_wp2_with fail
        refine C.out.mono ?_
        rintro e w2 ⟨rfl, n2⟩
        have HZ := Lib.hid (HP.out.2.2.trans n2 fun _ _ => id)
        clear n2 C
        go_wp2_with fail
        go_ret
        exact ⟨by rw [idx_before HP.out.1 HP.out.2.1 HQ.out]; first | rfl | skip, HZ.out⟩
    · obtain rfl : k = n := by omega
      rw [List.take_of_length_le (by rw [HN.out]; omega)] at hp
      have HP := Lib.hid (And.intro hp hnw)
      clear hp hnw
      go_wp2_with fail
      go_ret
      exact ⟨by rw [idx_none HP.out.1]; rfl, HP.out.2⟩
theorem rowE_set (l : List Ev) (a : Nat) (ha : a < l.length) (x : Ev) : rowE (l.set a x) = (rowE l).take (a * 27) ++ x.cs ++ (rowE l).drop (a * 27 + 27) := by
  induction l generalizing a with
  | nil => simp at ha
  | cons e l ih =>
    cases a with
    | zero =>
      rw [List.set_cons_zero]
      unfold rowE
      rw [List.flatMap_cons, List.flatMap_cons, Nat.zero_mul, List.take_zero, List.nil_append, Nat.zero_add, List.drop_append, e.cs_len, List.drop_of_length_le (by rw [e.cs_len]; omega), Nat.sub_self, List.drop_zero, List.nil_append]
    | succ a =>
      have ih := ih a (by simpa using ha)
      rw [List.set_cons_succ]
      unfold rowE at ih ⊢
      have t1 : e.cs.take ((a + 1) * 27) = e.cs := List.take_of_length_le (by rw [e.cs_len]; omega)
      have t2 : e.cs.drop ((a + 1) * 27 + 27) = [] := List.drop_of_length_le (by rw [e.cs_len]; omega)
      rw [List.flatMap_cons, List.flatMap_cons, ih, List.take_append, e.cs_len, t1, List.drop_append, e.cs_len, t2, show (a + 1) * 27 - 27 = a * 27 by omega, show (a + 1) * 27 + 27 - 27 = a * 27 + 27 by omega]
      simp
theorem OwnE.stored {w : World} {base g c : Nat} {r : List Ev} (h : OwnE w base (.slice (some ⟨g, 0, none⟩) r.length c) r) {a : Nat} (ha : a < r.length) (x : Ev) :
    OwnE (w.setCells g (a * 27) x.cs) base (.slice (some ⟨g, 0, none⟩) r.length c) (r.set a x) ∧ (StoreRow 35 ⟨g, a * 27, none⟩ x.val).run Tryd.prog w = .ok () (w.setCells g (a * 27) x.cs) := by
  rcases h.2 with ⟨h0, _⟩ | ⟨g', cap, cur, hv, hb, hg, h1, h2, h3, h4⟩
  · cases h0
  · injection hv with hv1 hv2 hv3
    injection hv1 with hv1
    injection hv1 with hv1 _ _
    subst hv1 hv3
    have hblk : Blk w g 35 cur.toList.toArray := by unfold Blk; rw [Array.toArray_toList]; exact hg
    have hcs : cur.toList.length = c * 27 := by rw [Array.length_toList]; omega
    have hb2 := Blk.setCells x.cs (a * 27) w cur.toList hblk (by rw [x.cs_len, hcs]; omega)
    refine ⟨⟨by rw [rowE_length], .inr ⟨g, c, _, by rw [List.length_set], hb, hb2, by rw [List.length_set]; omega, h2, ?_, ?_⟩⟩, ?_⟩
    · rw [List.size_toArray, List.length_append, List.length_append, List.length_take, List.length_drop, x.cs_len, hcs]; omega
    · rw [List.length_set, rowE_set r a ha x, ← h4, x.cs_len]
      simp only [List.take_append, List.take_take, List.length_append, List.length_take, List.length_drop, x.cs_len, hcs, List.drop_take]
      rw [show min (a * 27) (c * 27) = a * 27 by omega, show min (r.length * 27) (a * 27) = a * 27 by omega, show min (a * 27) (r.length * 27) = a * 27 by omega, List.take_of_length_le (l := x.cs) (by rw [x.cs_len]; omega), show r.length * 27 - (a * 27 + 27) = r.length * 27 - (a * 27 + 27) from rfl]
    · exact run_StoreRow (P := Tryd.prog) (t := 35) (n := 27) (by kernel_rfl) x.cs_len x.cs_one hblk (by rw [hcs]; omega)
theorem OwnE.storeC {w : World} {base g c : Nat} {r : List Ev} (h : OwnE w base (.slice (some ⟨g, 0, none⟩) r.length c) r) {a : Nat} (ha : a < r.length) (x : Ev) (X : Array Value) (hX : x.cs.toArray = X) :
    (storeCells ⟨g, a * 27, none⟩ X.toList).run Tryd.prog w = .ok () (w.setCells g (a * 27) x.cs) := by
  subst hX
  rcases h.2 with ⟨h0, _⟩ | ⟨g', cap, cur, hv, hb, hg, h1, h2, h3, h4⟩
  · cases h0
  · injection hv with hv1 hv2 hv3
    injection hv1 with hv1
    injection hv1 with hv1 _ _
    subst hv1 hv3
    have hblk : Blk w g 35 cur.toList.toArray := by unfold Blk; rw [Array.toArray_toList]; exact hg
    have hcs : cur.toList.length = c * 27 := by rw [Array.length_toList]; omega
    have := run_storeCells_cells (P := Tryd.prog) g (a * 27) x.cs 0 w (fun j hj => by
      rw [x.cs_len] at hj
      rw [hblk.cell, List.getElem?_toArray, List.getElem?_eq_getElem (by omega)]
      rfl) (fun j _ => hblk.frozen _) x.cs_one
    simpa using this
theorem run_clear_many {P : Program} (w : World) (t e ty : TypeId) (z : Value) (ht : P.underlying t = some (.slice e)) (hv : ∀ w, (zeroValue e).run P w = .ok z w) (b o n c : Nat) (hn : 0 < n) (zs : List Value) (hz : (Builtin.zeroCells z.cells n).toList = zs) (h1 : ∀ u ∈ zs, u.oneCell' = true)
    (hc : ∀ j, j < zs.length → (w.cell? ⟨b, o + j, none⟩).isSome = true) (hf : ∀ j, j < zs.length → w.frozen? ⟨b, o + j, none⟩ = false) :
    (Builtin.clear_ #[t] ty #[.slice (some ⟨b, o, none⟩) n c]).run P w = .ok (.tuple #[]) (w.setCells b o zs) := by
  have hst := run_storeCells_cells (P := P) b o zs 0 w (by simpa using hc) (by simpa using hf) h1
  simp only [Nat.add_zero] at hst
  obtain ⟨q, rfl⟩ : ∃ q, n = q + 1 := ⟨n - 1, by omega⟩
  simp [Builtin.clear_, run_underlying ht, hv, hz, hst]
set_option maxHeartbeats 4000000 in
set_option maxRecDepth 100000 in
theorem delete (w : World) (base : Nat) (v : Value) (l : List Ev) (h : OwnE w base v l) (c1 : Value) (p : Ev → Bool) (ht : Tests w c1 (fun k => v.ownBlock = some k) l p) (hn : l.length ≤ 1000000) :
    Calls Tryd.prog 24 #[v, .func (.func 26) #[] #[c1]] w fun e w' => ∃ v', e = .returned v' ∧ OwnE w' base v' (l.filter fun x => !p x) ∧ (v'.ownBlock = v.ownBlock ∨ v'.ownBlock = none) ∧ Chg (fun k => v.ownBlock = some k) w w' := by
  have C := Lib.hid (index w base v l h c1 p (fun x hx W hW => ht x hx W (hW.mono fun _ _ => False.elim)) hn)
  by_cases hany : ∃ x ∈ l, p x = true
  · obtain ⟨k0, x0, hidx, hx0, hp0, hbef⟩ := idx_some hany
    have hk0 : k0 < l.length := (List.getElem?_eq_some_iff.1 hx0).1
    obtain ⟨g, c, rfl, hbg, hgl⟩ := World.ownsRow.form h (by omega)
    rw [hidx] at C
    obtain ⟨n, hn2⟩ : ∃ n, l.length = n := ⟨_, rfl⟩
    have ho := h
    unfold OwnE at ho
    rw [hn2] at ho hn hk0
    rw [hn2] at C ht
    have HT := Lib.hid ht
    have HN := Lib.hid hn2
    have hf0 : (l.take (k0 + 1)).filter (fun x => !p x) = l.take k0 := by
      rw [filter_take hx0, hp0]
      simp
      intro a ha
      exact hbef a ha
    have HI := Lib.hid (And.intro ho hf0)
    have hne : ((k0 : Int) == -1) = false := by simp <;> omega
    have hwm : IntKind.i64.wrap ((k0 : Int) + 1) = (k0 : Int) + 1 := IntWalk.i64_in _ (by omega)
    have hk01 : (k0 : Int) + 1 ≤ 9223372036854775807 := by omega
    rw [hn2]
    clear h ht hn2 ho hf0 hidx hx0 hp0 hbef hany hwm
    go_enter Tryd.func24, Tryd.ntmps24
    go_wp2_with fail
    refine C.out.mono ?_
    rintro e w1 ⟨rfl, n1⟩
    have H1 := Lib.hid (And.intro (own_chg HI.out.1 n1 fun _ _ => id) (n1.mono (S' := fun k => (Value.slice (some ⟨g, 0, none⟩) n c).ownBlock = some k) fun _ _ => False.elim))
    clear n1 C
    go_wp2_with fail
    go_loopw [5, 6, 7] (fun iv jv _ wr => ∃ (a j : Nat) (r : List Ev), j ≤ n ∧ a < j ∧ jv = .int .i64 j ∧ iv = .int .i64 a ∧ wr.ownsRow base 35 27 (.slice (some ⟨g, 0, none⟩) n c) n (rowE r) ∧ r.take a = (l.take j).filter (fun x => !p x) ∧ r.drop j = l.drop j ∧ Chg (fun k => (Value.slice (some ⟨g, 0, none⟩) n c).ownBlock = some k) w wr) (fun _ jv _ _ => n - (intOf jv).toNat)
    case atStart => exact ⟨k0, k0 + 1, l, by omega, by omega, by go_num, rfl, H1.out.1, HI.out.2.symm, rfl, H1.out.2⟩
    case round =>
      clear H1
      obtain ⟨a, j, r, hj, haj, rfl, rfl, ho, htk, hdr, hch⟩ := hrel
      have hrl : r.length = n := by have := ho.1; rw [rowE_length] at this; omega
      by_cases hlt : j < n
      · obtain ⟨x, hx⟩ : ∃ x, l[j]? = some x := ⟨_, List.getElem?_eq_getElem (by rw [HN.out]; exact hlt)⟩
        have hrx : r[j]? = some x := by
          have := congrArg (fun z => z[0]?) hdr
          simp only [List.getElem?_drop, Nat.add_zero] at this
          rw [this, hx]
        obtain ⟨ad, had, hld⟩ := ld_ev (Reads.of_own ho) hrx
        injection had with had
        subst had
        rw [add_plain, Nat.zero_add] at hld
        have mb := (Chg.refl (fun _ => False) wr).alloc (.cells x.cs.toArray 35)
        have hbb := Blk.new wr 35 x.cs.toArray
        have hchb := hch.trans (mb.mono (S' := fun k => (Value.slice (some ⟨g, 0, none⟩) n c).ownBlock = some k) fun _ _ => False.elim) fun _ _ => id
        have CT := HT.out x (List.mem_of_getElem? hx) _ hchb
        have hob := own_chg ho mb fun _ _ => id
        have hjp : (j : Int) < n := by omega
        have hft := filter_take (p := fun x => !p x) hx
        have hdr2 : r.drop (j + 1) = l.drop (j + 1) := by
          have := congrArg (List.drop 1) hdr
          rwa [List.drop_drop, List.drop_drop] at this
        obtain ⟨q, hq⟩ : ∃ q, p x = q := ⟨_, rfl⟩
        rw [hq] at CT hft
        obtain ⟨X, hX⟩ : ∃ X, x.cs.toArray = X := ⟨_, rfl⟩
        have HX := Lib.hid hX
        have hXs : X.size = 27 := by rw [← hX]; simp [x.cs_len]
        have hst := run_storeCells_new (P := Tryd.prog) wr 35 zeroE X (by rw [hXs]; kernel_rfl) (by rw [hXs]; rfl) (by rw [← hX]; exact all_oneCell_toArray x.cs_one)
        simp only [zeroE, List.replicate, List.cons_append, List.nil_append] at hst
        rw [show x.val = .agg X by rw [← hX]] at hld CT
        rw [hX] at CT
        have hldb : (LoadRow 35 ⟨wr.heap.size, 0, none⟩).run Tryd.prog (wr.alloc (.cells X 35)) = .ok (.agg X) (wr.alloc (.cells X 35)) := by
          have := ldE hbb
          rw [hX] at this
          rwa [show x.val = .agg X by rw [← hX]] at this
        have CT := Lib.hid CT
        have HS := Lib.hid (And.intro hob (And.intro htk (And.intro hdr2 (And.intro hft (And.intro hchb (And.intro hrl hbb))))))
        clear ho hob htk hdr hch hchb hft hdr2 hq hrx hx hrl mb hbb hX
        cases q
        · go_wp2_with fail
          refine CT.out.mono ?_
          rintro e w2 ⟨rfl, n2⟩
          rw [← HX.out] at n2
          have o2 := own_chg HS.out.1 n2 fun _ _ => id
          have hld2 : (LoadRow 35 ⟨wr.heap.size, 0, none⟩).run Tryd.prog w2 = .ok (.agg X) w2 := by
            have := ldE (HS.out.2.2.2.2.2.2.chg n2 id)
            rwa [show x.val = .agg X by rw [← HX.out]] at this
          have hrn := HS.out.2.2.2.2.2.1
          have hoE : OwnE w2 base (.slice (some ⟨g, 0, none⟩) r.length c) r := by rw [hrn]; unfold OwnE; rw [hrn]; exact o2
          have o3 := (OwnE.stored hoE (a := a) (by omega) x).1
          have hs2 := OwnE.storeC hoE (a := a) (by omega) x X HX.out
          rw [hrn] at o3
          have c3 : Chg (fun k => (Value.slice (some ⟨g, 0, none⟩) n c).ownBlock = some k) w2 (w2.setCells g (a * 27) x.cs) := Chg.setCells _ _ _ (Chg.refl _ _) fun _ => rfl
          have e1 : (r.set a x).take (a + 1) = (l.take (j + 1)).filter (fun x => !p x) := by
            rw [HS.out.2.2.2.1, ← HS.out.2.1, List.take_add_one, List.take_set_of_le (Nat.le_refl a), List.getElem?_set_self (by omega)]
            rfl
          have e2 : (r.set a x).drop (j + 1) = l.drop (j + 1) := by
            rw [List.drop_set_of_lt (by omega)]
            exact HS.out.2.2.1
          have hsl : (r.set a x).length = n := by rw [List.length_set, hrn]
          have o4 : w2.setCells g (a * 27) x.cs |>.ownsRow base 35 27 (.slice (some ⟨g, 0, none⟩) n c) n (rowE (r.set a x)) := by
            unfold OwnE at o3
            rw [hsl] at o3
            exact o3
          have HZ := Lib.hid (And.intro o4 (And.intro e1 (And.intro e2 ((HS.out.2.2.2.2.1.trans (n2.mono (S' := fun k => (Value.slice (some ⟨g, 0, none⟩) n c).ownBlock = some k) fun _ _ => False.elim) fun _ _ => id).trans c3 fun _ _ => id))))
          have hap : (a : Int) < n := by omega
          clear o2 o3 o4 c3 e1 e2 n2 CT hoE hst hld hldb hrn hsl
          go_wp2_with fail
          go_roundw
          case rel => exact ⟨a + 1, j + 1, r.set a x, by omega, by omega, by go_num, by go_num, HZ.out.1, HZ.out.2.1, HZ.out.2.2.1, HZ.out.2.2.2⟩
          case measure => simp [intOf]; omega
        · go_wp2_with fail
          refine CT.out.mono ?_
          rintro e w2 ⟨rfl, n2⟩
          rw [← HX.out] at n2
          have HZ := Lib.hid (And.intro (own_chg HS.out.1 n2 fun _ _ => id) (HS.out.2.2.2.2.1.trans (n2.mono (S' := fun k => (Value.slice (some ⟨g, 0, none⟩) n c).ownBlock = some k) fun _ _ => False.elim) fun _ _ => id))
          clear n2 CT hst hld hldb
          go_wp2_with fail
          go_roundw
          case rel => exact ⟨a, j + 1, r, by omega, by omega, by go_num, rfl, HZ.out.1, by rw [HS.out.2.2.2.1, HS.out.2.1]; simp, HS.out.2.2.1, HZ.out.2⟩
          case measure => simp [intOf]; omega
      · obtain rfl : j = n := by omega
        rw [List.take_of_length_le (l := l) (by rw [HN.out]; omega)] at htk
        obtain ⟨ti, hti, hz0, hz1, hz2⟩ := info_parts evInfo
        rcases ho.2 with ⟨h0, _⟩ | ⟨g', cap, cur, hv, hb, hg, h1, h2, h3, h4⟩
        · cases h0
        · injection hv with hv1 hv2 hv3
          injection hv1 with hv1
          injection hv1 with hv1 _ _
          subst hv1 hv3
          have hblk : Blk wr g 35 cur.toList.toArray := by unfold Blk; rw [Array.toArray_toList]; exact hg
          have hcs : cur.toList.length = c * 27 := by rw [Array.length_toList]; omega
          have s1 := run_slice_from (P := Tryd.prog) Tryd.underlying24 hti (some ⟨g, 0, none⟩) j c a (by omega)
          have s2 := run_slice_to (P := Tryd.prog) Tryd.underlying24 hti (some ⟨g, 0, none⟩) j c a (by omega)
          rw [hz1, if_neg (by omega), Option.map_some, add_plain, Nat.zero_add] at s1
          obtain ⟨zs, hzs⟩ : ∃ zs, (Builtin.zeroCells zeroE (j - a)).toList = zs := ⟨_, rfl⟩
          have hzl : zs.length = (j - a) * 27 := by rw [← hzs]; simp [Builtin.zeroCells]; rfl
          have hzo : ∀ u ∈ zs, u.oneCell' = true := by
            intro u hu
            rw [← hzs] at hu
            simp only [Builtin.zeroCells, Array.toList_map, List.mem_map] at hu
            obtain ⟨i, _, rfl⟩ := hu
            have hlt : i % zeroE.size < 27 := Nat.mod_lt _ (by decide)
            generalize i % zeroE.size = q at *
            have : ∀ q, q < 27 → (zeroE[q]!).oneCell' = true := by decide +kernel
            exact this q hlt
          have hcl := fun ty => run_clear_many (P := Tryd.prog) wr 24 35 ty (.agg zeroE) Tryd.underlying24 (fun W => by kernel_rfl) g (a * 27) (j - a) (c - a) (by omega) zs hzs hzo (fun i hi => by
            rw [hblk.cell, List.getElem?_toArray, List.getElem?_eq_getElem (by rw [hzl] at hi; omega)]
            rfl) (fun i _ => hblk.frozen _)
          have hb2 := Blk.setCells zs (a * 27) wr cur.toList hblk (by rw [hzl]; omega)
          have hfl : (l.filter fun x => !p x).length = a := by rw [← htk, List.length_take]; omega
          have hfin : OwnE (wr.setCells g (a * 27) zs) base (.slice (some ⟨g, 0, none⟩) a c) (l.filter fun x => !p x) := by
            unfold OwnE
            rw [hfl]
            refine ⟨by rw [rowE_length, hfl], .inr ⟨g, c, _, rfl, hb, hb2, by omega, h2, ?_, ?_⟩⟩
            · rw [List.size_toArray, List.length_append, List.length_append, List.length_take, List.length_drop, hzl, hcs]; omega
            · rw [List.append_assoc, List.take_append_of_le_length (by rw [List.length_take, hcs]; omega), List.take_take, Nat.min_self, ← htk, ← rowE_take, ← h4, List.take_take, Nat.min_eq_left (by omega)]
          have hch2 : Chg (fun k => (Value.slice (some ⟨g, 0, none⟩) j c).ownBlock = some k) w (wr.setCells g (a * 27) zs) := Chg.setCells _ _ _ hch (fun _ => rfl)
          have HZ := Lib.hid (And.intro hfin hch2)
          have hac : a ≤ c := by omega
          have haj2 : a ≤ j := by omega
          clear ho htk hdr hch hrl hblk hcs hb2 hfl hfin hch2 hg h3 h4 hz0 hz1 hz2 hti hb hzs hzl hzo
          go_wp2_with fail
          go_ret
          exact ⟨_, rfl, HZ.out.1, .inl rfl, HZ.out.2⟩
  · have hall : ∀ x ∈ l, p x = false := fun x hx => by
      cases hp : p x with
      | true => exact absurd ⟨x, hx, hp⟩ hany
      | false => rfl
    rw [idx_none hall] at C
    have hfl : (l.filter fun x => !p x) = l := List.filter_eq_self.2 fun x hx => by rw [hall x hx]; rfl
    rw [hfl]
    have H := Lib.hid h
    clear h ht hall hfl hany
    go_enter Tryd.func24, Tryd.ntmps24
    go_wp2_with fail
    refine C.out.mono ?_
    rintro e w1 ⟨rfl, n1⟩
    have HZ := Lib.hid (And.intro (own_chg H.out n1 fun _ _ => id) (n1.mono (S' := fun k => v.ownBlock = some k) fun _ _ => False.elim))
    clear n1
    go_wp2_with fail
    go_ret
    exact ⟨_, rfl, HZ.out.1, .inl rfl, HZ.out.2⟩
end IterE
end Go.Proofs.YtgfkopimjmggdaaDoor

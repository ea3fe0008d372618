/-
  slices.IndexFunc and slices.DeleteFunc on rows of whole numbers of the call's own, with a test that only reads (no condition beyond the sizes).
-/
import Derived.Test.YtoddgakhiaokaaaIntsK
import Derived.Lib.SliceRun
namespace Go.Proofs.Ytoddgakhiaokaaa
open Go.ChangeShapes Go.WideShapes Go.RowKit
namespace Iter
/-- the test (Diff's), with what it has caught, tells p of all of l, as long as only row g has changed -/
def Tests (w : World) (c1 c2 c3 : Value) (S : Nat → Prop) (l : List Int) (p : Int → Bool) : Prop := ∀ x ∈ l, ∀ W, Chg S w W → Calls Try.prog 19 #[.int .i64 x, c1, c2, c3] W fun e W' => e = .returned (.bool (p x)) ∧ New W W'
theorem Tests.chg {w w' : World} {c1 c2 c3 : Value} {S : Nat → Prop} {l : List Int} {p : Int → Bool} (h : Tests w c1 c2 c3 S l p) (hc : Chg S w w') : Tests w' c1 c2 c3 S l p := fun x hx W hW => h x hx W (hc.trans hW fun _ _ => id)
/-- the first one that meets p -/
def idxOf (l : List Int) (p : Int → Bool) : Int := match l.findIdx? p with | some i => (i : Int) | none => -1
theorem idx_before {l : List Int} {p : Int → Bool} {k : Nat} (h : ∀ x ∈ l.take k, p x = false) {x : Int} (hx : l[k]? = some x) (hp : p x = true) : idxOf l p = (k : Int) := by
  unfold idxOf
  have hk := (List.getElem?_eq_some_iff.1 hx).1
  have : l.findIdx? p = some k := by
    rw [List.findIdx?_eq_some_iff_getElem]
    refine ⟨hk, ?_, fun j hj => ?_⟩
    · have := (List.getElem?_eq_some_iff.1 hx).2
      rw [this]
      exact hp
    · have hjl : j < l.length := by omega
      have := h l[j] (List.mem_take_iff_getElem.2 ⟨j, by omega, rfl⟩)
      simp [this]
  rw [this]
theorem idx_none {l : List Int} {p : Int → Bool} (h : ∀ x ∈ l, p x = false) : idxOf l p = -1 := by
  unfold idxOf
  have : l.findIdx? p = none := by
    rw [List.findIdx?_eq_none_iff]
    exact h
  rw [this]
set_option maxHeartbeats 2000000 in
theorem index (w : World) (base : Nat) (v : Value) (l : List Int) (h : OwnI w base v l) (c1 c2 c3 : Value) (p : Int → Bool) (ht : Tests w c1 c2 c3 (fun _ => False) l p) (hn : l.length ≤ 1000000) :
    Calls Try.prog 25 #[v, .func (.func 19) #[] #[c1, c2, c3]] w fun e w' => e = .returned (.int .i64 (idxOf l p)) ∧ New w w' := by
  have HT := Lib.hid ht
  have H := Lib.hid h
  obtain ⟨n, hn2⟩ : ∃ n, l.length = n := ⟨_, rfl⟩
  obtain ⟨A, c, hv⟩ : ∃ A c, v = .slice A l.length c := by
    rcases h.2 with ⟨rfl, h0⟩ | ⟨g, cap, cur, rfl, _⟩
    · exact ⟨none, 0, by rw [h0]⟩
    · exact ⟨_, cap, rfl⟩
  rw [hn2] at hv hn
  have HN := Lib.hid hn2
  clear h ht hn2
  subst hv
  go_enter Try.func25, Try.ntmps25
  go_wp2_with fail
  go_loopw [5, 8] (fun _ i wr => ∃ (k : Nat), k ≤ n ∧ i = .int .i64 k ∧ (∀ x ∈ l.take k, p x = false) ∧ New w wr) (fun _ i _ => n - (intOf i).toNat)
  case atStart => exact ⟨0, by omega, rfl, fun x hx => by simp at hx, Chg.refl _ _⟩
  case round =>
    obtain ⟨k, hk, rfl, hp, hnw⟩ := hrel
    by_cases hlt : k < n
    · obtain ⟨x, hx⟩ : ∃ x, l[k]? = some x := ⟨_, List.getElem?_eq_getElem (by rw [HN.out]; exact hlt)⟩
      obtain ⟨g, c', hvv, _, _⟩ := World.ownsRow.form H.out (by rw [HN.out]; omega)
      injection hvv with h1 h2 h3
      subst h1 h3
      clear h2
      have ho := H.out
      unfold OwnI at ho
      rw [HN.out] at ho
      have hc := World.ownsRow.cellAt (own_chg ho hnw fun _ _ => id) k (by omega)
      clear ho
      rw [ints_get, hx] at hc
      have hc' : wr.cell? ⟨g, k, none⟩ = some (.int .i64 x) := hc
      have C := Lib.hid (HT.out x (List.mem_of_getElem? hx) wr hnw)
      have HP := Lib.hid (And.intro hp (And.intro hx hnw))
      have hkp : (k : Int) < n := by omega
      clear hp hx hnw hc
      obtain ⟨q, hq⟩ : ∃ q, p x = q := ⟨_, rfl⟩
      rw [hq] at C
      have HQ := Lib.hid hq
      clear hq
      cases q
      · go_wp2_with fail
        refine C.out.mono ?_
        rintro e w2 ⟨rfl, n2⟩
        have HZ := Lib.hid (HP.out.2.2.trans n2 fun _ _ => id)
        clear n2
        go_wp2_with fail
        go_roundw
        case rel => exact ⟨k + 1, by omega, by go_num, fun y hy => by
          rw [List.take_add_one, HP.out.2.1] at hy
          rcases List.mem_append.1 hy with h | h
          · exact HP.out.1 y h
          · simp at h
            rw [h]
            exact HQ.out, HZ.out⟩
        case measure => simp [intOf]; omega
      · go_wp2_with fail
        refine C.out.mono ?_
        rintro e w2 ⟨rfl, n2⟩
        have HZ := Lib.hid (HP.out.2.2.trans n2 fun _ _ => id)
        clear n2
        go_wp2_with fail
        go_ret
        exact ⟨by rw [idx_before HP.out.1 HP.out.2.1 HQ.out]; first | rfl | skip, HZ.out⟩
    · obtain rfl : k = n := by omega
      rw [List.take_of_length_le (by rw [HN.out]; omega)] at hp
      have HP := Lib.hid (And.intro hp hnw)
      clear hp hnw
      go_wp2_with fail
      go_ret
      exact ⟨by rw [idx_none HP.out.1]; rfl, HP.out.2⟩
theorem idx_some {l : List Int} {p : Int → Bool} (h : ∃ x ∈ l, p x = true) : ∃ (k : Nat) (x : Int), idxOf l p = (k : Int) ∧ l[k]? = some x ∧ p x = true ∧ (∀ y ∈ l.take k, p y = false) := by
  cases hf : l.findIdx? p with
  | none =>
    rw [List.findIdx?_eq_none_iff] at hf
    obtain ⟨x, hx, hp⟩ := h
    rw [hf x hx] at hp
    cases hp
  | some k =>
    have hf2 := hf
    rw [List.findIdx?_eq_some_iff_getElem] at hf
    obtain ⟨hk, hp, hb⟩ := hf
    refine ⟨k, l[k], by unfold idxOf; rw [hf2], List.getElem?_eq_getElem hk, hp, fun y hy => ?_⟩
    obtain ⟨j, hj, rfl⟩ := List.mem_take_iff_getElem.1 hy
    have := hb j (by omega)
    simpa using this
theorem filter_take {l : List Int} {p : Int → Bool} {j : Nat} {x : Int} (h : l[j]? = some x) : (l.take (j + 1)).filter p = (l.take j).filter p ++ (if p x then [x] else []) := by
  rw [List.take_add_one, h, List.filter_append]
  by_cases e : p x = true <;> simp [e]
set_option maxHeartbeats 4000000 in
set_option maxRecDepth 100000 in
theorem delete (w : World) (base : Nat) (v : Value) (l : List Int) (h : OwnI w base v l) (c1 c2 c3 : Value) (p : Int → Bool) (ht : Tests w c1 c2 c3 (fun k => v.ownBlock = some k) l p) (hn : l.length ≤ 1000000) :
    Calls Try.prog 18 #[v, .func (.func 19) #[] #[c1, c2, c3]] w fun e w' => ∃ v', e = .returned v' ∧ OwnI w' base v' (l.filter fun x => !p x) ∧ (v'.ownBlock = v.ownBlock ∨ v'.ownBlock = none) ∧ Chg (fun k => v.ownBlock = some k) w w' := by
  have C := Lib.hid (index w base v l h c1 c2 c3 p (fun x hx W hW => ht x hx W (hW.mono fun _ _ => False.elim)) hn)
  by_cases hany : ∃ x ∈ l, p x = true
  · obtain ⟨k0, x0, hidx, hx0, hp0, hbef⟩ := idx_some hany
    have hk0 : k0 < l.length := (List.getElem?_eq_some_iff.1 hx0).1
    obtain ⟨g, c, rfl, hbg, hgl⟩ := World.ownsRow.form h (by omega)
    rw [hidx] at C
    obtain ⟨n, hn2⟩ : ∃ n, l.length = n := ⟨_, rfl⟩
    have ho := h
    unfold OwnI at ho
    rw [hn2] at ho hn hk0
    rw [hn2] at C ht
    have HT := Lib.hid ht
    have HN := Lib.hid hn2
    have hf0 : (l.take (k0 + 1)).filter (fun x => !p x) = l.take k0 := by
      rw [filter_take hx0, hp0]
      simp
      intro a ha
      exact hbef a ha
    have HI := Lib.hid (And.intro ho hf0)
    have hne : ((k0 : Int) == -1) = false := by simp <;> omega
    have hwm : IntKind.i64.wrap ((k0 : Int) + 1) = (k0 : Int) + 1 := IntWalk.i64_in _ (by omega)
    have hk01 : (k0 : Int) + 1 ≤ 9223372036854775807 := by omega
    rw [hn2]
    clear h ht hn2 ho hf0 hidx hx0 hp0 hbef hany hwm
    go_enter Try.func18, Try.ntmps18
    go_wp2_with fail
    refine C.out.mono ?_
    rintro e w1 ⟨rfl, n1⟩
    have H1 := Lib.hid (And.intro (own_chg HI.out.1 n1 fun _ _ => id) (n1.mono (S' := fun k => (Value.slice (some ⟨g, 0, none⟩) n c).ownBlock = some k) fun _ _ => False.elim))
    clear n1 C
    go_wp2_with fail
    go_loopw [5, 6, 7] (fun iv jv _ wr => ∃ (a j : Nat) (r : List Int), j ≤ n ∧ a < j ∧ jv = .int .i64 j ∧ iv = .int .i64 a ∧ wr.ownsRow base 3 1 (.slice (some ⟨g, 0, none⟩) n c) n (ints r) ∧ r.take a = (l.take j).filter (fun x => !p x) ∧ r.drop j = l.drop j ∧ Chg (fun k => (Value.slice (some ⟨g, 0, none⟩) n c).ownBlock = some k) w wr) (fun _ jv _ _ => n - (intOf jv).toNat)
    case atStart => exact ⟨k0, k0 + 1, l, by omega, by omega, by go_num, rfl, H1.out.1, HI.out.2.symm, rfl, H1.out.2⟩
    case round =>
      clear H1
      obtain ⟨a, j, r, hj, haj, rfl, rfl, ho, htk, hdr, hch⟩ := hrel
      have hrl : r.length = n := by have := ho.1; rw [ints_length] at this; omega
      by_cases hlt : j < n
      · obtain ⟨x, hx⟩ : ∃ x, l[j]? = some x := ⟨_, List.getElem?_eq_getElem (by rw [HN.out]; exact hlt)⟩
        have hrx : r[j]? = some x := by
          have := congrArg (fun z => z[0]?) hdr
          simp only [List.getElem?_drop, Nat.add_zero] at this
          rw [this, hx]
        have hc := World.ownsRow.cellAt ho j (by omega)
        rw [ints_get, hrx] at hc
        have hc' : wr.cell? ⟨g, j, none⟩ = some (.int .i64 x) := hc
        have CT := HT.out x (List.mem_of_getElem? hx) wr hch
        have hjp : (j : Int) < n := by omega
        have hft := filter_take (p := fun x => !p x) hx
        have hdr2 : r.drop (j + 1) = l.drop (j + 1) := by
          have := congrArg (List.drop 1) hdr
          rwa [List.drop_drop, List.drop_drop] at this
        obtain ⟨q, hq⟩ : ∃ q, p x = q := ⟨_, rfl⟩
        rw [hq] at CT hft
        have CT := Lib.hid CT
        have HS := Lib.hid (And.intro ho (And.intro htk (And.intro hdr2 (And.intro hft (And.intro hch hrl)))))
        clear ho htk hdr hch hft hdr2 hq hrx hx hc hrl
        cases q
        · go_wp2_with fail
          refine CT.out.mono ?_
          rintro e w2 ⟨rfl, n2⟩
          have o2 := own_chg HS.out.1 n2 fun _ _ => id
          have hfr := World.ownsRow.frozenAt o2 a
          have hca : ∃ u, w2.cell? ⟨g, a, none⟩ = some u := by
            have := World.ownsRow.cellAt o2 a (by omega)
            have hl := HS.out.2.2.2.2.2
            exact ⟨_, this.trans (List.getElem?_eq_getElem (by rw [ints_length]; omega))⟩
          obtain ⟨u, hca⟩ := hca
          have o3 := (World.ownsRow.stored o2 a (.int .i64 x)).1
          rw [ints_set] at o3
          have c3 := (Chg.refl (fun k => (Value.slice (some ⟨g, 0, none⟩) n c).ownBlock = some k) w2).setCell (p := ⟨g, a, none⟩) (fun _ => rfl) (.int .i64 x)
          have e1 : (r.set a x).take (a + 1) = (l.take (j + 1)).filter (fun x => !p x) := by
            rw [HS.out.2.2.2.1, ← HS.out.2.1, List.take_add_one, List.take_set_of_le (Nat.le_refl a), List.getElem?_set_self (by have := HS.out.2.2.2.2.2; omega)]
            rfl
          have e2 : (r.set a x).drop (j + 1) = l.drop (j + 1) := by
            rw [List.drop_set_of_lt (by omega)]
            exact HS.out.2.2.1
          have HZ := Lib.hid (And.intro o3 (And.intro e1 (And.intro e2 ((HS.out.2.2.2.2.1.trans (n2.mono (S' := fun k => (Value.slice (some ⟨g, 0, none⟩) n c).ownBlock = some k) fun _ _ => False.elim) fun _ _ => id).trans c3 fun _ _ => id))))
          clear o2 o3 c3 e1 e2 n2 CT
          go_wp2_with fail
          go_roundw
          case rel => exact ⟨a + 1, j + 1, r.set a x, by omega, by omega, by go_num, by go_num, HZ.out.1, HZ.out.2.1, HZ.out.2.2.1, HZ.out.2.2.2⟩
          case measure => simp [intOf]; omega
        · go_wp2_with fail
          refine CT.out.mono ?_
          rintro e w2 ⟨rfl, n2⟩
          have HZ := Lib.hid (And.intro (own_chg HS.out.1 n2 fun _ _ => id) (HS.out.2.2.2.2.1.trans (n2.mono (S' := fun k => (Value.slice (some ⟨g, 0, none⟩) n c).ownBlock = some k) fun _ _ => False.elim) fun _ _ => id))
          clear n2 CT
          go_wp2_with fail
          go_roundw
          case rel => exact ⟨a, j + 1, r, by omega, by omega, by go_num, rfl, HZ.out.1, by rw [HS.out.2.2.2.1, HS.out.2.1]; simp, HS.out.2.2.1, HZ.out.2⟩
          case measure => simp [intOf]; omega
      · obtain rfl : j = n := by omega
        rw [List.take_of_length_le (l := l) (by rw [HN.out]; omega)] at htk
        obtain ⟨ti, hti, hz0, hz1, hz2⟩ := info_parts intInfo
        rcases ho.2 with ⟨h0, _⟩ | ⟨g', cap, cur, hv, hb, hg, h1, h2, h3, h4⟩
        · cases h0
        · injection hv with hv1 hv2 hv3
          injection hv1 with hv1
          injection hv1 with hv1 _ _
          subst hv1 hv3
          have hrl : r.length = j := by have := ho.1; rw [ints_length] at this; omega
          have hblk : Blk wr g 3 cur.toList.toArray := by unfold Blk; rw [Array.toArray_toList]; exact hg
          have hcs : cur.toList.length = c := by rw [Array.length_toList]; omega
          have s1 := run_slice_from (P := Try.prog) Try.underlying35 hti (some ⟨g, 0, none⟩) j c a (by omega)
          have s2 := run_slice_to (P := Try.prog) Try.underlying35 hti (some ⟨g, 0, none⟩) j c a (by omega)
          rw [hz1, if_neg (by omega), Option.map_some, add_plain, Nat.zero_add, Nat.mul_one] at s1
          have hcl := fun ty => Lib.run_clear_slice (P := Try.prog) wr 35 3 ty (.int .i64 0) Try.underlying35 (fun W => by kernel_rfl) rfl rfl g a (j - a) (c - a) (by omega) (fun i hi => by
            rw [hblk.cell, List.getElem?_toArray, List.getElem?_eq_getElem (by omega)]
            rfl) (fun i _ => hblk.frozen _)
          have hb2 := Blk.setCells (List.replicate (j - a) (.int .i64 0)) a wr cur.toList hblk (by rw [List.length_replicate]; omega)
          have hfl : (l.filter fun x => !p x).length = a := by rw [← htk, List.length_take]; omega
          have hfin : OwnI (wr.setCells g a (List.replicate (j - a) (.int .i64 0))) base (.slice (some ⟨g, 0, none⟩) a c) (l.filter fun x => !p x) := by
            unfold OwnI
            rw [hfl]
            refine ⟨by rw [ints_length, hfl, Nat.mul_one], .inr ⟨g, c, _, rfl, hb, hb2, by omega, h2, ?_, ?_⟩⟩
            · rw [List.size_toArray, List.length_append, List.length_append, List.length_take, List.length_drop, List.length_replicate, hcs]; omega
            · rw [Nat.mul_one, List.append_assoc, List.take_append_of_le_length (by rw [List.length_take, hcs]; omega), List.take_take, Nat.min_self, ← htk]
              rw [Nat.mul_one] at h4
              have := congrArg (List.take a) h4
              rw [List.take_take, Nat.min_eq_left (by omega)] at this
              rw [this]
              simp [ints, List.map_take]
          have hch2 : Chg (fun k => (Value.slice (some ⟨g, 0, none⟩) j c).ownBlock = some k) w (wr.setCells g a (List.replicate (j - a) (.int .i64 0))) := Chg.setCells _ _ _ hch (fun _ => rfl)
          have HZ := Lib.hid (And.intro hfin hch2)
          have hac : a ≤ c := by omega
          have haj2 : a ≤ j := by omega
          clear ho htk hdr hch hrl hblk hcs hb2 hfl hfin hch2 hg h3 h4 hz0 hz1 hz2 hti hb
          go_wp2_with fail
          go_ret
          exact ⟨_, rfl, HZ.out.1, .inl rfl, HZ.out.2⟩
  · have hall : ∀ x ∈ l, p x = false := fun x hx => by
      cases hp : p x with
      | true => exact absurd ⟨x, hx, hp⟩ hany
      | false => rfl
    rw [idx_none hall] at C
    have hfl : (l.filter fun x => !p x) = l := List.filter_eq_self.2 fun x hx => by rw [hall x hx]; rfl
    rw [hfl]
    have H := Lib.hid h
    clear h ht hall hfl hany
    go_enter Try.func18, Try.ntmps18
    go_wp2_with fail
    refine C.out.mono ?_
    rintro e w1 ⟨rfl, n1⟩
    have HZ := Lib.hid (And.intro (own_chg H.out n1 fun _ _ => id) (n1.mono (S' := fun k => v.ownBlock = some k) fun _ _ => False.elim))
    clear n1
    go_wp2_with fail
    go_ret
    exact ⟨_, rfl, HZ.out.1, .inl rfl, HZ.out.2⟩
end Iter
end Go.Proofs.Ytoddgakhiaokaaa

/-
  slices.DeleteFunc on rows of events of the call's own (no condition beyond the sizes).
-/
import Derived.Test.YtgjlbifanjhcjaaIterE2
namespace Go.Proofs.Ytgjlbifanjhcjaa
open Go.ChangeShapes Go.WideShapes Go.RowKit Go.Deep
namespace IterE
open Buf
attribute [local go_sem ↓] loadOnly0
set_option maxHeartbeats 4000000 in
set_option maxRecDepth 100000 in
theorem delete (w : World) (base : Nat) (v : Value) (l : List Ev) (h : OwnE w base v l) (c1 : Value) (p : Ev → Bool) (ht : Tests w c1 (fun k => v.ownBlock = some k) l p) (hn : l.length ≤ 1000000) :
    Calls Try.prog 19 #[v, .func (.func 20) #[] #[c1]] w fun e w' => ∃ v', e = .returned v' ∧ OwnE w' base v' (l.filter fun x => !p x) ∧ (v'.ownBlock = v.ownBlock ∨ v'.ownBlock = none) ∧ Chg (fun k => v.ownBlock = some k) w w' := by
  have C := Lib.hid (index w base v l h c1 p (fun x hx W hW => ht x hx W (hW.mono fun _ _ => False.elim)) hn)
  by_cases hany : ∃ x ∈ l, p x = true
  · obtain ⟨k0, x0, hidx, hx0, hp0, hbef⟩ := idx_some hany
    have hk0 : k0 < l.length := (List.getElem?_eq_some_iff.1 hx0).1
    obtain ⟨g, c, rfl, hbg, hgl⟩ := World.ownsRow.form h (by omega)
    rw [hidx] at C
    obtain ⟨n, hn2⟩ : ∃ n, l.length = n := ⟨_, rfl⟩
    have ho := h
    unfold OwnE at ho
    rw [hn2] at ho hn hk0
    rw [hn2] at C ht
    have HT := Lib.hid ht
    have HN := Lib.hid hn2
    have hf0 : (l.take (k0 + 1)).filter (fun x => !p x) = l.take k0 := by
      rw [filter_take hx0, hp0]
      simp
      intro a ha
      exact hbef a ha
    have HI := Lib.hid (And.intro ho hf0)
    have hne : ((k0 : Int) == -1) = false := by simp <;> omega
    have hwm : IntKind.i64.wrap ((k0 : Int) + 1) = (k0 : Int) + 1 := IntWalk.i64_in _ (by omega)
    have hk01 : (k0 : Int) + 1 ≤ 9223372036854775807 := by omega
    rw [hn2]
    clear h ht hn2 ho hf0 hidx hx0 hp0 hbef hany hwm
    go_enter Try.func19, Try.ntmps19
    go_wp2_with fail
    refine C.out.mono ?_
    rintro e w1 ⟨rfl, n1⟩
    have H1 := Lib.hid (And.intro (own_chg HI.out.1 n1 fun _ _ => id) (n1.mono (S' := fun k => (Value.slice (some ⟨g, 0, none⟩) n c).ownBlock = some k) fun _ _ => False.elim))
    clear n1 C
    go_wp2_with fail
    go_loopw [5, 6, 7] (fun iv jv _ wr => ∃ (a j : Nat) (r : List Ev), j ≤ n ∧ a < j ∧ jv = .int .i64 j ∧ iv = .int .i64 a ∧ wr.ownsRow base 35 27 (.slice (some ⟨g, 0, none⟩) n c) n (rowE r) ∧ r.take a = (l.take j).filter (fun x => !p x) ∧ r.drop j = l.drop j ∧ Chg (fun k => (Value.slice (some ⟨g, 0, none⟩) n c).ownBlock = some k) w wr) (fun _ jv _ _ => n - (intOf jv).toNat)
    case atStart => exact ⟨k0, k0 + 1, l, by omega, by omega, by go_num, rfl, H1.out.1, HI.out.2.symm, rfl, H1.out.2⟩
    case round =>
      clear H1
      obtain ⟨a, j, r, hj, haj, rfl, rfl, ho, htk, hdr, hch⟩ := hrel
      have hrl : r.length = n := by have := ho.1; rw [rowE_length] at this; omega
      by_cases hlt : j < n
      · obtain ⟨x, hx⟩ : ∃ x, l[j]? = some x := ⟨_, List.getElem?_eq_getElem (by rw [HN.out]; exact hlt)⟩
        have hrx : r[j]? = some x := by
          have := congrArg (fun z => z[0]?) hdr
          simp only [List.getElem?_drop, Nat.add_zero] at this
          rw [this, hx]
        obtain ⟨ad, had, hld⟩ := ld_ev (Reads.of_own ho) hrx
        injection had with had
        subst had
        rw [add_plain, Nat.zero_add] at hld
        have mb := (Chg.refl (fun _ => False) wr).alloc (.cells x.cs.toArray 35)
        have hbb := Blk.new wr 35 x.cs.toArray
        have hchb := hch.trans (mb.mono (S' := fun k => (Value.slice (some ⟨g, 0, none⟩) n c).ownBlock = some k) fun _ _ => False.elim) fun _ _ => id
        have CT := HT.out x (List.mem_of_getElem? hx) _ hchb
        have hob := own_chg ho mb fun _ _ => id
        have hjp : (j : Int) < n := by omega
        have hft := filter_take (p := fun x => !p x) hx
        have hdr2 : r.drop (j + 1) = l.drop (j + 1) := by
          have := congrArg (List.drop 1) hdr
          rwa [List.drop_drop, List.drop_drop] at this
        obtain ⟨q, hq⟩ : ∃ q, p x = q := ⟨_, rfl⟩
        rw [hq] at CT hft
        obtain ⟨X, hX⟩ : ∃ X, x.cs.toArray = X := ⟨_, rfl⟩
        have HX := Lib.hid hX
        have hXs : X.size = 27 := by rw [← hX]; simp [x.cs_len]
        have hst := run_storeCells_new (P := Try.prog) wr 35 zeroE X (by rw [hXs]; kernel_rfl) (by rw [hXs]; rfl) (by rw [← hX]; exact all_oneCell_toArray x.cs_one)
        simp only [zeroE, List.replicate, List.cons_append, List.nil_append] at hst
        rw [show x.val = .agg X by rw [← hX]] at hld CT
        rw [hX] at CT
        have hldb : (LoadRow 35 ⟨wr.heap.size, 0, none⟩).run Try.prog (wr.alloc (.cells X 35)) = .ok (.agg X) (wr.alloc (.cells X 35)) := by
          have := ev_blk hbb
          rw [hX] at this
          rwa [show x.val = .agg X by rw [← hX]] at this
        have CT := Lib.hid CT
        have HS := Lib.hid (And.intro hob (And.intro htk (And.intro hdr2 (And.intro hft (And.intro hchb (And.intro hrl hbb))))))
        clear ho hob htk hdr hch hchb hft hdr2 hq hrx hx hrl mb hbb hX
        cases q
        · go_wp2_with fail
          refine CT.out.mono ?_
          rintro e w2 ⟨rfl, n2⟩
          rw [← HX.out] at n2
          have o2 := own_chg HS.out.1 n2 fun _ _ => id
          have hld2 : (LoadRow 35 ⟨wr.heap.size, 0, none⟩).run Try.prog w2 = .ok (.agg X) w2 := by
            have := ev_blk (HS.out.2.2.2.2.2.2.chg n2 id)
            rwa [show x.val = .agg X by rw [← HX.out]] at this
          have hrn := HS.out.2.2.2.2.2.1
          have hoE : OwnE w2 base (.slice (some ⟨g, 0, none⟩) r.length c) r := by rw [hrn]; unfold OwnE; rw [hrn]; exact o2
          have o3 := (OwnE.stored hoE (a := a) (by omega) x).1
          have hs2 := OwnE.storeC hoE (a := a) (by omega) x X HX.out
          rw [hrn] at o3
          have c3 : Chg (fun k => (Value.slice (some ⟨g, 0, none⟩) n c).ownBlock = some k) w2 (w2.setCells g (a * 27) x.cs) := Chg.setCells _ _ _ (Chg.refl _ _) fun _ => rfl
          have e1 : (r.set a x).take (a + 1) = (l.take (j + 1)).filter (fun x => !p x) := by
            rw [HS.out.2.2.2.1, ← HS.out.2.1, List.take_add_one, List.take_set_of_le (Nat.le_refl a), List.getElem?_set_self (by omega)]
            rfl
          have e2 : (r.set a x).drop (j + 1) = l.drop (j + 1) := by
            rw [List.drop_set_of_lt (by omega)]
            exact HS.out.2.2.1
          have hsl : (r.set a x).length = n := by rw [List.length_set, hrn]
          have o4 : w2.setCells g (a * 27) x.cs |>.ownsRow base 35 27 (.slice (some ⟨g, 0, none⟩) n c) n (rowE (r.set a x)) := by
            unfold OwnE at o3
            rw [hsl] at o3
            exact o3
          have HZ := Lib.hid (And.intro o4 (And.intro e1 (And.intro e2 ((HS.out.2.2.2.2.1.trans (n2.mono (S' := fun k => (Value.slice (some ⟨g, 0, none⟩) n c).ownBlock = some k) fun _ _ => False.elim) fun _ _ => id).trans c3 fun _ _ => id))))
          have hap : (a : Int) < n := by omega
          clear o2 o3 o4 c3 e1 e2 n2 CT hoE hst hld hldb hrn hsl
          go_wp2_with fail
          go_roundw
          case rel => exact ⟨a + 1, j + 1, r.set a x, by omega, by omega, by go_num, by go_num, HZ.out.1, HZ.out.2.1, HZ.out.2.2.1, HZ.out.2.2.2⟩
          case measure => simp [intOf]; omega
        · go_wp2_with fail
          refine CT.out.mono ?_
          rintro e w2 ⟨rfl, n2⟩
          rw [← HX.out] at n2
          have HZ := Lib.hid (And.intro (own_chg HS.out.1 n2 fun _ _ => id) (HS.out.2.2.2.2.1.trans (n2.mono (S' := fun k => (Value.slice (some ⟨g, 0, none⟩) n c).ownBlock = some k) fun _ _ => False.elim) fun _ _ => id))
          clear n2 CT hst hld hldb
          go_wp2_with fail
          go_roundw
          case rel => exact ⟨a, j + 1, r, by omega, by omega, by go_num, rfl, HZ.out.1, by rw [HS.out.2.2.2.1, HS.out.2.1]; simp, HS.out.2.2.1, HZ.out.2⟩
          case measure => simp [intOf]; omega
      · obtain rfl : j = n := by omega
        rw [List.take_of_length_le (l := l) (by rw [HN.out]; omega)] at htk
        obtain ⟨ti, hti, hz0, hz1, hz2⟩ := info_parts evInfo
        rcases ho.2 with ⟨h0, _⟩ | ⟨g', cap, cur, hv, hb, hg, h1, h2, h3, h4⟩
        · cases h0
        · injection hv with hv1 hv2 hv3
          injection hv1 with hv1
          injection hv1 with hv1 _ _
          subst hv1 hv3
          have hblk : Blk wr g 35 cur.toList.toArray := by unfold Blk; rw [Array.toArray_toList]; exact hg
          have hcs : cur.toList.length = c * 27 := by rw [Array.length_toList]; omega
          have s1 := run_slice_from (P := Try.prog) Try.underlying22 hti (some ⟨g, 0, none⟩) j c a (by omega)
          have s2 := run_slice_to (P := Try.prog) Try.underlying22 hti (some ⟨g, 0, none⟩) j c a (by omega)
          rw [hz1, if_neg (by omega), Option.map_some, add_plain, Nat.zero_add] at s1
          obtain ⟨zs, hzs⟩ : ∃ zs, (Builtin.zeroCells zeroE (j - a)).toList = zs := ⟨_, rfl⟩
          have hzl : zs.length = (j - a) * 27 := by rw [← hzs]; simp [Builtin.zeroCells]; rfl
          have hzo : ∀ u ∈ zs, u.oneCell' = true := by
            intro u hu
            rw [← hzs] at hu
            simp only [Builtin.zeroCells, Array.toList_map, List.mem_map] at hu
            obtain ⟨i, _, rfl⟩ := hu
            have hlt : i % zeroE.size < 27 := Nat.mod_lt _ (by decide)
            generalize i % zeroE.size = q at *
            have : ∀ q, q < 27 → (zeroE[q]!).oneCell' = true := by decide +kernel
            exact this q hlt
          have hcl := fun ty => run_clear_many (P := Try.prog) wr 22 35 ty (.agg zeroE) Try.underlying22 (fun W => by kernel_rfl) g (a * 27) (j - a) (c - a) (by omega) zs hzs hzo (fun i hi => by
            rw [hblk.cell, List.getElem?_toArray, List.getElem?_eq_getElem (by rw [hzl] at hi; omega)]
            rfl) (fun i _ => hblk.frozen _)
          have hb2 := Blk.setCells zs (a * 27) wr cur.toList hblk (by rw [hzl]; omega)
          have hfl : (l.filter fun x => !p x).length = a := by rw [← htk, List.length_take]; omega
          have hfin : OwnE (wr.setCells g (a * 27) zs) base (.slice (some ⟨g, 0, none⟩) a c) (l.filter fun x => !p x) := by
            unfold OwnE
            rw [hfl]
            refine ⟨by rw [rowE_length, hfl], .inr ⟨g, c, _, rfl, hb, hb2, by omega, h2, ?_, ?_⟩⟩
            · rw [List.size_toArray, List.length_append, List.length_append, List.length_take, List.length_drop, hzl, hcs]; omega
            · rw [List.append_assoc, List.take_append_of_le_length (by rw [List.length_take, hcs]; omega), List.take_take, Nat.min_self, ← htk, ← rowE_take, ← h4, List.take_take, Nat.min_eq_left (by omega)]
          have hch2 : Chg (fun k => (Value.slice (some ⟨g, 0, none⟩) j c).ownBlock = some k) w (wr.setCells g (a * 27) zs) := Chg.setCells _ _ _ hch (fun _ => rfl)
          have HZ := Lib.hid (And.intro hfin hch2)
          have hac : a ≤ c := by omega
          have haj2 : a ≤ j := by omega
          clear ho htk hdr hch hrl hblk hcs hb2 hfl hfin hch2 hg h3 h4 hz0 hz1 hz2 hti hb hzs hzl hzo
          go_wp2_with fail
          go_ret
          exact ⟨_, rfl, HZ.out.1, .inl rfl, HZ.out.2⟩
  · have hall : ∀ x ∈ l, p x = false := fun x hx => by
      cases hp : p x with
      | true => exact absurd ⟨x, hx, hp⟩ hany
      | false => rfl
    rw [idx_none hall] at C
    have hfl : (l.filter fun x => !p x) = l := List.filter_eq_self.2 fun x hx => by rw [hall x hx]; rfl
    rw [hfl]
    have H := Lib.hid h
    clear h ht hall hfl hany
    go_enter Try.func19, Try.ntmps19
    go_wp2_with fail
    refine C.out.mono ?_
    rintro e w1 ⟨rfl, n1⟩
    have HZ := Lib.hid (And.intro (own_chg H.out n1 fun _ _ => id) (n1.mono (S' := fun k => v.ownBlock = some k) fun _ _ => False.elim))
    clear n1
    go_wp2_with fail
    go_ret
    exact ⟨_, rfl, HZ.out.1, .inl rfl, HZ.out.2⟩
end IterE
end Go.Proofs.Ytgjlbifanjhcjaa

/-
  slices.Sorted(maps.Keys(m)) at a map from whole numbers to whole numbers of the call's own: its keys, rising (no condition beyond the sizes).
-/
import Derived.Test.YtoddgakhiaokaaaMerkleArgs
import Derived.Shelf.SlIterI.Nil
import Derived.Shelf.SortM.Plain
import Derived.Shelf.SortM.SortNone
namespace Go.Proofs.Ytoddgakhiaokaaa
open Go.ChangeShapes Go.WideShapes Go.RowKit Go.Maps Go.Sort Go.Shelf
def Kys.keys_ren : Go.Shelf.Ren := ⟨fun | 7 => 23 | 10 => 28 | n => n, fun | 23 => 39 | 26 => 3 | 3 => 24 | 28 => 58 | 0 => 0 | 27 => 57 | 33 => 40 | 4 => 4 | n => n, fun | n => n⟩
theorem Kys.keys : Go.Proofs.SlLaysZI.n7 Try.prog Kys.keys_ren := {
  mixed := by kernel_rfl
  f7 := ⟨Try.f23.name, by decide, Try.func23.trans (congrArg some (by kernel_rfl))⟩
  f10 := ⟨Try.f28.name, by decide, Try.func28.trans (congrArg some (by kernel_rfl))⟩
  t0 := Try.underlying0
  a0 := Try.isAgg0
  z0 := Try.sizeOf0
  v0 := Try.zeroValue0
  t4 := Try.underlying4
  a4 := Try.isAgg4
  z4 := Try.sizeOf4
  v4 := Try.zeroValue4
  t23 := Try.underlying39
  a23 := Try.isAgg39
  z23 := Try.sizeOf39
  v23 := Try.zeroValue39
  t26 := Try.underlying3
  a26 := Try.isAgg3
  z26 := Try.sizeOf3
  v26 := Try.zeroValue3
  t27 := Try.underlying57
  a27 := Try.isAgg57
  z27 := Try.sizeOf57
  v27 := Try.zeroValue57
  t28 := Try.underlying58
  a28 := Try.isAgg58
  z28 := Try.sizeOf58
  v28 := Try.zeroValue58
  t33 := Try.underlying40
  a33 := Try.isAgg40
  z33 := Try.sizeOf40
  v33 := Try.zeroValue40 }
def Kys.sorted_ren : Go.Shelf.Ren := ⟨fun | 6 => 22 | 8 => 26 | 9 => 27 | 11 => 33 | 13 => 35 | 12 => 34 | 23 => 46 | 24 => 47 | 14 => 37 | 15 => 38 | 16 => 39 | 17 => 40 | 18 => 41 | 19 => 42 | 20 => 43 | 21 => 44 | 22 => 45 | 25 => 48 | 26 => 49 | 27 => 50 | 28 => 51 | 29 => 52 | 30 => 53 | 31 => 54 | n => n, fun | 26 => 3 | 28 => 58 | 24 => 35 | 0 => 0 | 3 => 3 | 37 => 34 | 48 => 24 | 50 => 85 | 4 => 4 | 40 => 76 | 39 => 75 | 45 => 81 | 5 => 5 | 9 => 9 | 51 => 88 | 55 => 92 | 57 => 94 | 58 => 95 | 33 => 40 | n => n, fun | n => n⟩
theorem Kys.sorted : Go.Proofs.SlLaysZI.n6 Try.prog Kys.sorted_ren := {
  mixed := by kernel_rfl
  f6 := ⟨Try.f22.name, by decide, Try.func22.trans (congrArg some (by kernel_rfl))⟩
  f8 := ⟨Try.f26.name, by decide, Try.func26.trans (congrArg some (by kernel_rfl))⟩
  f11 := ⟨Try.f33.name, by decide, Try.func33.trans (congrArg some (by kernel_rfl))⟩
  t0 := Try.underlying0
  a0 := Try.isAgg0
  z0 := Try.sizeOf0
  v0 := Try.zeroValue0
  t24 := Try.underlying35
  a24 := Try.isAgg35
  z24 := Try.sizeOf35
  v24 := Try.zeroValue35
  t26 := Try.underlying3
  a26 := Try.isAgg3
  z26 := Try.sizeOf3
  v26 := Try.zeroValue3
  t28 := Try.underlying58
  a28 := Try.isAgg58
  z28 := Try.sizeOf58
  v28 := Try.zeroValue58
  i26 := by kernel_rfl }
def Kys.sort_ren : Go.Shelf.Ren := ⟨fun | 5 => 27 | 8 => 35 | 7 => 34 | 19 => 46 | 20 => 47 | 10 => 37 | 11 => 38 | 12 => 39 | 13 => 40 | 14 => 41 | 15 => 42 | 16 => 43 | 17 => 44 | 18 => 45 | 30 => 48 | 31 => 49 | 32 => 50 | 33 => 51 | 34 => 52 | 35 => 53 | 40 => 54 | n => n, fun | 23 => 35 | 25 => 3 | 3 => 3 | 32 => 34 | 22 => 35 | 0 => 0 | 44 => 24 | 46 => 85 | 4 => 4 | 36 => 76 | 35 => 75 | 41 => 81 | 5 => 5 | 9 => 9 | 53 => 88 | 57 => 92 | 63 => 94 | 64 => 95 | n => n, fun | n => n⟩
theorem Kys.sort : Go.Proofs.SlLaysM.n5 Try.prog Kys.sort_ren := {
  mixed := by kernel_rfl
  f5 := ⟨Try.f27.name, by decide, Try.func27.trans (congrArg some (by kernel_rfl))⟩
  f7 := ⟨Try.f34.name, by decide, Try.func34.trans (congrArg some (by kernel_rfl))⟩
  f8 := Try.func35.trans (congrArg some (by kernel_rfl))
  f10 := ⟨Try.f37.name, by decide, Try.func37.trans (congrArg some (by kernel_rfl))⟩
  f11 := ⟨Try.f38.name, by decide, Try.func38.trans (congrArg some (by kernel_rfl))⟩
  f12 := ⟨Try.f39.name, by decide, Try.func39.trans (congrArg some (by kernel_rfl))⟩
  f13 := ⟨Try.f40.name, by decide, Try.func40.trans (congrArg some (by kernel_rfl))⟩
  f14 := ⟨Try.f41.name, by decide, Try.func41.trans (congrArg some (by kernel_rfl))⟩
  f15 := ⟨Try.f42.name, by decide, Try.func42.trans (congrArg some (by kernel_rfl))⟩
  f16 := ⟨Try.f43.name, by decide, Try.func43.trans (congrArg some (by kernel_rfl))⟩
  f17 := ⟨Try.f44.name, by decide, Try.func44.trans (congrArg some (by kernel_rfl))⟩
  f18 := ⟨Try.f45.name, by decide, Try.func45.trans (congrArg some (by kernel_rfl))⟩
  f19 := Try.func46.trans (congrArg some (by kernel_rfl))
  f20 := Try.func47.trans (congrArg some (by kernel_rfl))
  f30 := ⟨Try.f48.name, by decide, Try.func48.trans (congrArg some (by kernel_rfl))⟩
  f31 := Try.func49.trans (congrArg some (by kernel_rfl))
  f32 := Try.func50.trans (congrArg some (by kernel_rfl))
  f33 := ⟨Try.f51.name, by decide, Try.func51.trans (congrArg some (by kernel_rfl))⟩
  f34 := ⟨Try.f52.name, by decide, Try.func52.trans (congrArg some (by kernel_rfl))⟩
  f35 := ⟨Try.f53.name, by decide, Try.func53.trans (congrArg some (by kernel_rfl))⟩
  f40 := ⟨Try.f54.name, by decide, Try.func54.trans (congrArg some (by kernel_rfl))⟩
  t0 := Try.underlying0
  a0 := Try.isAgg0
  z0 := Try.sizeOf0
  v0 := Try.zeroValue0
  t3 := Try.underlying3
  a3 := Try.isAgg3
  z3 := Try.sizeOf3
  v3 := Try.zeroValue3
  t4 := Try.underlying4
  a4 := Try.isAgg4
  z4 := Try.sizeOf4
  v4 := Try.zeroValue4
  t5 := Try.underlying5
  a5 := Try.isAgg5
  z5 := Try.sizeOf5
  v5 := Try.zeroValue5
  t9 := Try.underlying9
  a9 := Try.isAgg9
  z9 := Try.sizeOf9
  v9 := Try.zeroValue9
  t22 := Try.underlying35
  a22 := Try.isAgg35
  z22 := Try.sizeOf35
  v22 := Try.zeroValue35
  t23 := Try.underlying35
  a23 := Try.isAgg35
  z23 := Try.sizeOf35
  v23 := Try.zeroValue35
  t25 := Try.underlying3
  a25 := Try.isAgg3
  z25 := Try.sizeOf3
  v25 := Try.zeroValue3
  t32 := Try.underlying34
  a32 := Try.isAgg34
  z32 := Try.sizeOf34
  v32 := Try.zeroValue34
  t35 := Try.underlying75
  a35 := Try.isAgg75
  z35 := Try.sizeOf75
  v35 := Try.zeroValue75
  t36 := Try.underlying76
  a36 := Try.isAgg76
  z36 := Try.sizeOf76
  v36 := Try.zeroValue76
  t41 := Try.underlying81
  a41 := Try.isAgg81
  z41 := Try.sizeOf81
  v41 := Try.zeroValue81
  t44 := Try.underlying24
  a44 := Try.isAgg24
  z44 := Try.sizeOf24
  v44 := Try.zeroValue24
  t46 := Try.underlying85
  a46 := Try.isAgg85
  z46 := Try.sizeOf85
  v46 := Try.zeroValue85
  t53 := Try.underlying88
  a53 := Try.isAgg88
  z53 := Try.sizeOf88
  v53 := Try.zeroValue88
  t57 := Try.underlying92
  a57 := Try.isAgg92
  z57 := Try.sizeOf92
  v57 := Try.zeroValue92
  t63 := Try.underlying94
  a63 := Try.isAgg94
  z63 := Try.sizeOf94
  v63 := Try.zeroValue94
  t64 := Try.underlying95
  a64 := Try.isAgg95
  z64 := Try.sizeOf95
  v64 := Try.zeroValue95 }
theorem Kys.sorts (m : Nat) : AnyZI.SortsIn Try.prog Kys.sorted_ren Fence.wide m :=
  ⟨fun blk off cap ss W hH hblk hsz => callsIn_wide.2 (AnyM.slices_Sort_int Kys.sort blk off cap ss W hH hblk hsz),
   fun p cap W => callsIn_wide.2 (AnyM.slices_Sort_int_none Kys.sort p cap W)⟩
section
variable {P : Program} {K E : TypeId} {q : IntKind} {w : World} {b n : Nat} {M : Int → Option Int}
/-- a map's keys, each once -/
theorem MapAt.keys (h : MapAt P K E .i64 q w b n M) (hK : P.underlying K = some (.int .i64)) (hE : P.underlying E = some (.int q)) {T : TypeId} (hT : P.underlying T = some (.map K E)) (hz : ∀ w, (zeroValue E).run P w = .ok (.int q 0) w) :
    ∃ D : DataW Unit, w.ownsMap P K (plainElem P E) b n D ∧ Maps.size D ≤ n ∧ ∀ ks : List Int, ks.Perm (intKeys D) → ks.Nodup ∧ ks.length ≤ n ∧ ∀ x, x ∈ ks ↔ (inKind .i64 x ∧ (M x).isSome = true) := by
  obtain ⟨D, ho, hm⟩ := h.ex
  obtain ⟨es, hD, hpw, _⟩ := ho.entries (int_keyed hK)
  obtain ⟨es', hD', hko⟩ := ho.keysOf
  obtain rfl : es = es' := by rw [hD] at hD'; simpa using hD'
  refine ⟨D, ho, ?_, fun ks hp => ?_⟩
  · exact ho.size_le
  · have hk : ∀ p ∈ es, ∃ x, p.1 = .int .i64 x ∧ (Lit.int .i64 x).wf = true := fun p hp => by
      obtain ⟨v, hv⟩ := hko p hp
      obtain ⟨x, _, hx, hw⟩ := Maps.keyOf_i64 hK hv
      exact ⟨x, hx, hw⟩
    subst hD
    have hnd : (intKeys (.map es : DataW Unit)).Nodup := by
      show (es.map fun p => Go.intOf p.1).Nodup
      refine List.pairwise_map.2 (hpw.imp_of_mem fun {p q} hp' hq' hne e => hne ?_)
      obtain ⟨a, ha, _⟩ := hk p hp'
      obtain ⟨b, hb, _⟩ := hk q hq'
      rw [ha, hb] at e ⊢
      exact congrArg _ e
    refine ⟨hp.nodup_iff.2 hnd, ?_, fun x => ?_⟩
    · rw [hp.length_eq]
      show (es.map fun p => Go.intOf p.1).length ≤ n
      rw [List.length_map]
      exact ho.size_le
    rw [hp.mem_iff]
    have hmem : x ∈ intKeys (.map es : DataW Unit) ↔ has (.map es : DataW Unit) (.int .i64 x) = true := by
      rw [has_eq, List.any_eq_true]
      show x ∈ es.map (fun p => Go.intOf p.1) ↔ _
      rw [List.mem_map]
      constructor
      · rintro ⟨p, hp', rfl⟩
        obtain ⟨a, ha, _⟩ := hk p hp'
        exact ⟨p, hp', by rw [ha]; simp [Lit.sameKey, Go.intOf]⟩
      · rintro ⟨p, hp', hs⟩
        obtain ⟨a, ha, _⟩ := hk p hp'
        rw [ha] at hs
        exact ⟨p, hp', by rw [ha]; simpa [Lit.sameKey, Go.intOf] using hs⟩
    rw [hmem]
    constructor
    · intro hh
      have hw : inKind .i64 x := by
        obtain ⟨p, hp', e⟩ := List.mem_map.1 (hmem.2 hh)
        obtain ⟨a, ha, hwf⟩ := hk p hp'
        rw [ha] at e
        have : a = x := e
        subst this
        exact hwf
      refine ⟨hw, ?_⟩
      obtain ⟨c, hrun, hat, hc⟩ := ho.lookup_int (int_keyed hK) hT hE (hz w) (keyOf_int_mk hK hw)
      rw [hm x hw, if_pos hh, hat]
      rfl
    · rintro ⟨hw, hs⟩
      rw [hm x hw] at hs
      by_cases hh : has (.map es : DataW Unit) (.int .i64 x) = true
      · exact hh
      · rw [if_neg hh] at hs
        cases hs
end

namespace Merkle
set_option maxHeartbeats 2000000 in
theorem keys (w : World) (lo b n : Nat) (gs : Nat → Nat) (T : Lv) (h : At w lo b gs n T) (hn : n ≤ 1000000) :
    Calls Try.prog 15 #[ptr b] w fun e w' => ∃ (v : Value) (ks : List Int), e = .returned v ∧ OwnI w' w.heap.size v ks ∧ ks.Pairwise (· < ·) ∧ (∀ x, x ∈ ks ↔ (inKind .i64 x ∧ (T 4 x).isSome = true)) ∧ ks.length ≤ n ∧ New w w' := by
  obtain ⟨D, hown, hsz, hks⟩ := (h.maps 4 (by omega)).keys Try.underlying3 Try.underlying24 Try.underlying39 zero_u32
  have hc := h.cell (l := 4) (by omega)
  generalize gs 4 = g at *
  refine (callsIn_wide (n := 6)).1 ?_
  have hbl := hown.lt
  have hseq : SeqGives Fence.wide 2 Try.prog 28 #[.pointer (some ⟨w.heap.size, 0, none⟩)] encZ (fun ss => ss.Perm (intKeys D)) (Maps.size D) (w.alloc (.cells #[.map (some g)] 39)) :=
    AnyZI.keys_gives (ρ := Kys.keys_ren) { Kys.keys with } Fence.wide _ trivial rfl (by omega) w.heap.size g n D _ (by simp) (by simp) (by
      obtain ⟨es, clock, hb, Ft, hs, hD⟩ := hown
      exact ⟨es, clock, (Below.heap_alloc _ _ g hbl).trans hb, Ft, hs, hD⟩)
  have cK : ∀ mb W, CallsIn Fence.wide 5 Try.prog 23 #[.map mb] W fun e w' => e = .returned (.func (.func 28) #[] #[.pointer (some ⟨W.heap.size, 0, none⟩)]) ∧ w' = W.alloc (.cells #[.map mb] 39) := fun mb W => AnyZI.keys_in Kys.keys Fence.wide 5 trivial rfl mb W
  have cS := AnyZI.sorted_in Kys.sorted Fence.wide 5 trivial trivial trivial trivial rfl (by omega) (Kys.sorts _) (enters_of Try.func27 (by kernel_rfl) rfl) 28 #[.pointer (some ⟨w.heap.size, 0, none⟩)] trivial (enters_of Try.func28 (by kernel_rfl) rfl) _ _ (by unfold maxLen; omega) (by omega) _ hseq
  change CallsIn _ _ Try.prog 22 _ _ _ at cS
  have hfK : Fence.wide.fn 23 := trivial
  have hfS : Fence.wide.fn 22 := trivial
  have HK := Lib.hid hks
  clear h hown hsz hks hbl hseq
  refine callsIn_of_wp Try.func15 rfl trivial ?_ rfl
  simp only [Try.ntmps15, List.size_toArray, List.length_cons, List.length_nil, Nat.reduceAdd, Nat.reduceSub, Array.replicate_succ, Array.replicate_zero, List.push_toArray, List.append_toArray, List.nil_append, List.cons_append]
  gi_wp2_with (first
    | (gi_at_call 23; refine (cK _ _).mono ?_; rintro e w' ⟨rfl, rfl⟩)
    | (gi_at_call 22; refine cS.mono ?_; rintro e w' ⟨v, ss, rfl, hS, hrow, hnil, hb⟩))
  go_ret
  have hms := List.mergeSort_perm ss (fun x y => decide (x ≤ y))
  obtain ⟨hnd, hlen, hmem⟩ := HK.out _ (hms.trans hS)
  refine ⟨v, _, rfl, ?_, ?_, hmem, hlen, Chg.of_below (((Below.refl _ w).alloc (Nat.le_refl _) _).trans (hb.mono (by simp)))⟩
  · unfold OwnI
    rw [hms.length_eq]
    exact ownsRow_base_a hrow (by simp)
  · have hle := List.pairwise_mergeSort (le := fun (x y : Int) => decide (x ≤ y)) (fun a b c h1 h2 => by simp at *; omega) (fun a b => by simp; omega) ss
    have hnd' : (ss.mergeSort (fun x y => decide (x ≤ y))).Pairwise (· ≠ ·) := hnd
    exact (hle.and hnd').imp fun ⟨h1, h2⟩ => by simp at h1; omega
end Merkle
end Go.Proofs.Ytoddgakhiaokaaa

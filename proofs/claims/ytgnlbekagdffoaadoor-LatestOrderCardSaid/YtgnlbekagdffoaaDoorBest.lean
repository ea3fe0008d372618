/-
  The law's own map of cells; Register.Join; a cell is itself.
-/
import Derived.Test.YtgnlbekagdffoaaDoorGrow
namespace Go.Proofs.YtgnlbekagdffoaaDoor
set_option linter.unusedSimpArgs false
set_option linter.unusedVariables false
open Go.ChangeShapes Go.WideShapes Go.RowKit Go.Deep
namespace Lat
open MapR (MapAt KeyOk Rng)
attribute [local go_sem ↓] loadOnly0 loadOnly1 loadOnly2
theorem selfE (c : Cl) (W : World) : (binOp .eql 33 (.agg #[.string c.name, .int .i64 c.t, .int .i64 c.r, .int .i64 c.k, .int .i64 c.n, .string c.txt]) (.agg #[.string c.name, .int .i64 c.t, .int .i64 c.r, .int .i64 c.k, .int .i64 c.n, .string c.txt])).run Tryd.prog W = .ok (.bool true) W := by
  go_simp
/-- g is a map of names' cells: M -/
structure MapOf (w : World) (g : Nat) (M : St) : Prop where
  ex : ∃ ks, MapAt Value.string w g ks (valOf M) ∧ ∀ x, x ∈ ks ↔ (M x).isSome = true
section
variable {w w' : World} {g : Nat} {M : St} {S : Nat → Prop}
theorem MapOf.chg (h : MapOf w g M) (hc : Chg S w w') (hg : ¬ S g) : MapOf w' g M := by
  obtain ⟨ks, h1, h2⟩ := h.ex
  exact ⟨ks, h1.chg hc hg, h2⟩
theorem MapOf.new (h : MapOf w g M) (hc : New w w') : MapOf w' g M := h.chg hc id
theorem MapOf.ne_cell (h : MapOf w g M) {b : Nat} {t : TypeId} {cs : Array Value} (hB : Blk w b t cs) : ¬ (b = g) := by
  obtain ⟨ks, h1, _⟩ := h.ex
  exact fun e => h1.ne_blk hB e.symm
theorem MapOf.made (w : World) : MapOf (w.alloc (.map #[] 0)) w.heap.size none_ := ⟨[], MapAt.made _ _ _, fun x => by simp [none_]⟩
theorem MapOf.look (h : MapOf w g M) (x : ByteArray) : (Instr.lookup 27 (.map (some g)) (.string x) true).run Tryd.prog w = .ok (.tuple #[valOf M x, .bool (M x).isSome]) w := by
  obtain ⟨ks, h1, h2⟩ := h.ex
  by_cases hx : x ∈ ks
  · have := (h2 x).1 hx
    rw [h1.look_in keyS Tryd.underlying27 zeroCell hx, this]
  · have : (M x).isSome = false := by
      rw [Bool.eq_false_iff]
      exact fun e => hx ((h2 x).2 e)
    rw [h1.look_out keyS Tryd.underlying27 zeroCell hx, this]
    unfold valOf
    cases hq : M x with
    | none => rfl
    | some c => rw [hq] at this; cases this
theorem MapOf.look1 (h : MapOf w g M) (x : ByteArray) : (Instr.lookup 27 (.map (some g)) (.string x) false).run Tryd.prog w = .ok (valOf M x) w := by
  obtain ⟨ks, h1, h2⟩ := h.ex
  rw [h1.look keyS Tryd.underlying27 zeroCell x]
  by_cases hx : x ∈ ks
  · rw [if_pos hx]
  · rw [if_neg hx]
    have : (M x).isSome = false := by
      rw [Bool.eq_false_iff]
      exact fun e => hx ((h2 x).2 e)
    unfold valOf
    cases hq : M x with
    | none => rfl
    | some c => rw [hq] at this; cases this
theorem MapOf.store (h : MapOf w g M) (c : Cl) : ∃ w', (Instr.mapUpdate 27 (.map (some g)) (.string c.name) c.val).run Tryd.prog w = .ok () w' ∧ MapOf w' g (upd M c.name c) ∧ Chg (fun k => k = g) w w' := by
  obtain ⟨ks, h1, h2⟩ := h.ex
  obtain ⟨w', hrun, h3, hc⟩ := h1.store keyS Tryd.underlying27 c.name c.val
  refine ⟨w', hrun, ⟨_, by rw [valOf_upd]; exact h3, fun x => ?_⟩, hc⟩
  unfold upd
  by_cases e : x = c.name
  · subst e
    rw [if_pos rfl]
    by_cases hx : c.name ∈ ks
    · rw [if_pos hx]; simp [hx]
    · rw [if_neg hx]; simp
  · rw [if_neg e, ← h2]
    by_cases hx : c.name ∈ ks
    · rw [if_pos hx]
    · rw [if_neg hx]; simp [e]
theorem MapOf.len (h : MapOf w g M) {L : List Cl} (hA : AllOf M L) (hi : ∀ x c, M x = some c → c.name = x) (ty : TypeId) : (Builtin.len_ #[27] ty #[.map (some g)]).run Tryd.prog w = .ok (.int .i64 (L.length : Int)) w := by
  obtain ⟨ks, h1, h2⟩ := h.ex
  have hmem : ∀ x, x ∈ ks ↔ x ∈ L.map Cl.name := fun x => by
    rw [h2, List.mem_map]
    constructor
    · intro hx
      obtain ⟨c, hc⟩ := Option.isSome_iff_exists.1 hx
      have hn := hi x c hc
      exact ⟨c, (hA.mem c).2 (by rw [hn]; exact hc), hn⟩
    · rintro ⟨c, hc, rfl⟩
      rw [(hA.mem c).1 hc]
      rfl
  have a := len_sub ks _ h1.nd fun x hx => (hmem x).1 hx
  have b := len_sub _ ks hA.nodup fun x hx => (hmem x).2 hx
  rw [h1.len Tryd.underlying27 ty, show ks.length = L.length by rw [List.length_map] at a b; omega]
end
theorem counts_form (M : St) (c : Cl) : counts M c = (c.right && (!(M c.name).isSome || c.over ((M c.name).getD zCl))) := by
  unfold counts
  cases M c.name <;> simp
theorem put_txt {M : St} {c : Cl} (h : ∀ y d, M y = some d → d.txt.size ≤ 1000) (hc : c.txt.size ≤ 1000) : ∀ y d, put M c y = some d → d.txt.size ≤ 1000 := by
  intro y d hd
  unfold put at hd
  split at hd
  · unfold upd at hd
    split at hd
    · injection hd with hd
      rw [← hd]; exact hc
    · exact h y d hd
  · exact h y d hd
theorem put_upd {M : St} {c : Cl} (h : counts M c = true) : put M c = upd M c.name c := by unfold put; rw [if_pos h]
theorem name_less {L : List Cl} {M : St} (h : AllOf M L) {i : Nat} {a b : Cl} (ha : L[i]? = some a) (hb : L[i + 1]? = some b) : Op.bytesLess a.name.toList b.name.toList = true := by
  rw [bytesLess_iff, Val.toList_data, Val.toList_data, decide_eq_true_eq]
  obtain ⟨h1, rfl⟩ := List.getElem?_eq_some_iff.1 ha
  obtain ⟨h2, rfl⟩ := List.getElem?_eq_some_iff.1 hb
  exact List.pairwise_iff_getElem.1 h.up i (i + 1) h1 h2 (by omega)
theorem maxAt_chg {w w' : World} {lo b m : Nat} {M : St} (h : Val.MaxAt w) (hA : At w lo b m M) (hc : Chg (fun k => k = m) w w') : Val.MaxAt w' := by
  obtain ⟨x, hx⟩ := h
  have hlt := block_lt_of_cell hx
  refine ⟨x, (hc.cell hlt fun e => ?_).trans hx⟩
  obtain ⟨ks, h1, _⟩ := hA.map
  obtain ⟨es, clock, hb, _⟩ := h1.ex
  have e : 0 = m := e
  rw [e] at hx
  simp [World.cell?, hb] at hx
/-- how many of a row count, one by one -/
def howMany (M : St) : List Cl → Nat
  | [] => 0
  | c :: l => (if counts M c then 1 else 0) + howMany (put M c) l
theorem howMany_le (M : St) : ∀ l : List Cl, howMany M l ≤ l.length
  | [] => Nat.le_refl _
  | c :: l => by
    have := howMany_le (put M c) l
    unfold howMany
    rw [List.length_cons]
    split <;> omega
theorem howMany_append (M : St) : ∀ (l k : List Cl), howMany M (l ++ k) = howMany M l + howMany (fold M l) k
  | [], k => by simp [howMany, fold]
  | c :: l, k => by
    have := howMany_append (put M c) l k
    simp only [List.cons_append, howMany]
    rw [this]
    simp only [fold, List.foldl_cons]
    omega
theorem howMany_one (M : St) (c : Cl) : howMany M [c] = if counts M c then 1 else 0 := by simp [howMany]
theorem fold_append (M : St) (l k : List Cl) : fold M (l ++ k) = fold (fold M l) k := by simp [fold]
theorem take_one {α : Type} {l : List α} {k : Nat} {c : α} (h : l[k]? = some c) : l.take (k + 1) = l.take k ++ [c] := by rw [List.take_add_one, h]; rfl
set_option maxHeartbeats 4000000 in
set_option maxRecDepth 20000 in
theorem join (hS : SortsC) (w : World) (hm : Val.MaxAt w) (lo b m lo2 b2 m2 : Nat) (M M2 : St) (h : At w lo b m M) (h2 : At w lo2 b2 m2 M2) (hne : m2 ≠ m) (N : Nat) (hF : Few M2 N) (hN : N ≤ 1000)
    (hz : ∀ y d, M2 y = some d → d.name.size ≤ 1000 ∧ d.txt.size ≤ 1000 ∧ (-9223372036854775808 ≤ d.n ∧ d.n ≤ 9223372036854775807)) :
    Calls Tryd.prog 15 #[.pointer (some ⟨b, 0, none⟩), .pointer (some ⟨b2, 0, none⟩)] w fun e w' => ∃ L, e = .returned (.int .i64 (howMany M L : Int)) ∧ AllOf M2 L ∧ L.length ≤ N ∧ At w' lo b m (fold M L) ∧ Chg (fun k => k = m) w w' := by
  have CA := Lib.hid (all hS w lo2 b2 m2 M2 h2 N hF hN)
  have hml : m < w.heap.size := by
    obtain ⟨ks, q, _⟩ := h.map
    exact q.lt
  have HH := Lib.hid (And.intro h (And.intro hz (And.intro hm hml)))
  clear h hF hS h2 hne hz hm hml
  go_enter Tryd.func15, Tryd.ntmps15
  go_wp2_with fail
  refine CA.out.mono ?_
  rintro e w1 ⟨u, L, rfl, ho, hA, hlen, n1⟩
  obtain ⟨A, cp, rfl⟩ := ho.form
  obtain ⟨n, hn⟩ : ∃ n, L.length = n := ⟨_, rfl⟩
  have hno : ¬ ((Value.slice A L.length cp).ownBlock = some m) := fun e => by have := (own_lt ho e).1; have := HH.out.2.2.2; omega
  have HL := Lib.hid (And.intro ho (And.intro n1 (And.intro hn (And.intro hA hno))))
  rw [hn] at hlen ⊢
  clear ho n1 CA hn hA hno
  go_wp2_with fail
  go_loopw [5, 13] (fun x i wr => ∃ k : Nat, k ≤ n ∧ i = .int .i64 k ∧ x = .int .i64 (howMany M (L.take k) : Int) ∧ At wr lo b m (fold M (L.take k)) ∧ Chg (fun k => k = m) w1 wr) (fun _ i _ => n - (intOf i).toNat)
  case atStart => exact ⟨0, by omega, rfl, rfl, HH.out.1.new HL.out.2.1, Chg.refl _ _⟩
  case round =>
    obtain ⟨k, hk, rfl, rfl, hat, nw⟩ := hrel
    by_cases hlt : k < n
    · obtain ⟨c, hc⟩ : ∃ c, L[k]? = some c := ⟨_, List.getElem?_eq_getElem (by rw [HL.out.2.2.1]; exact hlt)⟩
      have ow := own_chg HL.out.1 nw fun i hi e => HL.out.2.2.2.2 (e ▸ hi)
      rw [HL.out.2.2.1] at ow
      obtain ⟨ad, rfl, hld⟩ := ld_cl (Reads.of_own ow) hc
      have hsz := HH.out.2.1 c.name c ((HL.out.2.2.2.1.mem c).1 (List.mem_of_getElem? hc))
      have a2 := (Chg.refl (fun _ => False) wr).alloc (.cells #[.string c.name, .int .i64 c.t, .int .i64 c.r, .int .i64 c.k, .int .i64 c.n, .string c.txt] 33)
      have hld2 := (blk_cell (Blk.new wr 33 #[.string c.name, .int .i64 c.t, .int .i64 c.r, .int .i64 c.k, .int .i64 c.n, .string c.txt])).2.2.1
      have hmr := maxAt_chg (HH.out.2.2.1.new HL.out.2.1) (HH.out.1.new HL.out.2.1) nw
      have CP := Lib.hid (put_ _ _ _ _ _ (hat.new a2) c hsz.1 hsz.2.1 hsz.2.2 (hmr.new a2))
      have HN := Lib.hid (nw.trans a2 fun _ _ => False.elim)
      have hq := howMany_le M (L.take k)
      have hq2 : (L.take k).length = k := by rw [List.length_take, HL.out.2.2.1]; omega
      rw [hq2] at hq
      have HT := Lib.hid (show L.take (k + 1) = L.take k ++ [c] from take_one hc)
      obtain ⟨q, hqe⟩ : ∃ q, howMany M (L.take k) = q := ⟨_, rfl⟩
      rw [hqe] at hq ⊢
      have HQ := Lib.hid hqe
      obtain ⟨o, ho⟩ : ∃ o, counts (fold M (L.take k)) c = o := ⟨_, rfl⟩
      rw [ho] at CP
      have HO := Lib.hid ho
      obtain ⟨rc, hrc⟩ : ∃ z : Int, (if c.right = true then 0 else 1) = z := ⟨_, rfl⟩
      rw [hrc] at CP
      have hkn : (k : Int) < n := by omega
      unfold Cl.val at hld hld2 CP
      clear ow nw hc hat a2 hmr hsz hq2 hqe ho hrc
      have hw : IntKind.i64.wrap ((k : Int) + 1) = (k : Int) + 1 := IntWalk.i64_in _ (by omega)
      have hw2 : IntKind.i64.wrap ((q : Int) + 1) = (q : Int) + 1 := IntWalk.i64_in _ (by omega)
      go_wp2_with fail
      refine CP.out.mono ?_
      rintro e w3 ⟨rfl, h3, c3⟩
      have h3 : At w3 lo b m (fold M (L.take (k + 1))) := by
        rw [HT.out, fold_append]
        exact h3
      have HE := Lib.hid (And.intro h3 (HN.out.trans c3 fun _ _ e => e))
      have HH2 : howMany M (L.take (k + 1)) = q + if o = true then 1 else 0 := by
        rw [HT.out, howMany_append, howMany_one, HO.out, HQ.out]
      have HZ := Lib.hid HH2
      clear h3 c3 CP hld hld2 HH2
      cases o
      · go_wp2_with fail
        go_roundw
        case rel => exact ⟨k + 1, by omega, by go_num, by rw [HZ.out]; rfl, HE.out.1, HE.out.2⟩
        case measure => simp [intOf]; omega
      · go_wp2_with fail
        go_roundw
        case rel => exact ⟨k + 1, by omega, by go_num, by rw [HZ.out]; simp, HE.out.1, HE.out.2⟩
        case measure => simp [intOf]; omega
    · obtain rfl : k = n := by omega
      have ht : L.take k = L := List.take_of_length_le (by rw [HL.out.2.2.1]; omega)
      rw [ht] at hat ⊢
      have HN := Lib.hid (And.intro nw hat)
      obtain ⟨q, hqe⟩ : ∃ q, howMany M L = q := ⟨_, rfl⟩
      rw [hqe]
      have HQ := Lib.hid hqe
      clear nw hat ht hqe
      go_wp2_with fail
      go_ret
      exact ⟨L, by rw [HQ.out]; rfl, HL.out.2.2.2.1, by rw [HL.out.2.2.1]; exact hlen, HN.out.2, (HL.out.2.1.mono (S' := fun k => k = m) fun _ _ => False.elim).trans HN.out.1 fun _ _ e => e⟩
end Lat
end Go.Proofs.YtgnlbekagdffoaaDoor

/-
  LatestGrows, walked: true.
-/
import Derived.Test.YtgnlbekagdffoaaDoorFew
import Derived.Test.YtgnlbekagdffoaaDoorGrowPlain
namespace Go.Proofs.YtgnlbekagdffoaaDoor
set_option linter.unusedSimpArgs false
set_option linter.unusedVariables false
open Go.ChangeShapes Go.WideShapes Go.RowKit Go.Deep
namespace Lat
open MapR (MapAt KeyOk Rng)
attribute [local go_sem ↓] loadOnly0 loadOnly1 loadOnly2
local instance : LawfulBEq ByteArray where
  eq_of_beq h := (MapKept.bytes_beq ..).1 h
  rfl := (MapKept.bytes_beq ..).2 rfl
theorem len_sub : ∀ (K L : List ByteArray), K.Nodup → (∀ x ∈ K, x ∈ L) → K.length ≤ L.length
  | [], _, _, _ => Nat.zero_le _
  | x :: K, L, hd, h => by
    have hx := h x (List.mem_cons_self ..)
    have hd := List.nodup_cons.1 hd
    have := len_sub K (L.erase x) hd.2 fun y hy => by
      have hne : y ≠ x := fun e => hd.1 (e ▸ hy)
      exact (List.mem_erase_of_ne hne).2 (h y (List.mem_cons_of_mem _ hy))
    rw [List.length_erase_of_mem hx] at this
    have := List.length_pos_of_mem hx
    rw [List.length_cons]
    omega
theorem AllOf.nodup {M : St} {L : List Cl} (h : AllOf M L) : (L.map Cl.name).Nodup := by
  unfold List.Nodup
  rw [List.pairwise_map]
  refine h.up.imp fun {a b} hab e => ?_
  rw [e, cmpL_self] at hab
  cases hab
theorem AllOf.few {M : St} {L : List Cl} (h : AllOf M L) (hi : ∀ x c, M x = some c → c.name = x) : Few M L.length := by
  intro K hd hK
  rw [← List.length_map (f := Cl.name)]
  refine len_sub K _ hd fun x hx => ?_
  obtain ⟨c, hc⟩ := Option.isSome_iff_exists.1 (hK x hx)
  have hn := hi x c hc
  exact List.mem_map.2 ⟨c, (h.mem c).2 (by rw [hn]; exact hc), hn⟩
theorem all_len {M : St} {c : Cl} {L L' : List Cl} (h : AllOf M L) (h' : AllOf (put M c) L') (hi : ∀ x d, put M c x = some d → d.name = x) : L.length ≤ L'.length := by
  rw [← List.length_map (f := Cl.name)]
  refine h'.few hi _ h.nodup fun x hx => ?_
  obtain ⟨d, hd, rfl⟩ := List.mem_map.1 hx
  exact put_more c (by rw [(h.mem d).1 hd]; rfl)
def zCl : Cl := ⟨⟨#[]⟩, 0, 0, 0, 0, ⟨#[]⟩⟩
theorem valOf_cl (M : St) (x : ByteArray) : valOf M x = ((M x).getD zCl).val := by
  unfold valOf
  cases M x <;> rfl
theorem grow_facts (M : St) (c : Cl) : ∃ (d e : Cl) (t s o : Bool), (M c.name).isSome = t ∧ valOf M c.name = d.val ∧ (put M c c.name).isSome = s ∧ valOf (put M c) c.name = e.val ∧ counts M c = o ∧
    (t = true → s = true ∧ decide (0 < orL [cmpI d.t e.t, cmpI d.r e.r]) = false) ∧ (o = true → c = e ∧ true = s) ∧ (o = false → d = e ∧ t = s) := by
  refine ⟨(M c.name).getD zCl, (put M c c.name).getD zCl, _, _, _, rfl, valOf_cl .., rfl, valOf_cl .., rfl, fun ht => ?_, fun ho => ?_, fun ho => ?_⟩
  · obtain ⟨b, hb⟩ := Option.isSome_iff_exists.1 ht
    obtain ⟨d, hd⟩ := Option.isSome_iff_exists.1 (put_more c ht)
    refine ⟨by rw [hd]; rfl, ?_⟩
    rw [hb, hd]
    exact later_put hb hd
  · rw [put_yes ho]; exact ⟨rfl, rfl⟩
  · rw [put_no ho]; exact ⟨rfl, rfl⟩
theorem At.ne_cell {w : World} {lo b m : Nat} {M : St} (h : At w lo b m M) {g : Nat} {t : TypeId} {cs : Array Value} (hB : Blk w g t cs) : ¬ (g = m) := by
  obtain ⟨ks, h1, _⟩ := h.map
  exact fun e => h1.ne_blk hB e.symm
theorem selfC (c : Cl) (W : World) : (binOp .neq 33 (.agg #[.string c.name, .int .i64 c.t, .int .i64 c.r, .int .i64 c.k, .int .i64 c.n, .string c.txt]) (.agg #[.string c.name, .int .i64 c.t, .int .i64 c.r, .int .i64 c.k, .int .i64 c.n, .string c.txt])).run Tryd.prog W = .ok (.bool false) W := by
  go_simp
end Lat
end Go.Proofs.YtgnlbekagdffoaaDoor

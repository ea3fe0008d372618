/-
  []byte: append of bytes onto a row of the call's own; strings of bytes (no condition beyond the rows' sizes).
-/
import Derived.Test.YtjkjbbmbfobdaaaDoorMem
namespace Go.Proofs.YtjkjbbmbfobdaaaDoor
open Go.ChangeShapes Go.WideShapes Go.RowKit

/-- v is a slice of the call's own (its block is at least base) whose bytes are l -/
abbrev OwnB (w : World) (base : Nat) (v : Value) (l : List UInt8) : Prop := w.ownsRow base 5 1 v l.length (u8s l)

theorem u8info : (Tryd.prog.info? 5).map (fun i => (i.zero, i.size, i.bytes)) = some (some (.int .u8 0), 1, 1) := by kernel_rfl

/-- a []byte literal, empty -/
theorem OwnB.lit {w : World} {base : Nat} (l : List UInt8) (hb : base ≤ w.heap.size) (hl : l.length ≤ maxLen) : OwnB (w.alloc (.cells (u8s l).toArray 5)) base (.slice (some ⟨w.heap.size, 0, none⟩) l.length l.length) l := by
  have := World.ownsRow_lit (e := 5) (size := 1) w (u8s l).toArray l.length hb hl (by simp [u8s])
  simpa using this
theorem OwnB.empty {w : World} {base : Nat} (hb : base ≤ w.heap.size) : OwnB (w.alloc (.cells #[] 5)) base (.slice (some ⟨w.heap.size, 0, none⟩) 0 0) [] := OwnB.lit [] hb (by simp)
theorem OwnB.nil {w : World} {base : Nat} : OwnB w base (.slice none 0 0) [] := World.ownsRow_nil w base _ 1
theorem OwnB.len_le {w : World} {base : Nat} {v : Value} {l : List UInt8} (h : OwnB w base v l) : l.length ≤ maxLen := by
  rcases h.2 with ⟨_, h⟩ | ⟨_, cap, _, _, _, _, h1, h2, _⟩
  · rw [h]; exact Nat.zero_le _
  · omega
/-- the form of an owned slice -/
theorem OwnB.form {w : World} {base : Nat} {v : Value} {l : List UInt8} (h : OwnB w base v l) : ∃ A c, v = .slice A l.length c ∧ l.length ≤ c ∧ c ≤ maxLen ∧ (∀ ad, A = some ad → ∃ g, ad = ⟨g, 0, none⟩ ∧ base ≤ g ∧ g < w.heap.size) ∧
    Reads w (fun b => base ≤ b ∧ b < w.heap.size ∧ v.ownBlock = some b) 1 A l.length (u8s l) := by
  rcases h.2 with ⟨rfl, h0⟩ | ⟨g, cap, cur, rfl, hb, hg, h1, h2, _⟩
  · have hl : l = [] := List.eq_nil_of_length_eq_zero h0
    subst hl
    exact ⟨none, 0, rfl, Nat.le_refl _, by simp [maxLen], (fun _ h => (by cases h)), Reads.none_ _⟩
  · refine ⟨_, cap, rfl, h1, h2, fun ad e => ?_, Reads.of_own h⟩
    injection e with e
    exact ⟨g, e.symm, hb, (Array.getElem?_eq_some_iff.1 hg).1⟩

theorem append_u8 (w : World) {ops : Array Oper} {rest : List Oper} {o : Oper} {a : Act} {Q : Exit → Act → World → Prop} (hgd : o.guard = none) (s x : Operand)
    (ho : o.op = .call { callee := .builtin .append, args := #[s, x], argTypes := #[43, 43] })
    (base : Nat) (v : Value) (l : List UInt8) (hs : a.eval s = v) (hown : OwnB w base v l)
    (F : Nat → Prop) (A : Option Addr) (m c : Nat) (k : List UInt8) (hx : a.eval x = .slice A m c) (hr : Reads w F 1 A m (u8s k))
    (hb : l.length + m ≤ 1099511627776) (hbase : base ≤ w.heap.size)
    (h : ∀ v' w', OwnB w' base v' (l ++ k) → w.grownBy w' v.ownBlock → (v'.ownBlock = v.ownBlock ∨ v'.ownBlock = some w.heap.size) → wpList Tryd.prog ops Q rest (a.put o.dst v') w') : wpList Tryd.prog ops Q (o :: rest) a w := by
  obtain ⟨i, hi, hz0, hz1, hz2⟩ := info_parts u8info
  refine wpList_append_any w hgd s x _ ho base _ i _ 1 1 Tryd.underlying43 hi hz0 hz1 hz2 rfl (by omega) v l.length (u8s l) hs hown F A m c (u8s k) hx hr (u8s_one k) (by simp only [maxLen]; omega) (by omega) hbase ?_
  intro v' w' ho' hg hat
  refine h v' w' ?_ hg hat
  have hk := hr.u8len
  unfold OwnB
  rw [u8s_append, List.length_append, hk]
  exact ho'

/-- s[k:m], s[:k], s[k:] of bytes -/
theorem slice_u8_mid (A : Option Addr) (n c k m : Nat) (hk : k ≤ m) (hm : m ≤ c) (W : World) :
    (Instr.sliceAt 43 (.slice A n c) (some (.int .i64 (k : Int))) (some (.int .i64 (m : Int))) none).run Tryd.prog W = .ok (.slice (if c = k then A else A.map (·.add k)) (m - k) (c - k)) W := by
  obtain ⟨i, hi, hz0, hz1, hz2⟩ := info_parts u8info
  have := run_slice_mid (P := Tryd.prog) Tryd.underlying43 hi A n c k m hk hm W
  rw [hz1] at this
  simpa only [Nat.mul_one] using this
theorem slice_u8_to (A : Option Addr) (n c k : Nat) (hk : k ≤ c) (W : World) :
    (Instr.sliceAt 43 (.slice A n c) none (some (.int .i64 (k : Int))) none).run Tryd.prog W = .ok (.slice A k c) W := by
  obtain ⟨i, hi, _⟩ := info_parts u8info
  exact run_slice_to (P := Tryd.prog) Tryd.underlying43 hi A n c k hk W
theorem slice_u8_from (A : Option Addr) (n c k : Nat) (hk : k ≤ n) (W : World) :
    (Instr.sliceAt 43 (.slice A n c) (some (.int .i64 (k : Int))) none none).run Tryd.prog W = .ok (.slice (if c = k then A else A.map (·.add k)) (n - k) (c - k)) W := by
  obtain ⟨i, hi, hz0, hz1, hz2⟩ := info_parts u8info
  have := run_slice_from (P := Tryd.prog) Tryd.underlying43 hi A n c k hk W
  rw [hz1] at this
  simpa only [Nat.mul_one] using this
theorem Reads.cutB {w : World} {F : Nat → Prop} {A : Option Addr} {n k c : Nat} {l : List UInt8} (h : Reads w F 1 A n (u8s l)) (hk : k ≤ n) (hc : n ≤ c) :
    Reads w F 1 (if c = k then A else A.map (·.add k)) (n - k) (u8s (l.drop k)) := by
  have := h.cut hk hc
  simpa only [Nat.mul_one, u8s_drop] using this
theorem Reads.cutB_lt {w : World} {F : Nat → Prop} {A : Option Addr} {n k c : Nat} {l : List UInt8} (h : Reads w F 1 A n (u8s l)) (hk : k < n) (hc : n ≤ c) :
    Reads w F 1 (A.map (·.add k)) (n - k) (u8s (l.drop k)) := by
  have := h.cutB (k := k) (c := c) (by omega) hc
  rwa [if_neg (by omega)] at this
theorem Reads.takeB {w : World} {F : Nat → Prop} {A : Option Addr} {n k : Nat} {l : List UInt8} (h : Reads w F 1 A n (u8s l)) (hk : k ≤ n) : Reads w F 1 A k (u8s (l.take k)) := by
  have := h.take hk
  simpa only [Nat.mul_one, u8s_take] using this

/-! ### strings as lists of bytes -/
theorem bl_loop (b : ByteArray) : ∀ (m i : Nat) (r : List UInt8), b.size - i = m → ByteArray.toList.loop b i r = r.reverse ++ b.data.toList.drop i := by
  intro m
  induction m with
  | zero =>
    intro i r h
    rw [ByteArray.toList.loop, if_neg (by omega), List.drop_eq_nil_of_le (by have : b.data.toList.length = b.size := rfl; omega), List.append_nil]
  | succ m ih =>
    intro i r h
    have hl : b.data.toList.length = b.size := rfl
    have hi : i < b.size := by omega
    have hi' : i < b.data.size := hi
    rw [ByteArray.toList.loop, if_pos hi, ih _ _ (by omega), List.drop_eq_getElem_cons (i := i) (by omega)]
    simp [ByteArray.get!]
    exact getElem!_pos b.data i hi'
theorem bl (b : ByteArray) : b.toList = b.data.toList := by
  unfold ByteArray.toList
  rw [bl_loop b _ 0 [] rfl]
  simp
/-- (s + t)[:n] -/
theorem cut_cat (xs ys : List UInt8) (n : Nat) : ((({ data := xs.toArray } : ByteArray) ++ { data := ys.toArray }).extract 0 n).toList = (xs ++ ys).take n := by
  rw [bl, ByteArray.data_extract]
  simp
end Go.Proofs.YtjkjbbmbfobdaaaDoor

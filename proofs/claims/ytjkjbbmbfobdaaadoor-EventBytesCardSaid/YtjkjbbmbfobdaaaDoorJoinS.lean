/-
  strings.Join joins: laid by the shelf's contract (no condition).
-/
import Derived.Test.YtjkjbbmbfobdaaaDoorElem
import Derived.Shelf.Strings.OnBuilder
namespace Go.Proofs.YtjkjbbmbfobdaaaDoor
set_option linter.unusedSimpArgs false
set_option linter.unusedVariables false
open Go.ChangeShapes Go.WideShapes Go.RowKit Go.Deep
def Jn.lays_ren : Go.Shelf.Ren := ⟨fun | 156 => 50 | 165 => 55 | 166 => 56 | 169 => 57 | 240 => 59 | 241 => 60 | 276 => 62 | 277 => 63 | n => n, fun | 31 => 56 | 9 => 9 | 3 => 3 | 4 => 4 | 0 => 0 | 20 => 20 | 72 => 88 | 76 => 92 | 70 => 86 | 37 => 43 | 75 => 91 | 127 => 96 | 164 => 98 | 5 => 5 | 80 => 94 | n => n, fun | n => n⟩
theorem Jn.lays : Go.Proofs.Lays.n156 Tryd.prog Jn.lays_ren := {
  mixed := by kernel_rfl
  f156 := Tryd.func50.trans (congrArg some (by kernel_rfl))
  f165 := Tryd.func55.trans (congrArg some (by kernel_rfl))
  f166 := Tryd.func56.trans (congrArg some (by kernel_rfl))
  f169 := Tryd.func57.trans (congrArg some (by kernel_rfl))
  f240 := Tryd.func59.trans (congrArg some (by kernel_rfl))
  f241 := Tryd.func60.trans (congrArg some (by kernel_rfl))
  f276 := Tryd.func62.trans (congrArg some (by kernel_rfl))
  f277 := Tryd.func63.trans (congrArg some (by kernel_rfl))
  t0 := Tryd.underlying0
  a0 := Tryd.isAgg0
  z0 := Tryd.sizeOf0
  v0 := Tryd.zeroValue0
  t3 := Tryd.underlying3
  a3 := Tryd.isAgg3
  z3 := Tryd.sizeOf3
  v3 := Tryd.zeroValue3
  t4 := Tryd.underlying4
  a4 := Tryd.isAgg4
  z4 := Tryd.sizeOf4
  v4 := Tryd.zeroValue4
  t9 := Tryd.underlying9
  a9 := Tryd.isAgg9
  z9 := Tryd.sizeOf9
  v9 := Tryd.zeroValue9
  t20 := Tryd.underlying20
  a20 := Tryd.isAgg20
  z20 := Tryd.sizeOf20
  v20 := Tryd.zeroValue20
  t31 := Tryd.underlying56
  a31 := Tryd.isAgg56
  z31 := Tryd.sizeOf56
  v31 := Tryd.zeroValue56
  t37 := Tryd.underlying43
  a37 := Tryd.isAgg43
  z37 := Tryd.sizeOf43
  v37 := Tryd.zeroValue43
  t70 := Tryd.underlying86
  a70 := Tryd.isAgg86
  z70 := Tryd.sizeOf86
  v70 := Tryd.zeroValue86
  t72 := Tryd.underlying88
  a72 := Tryd.isAgg88
  z72 := Tryd.sizeOf88
  v72 := Tryd.zeroValue88
  t75 := Tryd.underlying91
  a75 := Tryd.isAgg91
  z75 := Tryd.sizeOf91
  v75 := Tryd.zeroValue91
  t76 := Tryd.underlying92
  a76 := Tryd.isAgg92
  z76 := Tryd.sizeOf92
  v76 := Tryd.zeroValue92
  t127 := Tryd.underlying96
  a127 := Tryd.isAgg96
  z127 := Tryd.sizeOf96
  v127 := Tryd.zeroValue96
  t164 := Tryd.underlying98
  a164 := Tryd.isAgg98
  z164 := Tryd.sizeOf98
  v164 := Tryd.zeroValue98 }
theorem Jn.extra : Builder.Extra Tryd.prog Jn.lays_ren := {
  sizeBuilder := by kernel_rfl
  liesBuilder := by kernel_rfl
  t5 := Tryd.underlying5
  a5 := Tryd.isAgg5
  z5 := Tryd.sizeOf5
  v5 := Tryd.zeroValue5
  infoByte := by kernel_rfl
  cellsByte := by kernel_rfl
  sizeByte := by kernel_rfl
  neB5 := by decide }
namespace Val
theorem join_small : ∀ (xs : List ByteArray), xs.length ≤ 4 → (∀ x ∈ xs, x.size ≤ 1000000) → (Lib.join (xs.map (·.data.toList)) []).length ≤ 4000000 := by
  have hs : ∀ x : ByteArray, x.data.toList.length = x.size := fun x => Array.length_toList
  intro xs hl hx
  match xs, hl with
  | [], _ => simp [Lib.join_nil]
  | [a], _ => simp [Lib.join_cons, Lib.joinTail, hs]; have := hx a (by simp); omega
  | [a, b], _ => simp [Lib.join_cons, Lib.joinTail, hs]; have := hx a (by simp); have := hx b (by simp); omega
  | [a, b, c], _ => simp [Lib.join_cons, Lib.joinTail, hs]; have := hx a (by simp); have := hx b (by simp); have := hx c (by simp); omega
  | [a, b, c, d], _ => simp [Lib.join_cons, Lib.joinTail, hs]; have := hx a (by simp); have := hx b (by simp); have := hx c (by simp); have := hx d (by simp); omega
theorem joins : JoinC := by
  intro w bk n c xs hb hl h0 hn hc hs
  subst hl
  refine (Any.strings_Join Jn.lays Jn.extra bk 0 c xs ⟨#[]⟩ w (fun j x hj => ?_) hb.lt (by omega) hc ?_).mono fun e w' ⟨h1, h2⟩ => ⟨h1, Chg.of_below h2⟩
  · rw [Nat.zero_add, hb.cell, List.getElem?_toArray, List.getElem?_map, hj]
    rfl
  · exact Nat.le_trans (join_small xs hn hs) (by decide)
end Val
end Go.Proofs.YtjkjbbmbfobdaaaDoor

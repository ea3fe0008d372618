/-
  topo's run: its blocks, kept apart (no condition beyond the sizes).
-/
import Derived.Test.YtonopommbpkfgaaWeb2
import Derived.Test.YtonopommbpkfgaaRunPlain
namespace Go.Proofs.Ytonopommbpkfgaa
open Go.ChangeShapes Go.WideShapes Go.RowKit Go.Deep Heap
namespace Topo
/-- the web and the heap -/
structure S1 (w : World) (lo b gn ga n : Nat) (rv : Nat → Value) (N : Nat → List Int) (A : List Int) (bh gh ch m : Nat) (l : List Int) : Prop where
  web : WAt w lo b gn ga n rv N A
  heap : HAt w lo bh gh ch m l
  d1 : ga ≠ gh
  r1 : ∀ k, k < n → (rv k).ownBlock ≠ some gh
/-- and the levels and the order -/
structure S2 (w : World) (lo b gn ga n : Nat) (rv : Nat → Value) (N : Nat → List Int) (A : List Int) (bh gh ch m : Nat) (l : List Int) (gl : Nat) (V : List Int) (vo : Value) (out : List Int) : Prop where
  s1 : S1 w lo b gn ga n rv N A bh gh ch m l
  lev : OwnI w lo (.slice (some ⟨gl, 0, none⟩) n n) V
  ord : OwnI w lo vo out
  d2 : ga ≠ gl
  d3 : gh ≠ gl
  r2 : ∀ k, k < n → (rv k).ownBlock ≠ some gl
  o1 : vo.ownBlock ≠ some ga
  o2 : vo.ownBlock ≠ some gh
  o3 : vo.ownBlock ≠ some gl
  o4 : ∀ k g, k < n → (rv k).ownBlock = some g → vo.ownBlock ≠ some g
section
variable {w w' : World} {lo b gn ga n : Nat} {rv : Nat → Value} {N : Nat → List Int} {A : List Int} {bh gh ch m : Nat} {l : List Int} {gl : Nat} {V : List Int} {vo : Value} {out : List Int} {S : Nat → Prop}
theorem own_some {w : World} {lo g n c : Nat} {l : List Int} (h : OwnI w lo (.slice (some ⟨g, 0, none⟩) n c) l) (hc : Chg S w w') (hg : ¬ S g) : OwnI w' lo (.slice (some ⟨g, 0, none⟩) n c) l :=
  own_chg h hc fun k hk e => by
    have : g = k := by simpa [Value.ownBlock] using hk
    rw [this] at hg
    exact hg e
theorem S1.new (h : S1 w lo b gn ga n rv N A bh gh ch m l) (hc : New w w') : S1 w' lo b gn ga n rv N A bh gh ch m l := ⟨h.web.new hc, h.heap.new hc, h.d1, h.r1⟩
/-- the heap alone has changed -/
theorem S1.heap' (h : S1 w lo b gn ga n rv N A bh gh ch m l) {g' c' m' : Nat} {l' : List Int} (hh : HAt w' lo bh g' c' m' l') (hg : g' = gh ∨ w.heap.size ≤ g') (hc : Chg (fun k => k = bh ∨ k = gh) w w') :
    S1 w' lo b gn ga n rv N A bh g' c' m' l' := by
  refine ⟨h.web.chg hc ?_ ?_ ?_ fun k g hk e => ?_, hh, ?_, fun k hk e => ?_⟩
  · rintro (e | e)
    · exact h.web.blk.ne_ h.heap.blk (by decide) e
    · exact own_ne h.heap.own h.web.blk (by decide) (by rw [e]; rfl)
  · rintro (e | e)
    · exact h.web.nxt.ne_ h.heap.blk (by decide) e
    · exact own_ne h.heap.own h.web.nxt (by decide) (by rw [e]; rfl)
  · rintro (e | e)
    · exact own_ne h.web.ahd h.heap.blk (by decide) (by rw [e]; rfl)
    · exact h.d1 e
  · rintro (e2 | e2)
    · exact own_ne (h.web.rows k hk) h.heap.blk (by decide) (by rw [e, e2])
    · exact h.r1 k hk (by rw [e, e2])
  · rcases hg with e | e
    · rw [e]; exact h.d1
    · have := (own_lt h.web.ahd (k := ga) rfl).2
      omega
  · rcases hg with e2 | e2
    · exact h.r1 k hk (by rw [e, e2])
    · have := (own_lt (h.web.rows k hk) e).2
      omega
theorem S2.new (h : S2 w lo b gn ga n rv N A bh gh ch m l gl V vo out) (hc : New w w') : S2 w' lo b gn ga n rv N A bh gh ch m l gl V vo out :=
  ⟨h.s1.new hc, own_some h.lev hc id, own_chg h.ord hc fun _ _ => id, h.d2, h.d3, h.r2, h.o1, h.o2, h.o3, h.o4⟩
theorem S2.heap' (h : S2 w lo b gn ga n rv N A bh gh ch m l gl V vo out) {g' c' m' : Nat} {l' : List Int} (hh : HAt w' lo bh g' c' m' l') (hg : g' = gh ∨ w.heap.size ≤ g') (hc : Chg (fun k => k = bh ∨ k = gh) w w') :
    S2 w' lo b gn ga n rv N A bh g' c' m' l' gl V vo out := by
  refine ⟨h.s1.heap' hh hg hc, own_some h.lev hc ?_, own_chg h.ord hc fun k hk => ?_, h.d2, ?_, h.r2, h.o1, fun e => ?_, h.o3, h.o4⟩
  · rintro (e | e)
    · exact own_ne h.lev h.s1.heap.blk (by decide) (by rw [e]; rfl)
    · exact h.d3 e.symm
  · rintro (e | e)
    · exact own_ne h.ord h.s1.heap.blk (by decide) (by rw [hk, e])
    · exact h.o2 (by rw [hk, e])
  · rcases hg with e | e
    · rw [e]; exact h.d3
    · have := (own_lt h.lev (k := gl) rfl).2
      omega
  · rcases hg with e2 | e2
    · exact h.o2 (by rw [e, e2])
    · have := (own_lt h.ord e).2
      omega
/-- the order alone has grown -/
theorem S2.out' (h : S2 w lo b gn ga n rv N A bh gh ch m l gl V vo out) {vo' : Value} {out' : List Int} (ho : OwnI w' lo vo' out') (hg : vo'.ownBlock = vo.ownBlock ∨ ∃ g, vo'.ownBlock = some g ∧ w.heap.size ≤ g) (hc : Chg (fun k => vo.ownBlock = some k) w w') :
    S2 w' lo b gn ga n rv N A bh gh ch m l gl V vo' out' := by
  have key : ∀ g, g < w.heap.size → vo.ownBlock ≠ some g → vo'.ownBlock ≠ some g := fun g hlt hne e => by
    rcases hg with e2 | ⟨g2, e2, h2⟩
    · exact hne (by rw [← e2]; exact e)
    · rw [e2] at e
      injection e with e
      omega
  refine ⟨⟨h.s1.web.chg hc (own_ne h.ord h.s1.web.blk (by decide)) (own_ne h.ord h.s1.web.nxt (by decide)) h.o1 fun k g hk e => h.o4 k g hk e, h.s1.heap.chg hc (own_ne h.ord h.s1.heap.blk (by decide)) h.o2, h.s1.d1, h.s1.r1⟩,
    own_some h.lev hc h.o3, ho, h.d2, h.d3, h.r2, key _ (own_lt h.s1.web.ahd rfl).2 h.o1, key _ (own_lt h.s1.heap.own rfl).2 h.o2, key _ (own_lt h.lev rfl).2 h.o3, fun k g hk e => key _ (own_lt (h.s1.web.rows k hk) e).2 (h.o4 k g hk e)⟩
/-- one level is told anew -/
theorem S2.lev' (h : S2 w lo b gn ga n rv N A bh gh ch m l gl V vo out) (k : Nat) (x : Int) :
    S2 (w.setCell ⟨gl, k, none⟩ (.int .i64 x)) lo b gn ga n rv N A bh gh ch m l gl (V.set k x) vo out ∧ Chg (fun g => g = gl) w (w.setCell ⟨gl, k, none⟩ (.int .i64 x)) := by
  have cs := (Chg.refl (fun g => g = gl) w).setCell (p := ⟨gl, k, none⟩) (fun _ => rfl) (.int .i64 x)
  refine ⟨⟨⟨h.s1.web.chg cs (fun e => own_ne h.lev h.s1.web.blk (by decide) (by rw [e]; rfl)) (fun e => own_ne h.lev h.s1.web.nxt (by decide) (by rw [e]; rfl)) h.d2 fun i g hi e e2 => h.r2 i hi (by rw [e, e2]),
    h.s1.heap.chg cs (fun e => own_ne h.lev h.s1.heap.blk (by decide) (by rw [e]; rfl)) h.d3, h.s1.d1, h.s1.r1⟩, h.lev.stored k x, own_chg h.ord cs fun i hi e => h.o3 (by rw [hi, e]), h.d2, h.d3, h.r2, h.o1, h.o2, h.o3, h.o4⟩, cs⟩
/-- how many are ahead of k -/
theorem S2.cnt' (h : S2 w lo b gn ga n rv N A bh gh ch m l gl V vo out) (k : Nat) (x : Int) :
    S2 (w.setCell ⟨ga, k, none⟩ (.int .i64 x)) lo b gn ga n rv N (A.set k x) bh gh ch m l gl V vo out ∧ Chg (fun g => g = ga) w (w.setCell ⟨ga, k, none⟩ (.int .i64 x)) := by
  have hc := h.s1.web.count k x
  have cs := hc.2
  exact ⟨⟨⟨hc.1, h.s1.heap.chg cs (fun e => own_ne h.s1.web.ahd h.s1.heap.blk (by decide) (by rw [← e]; rfl)) (Ne.symm h.s1.d1), h.s1.d1, h.s1.r1⟩, own_some h.lev cs (Ne.symm h.d2), own_chg h.ord cs fun i hi e => h.o1 (by rw [hi, e]), h.d2, h.d3, h.r2, h.o1, h.o2, h.o3, h.o4⟩, cs⟩
/-- levels are made -/
theorem S2.made (h : S1 w lo b gn ga n rv N A bh gh ch m l) (hn : n ≤ 99999) (hlo : lo ≤ w.heap.size) :
    S2 (w.alloc (.cells (ints (List.replicate n 0)).toArray 3)) lo b gn ga n rv N A bh gh ch m l w.heap.size (List.replicate n 0) (.slice none 0 0) [] := by
  have hc := (Chg.refl (fun _ => False) w).alloc (.cells (ints (List.replicate n 0)).toArray 3)
  refine ⟨h.new hc, ?_, OwnI.nil _ _, fun e => ?_, fun e => ?_, fun k hk e => ?_, by simp [Value.ownBlock], by simp [Value.ownBlock], by simp [Value.ownBlock], fun k g _ _ => by simp [Value.ownBlock]⟩
  · have := World.ownsRow_lit (e := 3) (size := 1) w (ints (List.replicate n 0)).toArray n hlo (by simp only [maxLen]; omega) (by simp [ints])
    unfold OwnI
    rw [List.length_replicate]
    simpa using this
  · have := (own_lt h.web.ahd (k := ga) rfl).2
    omega
  · have := (own_lt h.heap.own (k := gh) rfl).2
    omega
  · have := (own_lt (h.web.rows k hk) e).2
    omega
/-- a heap of none -/
theorem S1.made (h : WAt w lo b gn ga n rv N A) (hlo : lo ≤ w.heap.size) :
    S1 ((w.alloc (.cells #[] 3)).alloc (.cells #[.slice (some ⟨w.heap.size, 0, none⟩) 0 0] 46)) lo b gn ga n rv N A (w.heap.size + 1) w.heap.size 0 0 [] := by
  have hc := ((Chg.refl (fun _ => False) w).alloc (.cells #[] 3)).alloc (.cells #[.slice (some ⟨w.heap.size, 0, none⟩) 0 0] 46)
  refine ⟨h.new hc, ⟨Blk.new1 _ _ _ _, ?_, by omega, rfl⟩, fun e => ?_, fun k hk e => ?_⟩
  · have := World.ownsRow_lit (e := 3) (size := 1) w #[] 0 hlo (by simp [maxLen]) (by simp)
    have h2 := own_some (l := []) this ((Chg.refl (fun _ => False) (w.alloc (.cells #[] 3))).alloc (.cells #[.slice (some ⟨w.heap.size, 0, none⟩) 0 0] 46)) id
    exact h2
  · have := (own_lt h.ahd (k := ga) rfl).2
    omega
  · have := (own_lt (h.rows k hk) e).2
    omega
end
end Topo
end Go.Proofs.Ytonopommbpkfgaa

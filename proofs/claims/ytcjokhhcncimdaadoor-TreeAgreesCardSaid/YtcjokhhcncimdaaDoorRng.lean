/- What a round of a range over a function keeps: every block below N0 but the boxes that the body writes. -/
import Derived.RangeFuncNested
import Derived.RangeFuncBound
import Derived.RangeFuncCalls
import Derived.RangeFuncLeaves
import Derived.RangeFuncBox
import Derived.Shelf.Abstract
import Derived.Shelf.RegionOpen
import Derived.OwnWalkIn
import Derived.TacticsInMore
import Derived.LoopNIn
import Derived.LoopIn
import Derived.Sort.LoopGhostIn
import Derived.Maps.OwnIn
import Derived.Test.YtcjokhhcncimdaaDoorBase
namespace Go.PF
open Go.RowKit

structure KeepBut (N0 : Nat) (obs : List Nat) (W W' : World) : Prop where
  os : W'.os = W.os
  tape : W'.tape = W.tape
  output : W'.output = W.output
  size : W.heap.size ≤ W'.heap.size
  block : ∀ g, g < N0 → g ∉ obs → W'.heap[g]? = W.heap[g]?

theorem _root_.Go.Boxed.set_other {W W' : World} {B : Nat} {t : TypeId} {v : Value} (h : Boxed W B t v) (e : W'.heap[B]? = W.heap[B]?) : Boxed W' B t v := e.trans h
namespace KeepBut
variable {N0 : Nat} {obs : List Nat} {A B C : World}
theorem refl (N0 : Nat) (obs : List Nat) (W : World) : KeepBut N0 obs W W := ⟨rfl, rfl, rfl, Nat.le_refl _, fun _ _ _ => rfl⟩
theorem trans (h : KeepBut N0 obs A B) (k : KeepBut N0 obs B C) : KeepBut N0 obs A C :=
  ⟨k.os.trans h.os, k.tape.trans h.tape, k.output.trans h.output, Nat.le_trans h.size k.size, fun g hg ho => (k.block g hg ho).trans (h.block g hg ho)⟩
theorem of_below (h : Below N0 A B) : KeepBut N0 obs A B := ⟨h.os, h.tape, h.output, h.size, fun g hg _ => h.block g hg⟩
theorem drew (h : KeepBut N0 obs A B) : KeepBut N0 obs A B.drew := ⟨h.os, h.tape, h.output, h.size, h.block⟩
theorem drewN (h : KeepBut N0 obs A B) (n : Nat) : KeepBut N0 obs A (B.drewN n) := ⟨h.os, h.tape, h.output, h.size, h.block⟩
theorem alloc (h : KeepBut N0 obs A B) (hN : N0 ≤ B.heap.size) (o : Obj) : KeepBut N0 obs A (B.alloc o) :=
  h.trans (of_below ((Below.refl _ _).alloc hN o))
theorem setCell (h : KeepBut N0 obs A B) {p : Addr} (hp : p.block ∈ obs ∨ N0 ≤ p.block) (u : Value) : KeepBut N0 obs A (B.setCell p u) :=
  h.trans ⟨rfl, rfl, rfl, by simp [World.setCell], fun g hg ho => Below.heap_setCell _ _ _ _ (by rintro rfl; rcases hp with hp | hp; exact ho hp; omega)⟩
theorem grown (h : KeepBut N0 obs A B) {row : Option Nat} (hg : B.grownBy C row) (hN : N0 ≤ B.heap.size) (hr : ∀ k, row = some k → k ∈ obs ∨ N0 ≤ k) : KeepBut N0 obs A C :=
  h.trans ⟨hg.os, hg.tape, hg.output, hg.size, fun g hl ho => hg.block g (by omega) (fun e => by rcases hr g e.symm with h | h; exact ho h; omega)⟩
theorem below {n : Nat} (h : KeepBut N0 obs A B) (hN : n ≤ N0) (ho : ∀ g ∈ obs, n ≤ g) : Below n A B :=
  ⟨h.os, h.tape, h.output, h.size, fun g hg => h.block g (by omega) (fun hm => by have := ho g hm; omega)⟩
theorem cell (h : KeepBut N0 obs A B) {p : Addr} (hp : p.block < N0) (ho : p.block ∉ obs) : B.cell? p = A.cell? p := World.cell?_of_block (w := A) (h.block p.block hp ho)
theorem boxed (h : KeepBut N0 obs A B) {g : Nat} {t : TypeId} {v : Value} (hb : Boxed A g t v) (hp : g < N0) (ho : g ∉ obs) : Boxed B g t v := (h.block g hp ho).trans hb
theorem putObj {w : World} (hN : N0 ≤ w.heap.size) (W : World) (l : Nat) (o o' : Obj) (hl : w.heap.size ≤ l) (h : W.heap[l]? = some o) (_ : o.isCells = false) (_ : o.isWalk = false) : KeepBut N0 obs W (W.putObj l o') :=
  (refl N0 obs W).grown (grownBy_putObj' W l o') (by have := (Array.getElem?_eq_some_iff.1 h).1; omega) (fun k e => by cases e; exact .inr (by omega))
theorem own {β : Type} (w₀ : World) {B : Nat} (hN : N0 ≤ w₀.heap.size) (hB : N0 ≤ B) : OwnFrom B (fun (_ : β) W => KeepBut N0 obs w₀ W) :=
  fun _ _ _ _ hs hg hr => hs.grown hg (Nat.le_trans hN hs.size) (fun k e => .inr (Nat.le_trans hB (hr k e).1))
end KeepBut
theorem boxes4 (w : World) (v0 v1 v2 v3 : Value) (t0 t1 t2 t3 : TypeId) :
    ∃ W, (((w.alloc (.cells #[v0] t0)).alloc (.cells #[v1] t1)).alloc (.cells #[v2] t2)).alloc (.cells #[v3] t3) = W ∧
      Boxed W w.heap.size t0 v0 ∧ Boxed W (w.heap.size + 1) t1 v1 ∧ Boxed W (w.heap.size + 2) t2 v2 ∧ Boxed W (w.heap.size + 3) t3 v3 ∧ W.heap.size = w.heap.size + 4 ∧ Ext w W := by
  have b0 := Boxed.new w t0 v0
  have b1 := Boxed.new (w.alloc (.cells #[v0] t0)) t1 v1
  have b2 := Boxed.new ((w.alloc (.cells #[v0] t0)).alloc (.cells #[v1] t1)) t2 v2
  have b3 := Boxed.new (((w.alloc (.cells #[v0] t0)).alloc (.cells #[v1] t1)).alloc (.cells #[v2] t2)) t3 v3
  simp only [World.size_alloc] at b1 b2 b3
  exact ⟨_, rfl, ((b0.alloc _).alloc _).alloc _, (b1.alloc _).alloc _, b2.alloc _, b3, by simp, ((((Below.refl _ _).alloc (Nat.le_refl _) _).alloc (by simp) _).alloc (by simp; omega) _).alloc (by simp; omega) _⟩

/-- a row, and four boxes behind it -/
theorem boxes5 (w : World) (o : Obj) (v1 v2 v3 v4 : Value) (t1 t2 t3 t4 : TypeId) :
    ∃ W, ((((w.alloc o).alloc (.cells #[v1] t1)).alloc (.cells #[v2] t2)).alloc (.cells #[v3] t3)).alloc (.cells #[v4] t4) = W ∧
      W.heap[w.heap.size]? = some o ∧ Boxed W (w.heap.size + 1) t1 v1 ∧ Boxed W (w.heap.size + 2) t2 v2 ∧ Boxed W (w.heap.size + 3) t3 v3 ∧ Boxed W (w.heap.size + 4) t4 v4 ∧ W.heap.size = w.heap.size + 5 ∧ Ext w W := by
  obtain ⟨W, hW, b1, b2, b3, b4, hs, hx⟩ := boxes4 (w.alloc o) v1 v2 v3 v4 t1 t2 t3 t4
  simp only [World.size_alloc] at b1 b2 b3 b4 hs
  exact ⟨W, hW, hx.blk (World.alloc_heap_new w o), b1, b2, b3, b4, hs, Ext.trans (a := w) (b := w.alloc o) ((Below.refl _ _).alloc (Nat.le_refl _) _) hx⟩

end Go.PF

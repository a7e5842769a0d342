/- Stores into a row of its own; the walk of slices.Delete at files. -/
import Derived.Test.YtcjokhhcncimdaaDoorW18
import Derived.Deep.RegionLaw
import Derived.Lib.SliceRun
import Derived.Laws.IdiomCopy
set_option linter.unusedVariables false
set_option linter.unusedSimpArgs false
namespace Go.Proofs.YtcjokhhcncimdaaDoor
open Go.RowKit Go.PF Go.Tr

/-- A list with some cells laid over from a place on. -/
def seg (l : List Value) (o : Nat) (vs : List Value) : List Value := l.take o ++ vs ++ l.drop (o + vs.length)
theorem seg_len {l : List Value} {o : Nat} {vs : List Value} (h : o + vs.length ≤ l.length) : (seg l o vs).length = l.length := by
  unfold seg; simp only [List.length_append, List.length_take, List.length_drop]; omega
theorem seg_at {l : List Value} {o j : Nat} {vs : List Value} (h : o + vs.length ≤ l.length) : (seg l o vs)[j]? = if j < o then l[j]? else if j < o + vs.length then vs[j - o]? else l[j]? := by
  unfold seg
  have ht : (l.take o).length = o := by rw [List.length_take]; omega
  by_cases h1 : j < o
  · rw [if_pos h1, List.append_assoc, List.getElem?_append_left (by omega), List.getElem?_take, if_pos h1]
  · rw [if_neg h1]
    by_cases h2 : j < o + vs.length
    · rw [if_pos h2, List.getElem?_append_left (by simp only [List.length_append]; omega), List.getElem?_append_right (by omega), ht]
    · rw [if_neg h2, List.getElem?_append_right (by simp only [List.length_append]; omega), List.getElem?_drop, List.length_append, ht]
      congr 1; omega

theorem setCells_seg (g : Nat) : ∀ (vs : List Value) (o : Nat) (cs : List Value) (t : TypeId) (w : World), w.heap[g]? = some (.cells cs.toArray t (0, 0)) → o + vs.length ≤ cs.length →
    (w.setCells g o vs).heap[g]? = some (.cells (seg cs o vs).toArray t (0, 0))
  | [], o, cs, t, w, h, _ => by
    rw [World.setCells]
    unfold seg
    simp [h]
  | v :: vs, o, cs, t, w, h, hl => by
    rw [World.setCells]
    have h1 := blk_set h o v
    simp only [List.setIfInBounds_toArray] at h1
    rw [setCells_seg g vs (o + 1) (cs.set o v) t _ h1 (by simp at hl ⊢; omega)]
    congr 3
    apply List.ext_getElem?
    intro j
    rw [seg_at (by simp at hl ⊢; omega), seg_at (by simpa using hl)]
    simp only [List.length_cons] at hl ⊢
    by_cases e1 : j < o
    · rw [if_pos (by omega), if_pos e1, List.getElem?_set_ne (by omega)]
    · by_cases e2 : j = o
      · subst e2
        rw [if_pos (by omega), if_neg (by omega), if_pos (by omega), Nat.sub_self, List.getElem?_set_self (by omega)]; rfl
      · rw [if_neg (by omega), if_neg e1]
        by_cases e3 : j < o + 1 + vs.length
        · rw [if_pos e3, if_pos (by omega), show j - o = (j - (o + 1)) + 1 by omega, List.getElem?_cons_succ]
        · rw [if_neg e3, if_neg (by omega), List.getElem?_set_ne (by omega)]
theorem grown_setCells (g : Nat) : ∀ (vs : List Value) (o : Nat) (w : World), w.grownBy (w.setCells g o vs) (some g)
  | [], o, w => ⟨rfl, rfl, rfl, Nat.le_refl _, fun _ _ _ => rfl⟩
  | v :: vs, o, w => by
    rw [World.setCells]
    have ih := grown_setCells g vs (o + 1) (w.setCell ⟨g, o, none⟩ v)
    refine ⟨ih.os, ih.tape, ih.output, by have := ih.size; simpa [World.setCell] using this, fun i hi hne => ?_⟩
    rw [ih.block i (by simpa [World.setCell] using hi) hne]
    exact Below.heap_setCell _ _ _ _ (fun e => hne (by subst e; rfl))
theorem grown_drew (w : World) (r : Option Nat) : w.grownBy w.drew r := ⟨rfl, rfl, rfl, Nat.le_refl _, fun _ _ _ => rfl⟩
theorem grown_trans' {a b c : World} {r : Option Nat} (h : a.grownBy b r) (k : b.grownBy c r) : a.grownBy c r :=
  ⟨k.os.trans h.os, k.tape.trans h.tape, k.output.trans h.output, Nat.le_trans h.size k.size, fun i hi hne => (k.block i (Nat.lt_of_lt_of_le hi h.size) hne).trans (h.block i hi hne)⟩

/-- What is owned, opened. -/
theorem own_open {w : World} {n0 n : Nat} {v : Value} {xs : List Value} (h : w.ownsRow n0 46 3 v n xs) (hn : 0 < n) :
    ∃ (g cap : Nat) (cs : List Value), v = .slice (some ⟨g, 0, none⟩) n cap ∧ n0 ≤ g ∧ w.heap[g]? = some (.cells cs.toArray 46 (0, 0)) ∧ n ≤ cap ∧ cap ≤ maxLen ∧ cs.length = cap * 3 ∧ cs.take (n * 3) = xs := by
  rcases h.2 with ⟨_, h0⟩ | ⟨g, cap, cur, rfl, hg, hh, h1, h2, h3, h4⟩
  · omega
  · exact ⟨g, cap, cur.toList, rfl, hg, by simpa using hh, h1, h2, by simpa using h3, h4⟩

theorem zero46 (w : World) : (zeroValue 46).run Tryd.prog w = .ok (.agg #[.string ⟨#[]⟩, .int .i64 0, .slice none 0 0]) w := by
  obtain ⟨i, hi, hz, _, _⟩ := info_parts info46
  simp [zeroValue, typeInfo, hi, hz]
theorem run_clear3 (w : World) (ty : TypeId) (b o c : Nat) (hc : ∀ j, j < 3 → (w.cell? ⟨b, o + j, none⟩).isSome = true) (hf : ∀ j, j < 3 → w.frozen? ⟨b, o + j, none⟩ = false) :
    (Builtin.clear_ #[22] ty #[.slice (some ⟨b, o, none⟩) 1 c]).run Tryd.prog w = .ok (.tuple #[]) (w.setCells b o [.string ⟨#[]⟩, .int .i64 0, .slice none 0 0]) := by
  have hst := run_storeCells_cells (P := Tryd.prog) b o [.string ⟨#[]⟩, .int .i64 0, .slice none 0 0] 0 w (by simpa using hc) (by simpa using hf) (by simp [Value.oneCell'])
  simp only [Nat.add_zero] at hst
  have hz : (Builtin.zeroCells (Value.agg #[.string ⟨#[]⟩, .int .i64 0, .slice none 0 0]).cells 1).toList = [.string ⟨#[]⟩, .int .i64 0, .slice none 0 0] := by
    simp [Builtin.zeroCells, Value.cells]
    rfl
  simp [Builtin.clear_, run_underlying Tryd.underlying22, zero46, hz, hst]
end Go.Proofs.YtcjokhhcncimdaaDoor

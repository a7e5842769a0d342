/- How a file and a list of files read in memory. -/
import Derived.Test.YtcjokhhcncimdaaDoorRnd
namespace Go.Tr
open Go.RowKit Go.PF

structure FileV where
  path : ByteArray
  len : Int
  frags : List Int
deriving DecidableEq

/-- What a slice of fragments needs to be read. -/
structure Fr (w : World) (A : Option Addr) (cap : Nat) (l : List Int) : Prop where
  le : l.length ≤ cap
  max : cap ≤ maxLen
  rd : RdI w A l
theorem Fr.ext {w w' : World} {A : Option Addr} {cap : Nat} {l : List Int} (h : Fr w A cap l) (he : Ext w w') : Fr w' A cap l := ⟨h.le, h.max, h.rd.ext he⟩

theorem blk_frozen {w : World} {b : Nat} {cs : Array Value} {t : TypeId} (h : w.heap[b]? = some (.cells cs t (0, 0))) (j : Nat) : w.frozen? ⟨b, j, none⟩ = false := by simp [World.frozen?, h]
theorem blk_set {w : World} {b : Nat} {cs : Array Value} {t : TypeId} (h : w.heap[b]? = some (.cells cs t (0, 0))) (j : Nat) (v : Value) : (w.setCell ⟨b, j, none⟩ v).heap[b]? = some (.cells (cs.setIfInBounds j v) t (0, 0)) := by
  have hl := (Array.getElem?_eq_some_iff.1 h).1
  have he := (Array.getElem?_eq_some_iff.1 h).2
  simp only [World.setCell]
  rw [Array.getElem?_modify]
  simp [h]
theorem blk_other {w : World} {b b' : Nat} {o : Obj} (h : w.heap[b]? = some o) (hne : b' ≠ b) (j : Nat) (v : Value) : (w.setCell ⟨b', j, none⟩ v).heap[b]? = some o :=
  (Below.heap_setCell _ _ _ _ (fun e => hne e.symm)).trans h

/-- A list of files in memory. -/
def RdL (w : World) (A : Option Addr) (l : List FileV) : Prop :=
  l = [] ∨ ∃ b off, A = some ⟨b, off, none⟩ ∧ ∀ k f, l[k]? = some f → ∃ F c, w.cell? ⟨b, off + k * 3, none⟩ = some (.string f.path) ∧ w.cell? ⟨b, off + k * 3 + 1, none⟩ = some (.int .i64 f.len) ∧
    w.cell? ⟨b, off + k * 3 + 2, none⟩ = some (.slice F f.frags.length c) ∧ Fr w F c f.frags
theorem RdL.ext {w w' : World} {A : Option Addr} {l : List FileV} (h : RdL w A l) (he : Ext w w') : RdL w' A l := by
  rcases h with h | ⟨b, off, hA, h⟩
  · exact .inl h
  · refine .inr ⟨b, off, hA, fun k f hk => ?_⟩
    obtain ⟨F, c, h1, h2, h3, h4⟩ := h k f hk
    exact ⟨F, c, he.cell h1, he.cell h2, he.cell h3, h4.ext he⟩
theorem RdL.at_ {w : World} {A : Option Addr} {l : List FileV} (h : RdL w A l) {k : Nat} {f : FileV} (hk : l[k]? = some f) :
    ∃ b off F c, A = some ⟨b, off, none⟩ ∧ w.cell? ⟨b, off + k * 3, none⟩ = some (.string f.path) ∧ w.cell? ⟨b, off + k * 3 + 1, none⟩ = some (.int .i64 f.len) ∧
    w.cell? ⟨b, off + k * 3 + 2, none⟩ = some (.slice F f.frags.length c) ∧ Fr w F c f.frags := by
  rcases h with rfl | ⟨b, off, hA, h⟩
  · simp at hk
  · obtain ⟨F, c, h⟩ := h k f hk
    exact ⟨b, off, F, c, hA, h⟩

/-- A file by value. -/
def FileIs (w : World) (v : Value) (f : FileV) : Prop := ∃ F c, v = .agg #[.string f.path, .int .i64 f.len, .slice F f.frags.length c] ∧ Fr w F c f.frags
theorem FileIs.ext {w w' : World} {v : Value} {f : FileV} (h : FileIs w v f) (he : Ext w w') : FileIs w' v f := by
  obtain ⟨F, c, h1, h2⟩ := h
  exact ⟨F, c, h1, h2.ext he⟩

/-- May a byte stand in a name? -/
def letterI (c : Int) : Bool := decide (97 ≤ c ∧ c ≤ 122 ∨ 65 ≤ c ∧ c ≤ 90 ∨ 48 ≤ c ∧ c ≤ 57 ∨ c = 46 ∨ c = 45 ∨ c = 95)

/-- How many files and how long the paths and fragments are. -/
def fewF (f : FileV) : Bool := decide (f.frags.length ≤ 60) && decide (f.path.size ≤ 600)
def few (l : List FileV) : Bool := decide (l.length ≤ 30) && l.all fewF

theorem all_succ {α : Type} {p : α → Bool} {l : List α} {i : Nat} {x : α} (h : (l.take i).all p = true) (hx : l[i]? = some x) (hp : p x = true) : (l.take (i + 1)).all p = true := by
  rw [List.take_add_one, hx]
  simp [h, hp]
theorem all_stop {α : Type} {p : α → Bool} {l : List α} {i : Nat} {x : α} (hx : l[i]? = some x) (hp : p x = false) : l.all p = false := by
  have : x ∈ l := List.mem_of_getElem? hx
  rw [List.all_eq_false]
  exact ⟨x, this, by simp [hp]⟩
theorem all_done {α : Type} {p : α → Bool} {l : List α} (h : (l.take l.length).all p = true) : l.all p = true := by simpa using h

theorem ba_inj {a b : ByteArray} (h : a.toList = b.toList) : a = b := by
  rw [ByteArray.toList_eq, ByteArray.toList_eq] at h
  exact Go.WideShapes.bytes_inj h
theorem ne_path {p1 p2 : ByteArray} {n1 n2 : Int} {l1 l2 : List Int} (h : ¬ p1.toList = p2.toList) : decide (FileV.mk p1 n1 l1 = FileV.mk p2 n2 l2) = false := by
  simp only [decide_eq_false_iff_not, FileV.mk.injEq, not_and]
  rintro rfl
  exact absurd rfl h
theorem ne_len {p1 p2 : ByteArray} {n1 n2 : Int} {l1 l2 : List Int} (h : ¬ n1 = n2) : decide (FileV.mk p1 n1 l1 = FileV.mk p2 n2 l2) = false := by
  simp only [decide_eq_false_iff_not, FileV.mk.injEq, not_and]
  exact fun _ h2 => absurd h2 h
theorem ne_frags {p1 p2 : ByteArray} {n1 n2 : Int} {l1 l2 : List Int} (h : ¬ l1 = l2) : decide (FileV.mk p1 n1 l1 = FileV.mk p2 n2 l2) = false := by
  simp only [decide_eq_false_iff_not, FileV.mk.injEq, not_and]
  exact fun _ _ h2 => absurd h2 h
theorem eq_all {p1 p2 : ByteArray} {n1 n2 : Int} {l1 l2 : List Int} (h1 : p1.toList = p2.toList) (h2 : n1 = n2) (h3 : l1 = l2) : decide (FileV.mk p1 n1 l1 = FileV.mk p2 n2 l2) = true := by
  simp only [decide_eq_true_eq, FileV.mk.injEq]
  exact ⟨ba_inj h1, h2, h3⟩
theorem take_eq_succ {α : Type} {l m : List α} {i : Nat} {x : α} (h : l.take i = m.take i) (h1 : l[i]? = some x) (h2 : m[i]? = some x) : l.take (i + 1) = m.take (i + 1) := by
  rw [List.take_add_one, List.take_add_one, h, h1, h2]
theorem take_eq_done {α : Type} {l m : List α} {i : Nat} (h : l.take i = m.take i) (h1 : l.length ≤ i) (h2 : m.length ≤ i) : l = m := by
  rwa [List.take_of_length_le h1, List.take_of_length_le h2] at h
theorem ne_at {α : Type} {l m : List α} {i : Nat} {x y : α} (h1 : l[i]? = some x) (h2 : m[i]? = some y) (h : ¬ x = y) : ¬ l = m := by
  rintro rfl
  rw [h1] at h2
  exact h (Option.some.inj h2)

theorem ext_alloc1 (w : World) (o : Obj) : Ext w (w.alloc o) := (Below.refl _ _).alloc (Nat.le_refl _) _
theorem ext_alloc2 (w : World) (o p : Obj) : Ext w ((w.alloc o).alloc p) := ((Below.refl _ _).alloc (Nat.le_refl _) _).alloc (by simp) _
theorem heap2 (w : World) (o p : Obj) : ((w.alloc o).alloc p).heap[w.heap.size]? = some o ∧ ((w.alloc o).alloc p).heap[w.heap.size + 1]? = some p := by
  refine ⟨Ext.blk (w := w.alloc o) (ext_alloc1 _ _) (World.alloc_heap_new w o), ?_⟩
  have := World.alloc_heap_new (w.alloc o) p
  simpa using this
theorem cell_blk {w : World} {b : Nat} {cs : Array Value} {t : TypeId} {e : Nat × Nat} (h : w.heap[b]? = some (.cells cs t e)) (j : Nat) : w.cell? ⟨b, j, none⟩ = cs[j]? := by
  rw [cell_of_row _ _ _ cs t e h]

def letB (c : UInt8) : Bool := letterI (c.toNat : Int)
/-- Is a string a name? -/
def nameB (s : ByteArray) : Bool := s.toList.all letB && !s.toList.isEmpty && !(s.toList == [46]) && !(s.toList == [46, 46])
theorem toList_at {s : ByteArray} {i : Nat} (h : i < s.size) : s.toList[i]? = some s[i] := by
  rw [ByteArray.toList_eq]
  simp [ByteArray.getElem_eq_getElem_data, h]
theorem toList_len (s : ByteArray) : s.toList.length = s.size := by rw [ByteArray.toList_eq]; simp
end Go.Tr

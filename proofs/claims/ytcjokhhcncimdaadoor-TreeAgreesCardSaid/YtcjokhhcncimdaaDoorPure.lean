/- What the checks of a tree reckon, without the program. -/
import Derived.Test.YtcjokhhcncimdaaDoorSplit
set_option linter.unusedSimpArgs false
set_option linter.unusedVariables false
namespace Go.Tr
open Go.PF Go.Lib

/-- The number of a path's error. -/
def pathE (s : ByteArray) : Int := if pathB s then 0 else 24
theorem pathE_no {s : ByteArray} (h : pathB s = false) : pathE s = 24 := by unfold pathE; rw [h]; rfl
theorem pathE_yes {s : ByteArray} (h : pathB s = true) : pathE s = 0 := by unfold pathE; rw [h]; rfl

def fragOk (n : Int) : Bool := decide (0 ≤ n ∧ n < 4096)
/-- The number of a file's error. -/
def validE (f : FileV) : Int := if pathB f.path = false then 24 else if f.len < 0 ∨ 65536 < f.len then 2 else if f.frags.all fragOk = false then 2 else if 4096 < f.frags.length then 6
  else if (f.len = 0 ↔ f.frags.length = 0) then 0 else 23
theorem validE_path {f : FileV} (h : pathB f.path = false) : validE f = 24 := by unfold validE; rw [if_pos h]
theorem validE_len {f : FileV} (h : pathB f.path = true) (h1 : f.len < 0 ∨ 65536 < f.len) : validE f = 2 := by unfold validE; rw [if_neg (by simp [h]), if_pos h1]
theorem validE_frag {f : FileV} (h : pathB f.path = true) (h1 : ¬ (f.len < 0 ∨ 65536 < f.len)) (h2 : f.frags.all fragOk = false) : validE f = 2 := by
  unfold validE; rw [if_neg (by simp [h]), if_neg h1, if_pos h2]
theorem validE_many {f : FileV} (h : pathB f.path = true) (h1 : ¬ (f.len < 0 ∨ 65536 < f.len)) (h2 : f.frags.all fragOk = true) (h3 : 4096 < f.frags.length) : validE f = 6 := by
  unfold validE; rw [if_neg (by simp [h]), if_neg h1, if_neg (by simp [h2]), if_pos h3]
theorem validE_end {f : FileV} (h : pathB f.path = true) (h1 : ¬ (f.len < 0 ∨ 65536 < f.len)) (h2 : f.frags.all fragOk = true) (h3 : ¬ 4096 < f.frags.length) : validE f = if (f.len = 0 ↔ f.frags.length = 0) then 0 else 23 := by
  unfold validE; rw [if_neg (by simp [h]), if_neg h1, if_neg (by simp [h2]), if_neg h3]


/-- Is p a directory of q? -/
def dirB (p q : ByteArray) : Bool := (p.toList ++ [47]).isPrefixOf q.toList
theorem toList_take (s : ByteArray) (n : Nat) : (s.extract 0 n).toList = s.toList.take n := by rw [extract_toList]; simp
theorem dir_yes {p q : ByteArray} (h : p.size < q.size) (h1 : (q.extract 0 p.size).toList = p.toList) (h2 : (q[p.size].toNat : Int) = 47) : dirB p q = true := by
  unfold dirB
  rw [List.isPrefixOf_iff_prefix, List.prefix_iff_eq_take, List.length_append, toList_len]
  rw [toList_take] at h1
  have : q[p.size] = 47 := UInt8.toNat_inj.1 (by have : (47 : UInt8).toNat = 47 := rfl; omega)
  rw [List.length_cons, List.length_nil, Nat.zero_add, List.take_add_one, h1, toList_at h, this]
  rfl
theorem dir_long {p q : ByteArray} (h : ¬ p.size < q.size) : dirB p q = false := by
  unfold dirB
  rw [Bool.eq_false_iff]
  intro hp
  rw [List.isPrefixOf_iff_prefix] at hp
  have := hp.length_le
  rw [List.length_append, toList_len, toList_len] at this
  simp at this
  omega
theorem dir_pre {p q : ByteArray} (h : p.size < q.size) (h1 : ¬ (q.extract 0 p.size).toList = p.toList) : dirB p q = false := by
  unfold dirB
  rw [Bool.eq_false_iff]
  intro hp
  rw [List.isPrefixOf_iff_prefix] at hp
  apply h1
  rw [toList_take]
  have := List.prefix_iff_eq_take.1 ((List.prefix_append _ _).trans hp)
  rw [this, toList_len]
theorem dir_at {p q : ByteArray} (h : p.size < q.size) (h2 : ¬ (q[p.size].toNat : Int) = 47) : dirB p q = false := by
  unfold dirB
  rw [Bool.eq_false_iff]
  intro hp
  rw [List.isPrefixOf_iff_prefix, List.prefix_iff_eq_take, List.length_append, toList_len, List.length_cons, List.length_nil, Nat.zero_add, List.take_add_one, toList_at h] at hp
  have := congrArg List.getLast? hp
  simp at this
  apply h2
  rw [← this]; rfl

/-- Is a path before another one? -/
def lessB (p q : ByteArray) : Bool := Op.bytesLess p.toList q.toList

/-- The first error of the files from here on, and of their order. -/
def scanE : Option ByteArray → List FileV → Int
  | _, [] => 0
  | none, f :: r => if validE f = 0 then scanE (some f.path) r else validE f
  | some p, f :: r => if validE f = 0 then (if f.path = p then 8 else if lessB f.path p = true then 29 else scanE (some f.path) r) else validE f
/-- The path ahead of place i. -/
def prevAt (l : List FileV) (i : Nat) : Option ByteArray := if i = 0 then none else (l[i - 1]?).map (·.path)
def apartE (l : List FileV) : Int := if (l.any fun f => l.any fun g => dirB f.path g.path) = true then 3 else 0
/-- The number of a tree's error. -/
def checkE (l : List FileV) : Int := if 256 < l.length then 6 else if scanE none l = 0 then apartE l else scanE none l

theorem scan_bad {l : List FileV} {i : Nat} {f : FileV} (h : l[i]? = some f) (he : ¬ validE f = 0) : scanE (prevAt l i) (l.drop i) = validE f := by
  rw [drop_cons h]
  cases prevAt l i <;> simp [scanE, he]
theorem prev_succ {l : List FileV} {i : Nat} {f : FileV} (h : l[i]? = some f) : prevAt l (i + 1) = some f.path := by simp [prevAt, h]
theorem scan_first {l : List FileV} {f : FileV} (h : l[0]? = some f) (he : validE f = 0) : scanE (prevAt l 0) (l.drop 0) = scanE (prevAt l 1) (l.drop 1) := by
  rw [drop_cons h, prev_succ h]
  simp [scanE, he, prevAt]
theorem scan_twice {l : List FileV} {i : Nat} {f g : FileV} (h : l[i + 1]? = some f) (hg : l[i]? = some g) (he : validE f = 0) (hp : f.path = g.path) : scanE (prevAt l (i + 1)) (l.drop (i + 1)) = 8 := by
  rw [drop_cons h, prev_succ hg]
  simp [scanE, he, hp]
theorem scan_order {l : List FileV} {i : Nat} {f g : FileV} (h : l[i + 1]? = some f) (hg : l[i]? = some g) (he : validE f = 0) (hp : ¬ f.path = g.path) (ho : lessB f.path g.path = true) : scanE (prevAt l (i + 1)) (l.drop (i + 1)) = 29 := by
  rw [drop_cons h, prev_succ hg]
  simp [scanE, he, hp, ho]
theorem scan_next {l : List FileV} {i : Nat} {f g : FileV} (h : l[i + 1]? = some f) (hg : l[i]? = some g) (he : validE f = 0) (hp : ¬ f.path = g.path) (ho : lessB f.path g.path = false) :
    scanE (prevAt l (i + 1)) (l.drop (i + 1)) = scanE (prevAt l (i + 2)) (l.drop (i + 2)) := by
  rw [drop_cons h, prev_succ hg, prev_succ h]
  simp [scanE, he, hp, ho]
theorem check_many {l : List FileV} (h : 256 < l.length) : checkE l = 6 := by unfold checkE; rw [if_pos h]
theorem check_bad {l : List FileV} (h : ¬ 256 < l.length) (hs : ¬ scanE none l = 0) : checkE l = scanE none l := by unfold checkE; rw [if_neg h, if_neg hs]
theorem check_end {l : List FileV} (h : ¬ 256 < l.length) (hs : scanE none l = 0) : checkE l = apartE l := by unfold checkE; rw [if_neg h, if_pos hs]

theorem any_succ {α : Type} {p : α → Bool} {l : List α} {i : Nat} {x : α} (h : (l.take i).any p = false) (hx : l[i]? = some x) (hp : p x = false) : (l.take (i + 1)).any p = false := by
  rw [List.take_add_one, hx]
  simp [h, hp]
theorem any_stop {α : Type} {p : α → Bool} {l : List α} {i : Nat} {x : α} (hx : l[i]? = some x) (hp : p x = true) : l.any p = true := by
  rw [List.any_eq_true]
  exact ⟨x, List.mem_of_getElem? hx, hp⟩
theorem any_done {α : Type} {p : α → Bool} {l : List α} (h : (l.take l.length).any p = false) : l.any p = false := by simpa using h

/-- The first place with a path. -/
def atL (path : ByteArray) (l : List FileV) : Int := match l.findIdx? (fun f => decide (f.path = path)) with | some i => i | none => -1
theorem at_hit {path : ByteArray} {l : List FileV} {i : Nat} {f : FileV} (h : (l.take i).any (fun f => decide (f.path = path)) = false) (hf : l[i]? = some f) (hp : f.path = path) : atL path l = i := by
  have : l.findIdx? (fun f => decide (f.path = path)) = some i := by
    rw [List.findIdx?_eq_some_iff_getElem]
    obtain ⟨hl, hx⟩ := List.getElem?_eq_some_iff.1 hf
    refine ⟨hl, by rw [hx]; exact decide_eq_true hp, fun j hj => ?_⟩
    have := (List.any_eq_false.1 h) (l[j]'(by omega)) (by
      refine List.mem_of_getElem? (i := j) ?_
      rw [List.getElem?_take, if_pos hj, List.getElem?_eq_getElem])
    exact this
  unfold atL; rw [this]
theorem at_miss {path : ByteArray} {l : List FileV} (h : l.any (fun f => decide (f.path = path)) = false) : atL path l = -1 := by
  have : l.findIdx? (fun f => decide (f.path = path)) = none := by
    rw [List.findIdx?_eq_none_iff]
    intro x hx
    simpa using (List.any_eq_false.1 h) x hx
  unfold atL; rw [this]

/-- The place of a path in a tree, and whether there is one. -/
def findE (l : List FileV) (path : ByteArray) : Int × Bool := if ¬ checkE l = 0 ∨ atL path l < 0 then (0, false) else (atL path l, true)
theorem find_no {l : List FileV} (path : ByteArray) (h : ¬ checkE l = 0 ∨ atL path l < 0) : findE l path = (0, false) := by unfold findE; rw [if_pos h]
theorem find_yes {l : List FileV} (path : ByteArray) (h : checkE l = 0) (h2 : ¬ atL path l < 0) : findE l path = (atL path l, true) := by unfold findE; rw [if_neg (by rintro (e | e); exact e h; exact h2 e)]
end Go.Tr

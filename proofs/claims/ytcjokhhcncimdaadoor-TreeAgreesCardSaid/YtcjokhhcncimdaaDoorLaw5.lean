/- Changes of trees; without the program. -/
import Derived.Test.YtcjokhhcncimdaaDoorLaw4
namespace Go.Tr
open Go.PF Go.Lib Go.Op
set_option linter.unusedVariables false
set_option linter.unusedSimpArgs false

structure ChangeV where
  kind : Int
  path : ByteArray
  old : FileV
  new : FileV
deriving DecidableEq

/-- The change at a path, if the two trees have not the same there. -/
def changeAt (a b : List FileV) (p : ByteArray) : Option ChangeV :=
  if lookE a p = lookE b p then none else some ⟨if (lookE b p).there = false then 1 else if (lookE a p).there = true then 2 else 0, p, (lookE a p).f, (lookE b p).f⟩
def diffL (a b : List FileV) (ps : List ByteArray) : List ChangeV := ps.filterMap (changeAt a b)
theorem diff_snoc_no {a b : List FileV} {ps : List ByteArray} {p : ByteArray} (h : changeAt a b p = none) : diffL a b (ps ++ [p]) = diffL a b ps := by
  unfold diffL; rw [List.filterMap_append]; simp [h]
theorem diff_snoc_yes {a b : List FileV} {ps : List ByteArray} {p : ByteArray} {c : ChangeV} (h : changeAt a b p = some c) : diffL a b (ps ++ [p]) = diffL a b ps ++ [c] := by
  unfold diffL; rw [List.filterMap_append]; simp [h]
theorem diffL_len (a b : List FileV) (ps : List ByteArray) : (diffL a b ps).length ≤ ps.length := List.length_filterMap_le _ _
theorem change_none {a b : List FileV} {p : ByteArray} (h : lookE a p = lookE b p) : changeAt a b p = none := by unfold changeAt; rw [if_pos h]
theorem change_some {a b : List FileV} {p : ByteArray} (h : ¬ lookE a p = lookE b p) :
    changeAt a b p = some ⟨if (lookE b p).there = false then 1 else if (lookE a p).there = true then 2 else 0, p, (lookE a p).f, (lookE b p).f⟩ := by unfold changeAt; rw [if_neg h]

/-- Do the files of a change fit its kind? -/
def fitsB (c : ChangeV) : Bool :=
  if c.kind = 0 then decide (c.new.path = c.path) && decide (c.old = noFile)
  else if c.kind = 1 then decide (c.old.path = c.path) && decide (c.new = noFile)
  else if c.kind = 2 then decide (c.old.path = c.path) && decide (c.new.path = c.path)
  else false

/-- What a change makes of a tree, and the number of the error. -/
def stepE (l : List FileV) (c : ChangeV) : List FileV × Int :=
  if fitsB c = false then ([], 1)
  else if c.kind = 0 ∧ hasB c.path l = true then ([], 8)
  else if c.kind ≠ 0 ∧ hasB c.path l = false then ([], 7)
  else if c.kind ≠ 0 ∧ ¬ (lookE l c.path).f = c.old then ([], 23)
  else if c.kind = 1 then (withoutL c.path l, 0)
  else (putL c.new l, 0)
theorem step_fit {l : List FileV} {c : ChangeV} (h : fitsB c = false) : stepE l c = ([], 1) := by unfold stepE; rw [if_pos h]
theorem step_twice {l : List FileV} {c : ChangeV} (h : fitsB c = true) (h1 : c.kind = 0) (h2 : hasB c.path l = true) : stepE l c = ([], 8) := by unfold stepE; rw [if_neg (by simp [h]), if_pos ⟨h1, h2⟩]
theorem step_none {l : List FileV} {c : ChangeV} (h : fitsB c = true) (h1 : ¬ c.kind = 0) (h2 : hasB c.path l = false) : stepE l c = ([], 7) := by
  unfold stepE; rw [if_neg (by simp [h]), if_neg (fun e => h1 e.1), if_pos ⟨h1, h2⟩]
theorem step_other {l : List FileV} {c : ChangeV} (h : fitsB c = true) (h1 : ¬ c.kind = 0) (h2 : hasB c.path l = true) (h3 : ¬ (lookE l c.path).f = c.old) : stepE l c = ([], 23) := by
  unfold stepE; rw [if_neg (by simp [h]), if_neg (fun e => h1 e.1), if_neg (fun e => by rw [h2] at e; cases e.2), if_pos ⟨h1, h3⟩]
theorem step_del {l : List FileV} {c : ChangeV} (h : fitsB c = true) (h1 : c.kind = 1) (h2 : hasB c.path l = true) (h3 : (lookE l c.path).f = c.old) : stepE l c = (withoutL c.path l, 0) := by
  unfold stepE
  rw [if_neg (by simp [h]), if_neg (fun e => by rw [h1] at e; exact absurd e.1 (by decide)), if_neg (fun e => by rw [h2] at e; cases e.2), if_neg (fun e => e.2 h3), if_pos h1]
theorem step_put {l : List FileV} {c : ChangeV} (h : fitsB c = true) (h1 : ¬ c.kind = 1) (h2 : (c.kind = 0 ∧ hasB c.path l = false) ∨ (¬ c.kind = 0 ∧ hasB c.path l = true ∧ (lookE l c.path).f = c.old)) : stepE l c = (putL c.new l, 0) := by
  unfold stepE
  rw [if_neg (by simp [h])]
  rcases h2 with ⟨a, b⟩ | ⟨a, b, d⟩
  · rw [if_neg (fun e => by rw [b] at e; cases e.2), if_neg (fun e => e.1 a), if_neg (fun e => e.1 a), if_neg h1]
  · rw [if_neg (fun e => a e.1), if_neg (fun e => by rw [b] at e; cases e.2), if_neg (fun e => e.2 d), if_neg h1]
theorem fits_path {c : ChangeV} (h : fitsB c = true) (h1 : ¬ c.kind = 1) : c.new.path = c.path := by
  unfold fitsB at h
  by_cases h0 : c.kind = 0
  · rw [if_pos h0] at h
    simp only [Bool.and_eq_true, decide_eq_true_eq] at h; exact h.1
  · rw [if_neg h0, if_neg h1] at h
    by_cases h2 : c.kind = 2
    · rw [if_pos h2] at h
      simp only [Bool.and_eq_true, decide_eq_true_eq] at h; exact h.2
    · rw [if_neg h2] at h; cases h
theorem step_srt {l : List FileV} {c : ChangeV} (h : Srt l) : Srt (stepE l c).1 := by
  unfold stepE
  split
  · exact List.Pairwise.nil
  · split
    · exact List.Pairwise.nil
    · split
      · exact List.Pairwise.nil
      · split
        · exact List.Pairwise.nil
        · split
          · exact without_srt h
          · exact put_srt h
theorem step_len (l : List FileV) (c : ChangeV) : (stepE l c).1.length ≤ l.length + 1 := by
  have h1 := without_len c.path l
  have h2 := put_len c.new l
  unfold stepE
  split
  · exact Nat.zero_le _
  · split
    · exact Nat.zero_le _
    · split
      · exact Nat.zero_le _
      · split
        · exact Nat.zero_le _
        · split
          · show (withoutL c.path l).length ≤ _; omega
          · exact h2
theorem step_mem {l : List FileV} {c : ChangeV} {f : FileV} (h : f ∈ (stepE l c).1) : f ∈ l ∨ f = c.new := by
  unfold stepE at h
  split at h
  · cases h
  · split at h
    · cases h
    · split at h
      · cases h
      · split at h
        · cases h
        · split at h
          · exact .inl (without_mem.1 h).1
          · rcases put_mem.1 h with h | h
            · exact .inr h
            · exact .inl h.1

/-- What some changes make of a tree. -/
def patchL : List ChangeV → List FileV → List FileV × Int
  | [], l => (l, 0)
  | c :: cs, l => if (stepE l c).2 = 0 then patchL cs (stepE l c).1 else ([], (stepE l c).2)
theorem cdrop {cs : List ChangeV} {i : Nat} {x : ChangeV} (h : cs[i]? = some x) : cs.drop i = x :: cs.drop (i + 1) := by
  obtain ⟨h1, h2⟩ := List.getElem?_eq_some_iff.1 h
  rw [List.drop_eq_getElem_cons h1, h2]
theorem patch_stop {cs : List ChangeV} {i : Nat} {c : ChangeV} {l : List FileV} (h : cs[i]? = some c) (h1 : ¬ (stepE l c).2 = 0) : patchL (cs.drop i) l = ([], (stepE l c).2) := by
  rw [cdrop h, patchL, if_neg h1]
theorem patch_go {cs : List ChangeV} {i : Nat} {c : ChangeV} {l : List FileV} (h : cs[i]? = some c) (h1 : (stepE l c).2 = 0) : patchL (cs.drop i) l = patchL (cs.drop (i + 1)) (stepE l c).1 := by
  rw [cdrop h, patchL, if_pos h1]
def patchE (l : List FileV) (cs : List ChangeV) : List FileV × Int :=
  if checkE l = 0 then (if (patchL cs l).2 = 0 then (if checkE (patchL cs l).1 = 0 then ((patchL cs l).1, 0) else ([], checkE (patchL cs l).1)) else ([], (patchL cs l).2)) else ([], checkE l)
theorem patchE_1 {l : List FileV} {cs : List ChangeV} (h : ¬ checkE l = 0) : patchE l cs = ([], checkE l) := by unfold patchE; rw [if_neg h]
theorem patchE_2 {l : List FileV} {cs : List ChangeV} (h : checkE l = 0) {e : Int} (h2 : patchL cs l = ([], e)) (h3 : ¬ e = 0) : patchE l cs = ([], e) := by unfold patchE; rw [if_pos h, h2, if_neg h3]
theorem patchE_3 {l m : List FileV} {cs : List ChangeV} (h : checkE l = 0) (h2 : patchL cs l = (m, 0)) (h3 : ¬ checkE m = 0) : patchE l cs = ([], checkE m) := by unfold patchE; rw [if_pos h, h2, if_pos rfl, if_neg h3]
theorem patchE_4 {l m : List FileV} {cs : List ChangeV} (h : checkE l = 0) (h2 : patchL cs l = (m, 0)) (h3 : checkE m = 0) : patchE l cs = (m, 0) := by unfold patchE; rw [if_pos h, h2, if_pos rfl, if_pos h3]
end Go.Tr

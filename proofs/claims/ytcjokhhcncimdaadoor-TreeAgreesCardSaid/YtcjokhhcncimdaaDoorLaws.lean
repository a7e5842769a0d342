/- What the trees' functions reckon together, without the program. -/
import Derived.Test.YtcjokhhcncimdaaDoorSort
namespace Go.Tr
open Go.PF Go.Lib Go.Op
set_option linter.unusedVariables false

/-- The paths of two trees, in order. -/
def bothN : Nat → List FileV → List FileV → List ByteArray
  | 0, _, _ => []
  | _ + 1, [], [] => []
  | n + 1, f :: a, [] => f.path :: bothN n a []
  | n + 1, [], g :: b => g.path :: bothN n [] b
  | n + 1, f :: a, g :: b => if f.path = g.path then f.path :: bothN n a b else if lessB f.path g.path = true then f.path :: bothN n a (g :: b) else g.path :: bothN n (f :: a) b
def bothL (a b : List FileV) : List ByteArray := bothN (a.length + b.length) a b

theorem drop_nil' {α : Type} {l : List α} {i : Nat} (h : l.length ≤ i) : l.drop i = [] := List.drop_eq_nil_of_le h
section
variable {a b : List FileV} {i k n : Nat} {f g : FileV}
theorem both_end (hi : a.length ≤ i) (hk : b.length ≤ k) : bothN n (a.drop i) (b.drop k) = [] := by
  rw [drop_nil' hi, drop_nil' hk]
  cases n <;> rfl
theorem both_left (hf : a[i]? = some f) (hk : b.length ≤ k) : bothN (n + 1) (a.drop i) (b.drop k) = f.path :: bothN n (a.drop (i + 1)) (b.drop k) := by
  rw [drop_cons hf, drop_nil' hk]; rfl
theorem both_right (hi : a.length ≤ i) (hg : b[k]? = some g) : bothN (n + 1) (a.drop i) (b.drop k) = g.path :: bothN n (a.drop i) (b.drop (k + 1)) := by
  rw [drop_cons hg, drop_nil' hi]; rfl
theorem both_eq (hf : a[i]? = some f) (hg : b[k]? = some g) (h : f.path = g.path) : bothN (n + 1) (a.drop i) (b.drop k) = f.path :: bothN n (a.drop (i + 1)) (b.drop (k + 1)) := by
  rw [drop_cons hf, drop_cons hg, bothN, if_pos h]
theorem both_lt (hf : a[i]? = some f) (hg : b[k]? = some g) (h : ¬ f.path = g.path) (hl : lessB f.path g.path = true) : bothN (n + 1) (a.drop i) (b.drop k) = f.path :: bothN n (a.drop (i + 1)) (b.drop k) := by
  rw [drop_cons hf, drop_cons hg, bothN, if_neg h, if_pos hl]
theorem both_gt (hf : a[i]? = some f) (hg : b[k]? = some g) (h : ¬ f.path = g.path) (hl : lessB f.path g.path = false) : bothN (n + 1) (a.drop i) (b.drop k) = g.path :: bothN n (a.drop i) (b.drop (k + 1)) := by
  rw [drop_cons hf, drop_cons hg, bothN, if_neg h, if_neg (by simp [hl])]
end

/-- What a merge takes at a path, and whether it is a conflict. -/
def takeE (x y z : SideV) : SideV × Bool := if y = z ∨ x = z then (y, false) else if x = y then (z, false) else (if y.there = true then y else z, true)
def takenAt (base a b : List FileV) (p : ByteArray) : SideV × Bool := takeE (lookE base p) (lookE a p) (lookE b p)
def outL (base a b : List FileV) (ps : List ByteArray) : List FileV := ps.filterMap fun p => if (takenAt base a b p).1.there = true then some (takenAt base a b p).1.f else none
def confL (base a b : List FileV) (ps : List ByteArray) : List ByteArray := ps.filter fun p => (takenAt base a b p).2
theorem outL_yes {base a b : List FileV} {ps : List ByteArray} {p : ByteArray} (h : (takenAt base a b p).1.there = true) : outL base a b (ps ++ [p]) = outL base a b ps ++ [(takenAt base a b p).1.f] := by
  unfold outL; rw [List.filterMap_append]; simp [h]
theorem outL_no {base a b : List FileV} {ps : List ByteArray} {p : ByteArray} (h : (takenAt base a b p).1.there = false) : outL base a b (ps ++ [p]) = outL base a b ps := by
  unfold outL; rw [List.filterMap_append]; simp [h]
theorem confL_yes {base a b : List FileV} {ps : List ByteArray} {p : ByteArray} (h : (takenAt base a b p).2 = true) : confL base a b (ps ++ [p]) = confL base a b ps ++ [p] := by
  unfold confL; rw [List.filter_append]; simp [h]
theorem confL_no {base a b : List FileV} {ps : List ByteArray} {p : ByteArray} (h : (takenAt base a b p).2 = false) : confL base a b (ps ++ [p]) = confL base a b ps := by
  unfold confL; rw [List.filter_append]; simp [h]

theorem bothN_len : ∀ (n : Nat) (a b : List FileV), (bothN n a b).length ≤ n
  | 0, _, _ => Nat.le_refl _
  | n + 1, [], [] => Nat.zero_le _
  | n + 1, f :: a, [] => by have := bothN_len n a []; simp only [bothN, List.length_cons]; omega
  | n + 1, [], g :: b => by have := bothN_len n [] b; simp only [bothN, List.length_cons]; omega
  | n + 1, f :: a, g :: b => by
    have h1 := bothN_len n a b
    have h2 := bothN_len n a (g :: b)
    have h3 := bothN_len n (f :: a) b
    simp only [bothN]
    split
    · simp only [List.length_cons]; omega
    · split <;> (simp only [List.length_cons]; omega)
theorem look_mem {l : List FileV} {p : ByteArray} (h : (lookE l p).there = true) : (lookE l p).f ∈ l := by
  cases hh : hasB p l
  · rw [look_no hh] at h; cases h
  · obtain ⟨f, hf, _⟩ := has_at hh
    rw [look_yes hh hf]
    exact List.mem_of_getElem? hf
theorem take_one (x y z : SideV) : (takeE x y z).1 = y ∨ (takeE x y z).1 = z := by
  unfold takeE
  split
  · exact .inl rfl
  · split
    · exact .inr rfl
    · simp only []
      split
      · exact .inl rfl
      · exact .inr rfl
theorem outL_mem {base a b : List FileV} {ps : List ByteArray} {f : FileV} (h : f ∈ outL base a b ps) : f ∈ a ∨ f ∈ b := by
  unfold outL at h
  rw [List.mem_filterMap] at h
  obtain ⟨p, _, hp⟩ := h
  split at hp
  · rename_i ht
    cases hp
    unfold takenAt at ht ⊢
    rcases take_one (lookE base p) (lookE a p) (lookE b p) with e | e
    · rw [e] at ht ⊢; exact .inl (look_mem ht)
    · rw [e] at ht ⊢; exact .inr (look_mem ht)
  · cases hp
theorem outL_len (base a b : List FileV) (ps : List ByteArray) : (outL base a b ps).length ≤ ps.length := List.length_filterMap_le _ _
theorem confL_len (base a b : List FileV) (ps : List ByteArray) : (confL base a b ps).length ≤ ps.length := List.length_filter_le _ _
end Go.Tr

/- A path's pieces, without the program. -/
import Derived.Test.YtcjokhhcncimdaaDoorMem
import Derived.Lib.Split
import Derived.Lib.SplitLaws
set_option linter.unusedSimpArgs false
set_option linter.unusedVariables false
namespace Go.Tr
open Go.PF Go.Lib

def nameL (l : List UInt8) : Bool := l.all letB && !l.isEmpty && !(l == [46]) && !(l == [46, 46])
theorem nameB_eq (s : ByteArray) : nameB s = nameL s.toList := rfl

/-- The pieces between slashes. -/
def pieces (cur : List UInt8) : List UInt8 → List (List UInt8)
  | [] => [cur]
  | c :: r => if c = 47 then cur :: pieces [] r else pieces (cur ++ [c]) r

/-- Is a string a path? -/
def pathB (s : ByteArray) : Bool := decide (s.size ≤ 255) && (pieces [] s.toList).all nameL

theorem isPrefix1 (a b : UInt8) (l : List UInt8) : [a].isPrefixOf (b :: l) = (a == b) := by simp [List.isPrefixOf]

theorem index_cons47 (b : UInt8) (l : List UInt8) : index (b :: l) [47] = if b = 47 then 0 else if index l [47] = -1 then -1 else index l [47] + 1 := by
  rw [index, isPrefix1]
  by_cases h : b = 47
  · subst h; simp
  · have : ((47 : UInt8) == b) = false := by simp; exact fun e => h e.symm
    simp [this, h]

theorem pieces_index (s : List UInt8) : ∀ cur, pieces cur s = if index s [47] = -1 then [cur ++ s] else (cur ++ s.take (index s [47]).toNat) :: pieces [] (s.drop ((index s [47]).toNat + 1)) := by
  induction s with
  | nil => intro cur; simp [pieces, index]
  | cons b l ih =>
    intro cur
    rw [pieces, index_cons47]
    by_cases h : b = 47
    · simp [h]
    · rw [if_neg h, if_neg h, ih]
      by_cases h1 : index l [47] = -1
      · simp [h1]
      · have hg := index_ge l [47]
        obtain ⟨n, hn⟩ : ∃ n : Nat, index l [47] = n := ⟨(index l [47]).toNat, by omega⟩
        rw [if_neg h1, if_neg h1, hn]
        rw [if_neg (by omega)]
        have e : ((n : Int) + 1).toNat = n + 1 := by omega
        rw [e]
        simp

theorem split_pieces : ∀ (n : Nat) (s : ByteArray), s.size ≤ n → splitK [47] 0 (countB s ⟨#[47]⟩) s.data.toList = pieces [] s.data.toList := by
  intro n
  induction n with
  | zero =>
    intro s hs
    have hl : s.data.toList = [] := List.eq_nil_of_length_eq_zero (by simpa using hs)
    have hm : indexB s ⟨#[47]⟩ = -1 := by unfold indexB; rw [hl]; rfl
    rw [countB_miss _ _ hm, hl]; rfl
  | succ n ih =>
    intro s hs
    by_cases hm : indexB s ⟨#[47]⟩ = -1
    · rw [countB_miss _ _ hm, pieces_index]
      have : index s.data.toList [47] = -1 := hm
      rw [if_pos this]; rfl
    · have hg : -1 ≤ indexB s ⟨#[47]⟩ := index_ge _ _
      obtain ⟨i, hi⟩ : ∃ i : Nat, indexB s ⟨#[47]⟩ = i := ⟨(indexB s ⟨#[47]⟩).toNat, by omega⟩
      have hi' : index s.data.toList [47] = i := hi
      rw [countB_hit s _ i (by decide) hi, pieces_index, if_neg (by rw [hi']; omega), hi', Nat.add_comm 1, splitK]
      have e1 : (index s.data.toList [47] == -1) = false := by rw [hi']; simp
      rw [e1, hi']
      simp only [Bool.false_eq_true, if_false, Int.toNat_natCast, Nat.add_zero, List.nil_append, List.length_cons, List.length_nil, Nat.zero_add]
      have hsz : (s.extract (i + (⟨#[47]⟩ : ByteArray).size) s.size).size ≤ n := by
        simp only [ByteArray.size_extract]
        have : (⟨#[47]⟩ : ByteArray).size = 1 := rfl
        omega
      have := ih _ hsz
      rw [extract_to_end] at this
      exact congrArg _ this

theorem split_path (s : ByteArray) : ((splitB ⟨#[47]⟩ 0 (countB s ⟨#[47]⟩) s).all nameB) = (pieces [] s.toList).all nameL := by
  have h := splitB_data ⟨#[47]⟩ 0 (countB s ⟨#[47]⟩) s
  have h2 := split_pieces s.size s (Nat.le_refl _)
  have : (⟨#[47]⟩ : ByteArray).data.toList = [47] := rfl
  rw [this, h2] at h
  rw [ByteArray.toList_eq, ← h, List.all_map]
  congr 1
  funext x
  rw [nameB_eq, ByteArray.toList_eq]; rfl

theorem split_small (sep : ByteArray) : ∀ (k : Nat) (s p : ByteArray), p ∈ splitB sep 0 k s → p.size ≤ s.size := by
  intro k
  induction k with
  | zero => intro s p h; simp [splitB] at h; rw [h]; exact Nat.le_refl _
  | succ k ih =>
    intro s p h
    unfold splitB at h
    split at h
    · simp at h; rw [h]; exact Nat.le_refl _
    · rcases List.mem_cons.1 h with h | h
      · rw [h]; simp; omega
      · have := ih _ _ h
        simp at this
        omega
theorem pathB_long {s : ByteArray} (h : 255 < s.size) : pathB s = false := by unfold pathB; rw [decide_eq_false (by omega)]; rfl
theorem pathB_short {s : ByteArray} (h : s.size ≤ 255) : pathB s = (pieces [] s.toList).all nameL := by unfold pathB; rw [decide_eq_true h]; rfl

/-- What is left of a scan at i that has a piece open since m. -/
def rest (s : ByteArray) (m i : Nat) : Bool := (pieces ((s.toList.take i).drop m) (s.toList.drop i)).all nameL
theorem rest_zero (s : ByteArray) : rest s 0 0 = (pieces [] s.toList).all nameL := by simp [rest]
theorem rest_end (s : ByteArray) (m : Nat) (h : m ≤ s.size) : rest s m s.size = nameB (s.extract m s.size) := by
  have hl := toList_len s
  unfold rest
  rw [List.take_of_length_le (by omega : s.toList.length ≤ s.size), List.drop_eq_nil_of_le (by omega : s.toList.length ≤ s.size), nameB_eq]
  simp only [pieces, List.all_cons, List.all_nil, Bool.and_true]
  congr 1
  rw [ByteArray.toList_eq, ByteArray.toList_eq, extract_to_end]
theorem drop_cons {α : Type} {l : List α} {i : Nat} {x : α} (h : l[i]? = some x) : l.drop i = x :: l.drop (i + 1) := by
  obtain ⟨hl, hx⟩ := List.getElem?_eq_some_iff.1 h
  rw [List.drop_eq_getElem_cons hl, hx]
theorem extract_toList (s : ByteArray) (m i : Nat) : (s.extract m i).toList = (s.toList.take i).drop m := by
  rw [ByteArray.toList_eq, ByteArray.toList_eq, extract_data, List.drop_take]
theorem rest_slash (s : ByteArray) (m i : Nat) (hi : i < s.size) (h : s[i] = 47) : rest s m i = (nameB (s.extract m i) && rest s (i + 1) (i + 1)) := by
  have hx := toList_at hi
  have hl := toList_len s
  unfold rest
  rw [drop_cons hx, h, pieces, if_pos rfl, List.all_cons, nameB_eq, extract_toList]
  have e : (s.toList.take (i + 1)).drop (i + 1) = [] := List.drop_eq_nil_of_le (by simp; omega)
  rw [e]
theorem rest_next (s : ByteArray) (m i : Nat) (hm : m ≤ i) (hi : i < s.size) (h : ¬ s[i] = 47) : rest s m i = rest s m (i + 1) := by
  have hx := toList_at hi
  have hl := toList_len s
  unfold rest
  rw [drop_cons hx, pieces, if_neg h, List.take_add_one, hx]
  congr 2
  rw [List.drop_append_of_le_length (by simp; omega)]
  rfl
end Go.Tr

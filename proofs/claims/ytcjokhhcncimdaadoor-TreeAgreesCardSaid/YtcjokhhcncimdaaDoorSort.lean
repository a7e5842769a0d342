/- The order of paths, and what a search in a list in order finds; without the program. -/
import Derived.Test.YtcjokhhcncimdaaDoorPure
namespace Go.Tr
open Go.PF Go.Lib Go.Op
set_option linter.unusedVariables false

theorem bl_irrefl : ∀ a : List UInt8, bytesLess a a = false
  | [] => rfl
  | x :: a => by rw [bytesLess, bl_irrefl a]; simp
theorem bl_trans : ∀ {a b c : List UInt8}, bytesLess a b = true → bytesLess b c = true → bytesLess a c = true
  | _, [], _, h, _ => by cases ‹List UInt8› <;> simp [bytesLess] at h
  | _, _ :: _, [], _, h => by simp [bytesLess] at h
  | [], _ :: _, _ :: _, _, _ => rfl
  | x :: a, y :: b, z :: c, h, k => by
    simp only [bytesLess, Bool.or_eq_true, decide_eq_true_eq, Bool.and_eq_true, beq_iff_eq] at h k ⊢
    rcases h with h | ⟨rfl, h⟩
    · rcases k with k | ⟨rfl, k⟩
      · exact .inl (UInt8.lt_trans h k)
      · exact .inl h
    · rcases k with k | ⟨rfl, k⟩
      · exact .inl k
      · exact .inr ⟨rfl, bl_trans h k⟩
theorem bl_total : ∀ {a b : List UInt8}, bytesLess a b = false → bytesLess b a = false → a = b
  | [], [], _, _ => rfl
  | [], _ :: _, h, _ => by simp [bytesLess] at h
  | _ :: _, [], _, h => by simp [bytesLess] at h
  | x :: a, y :: b, h, k => by
    simp only [bytesLess, Bool.or_eq_false_iff, decide_eq_false_iff_not, Bool.and_eq_false_iff, beq_eq_false_iff_ne] at h k
    have e : x = y := UInt8.toNat_inj.1 (by have h1 := h.1; have k1 := k.1; rw [UInt8.lt_iff_toNat_lt] at h1 k1; omega)
    subst e
    rcases h.2 with h2 | h2
    · exact absurd rfl h2
    · rcases k.2 with k2 | k2
      · exact absurd rfl k2
      · rw [bl_total h2 k2]
/-- What begins with d is not before d. -/
theorem bl_prefix : ∀ (d r : List UInt8), bytesLess (d ++ r) d = false
  | [], r => by cases r <;> rfl
  | x :: d, r => by
    rw [List.cons_append, bytesLess, bl_prefix d r]; simp
/-- What lies between d and what begins with d begins with d. -/
theorem bl_between : ∀ {d t r : List UInt8}, bytesLess t d = false → bytesLess (d ++ r) t = false → d <+: t
  | [], t, r, _, _ => List.nil_prefix
  | x :: d, [], r, h, _ => by simp [bytesLess] at h
  | x :: d, y :: t, r, h, k => by
    rw [List.cons_append] at k
    simp only [bytesLess, Bool.or_eq_false_iff, decide_eq_false_iff_not, Bool.and_eq_false_iff, beq_eq_false_iff_ne] at h k
    have e : x = y := UInt8.toNat_inj.1 (by have h1 := h.1; have k1 := k.1; rw [UInt8.lt_iff_toNat_lt] at h1 k1; omega)
    subst e
    rcases h.2 with h2 | h2
    · exact absurd rfl h2
    · rcases k.2 with k2 | k2
      · exact absurd rfl k2
      · exact List.cons_prefix_cons.2 ⟨rfl, bl_between h2 k2⟩

theorem less_irrefl (p : ByteArray) : lessB p p = false := bl_irrefl _
theorem less_trans {p q r : ByteArray} (h : lessB p q = true) (k : lessB q r = true) : lessB p r = true := bl_trans h k
theorem less_total {p q : ByteArray} (h : lessB p q = false) (k : lessB q p = false) : p = q := ba_inj (bl_total h k)
theorem less_asymm {p q : ByteArray} (h : lessB p q = true) : lessB q p = false := by
  cases hq : lessB q p
  · rfl
  · have := less_trans h hq
    rw [less_irrefl] at this
    cases this
theorem less_ne {p q : ByteArray} (h : lessB p q = true) : ¬ p = q := by rintro rfl; rw [less_irrefl] at h; cases h

/-- A list in order. -/
def Srt (l : List FileV) : Prop := l.Pairwise fun f g => lessB f.path g.path = true
/-- How many files are before a path. -/
def lowI (p : ByteArray) (l : List FileV) : Nat := (l.takeWhile fun f => lessB f.path p).length
theorem low_le (p : ByteArray) (l : List FileV) : lowI p l ≤ l.length := (List.takeWhile_prefix _).length_le

theorem low_iff {p : ByteArray} {l : List FileV} (hs : Srt l) : ∀ {i : Nat} {f : FileV}, l[i]? = some f → (lessB f.path p = true ↔ i < lowI p l) := by
  induction l with
  | nil => intro i f h; simp at h
  | cons g l ih =>
    intro i f h
    have ⟨h1, h2⟩ := List.pairwise_cons.1 hs
    unfold lowI
    rw [List.takeWhile_cons]
    cases i with
    | zero =>
      simp at h
      subst h
      by_cases hg : lessB g.path p = true
      · simp [hg]
      · simp [hg]
    | succ i =>
      simp at h
      by_cases hg : lessB g.path p = true
      · rw [if_pos hg, List.length_cons]
        rw [ih h2 h]
        exact ⟨fun a => Nat.succ_lt_succ a, fun a => Nat.lt_of_succ_lt_succ a⟩
      · rw [if_neg hg]
        simp only [List.length_nil, Nat.not_lt_zero, iff_false]
        intro hf
        exact hg (less_trans (h1 f (List.mem_of_getElem? h)) hf)

/-- Has the list a file with a path at the place of the search? -/
def hasB (p : ByteArray) (l : List FileV) : Bool := match l[lowI p l]? with | some f => decide (f.path = p) | none => false

theorem srt_lt {l : List FileV} (hs : Srt l) {i j : Nat} {f g : FileV} (hij : i < j) (hf : l[i]? = some f) (hg : l[j]? = some g) : lessB f.path g.path = true := by
  obtain ⟨h1, rfl⟩ := List.getElem?_eq_some_iff.1 hf
  obtain ⟨h2, rfl⟩ := List.getElem?_eq_some_iff.1 hg
  exact List.pairwise_iff_getElem.1 hs i j h1 h2 hij
theorem srt_inj {l : List FileV} (hs : Srt l) {i j : Nat} {f g : FileV} (hf : l[i]? = some f) (hg : l[j]? = some g) (h : f.path = g.path) : i = j := by
  rcases Nat.lt_trichotomy i j with h1 | h1 | h1
  · exact absurd h (less_ne (srt_lt hs h1 hf hg))
  · exact h1
  · exact absurd h.symm (less_ne (srt_lt hs h1 hg hf))

/-- What is there stands at the place of the search. -/
theorem low_of_path {p : ByteArray} {l : List FileV} (hs : Srt l) {i : Nat} {f : FileV} (hf : l[i]? = some f) (hp : f.path = p) : lowI p l = i := by
  subst hp
  have h1 : ¬ i < lowI f.path l := fun h => by
    have := (low_iff hs hf).2 h
    rw [less_irrefl] at this
    cases this
  rcases Nat.lt_or_ge (lowI f.path l) i with h2 | h2
  · obtain ⟨g, hg⟩ : ∃ g, l[lowI f.path l]? = some g := ⟨_, List.getElem?_eq_getElem (Nat.lt_trans h2 (List.getElem?_eq_some_iff.1 hf).1)⟩
    have := (low_iff hs hg).1 (srt_lt hs h2 hg hf)
    omega
  · omega
theorem has_yes {p : ByteArray} {l : List FileV} (hs : Srt l) {i : Nat} {f : FileV} (hf : l[i]? = some f) (hp : f.path = p) : hasB p l = true := by
  unfold hasB
  rw [low_of_path hs hf hp, hf]
  exact decide_eq_true hp
theorem has_at {p : ByteArray} {l : List FileV} (h : hasB p l = true) : ∃ f, l[lowI p l]? = some f ∧ f.path = p := by
  unfold hasB at h
  split at h
  · rename_i f hf
    exact ⟨f, hf, of_decide_eq_true h⟩
  · cases h
theorem has_no {p : ByteArray} {l : List FileV} (hs : Srt l) (h : hasB p l = false) {f : FileV} (hf : f ∈ l) : ¬ f.path = p := by
  intro hp
  obtain ⟨i, hi⟩ := List.mem_iff_getElem?.1 hf
  rw [has_yes hs hi hp] at h
  cases h

theorem atL_has {p : ByteArray} {l : List FileV} (hs : Srt l) (h : hasB p l = true) : atL p l = lowI p l := by
  obtain ⟨f, hf, hp⟩ := has_at h
  refine at_hit ?_ hf hp
  rw [List.any_eq_false]
  intro g hg
  obtain ⟨j, hj⟩ := List.mem_iff_getElem?.1 hg
  have hjl : j < lowI p l := by
    rcases Nat.lt_or_ge j (lowI p l) with h | h
    · exact h
    · rw [List.getElem?_take, if_neg (by omega)] at hj; cases hj
  rw [List.getElem?_take, if_pos hjl] at hj
  simp only [decide_eq_true_eq]
  intro hgp
  have := srt_inj hs hj hf (hgp.trans hp.symm)
  omega
theorem atL_not {p : ByteArray} {l : List FileV} (hs : Srt l) (h : hasB p l = false) : atL p l = -1 := by
  refine at_miss ?_
  rw [List.any_eq_false]
  intro g hg
  simpa using has_no hs h hg

/-- A tree that passes the scan is in order. -/
theorem scan_srt : ∀ {l : List FileV} {prev : Option ByteArray}, scanE prev l = 0 → Srt l ∧ (∀ p, prev = some p → ∀ f ∈ l, lessB p f.path = true) ∧ ∀ f ∈ l, validE f = 0
  | [], _, _ => ⟨List.Pairwise.nil, fun _ _ f hf => (by cases hf), fun f hf => (by cases hf)⟩
  | f :: r, none, h => by
    rw [scanE] at h
    by_cases hv : validE f = 0
    · rw [if_pos hv] at h
      obtain ⟨h1, h2, h3⟩ := scan_srt h
      refine ⟨List.pairwise_cons.2 ⟨h2 _ rfl, h1⟩, fun p hp => (by cases hp), fun g hg => ?_⟩
      rcases List.mem_cons.1 hg with rfl | hg
      · exact hv
      · exact h3 g hg
    · rw [if_neg hv] at h; exact absurd h hv
  | f :: r, some p, h => by
    rw [scanE] at h
    by_cases hv : validE f = 0
    · rw [if_pos hv] at h
      by_cases hp : f.path = p
      · rw [if_pos hp] at h; cases h
      · rw [if_neg hp] at h
        by_cases hl : lessB f.path p = true
        · rw [if_pos hl] at h; cases h
        · rw [if_neg hl] at h
          obtain ⟨h1, h2, h3⟩ := scan_srt h
          have hpf : lessB p f.path = true := by
            cases hh : lessB p f.path
            · exact absurd (less_total (by simpa using hl) hh) hp
            · rfl
          refine ⟨List.pairwise_cons.2 ⟨h2 _ rfl, h1⟩, ?_, ?_⟩
          · rintro q hq g hg
            cases hq
            rcases List.mem_cons.1 hg with rfl | hg
            · exact hpf
            · exact less_trans hpf (h2 _ rfl g hg)
          · intro g hg
            rcases List.mem_cons.1 hg with rfl | hg
            · exact hv
            · exact h3 g hg
    · rw [if_neg hv] at h; exact absurd h hv

/-- The name of a directory. -/
def slash (p : ByteArray) : ByteArray := p ++ ⟨#[47]⟩
theorem slash_list (p : ByteArray) : (slash p).toList = p.toList ++ [47] := by
  unfold slash
  rw [ByteArray.toList_eq, ByteArray.toList_eq]
  simp [ByteArray.data_append]
/-- A file of a directory stands at the place of the search, if there is one. -/
theorem apart_search {l : List FileV} (hs : Srt l) (p : ByteArray) :
    (l.any fun g => dirB p g.path) = (match l[lowI (slash p) l]? with | some g => (slash p).toList.isPrefixOf g.path.toList | none => false) := by
  cases hr : l.any fun g => dirB p g.path
  · rw [List.any_eq_false] at hr
    split
    · rename_i g hg
      have := hr g (List.mem_of_getElem? hg)
      unfold dirB at this
      rw [slash_list]
      exact Eq.symm (by simpa only [Bool.not_eq_true] using this)
    · rfl
  · rw [List.any_eq_true] at hr
    obtain ⟨g, hg, hd⟩ := hr
    unfold dirB at hd
    rw [← slash_list, List.isPrefixOf_iff_prefix] at hd
    obtain ⟨r, hr⟩ := hd
    obtain ⟨j, hj⟩ := List.mem_iff_getElem?.1 hg
    have h1 : lessB g.path (slash p) = false := by unfold lessB; rw [← hr]; exact bl_prefix _ _
    have h2 : ¬ j < lowI (slash p) l := fun h => by
      have := (low_iff hs hj).2 h
      rw [h1] at this
      cases this
    obtain ⟨t, ht⟩ : ∃ t, l[lowI (slash p) l]? = some t := ⟨_, List.getElem?_eq_getElem (by have := (List.getElem?_eq_some_iff.1 hj).1; omega)⟩
    rw [ht]
    simp only []
    have h3 : lessB t.path (slash p) = false := by
      cases h : lessB t.path (slash p)
      · rfl
      · have := (low_iff hs ht).1 h; omega
    have h4 : lessB g.path t.path = false := by
      rcases Nat.lt_or_ge (lowI (slash p) l) j with h | h
      · exact less_asymm (srt_lt hs h ht hj)
      · have : j = lowI (slash p) l := by omega
        subst this
        rw [ht] at hj
        cases hj
        exact less_irrefl _
    symm
    rw [List.isPrefixOf_iff_prefix]
    unfold lessB at h3 h4
    rw [← hr] at h4
    exact bl_between h3 h4

/-- What a tree has at a path. -/
structure SideV where
  f : FileV
  there : Bool
deriving DecidableEq
def noFile : FileV := ⟨⟨#[]⟩, 0, []⟩
def lookE (l : List FileV) (p : ByteArray) : SideV := if hasB p l = true then ⟨(l[lowI p l]?).getD noFile, true⟩ else ⟨noFile, false⟩
theorem look_yes {l : List FileV} {p : ByteArray} {f : FileV} (h : hasB p l = true) (hf : l[lowI p l]? = some f) : lookE l p = ⟨f, true⟩ := by unfold lookE; rw [if_pos h, hf]; rfl
theorem look_no {l : List FileV} {p : ByteArray} (h : hasB p l = false) : lookE l p = ⟨noFile, false⟩ := by unfold lookE; rw [if_neg (by simp [h])]
end Go.Tr

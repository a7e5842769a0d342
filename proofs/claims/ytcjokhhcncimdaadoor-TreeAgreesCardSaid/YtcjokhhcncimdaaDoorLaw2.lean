/- What the reference's functions reckon, without the program. -/
import Derived.Test.YtcjokhhcncimdaaDoorLaws
namespace Go.Tr
open Go.PF Go.Lib Go.Op
set_option linter.unusedVariables false

/-- A list without the file with a path. -/
def withoutL (p : ByteArray) (l : List FileV) : List FileV := l.filter fun f => !decide (f.path = p)
theorem without_yes {p : ByteArray} {l : List FileV} {i : Nat} {f : FileV} (hf : l[i]? = some f) (hp : ¬ f.path = p) : withoutL p (l.take (i + 1)) = withoutL p (l.take i) ++ [f] := by
  unfold withoutL; rw [List.take_add_one, hf, List.filter_append]; simp [hp]
theorem without_no {p : ByteArray} {l : List FileV} {i : Nat} {f : FileV} (hf : l[i]? = some f) (hp : f.path = p) : withoutL p (l.take (i + 1)) = withoutL p (l.take i) := by
  unfold withoutL; rw [List.take_add_one, hf, List.filter_append]; simp [hp]
theorem without_done (p : ByteArray) (l : List FileV) : withoutL p (l.take l.length) = withoutL p l := by rw [List.take_length]
theorem without_len (p : ByteArray) (l : List FileV) : (withoutL p l).length ≤ l.length := List.length_filter_le _ _
theorem without_mem {p : ByteArray} {l : List FileV} {f : FileV} : f ∈ withoutL p l ↔ f ∈ l ∧ ¬ f.path = p := by unfold withoutL; simp
theorem without_srt {p : ByteArray} {l : List FileV} (h : Srt l) : Srt (withoutL p l) := List.Pairwise.filter _ h

/-- A list with a further file ahead of the first that is behind it. -/
def withL (f : FileV) : Bool → List FileV → List FileV
  | true, l => l
  | false, [] => [f]
  | false, g :: r => if lessB f.path g.path = true then f :: g :: r else g :: withL f false r
theorem with_put {f g : FileV} {l : List FileV} {i : Nat} (hg : l[i]? = some g) (hl : lessB f.path g.path = true) : withL f false (l.drop i) = f :: g :: withL f true (l.drop (i + 1)) := by
  rw [drop_cons hg]; simp [withL, hl]
theorem with_pass {f g : FileV} {l : List FileV} {i : Nat} (hg : l[i]? = some g) (hl : lessB f.path g.path = false) : withL f false (l.drop i) = g :: withL f false (l.drop (i + 1)) := by
  rw [drop_cons hg]; simp [withL, hl]
theorem with_rest {f g : FileV} {l : List FileV} {i : Nat} (hg : l[i]? = some g) : withL f true (l.drop i) = g :: withL f true (l.drop (i + 1)) := by
  rw [drop_cons hg]; simp [withL]
theorem with_len : ∀ (f : FileV) (l : List FileV), (withL f false l).length = l.length + 1
  | f, [] => rfl
  | f, g :: r => by
    rw [withL]
    split
    · simp
    · simp [with_len f r]
theorem with_mem : ∀ {f x : FileV} {l : List FileV}, x ∈ withL f false l ↔ x = f ∨ x ∈ l
  | f, x, [] => by simp [withL]
  | f, x, g :: r => by
    rw [withL]
    split
    · simp
    · rw [List.mem_cons, with_mem, List.mem_cons]
      constructor
      · rintro (h | h | h)
        · exact .inr (.inl h)
        · exact .inl h
        · exact .inr (.inr h)
      · rintro (h | h | h)
        · exact .inr (.inl h)
        · exact .inl h
        · exact .inr (.inr h)
theorem with_srt : ∀ {f : FileV} {l : List FileV}, Srt l → (∀ g ∈ l, ¬ g.path = f.path) → Srt (withL f false l)
  | f, [], _, _ => List.pairwise_singleton _ _
  | f, g :: r, h, hn => by
    obtain ⟨h1, h2⟩ := List.pairwise_cons.1 h
    rw [withL]
    split
    · rename_i hl
      refine List.pairwise_cons.2 ⟨fun x hx => ?_, h⟩
      rcases List.mem_cons.1 hx with rfl | hx
      · exact hl
      · exact less_trans hl (h1 x hx)
    · rename_i hl
      refine List.pairwise_cons.2 ⟨fun x hx => ?_, with_srt h2 fun y hy => hn y (List.mem_cons_of_mem _ hy)⟩
      rcases with_mem.1 hx with rfl | hx
      · cases hg : lessB g.path x.path
        · exact absurd (less_total (by simpa using hl) hg).symm (hn g (List.mem_cons_self ..))
        · rfl
      · exact h1 x hx

/-- A file put into a list. -/
def putL (f : FileV) (l : List FileV) : List FileV := withL f false (withoutL f.path l)
theorem put_srt {f : FileV} {l : List FileV} (h : Srt l) : Srt (putL f l) := with_srt (without_srt h) fun g hg => (without_mem.1 hg).2
theorem put_mem {f x : FileV} {l : List FileV} : x ∈ putL f l ↔ x = f ∨ x ∈ l ∧ ¬ x.path = f.path := by unfold putL; rw [with_mem, without_mem]
theorem put_path {f : FileV} {l : List FileV} {p : ByteArray} : (∃ x ∈ putL f l, x.path = p) ↔ p = f.path ∨ ∃ x ∈ l, x.path = p := by
  constructor
  · rintro ⟨x, hx, rfl⟩
    rcases put_mem.1 hx with rfl | ⟨hx, _⟩
    · exact .inl rfl
    · exact .inr ⟨x, hx, rfl⟩
  · rintro (rfl | ⟨x, hx, rfl⟩)
    · exact ⟨f, put_mem.2 (.inl rfl), rfl⟩
    · by_cases hp : x.path = f.path
      · exact ⟨f, put_mem.2 (.inl rfl), hp.symm⟩
      · exact ⟨x, put_mem.2 (.inr ⟨hx, hp⟩), rfl⟩

/-- The paths of two trees as the reference makes them. -/
def allL (a b : List FileV) : List FileV := b.foldl (fun all g => putL g all) a
theorem all_take {a b : List FileV} {i : Nat} {g : FileV} (h : b[i]? = some g) : allL a (b.take (i + 1)) = putL g (allL a (b.take i)) := by
  unfold allL; rw [List.take_add_one, h, List.foldl_append]; rfl
theorem allL_done (a b : List FileV) : allL a (b.take b.length) = allL a b := by rw [List.take_length]
theorem all_srt : ∀ {b a : List FileV}, Srt a → Srt (allL a b)
  | [], a, h => h
  | g :: b, a, h => all_srt (b := b) (put_srt h)
theorem all_path : ∀ {b a : List FileV} {p : ByteArray}, (∃ x ∈ allL a b, x.path = p) ↔ (∃ x ∈ a, x.path = p) ∨ ∃ x ∈ b, x.path = p
  | [], a, p => by simp [allL]
  | g :: b, a, p => by
    show (∃ x ∈ allL (putL g a) b, x.path = p) ↔ _
    rw [all_path, put_path]
    constructor
    · rintro ((rfl | h) | h)
      · exact .inr ⟨g, List.mem_cons_self .., rfl⟩
      · exact .inl h
      · obtain ⟨x, hx, rfl⟩ := h
        exact .inr ⟨x, List.mem_cons_of_mem _ hx, rfl⟩
    · rintro (h | ⟨x, hx, rfl⟩)
      · exact .inl (.inr h)
      · rcases List.mem_cons.1 hx with rfl | hx
        · exact .inl (.inl rfl)
        · exact .inr ⟨x, hx, rfl⟩
theorem put_len (g : FileV) (l : List FileV) : (putL g l).length ≤ l.length + 1 := by
  have := without_len g.path l
  unfold putL; rw [with_len]; omega
theorem all_len : ∀ (b a : List FileV), (allL a b).length ≤ a.length + b.length
  | [], a => by simp [allL]
  | g :: b, a => by
    show (allL (putL g a) b).length ≤ _
    have h1 := all_len b (putL g a)
    have h2 := put_len g a
    simp only [List.length_cons]; omega
def pathsL (a b : List FileV) : List ByteArray := (allL a b).map FileV.path

def SrtP (ps : List ByteArray) : Prop := ps.Pairwise fun p q => lessB p q = true
theorem srtP_ext : ∀ {l m : List ByteArray}, SrtP l → SrtP m → (∀ p, p ∈ l ↔ p ∈ m) → l = m
  | [], [], _, _, _ => rfl
  | [], y :: m, _, _, h => by have := (h y).2 (List.mem_cons_self ..); cases this
  | x :: l, [], _, _, h => by have := (h x).1 (List.mem_cons_self ..); cases this
  | x :: l, y :: m, hl, hm, h => by
    obtain ⟨l1, l2⟩ := List.pairwise_cons.1 hl
    obtain ⟨m1, m2⟩ := List.pairwise_cons.1 hm
    have e : x = y := by
      rcases List.mem_cons.1 ((h x).1 (List.mem_cons_self ..)) with e | e
      · exact e
      · rcases List.mem_cons.1 ((h y).2 (List.mem_cons_self ..)) with e2 | e2
        · exact e2.symm
        · have h1 := m1 x e
          have h2 := l1 y e2
          rw [less_asymm h1] at h2; cases h2
    subst e
    rw [srtP_ext l2 m2 fun p => ?_]
    constructor
    · intro hp
      rcases List.mem_cons.1 ((h p).1 (List.mem_cons_of_mem _ hp)) with rfl | e
      · have := l1 p hp; rw [less_irrefl] at this; cases this
      · exact e
    · intro hp
      rcases List.mem_cons.1 ((h p).2 (List.mem_cons_of_mem _ hp)) with rfl | e
      · have := m1 p hp; rw [less_irrefl] at this; cases this
      · exact e
theorem srt_map {l : List FileV} (h : Srt l) : SrtP (l.map FileV.path) := List.pairwise_map.2 h

theorem bothN_mem : ∀ (n : Nat) (a b : List FileV) (p : ByteArray), a.length + b.length ≤ n → (p ∈ bothN n a b ↔ (∃ x ∈ a, x.path = p) ∨ ∃ x ∈ b, x.path = p)
  | 0, a, b, p, h => by
    obtain rfl : a = [] := List.eq_nil_of_length_eq_zero (by omega)
    obtain rfl : b = [] := List.eq_nil_of_length_eq_zero (by omega)
    simp [bothN]
  | n + 1, [], [], p, h => by simp [bothN]
  | n + 1, f :: a, [], p, h => by
    have := bothN_mem n a [] p (by simp at h ⊢; omega)
    simp only [bothN, List.mem_cons, this]
    simp [eq_comm]
  | n + 1, [], g :: b, p, h => by
    have := bothN_mem n [] b p (by simp at h ⊢; omega)
    simp only [bothN, List.mem_cons, this]
    simp [eq_comm]
  | n + 1, f :: a, g :: b, p, h => by
    simp only [List.length_cons] at h
    simp only [bothN]
    split
    · rename_i he
      rw [List.mem_cons, bothN_mem n a b p (by omega)]
      simp only [List.mem_cons, exists_eq_or_imp, he]
      constructor
      · rintro (rfl | h | h)
        · exact .inl (.inl rfl)
        · exact .inl (.inr h)
        · exact .inr (.inr h)
      · rintro ((rfl | h) | (rfl | h))
        · exact .inl rfl
        · exact .inr (.inl h)
        · exact .inl rfl
        · exact .inr (.inr h)
    · split
      · rw [List.mem_cons, bothN_mem n a (g :: b) p (by simp; omega)]
        simp only [List.mem_cons, exists_eq_or_imp]
        constructor
        · rintro (rfl | h | h)
          · exact .inl (.inl rfl)
          · exact .inl (.inr h)
          · exact .inr h
        · rintro ((rfl | h) | h)
          · exact .inl rfl
          · exact .inr (.inl h)
          · exact .inr (.inr h)
      · rw [List.mem_cons, bothN_mem n (f :: a) b p (by simp; omega)]
        simp only [List.mem_cons, exists_eq_or_imp]
        constructor
        · rintro (rfl | h | h)
          · exact .inr (.inl rfl)
          · exact .inl h
          · exact .inr (.inr h)
        · rintro (h | (rfl | h))
          · exact .inr (.inl h)
          · exact .inl rfl
          · exact .inr (.inr h)
theorem bothN_srt : ∀ (n : Nat) (a b : List FileV), a.length + b.length ≤ n → Srt a → Srt b → SrtP (bothN n a b)
  | 0, a, b, _, _, _ => List.Pairwise.nil
  | n + 1, [], [], _, _, _ => List.Pairwise.nil
  | n + 1, f :: a, [], h, ha, hb => by
    simp only [List.length_cons] at h
    obtain ⟨h1, h2⟩ := List.pairwise_cons.1 ha
    refine List.pairwise_cons.2 ⟨fun p hp => ?_, bothN_srt n a [] (by simp at h ⊢; omega) h2 hb⟩
    rw [bothN_mem n a [] p (by simp at h ⊢; omega)] at hp
    rcases hp with ⟨x, hx, rfl⟩ | ⟨x, hx, rfl⟩
    · exact h1 x hx
    · cases hx
  | n + 1, [], g :: b, h, ha, hb => by
    simp only [List.length_cons] at h
    obtain ⟨h1, h2⟩ := List.pairwise_cons.1 hb
    refine List.pairwise_cons.2 ⟨fun p hp => ?_, bothN_srt n [] b (by simp at h ⊢; omega) ha h2⟩
    rw [bothN_mem n [] b p (by simp at h ⊢; omega)] at hp
    rcases hp with ⟨x, hx, rfl⟩ | ⟨x, hx, rfl⟩
    · cases hx
    · exact h1 x hx
  | n + 1, f :: a, g :: b, h, ha, hb => by
    simp only [List.length_cons] at h
    obtain ⟨a1, a2⟩ := List.pairwise_cons.1 ha
    obtain ⟨b1, b2⟩ := List.pairwise_cons.1 hb
    simp only [bothN]
    split
    · rename_i he
      refine List.pairwise_cons.2 ⟨fun p hp => ?_, bothN_srt n a b (by omega) a2 b2⟩
      rw [bothN_mem n a b p (by omega)] at hp
      rcases hp with ⟨x, hx, rfl⟩ | ⟨x, hx, rfl⟩
      · exact a1 x hx
      · rw [he]; exact b1 x hx
    · rename_i he
      split
      · rename_i hl
        refine List.pairwise_cons.2 ⟨fun p hp => ?_, bothN_srt n a (g :: b) (by simp; omega) a2 hb⟩
        rw [bothN_mem n a (g :: b) p (by simp; omega)] at hp
        rcases hp with ⟨x, hx, rfl⟩ | ⟨x, hx, rfl⟩
        · exact a1 x hx
        · rcases List.mem_cons.1 hx with rfl | hx
          · exact hl
          · exact less_trans hl (b1 x hx)
      · rename_i hl
        have hgf : lessB g.path f.path = true := by
          cases hh : lessB g.path f.path
          · exact absurd (less_total (by simpa using hl) hh) he
          · rfl
        refine List.pairwise_cons.2 ⟨fun p hp => ?_, bothN_srt n (f :: a) b (by simp; omega) ha b2⟩
        rw [bothN_mem n (f :: a) b p (by simp; omega)] at hp
        rcases hp with ⟨x, hx, rfl⟩ | ⟨x, hx, rfl⟩
        · rcases List.mem_cons.1 hx with rfl | hx
          · exact hgf
          · exact less_trans hgf (a1 x hx)
        · exact b1 x hx
theorem both_mem {a b : List FileV} {p : ByteArray} : p ∈ bothL a b ↔ (∃ x ∈ a, x.path = p) ∨ ∃ x ∈ b, x.path = p := bothN_mem _ _ _ _ (Nat.le_refl _)
theorem both_srt {a b : List FileV} (ha : Srt a) (hb : Srt b) : SrtP (bothL a b) := bothN_srt _ _ _ (Nat.le_refl _) ha hb
theorem paths_eq {a b : List FileV} (ha : Srt a) (hb : Srt b) : pathsL a b = bothL a b :=
  srtP_ext (srt_map (all_srt ha)) (both_srt ha hb) fun p => by
    rw [both_mem, ← all_path]
    unfold pathsL
    simp

/-- What the reference looks up. -/
def getE (l : List FileV) (p : ByteArray) : SideV := if atL p l < 0 then ⟨noFile, false⟩ else ⟨(l[(atL p l).toNat]?).getD noFile, true⟩
theorem get_look {l : List FileV} (p : ByteArray) (h : Srt l) : getE l p = lookE l p := by
  cases hb : hasB p l
  · rw [look_no hb]
    unfold getE
    rw [atL_not h hb]; rfl
  · obtain ⟨f, hf, hp⟩ := has_at hb
    rw [look_yes hb hf]
    unfold getE
    rw [atL_has h hb, if_neg (by omega)]
    simp [hf]
theorem get_none {l : List FileV} {p : ByteArray} (h : atL p l < 0) : getE l p = ⟨noFile, false⟩ := by unfold getE; rw [if_pos h]
theorem get_some {l : List FileV} {p : ByteArray} {i : Nat} {f : FileV} (h : atL p l = i) (hf : l[i]? = some f) : getE l p = ⟨f, true⟩ := by
  unfold getE; rw [if_neg (by omega), h]; simp [hf]
theorem at_bound (p : ByteArray) (l : List FileV) : -1 ≤ atL p l ∧ atL p l < l.length := by
  unfold atL
  split
  · rename_i i h
    have := (List.findIdx?_eq_some_iff_getElem.1 h).1
    omega
  · omega
end Go.Tr

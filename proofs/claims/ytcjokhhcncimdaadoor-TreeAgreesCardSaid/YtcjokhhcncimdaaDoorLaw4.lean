/- Where a file is put into a tree, and where it is struck; without the program. -/
import Derived.Test.YtcjokhhcncimdaaDoorLaw3
namespace Go.Tr
open Go.PF Go.Lib Go.Op
set_option linter.unusedVariables false
set_option linter.unusedSimpArgs false

/-- How many files stand at a path. -/
def atN (p : ByteArray) (l : List FileV) : Nat := if hasB p l = true then 1 else 0
/-- What stands ahead of a path's place is before it; what stands behind is behind it. -/
theorem low_take {p : ByteArray} {l : List FileV} (hs : Srt l) {x : FileV} (hx : x ∈ l.take (lowI p l)) : x ∈ l ∧ lessB x.path p = true := by
  obtain ⟨j, hj⟩ := List.mem_iff_getElem?.1 hx
  rw [List.getElem?_take] at hj
  split at hj
  · exact ⟨List.mem_of_getElem? hj, (low_iff hs hj).2 (by assumption)⟩
  · cases hj
theorem low_drop {p : ByteArray} {l : List FileV} (hs : Srt l) {x : FileV} (hx : x ∈ l.drop (lowI p l + atN p l)) : x ∈ l ∧ lessB p x.path = true := by
  obtain ⟨j, hj⟩ := List.mem_iff_getElem?.1 hx
  rw [List.getElem?_drop] at hj
  refine ⟨List.mem_of_getElem? hj, ?_⟩
  have h1 : lessB x.path p = false := by
    cases h : lessB x.path p
    · rfl
    · have := (low_iff hs hj).1 h; omega
  have h2 : ¬ p = x.path := by
    intro e
    have h3 := low_of_path hs hj e.symm
    have h4 := has_yes hs hj e.symm
    unfold atN at h3
    rw [if_pos h4] at h3
    omega
  cases h : lessB p x.path
  · exact absurd (less_total h h1) h2
  · rfl
theorem low_mem {p : ByteArray} {l : List FileV} (hs : Srt l) {x : FileV} (hx : x ∈ l) (hp : ¬ x.path = p) : x ∈ l.take (lowI p l) ∨ x ∈ l.drop (lowI p l + atN p l) := by
  obtain ⟨j, hj⟩ := List.mem_iff_getElem?.1 hx
  rcases Nat.lt_or_ge j (lowI p l) with h | h
  · exact .inl (List.mem_of_getElem? (i := j) (by rw [List.getElem?_take, if_pos h]; exact hj))
  · right
    have h2 : lowI p l + atN p l ≤ j := by
      unfold atN
      split
      · rename_i hb
        obtain ⟨f, hf, hfp⟩ := has_at hb
        rcases Nat.lt_or_ge (lowI p l) j with h3 | h3
        · omega
        · have : j = lowI p l := by omega
          subst this
          rw [hj] at hf
          cases hf
          exact absurd hfp hp
      · omega
    exact List.mem_of_getElem? (i := j - (lowI p l + atN p l)) (by rw [List.getElem?_drop, show lowI p l + atN p l + (j - (lowI p l + atN p l)) = j by omega]; exact hj)

theorem put_place {f : FileV} {l : List FileV} (hs : Srt l) : l.take (lowI f.path l) ++ f :: l.drop (lowI f.path l + atN f.path l) = putL f l := by
  refine srtF_ext ?_ (put_srt hs) fun x => ?_
  · refine List.pairwise_append.2 ⟨hs.sublist (List.take_sublist _ _), List.pairwise_cons.2 ⟨fun x hx => (low_drop hs hx).2, hs.sublist (List.drop_sublist _ _)⟩, fun x hx y hy => ?_⟩
    have h1 := (low_take hs hx).2
    rcases List.mem_cons.1 hy with rfl | hy
    · exact h1
    · exact less_trans h1 (low_drop hs hy).2
  · rw [put_mem, List.mem_append, List.mem_cons]
    constructor
    · rintro (h | rfl | h)
      · exact .inr ⟨(low_take hs h).1, less_ne (low_take hs h).2⟩
      · exact .inl rfl
      · exact .inr ⟨(low_drop hs h).1, fun e => less_ne (low_drop hs h).2 e.symm⟩
    · rintro (rfl | ⟨h1, h2⟩)
      · exact .inr (.inl rfl)
      · rcases low_mem hs h1 h2 with h | h
        · exact .inl h
        · exact .inr (.inr h)
theorem strike_place {p : ByteArray} {l : List FileV} (hs : Srt l) : l.take (lowI p l) ++ l.drop (lowI p l + atN p l) = withoutL p l := by
  refine srtF_ext ?_ (without_srt hs) fun x => ?_
  · refine List.pairwise_append.2 ⟨hs.sublist (List.take_sublist _ _), hs.sublist (List.drop_sublist _ _), fun x hx y hy => less_trans (low_take hs hx).2 (low_drop hs hy).2⟩
  · rw [without_mem, List.mem_append]
    constructor
    · rintro (h | h)
      · exact ⟨(low_take hs h).1, less_ne (low_take hs h).2⟩
      · exact ⟨(low_drop hs h).1, fun e => less_ne (low_drop hs h).2 e.symm⟩
    · rintro ⟨h1, h2⟩
      exact low_mem hs h1 h2
theorem put_new {f : FileV} {l : List FileV} (hs : Srt l) (h : hasB f.path l = false) : l.take (lowI f.path l) ++ f :: l.drop (lowI f.path l) = putL f l := by
  have := put_place (f := f) hs
  unfold atN at this
  rwa [h] at this
theorem put_old {f : FileV} {l : List FileV} (hs : Srt l) (h : hasB f.path l = true) : l.set (lowI f.path l) f = putL f l := by
  have := put_place (f := f) hs
  unfold atN at this
  rw [if_pos h] at this
  rw [← this]
  obtain ⟨g, hg, _⟩ := has_at h
  exact List.set_eq_take_append_cons_drop.trans (if_pos (List.getElem?_eq_some_iff.1 hg).1)
theorem strike_old {p : ByteArray} {l : List FileV} (hs : Srt l) (h : hasB p l = true) : l.take (lowI p l) ++ l.drop (lowI p l + 1) = withoutL p l := by
  have := strike_place (p := p) hs
  unfold atN at this
  rwa [if_pos h] at this
theorem strike_none {p : ByteArray} {l : List FileV} (hs : Srt l) (h : hasB p l = false) : withoutL p l = l := by
  have := strike_place (p := p) hs
  unfold atN at this
  rw [if_neg (by simp [h]), Nat.add_zero, List.take_append_drop] at this
  exact this.symm

/-- What Put and Remove return. -/
def putE (l : List FileV) (f : FileV) : List FileV × Int := if checkE l = 0 then (if validE f = 0 then (if checkE (putL f l) = 0 then (putL f l, 0) else ([], checkE (putL f l))) else ([], validE f)) else ([], checkE l)
def removeE (l : List FileV) (p : ByteArray) : List FileV × Int := if checkE l = 0 then (if hasB p l = true then (withoutL p l, 0) else ([], 7)) else ([], checkE l)

theorem has_put {f : FileV} {l : List FileV} (hs : Srt l) : hasB f.path (putL f l) = true := by
  obtain ⟨i, hi⟩ := List.mem_iff_getElem?.1 (put_mem.2 (.inl rfl) : f ∈ putL f l)
  exact has_yes (put_srt hs) hi rfl
theorem at_put {f : FileV} {l : List FileV} (hs : Srt l) : (putL f l)[lowI f.path (putL f l)]? = some f := by
  obtain ⟨i, hi⟩ := List.mem_iff_getElem?.1 (put_mem.2 (.inl rfl) : f ∈ putL f l)
  rw [low_of_path (put_srt hs) hi rfl]
  exact hi
theorem strike_put {f : FileV} {l : List FileV} (hs : Srt l) : withoutL f.path (putL f l) = withoutL f.path l := by
  refine srtF_ext (without_srt (put_srt hs)) (without_srt hs) fun x => ?_
  rw [without_mem, put_mem, without_mem]
  constructor
  · rintro ⟨rfl | h, hn⟩
    · exact absurd rfl hn
    · exact h
  · rintro ⟨h, hn⟩
    exact ⟨.inr ⟨h, hn⟩, hn⟩
end Go.Tr

/- What a merge with the base, or of a tree with itself, yields; without the program. -/
import Derived.Test.YtcjokhhcncimdaaDoorLaw2
namespace Go.Tr
open Go.PF Go.Lib Go.Op
set_option linter.unusedVariables false
set_option linter.unusedSimpArgs false

theorem srtF_ext : ∀ {l m : List FileV}, Srt l → Srt m → (∀ p, p ∈ l ↔ p ∈ m) → l = m
  | [], [], _, _, _ => rfl
  | [], y :: m, _, _, h => by have := (h y).2 (List.mem_cons_self ..); cases this
  | x :: l, [], _, _, h => by have := (h x).1 (List.mem_cons_self ..); cases this
  | x :: l, y :: m, hl, hm, h => by
    obtain ⟨l1, l2⟩ := List.pairwise_cons.1 hl
    obtain ⟨m1, m2⟩ := List.pairwise_cons.1 hm
    have e : x = y := by
      rcases List.mem_cons.1 ((h x).1 (List.mem_cons_self ..)) with e | e
      · exact e
      · rcases List.mem_cons.1 ((h y).2 (List.mem_cons_self ..)) with e2 | e2
        · exact e2.symm
        · have h1 := m1 x e
          have h2 := l1 y e2
          rw [less_asymm h1] at h2; cases h2
    subst e
    rw [srtF_ext l2 m2 fun p => ?_]
    constructor
    · intro hp
      rcases List.mem_cons.1 ((h p).1 (List.mem_cons_of_mem _ hp)) with rfl | e
      · have := l1 p hp; rw [less_irrefl] at this; cases this
      · exact e
    · intro hp
      rcases List.mem_cons.1 ((h p).2 (List.mem_cons_of_mem _ hp)) with rfl | e
      · have := m1 p hp; rw [less_irrefl] at this; cases this
      · exact e

theorem look_path {l : List FileV} {p : ByteArray} (h : (lookE l p).there = true) : (lookE l p).f.path = p := by
  cases hb : hasB p l
  · rw [look_no hb] at h; cases h
  · obtain ⟨f, hf, hp⟩ := has_at hb
    rw [look_yes hb hf]; exact hp
theorem look_of_mem {l : List FileV} (hs : Srt l) {f : FileV} (hf : f ∈ l) : lookE l f.path = ⟨f, true⟩ := by
  obtain ⟨i, hi⟩ := List.mem_iff_getElem?.1 hf
  exact look_yes (has_yes hs hi rfl) (by rw [low_of_path hs hi rfl, hi])
theorem look_not {l : List FileV} {p : ByteArray} (h : (lookE l p).there = false) : lookE l p = ⟨noFile, false⟩ := by
  cases hb : hasB p l
  · exact look_no hb
  · obtain ⟨f, hf, hp⟩ := has_at hb
    rw [look_yes hb hf] at h; cases h

/-- What some function of paths keeps of a list of paths. -/
def keepL (g : ByteArray → SideV) (ps : List ByteArray) : List FileV := ps.filterMap fun p => if (g p).there = true then some (g p).f else none
theorem keep_mem {g : ByteArray → SideV} {ps : List ByteArray} {f : FileV} : f ∈ keepL g ps ↔ ∃ p ∈ ps, g p = ⟨f, true⟩ := by
  unfold keepL
  rw [List.mem_filterMap]
  constructor
  · rintro ⟨p, hp, h⟩
    refine ⟨p, hp, ?_⟩
    split at h
    · rename_i ht
      cases h
      cases hg : g p
      rw [hg] at ht
      cases ht
      rfl
    · cases h
  · rintro ⟨p, hp, h⟩
    exact ⟨p, hp, by rw [h]; rfl⟩
theorem keep_srt {g : ByteArray → SideV} (hg : ∀ p, (g p).there = true → (g p).f.path = p) : ∀ {ps : List ByteArray}, SrtP ps → Srt (keepL g ps)
  | [], _ => List.Pairwise.nil
  | p :: ps, h => by
    obtain ⟨h1, h2⟩ := List.pairwise_cons.1 h
    have ih := keep_srt hg h2
    by_cases ht : (g p).there = true
    · have e : keepL g (p :: ps) = (g p).f :: keepL g ps := by unfold keepL; rw [List.filterMap_cons_some (b := (g p).f) (by rw [if_pos ht])]
      rw [e]
      refine List.pairwise_cons.2 ⟨fun x hx => ?_, ih⟩
      obtain ⟨q, hq, hx'⟩ := keep_mem.1 hx
      have e1 := hg p ht
      have e2 := hg q (by rw [hx'])
      rw [hx'] at e2
      rw [e1, e2]
      exact h1 q hq
    · have e : keepL g (p :: ps) = keepL g ps := by unfold keepL; rw [List.filterMap_cons_none (by rw [if_neg ht])]
      rw [e]
      exact ih
theorem keep_all {a : List FileV} {ps : List ByteArray} (ha : Srt a) (hp : SrtP ps) (hall : ∀ f ∈ a, f.path ∈ ps) : keepL (lookE a) ps = a := by
  refine srtF_ext (keep_srt (fun p h => look_path h) hp) ha fun f => ?_
  rw [keep_mem]
  constructor
  · rintro ⟨p, _, h⟩
    have := look_mem (l := a) (p := p) (by rw [h])
    rw [h] at this
    exact this
  · intro hf
    exact ⟨f.path, hall f hf, look_of_mem ha hf⟩
theorem out_keep (base a b : List FileV) (ps : List ByteArray) : outL base a b ps = keepL (fun p => (takenAt base a b p).1) ps := rfl

theorem taken_bab (base a : List FileV) (p : ByteArray) : takenAt base a base p = (lookE a p, false) := by unfold takenAt takeE; rw [if_pos (.inr rfl)]
theorem taken_baa (base a : List FileV) (p : ByteArray) : takenAt base a a p = (lookE a p, false) := by unfold takenAt takeE; rw [if_pos (.inl rfl)]
theorem taken_bba (base a : List FileV) (p : ByteArray) : takenAt base base a p = (lookE a p, false) := by
  unfold takenAt takeE
  by_cases h : lookE base p = lookE a p
  · rw [if_pos (.inl h), h]
  · rw [if_neg (by rintro (e | e) <;> exact h e), if_pos rfl]
theorem conf_none {base a b : List FileV} (h : ∀ p, (takenAt base a b p).2 = false) (ps : List ByteArray) : confL base a b ps = [] := by
  unfold confL
  rw [List.filter_eq_nil_iff]
  intro p _
  simp [h p]
theorem out_look {base a b x : List FileV} (h : ∀ p, takenAt base a b p = (lookE x p, false)) {ps : List ByteArray} (hx : Srt x) (hp : SrtP ps) (hall : ∀ f ∈ x, f.path ∈ ps) : outL base a b ps = x := by
  rw [out_keep]
  have : (fun p => (takenAt base a b p).1) = lookE x := funext fun p => by rw [h p]
  rw [this]
  exact keep_all hx hp hall
end Go.Tr

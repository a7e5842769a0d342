/- The changes of Diff lead from one tree to the other; without the program. -/
import Derived.Test.YtcjokhhcncimdaaDoorLaw5
import Derived.Test.YtcjokhhcncimdaaDoorW8
namespace Go.Tr
open Go.PF Go.Lib Go.Op Go.Proofs.YtcjokhhcncimdaaDoor
set_option linter.unusedVariables false
set_option linter.unusedSimpArgs false

theorem look_iff {l : List FileV} (hs : Srt l) {f : FileV} : f ∈ l ↔ lookE l f.path = ⟨f, true⟩ := by
  refine ⟨look_of_mem hs, fun h => ?_⟩
  have := look_mem (l := l) (p := f.path) (by rw [h])
  rwa [h] at this
theorem look_eq_of {l m : List FileV} (hl : Srt l) (hm : Srt m) {q : ByteArray} (h : ∀ f : FileV, f.path = q → (f ∈ l ↔ f ∈ m)) : lookE l q = lookE m q := by
  cases h1 : (lookE l q).there
  · cases h2 : (lookE m q).there
    · rw [look_not h1, look_not h2]
    · have hp := look_path h2
      have := look_of_mem hl ((h _ hp).2 (look_mem h2))
      rw [hp] at this
      rw [this] at h1; cases h1
  · have hp := look_path h1
    have h3 := look_of_mem hm ((h _ hp).1 (look_mem h1))
    rw [hp] at h3
    have h4 := look_of_mem hl (look_mem h1)
    rw [hp] at h4
    rw [h3, h4]
theorem look_ext {l m : List FileV} (hl : Srt l) (hm : Srt m) (h : ∀ q, lookE l q = lookE m q) : l = m :=
  srtF_ext hl hm fun f => by rw [look_iff hl, look_iff hm, h]
theorem look_without {l : List FileV} (hs : Srt l) {p q : ByteArray} (h : ¬ q = p) : lookE (withoutL p l) q = lookE l q :=
  look_eq_of (without_srt hs) hs fun f hf => by
    rw [without_mem]
    exact ⟨fun e => e.1, fun e => ⟨e, fun e2 => h (hf.symm.trans e2)⟩⟩
theorem look_struck {l : List FileV} {p : ByteArray} : lookE (withoutL p l) p = ⟨noFile, false⟩ := by
  refine look_not ?_
  cases h : (lookE (withoutL p l) p).there
  · rfl
  · exact absurd (look_path h) (without_mem.1 (look_mem h)).2
theorem look_put {l : List FileV} (hs : Srt l) {f : FileV} {q : ByteArray} (h : ¬ q = f.path) : lookE (putL f l) q = lookE l q :=
  look_eq_of (put_srt hs) hs fun g hg => by
    rw [put_mem]
    constructor
    · rintro (e | e)
      · exact absurd (by rw [← hg, e]) h
      · exact e.1
    · intro e
      exact .inr ⟨e, fun e2 => h (hg.symm.trans e2)⟩
theorem look_laid {l : List FileV} (hs : Srt l) {f : FileV} : lookE (putL f l) f.path = ⟨f, true⟩ := look_of_mem (put_srt hs) (put_mem.2 (.inl rfl))
theorem has_look (q : ByteArray) (l : List FileV) : hasB q l = (lookE l q).there := by
  cases h : hasB q l
  · rw [look_no h]
  · obtain ⟨f, hf, _⟩ := has_at h
    rw [look_yes h hf]

theorem step_diff {a b l : List FileV} {x : ByteArray} {c : ChangeV} (hs : Srt l) (hx : lookE l x = lookE a x) (hc : changeAt a b x = some c) :
    ∃ m, stepE l c = (m, 0) ∧ Srt m ∧ lookE m x = lookE b x ∧ ∀ q, ¬ q = x → lookE m q = lookE l q := by
  have hne : ¬ lookE a x = lookE b x := fun e => by rw [change_none e] at hc; cases hc
  rw [change_some hne] at hc
  have hh := has_look x l
  rw [hx] at hh
  cases hb : (lookE b x).there
  · have hb0 := look_not hb
    have ha : (lookE a x).there = true := by
      cases h : (lookE a x).there
      · exact absurd ((look_not h).trans hb0.symm) hne
      · rfl
    rw [if_pos hb] at hc
    cases hc
    have hp := look_path ha
    refine ⟨withoutL x l, step_del ?_ rfl (by rw [hh, ha]) (by rw [hx]), without_srt hs, by rw [look_struck, hb0], fun q hq => look_without hs hq⟩
    unfold fitsB
    rw [if_neg (by show ¬ (1 : Int) = 0; decide), if_pos rfl]
    simp [hp, hb0]
  · have hpb := look_path hb
    have hlast : lookE (putL (lookE b x).f l) x = lookE b x := by
      have h := look_laid hs (f := (lookE b x).f)
      rw [hpb] at h
      rw [h]
      cases hX : lookE b x with
      | mk f t => rw [hX] at hb; cases hb; rfl
    rw [if_neg (by simp [hb])] at hc
    cases ha : (lookE a x).there
    · have ha0 := look_not ha
      rw [if_neg (by simp [ha])] at hc
      cases hc
      refine ⟨putL (lookE b x).f l, step_put ?_ (by show ¬ (0 : Int) = 1; decide) (.inl ⟨rfl, by rw [hh, ha]⟩), put_srt hs, hlast, fun q hq => look_put hs (by rw [hpb]; exact hq)⟩
      unfold fitsB
      rw [if_pos rfl]
      simp [hpb, ha0]
    · have hpa := look_path ha
      rw [if_pos ha] at hc
      cases hc
      refine ⟨putL (lookE b x).f l, step_put ?_ (by show ¬ (2 : Int) = 1; decide) (.inr ⟨by show ¬ (2 : Int) = 0; decide, by rw [hh, ha], by rw [hx]⟩), put_srt hs, hlast, fun q hq => look_put hs (by rw [hpb]; exact hq)⟩
      unfold fitsB
      rw [if_neg (by show ¬ (2 : Int) = 0; decide), if_neg (by show ¬ (2 : Int) = 1; decide), if_pos rfl]
      simp [hpa, hpb]

theorem patch_diff {a b : List FileV} (hb : Srt b) : ∀ (ps : List ByteArray) (l : List FileV), SrtP ps → Srt l → (∀ x ∈ ps, lookE l x = lookE a x) → (∀ q, ¬ q ∈ ps → lookE l q = lookE b q) → patchL (diffL a b ps) l = (b, 0)
  | [], l, _, hl, _, h2 => by
    have : l = b := look_ext hl hb fun q => h2 q (by simp)
    subst this; rfl
  | x :: r, l, hp, hl, h1, h2 => by
    obtain ⟨p1, p2⟩ := List.pairwise_cons.1 hp
    have hx := h1 x (List.mem_cons_self ..)
    cases hc : changeAt a b x with
    | none =>
      have he : lookE a x = lookE b x := by
        by_cases h : lookE a x = lookE b x
        · exact h
        · rw [change_some h] at hc; cases hc
      have hd : diffL a b (x :: r) = diffL a b r := by unfold diffL; rw [List.filterMap_cons_none hc]
      rw [hd]
      refine patch_diff hb r l p2 hl (fun y hy => h1 y (List.mem_cons_of_mem _ hy)) fun q hq => ?_
      by_cases e : q = x
      · subst e; rw [hx, he]
      · exact h2 q (by simp [e, hq])
    | some c =>
      obtain ⟨m, hs, hm, hmx, hmq⟩ := step_diff hl hx hc
      have hd : diffL a b (x :: r) = c :: diffL a b r := by unfold diffL; rw [List.filterMap_cons_some hc]
      rw [hd, patchL, hs, if_pos rfl]
      refine patch_diff hb r m p2 hm (fun y hy => ?_) fun q hq => ?_
      · rw [hmq y (fun e => by subst e; exact less_ne (p1 _ hy) rfl)]
        exact h1 y (List.mem_cons_of_mem _ hy)
      · by_cases e : q = x
        · subst e; exact hmx
        · rw [hmq q e]; exact h2 q (by simp [e, hq])

theorem look_out {a b : List FileV} {q : ByteArray} (h : ¬ q ∈ bothL a b) : lookE a q = lookE b q := by
  rw [both_mem] at h
  have h1 : (lookE a q).there = false := by
    cases e : (lookE a q).there
    · rfl
    · exact absurd (.inl ⟨_, look_mem e, look_path e⟩) h
  have h2 : (lookE b q).there = false := by
    cases e : (lookE b q).there
    · rfl
    · exact absurd (.inr ⟨_, look_mem e, look_path e⟩) h
  rw [look_not h1, look_not h2]
theorem patch_leads {a b : List FileV} (ha : checkE a = 0) (hb : checkE b = 0) : patchE a (diffL a b (bothL a b)) = (b, 0) :=
  patchE_4 ha (patch_diff (check_srt hb) _ _ (both_srt (check_srt ha) (check_srt hb)) (check_srt ha) (fun _ _ => rfl) fun q hq => look_out hq) hb
theorem diff_self (a : List FileV) : ∀ ps : List ByteArray, diffL a a ps = []
  | [] => rfl
  | x :: r => by unfold diffL; rw [List.filterMap_cons_none (change_none rfl)]; exact diff_self a r

theorem diff_mem {a b : List FileV} {ps : List ByteArray} {c : ChangeV} (h : c ∈ diffL a b ps) : ∃ p ∈ ps, changeAt a b p = some c := List.mem_filterMap.1 h
theorem change_path {a b : List FileV} {p : ByteArray} {c : ChangeV} (h : changeAt a b p = some c) : c.path = p := by
  unfold changeAt at h
  split at h
  · cases h
  · cases h; rfl
theorem change_new {a b : List FileV} {p : ByteArray} {c : ChangeV} (h : changeAt a b p = some c) : c.new = (lookE b p).f := by
  unfold changeAt at h
  split at h
  · cases h
  · cases h; rfl
theorem diff_pair {a b : List FileV} {ps : List ByteArray} (h : SrtP ps) : (diffL a b ps).Pairwise fun c d => lessB c.path d.path = true := by
  refine List.Pairwise.filterMap (R := fun p q => lessB p q = true) (changeAt a b) (fun p q hpq c hc d hd => ?_) h
  rw [change_path hc, change_path hd]; exact hpq
theorem new_or {a b : List FileV} {ps : List ByteArray} {c : ChangeV} (h : c ∈ diffL a b ps) : c.new ∈ b ∨ c.new = noFile := by
  obtain ⟨p, _, hp⟩ := diff_mem h
  rw [change_new hp]
  cases e : (lookE b p).there
  · exact .inr (by rw [look_not e])
  · exact .inl (look_mem e)
end Go.Tr

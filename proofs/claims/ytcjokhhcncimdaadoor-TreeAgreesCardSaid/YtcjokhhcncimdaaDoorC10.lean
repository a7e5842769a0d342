/- The walk of TreeAgrees. -/
import Derived.Test.YtcjokhhcncimdaaDoorLaw6
import Derived.Test.YtcjokhhcncimdaaDoorW34
import Derived.Test.YtcjokhhcncimdaaDoorW30
import Derived.Test.YtcjokhhcncimdaaDoorC4
import Derived.Test.YtcjokhhcncimdaaDoorG1
set_option linter.unusedVariables false
set_option linter.unusedSimpArgs false
namespace Go.Proofs.YtcjokhhcncimdaaDoor
open Go.RowKit Go.PF Go.Tr

theorem both_comm {a b : List FileV} (ha : Srt a) (hb : Srt b) : bothL a b = bothL b a :=
  srtP_ext (both_srt ha hb) (both_srt hb ha) fun p => by rw [both_mem, both_mem, or_comm]
theorem take_conf (x y z : SideV) : (takeE x y z).2 = (takeE x z y).2 := by
  unfold takeE
  by_cases h1 : y = z
  · subst h1; simp
  · have h1' : ¬ z = y := fun e => h1 e.symm
    by_cases h2 : x = z
    · subst h2; simp [h1, h1']
    · by_cases h3 : x = y
      · subst h3; simp [h1, h1']
      · simp [h1, h1', h2, h3]
theorem take_there (x y z : SideV) : (takeE x y z).1.there = (takeE x z y).1.there := by
  unfold takeE
  by_cases h1 : y = z
  · subst h1; simp
  · have h1' : ¬ z = y := fun e => h1 e.symm
    by_cases h2 : x = z
    · subst h2; simp [h1, h1']
    · by_cases h3 : x = y
      · subst h3; simp [h1, h1', h2]
      · simp only [h1, h1', h2, h3, or_self, if_false]
        cases hy : y.there <;> cases hz : z.there <;> simp [hy, hz]
theorem take_side (x y z : SideV) (h : (takeE x y z).2 = false) : (takeE x y z).1 = (takeE x z y).1 := by
  unfold takeE at h ⊢
  by_cases h1 : y = z
  · subst h1; simp
  · have h1' : ¬ z = y := fun e => h1 e.symm
    by_cases h2 : x = z
    · subst h2; simp [h1, h1']
    · by_cases h3 : x = y
      · subst h3; simp [h1, h1', h2]
      · simp [h1, h2, h3] at h
theorem conf_comm (base a b : List FileV) (ps : List ByteArray) : confL base a b ps = confL base b a ps := by
  unfold confL takenAt
  congr 1
  funext p
  exact take_conf _ _ _
theorem taken_path {base a b : List FileV} {p : ByteArray} (h : (takenAt base a b p).1.there = true) : (takenAt base a b p).1.f.path = p := by
  unfold takenAt at h ⊢
  rcases take_one (lookE base p) (lookE a p) (lookE b p) with e | e
  · rw [e] at h ⊢; exact look_path h
  · rw [e] at h ⊢; exact look_path h
theorem out_paths (base a b : List FileV) : ∀ ps : List ByteArray, (outL base a b ps).map (·.path) = ps.filter fun p => (takenAt base a b p).1.there
  | [] => rfl
  | p :: r => by
    have ih := out_paths base a b r
    unfold outL at ih ⊢
    rw [List.filterMap_cons, List.filter_cons]
    cases h : (takenAt base a b p).1.there
    · simpa using ih
    · simp only [if_true, List.map_cons]
      rw [taken_path h, ih]
theorem out_valid {base a b : List FileV} (ha : checkE a = 0) (hb : checkE b = 0) {ps : List ByteArray} : ∀ f ∈ outL base a b ps, validE f = 0 := fun f hf => by
  have hv : ∀ {l : List FileV}, checkE l = 0 → f ∈ l → validE f = 0 := fun {l} h hf => by
    unfold checkE at h
    split at h
    · cases h
    · split at h
      · exact (scan_srt (by assumption)).2.2 f hf
      · exact absurd h (by assumption)
  rcases outL_mem hf with h | h
  · exact hv ha h
  · exact hv hb h
/-- What a list of valid files comes to hangs on its paths alone. -/
theorem scan_paths : ∀ {l m : List FileV} (o : Option ByteArray), (∀ f ∈ l, validE f = 0) → (∀ f ∈ m, validE f = 0) → l.map (·.path) = m.map (·.path) → scanE o l = scanE o m
  | [], [], _, _, _, _ => rfl
  | [], _ :: _, _, _, _, h => by cases h
  | _ :: _, [], _, _, _, h => by cases h
  | f :: l, g :: m, o, hl, hm, h => by
    simp only [List.map_cons, List.cons.injEq] at h
    obtain ⟨h1, h2⟩ := h
    have ih := scan_paths (some g.path) (fun x hx => hl x (List.mem_cons_of_mem _ hx)) (fun x hx => hm x (List.mem_cons_of_mem _ hx)) h2
    cases o with
    | none => rw [scanE, scanE, if_pos (hl f (List.mem_cons_self ..)), if_pos (hm g (List.mem_cons_self ..)), h1, ih]
    | some p => rw [scanE, scanE, if_pos (hl f (List.mem_cons_self ..)), if_pos (hm g (List.mem_cons_self ..)), h1, ih]
theorem any_map {α β : Type} (f : α → β) (g : β → Bool) (l : List α) : (l.any fun x => g (f x)) = (l.map f).any g := by rw [List.any_map]; rfl
theorem apart_paths {l m : List FileV} (h : l.map (·.path) = m.map (·.path)) : apartE l = apartE m := by
  have e : ∀ l : List FileV, (l.any fun f => l.any fun g => dirB f.path g.path) = (l.map (·.path)).any fun p => (l.map (·.path)).any fun q => dirB p q := fun l => by
    rw [← any_map (fun f : FileV => f.path) (fun p => (l.map (·.path)).any fun q => dirB p q)]
    congr 1
    funext f
    rw [← any_map (fun f : FileV => f.path) (fun q => dirB f.path q)]
  unfold apartE
  rw [e l, e m, h]
theorem check_paths {l m : List FileV} (hl : ∀ f ∈ l, validE f = 0) (hm : ∀ f ∈ m, validE f = 0) (h : l.map (·.path) = m.map (·.path)) : checkE l = checkE m := by
  have hlen : l.length = m.length := by have := congrArg List.length h; simpa using this
  unfold checkE
  rw [hlen, scan_paths none hl hm h, apart_paths h]
theorem out_check {base a b : List FileV} (ha : checkE a = 0) (hb : checkE b = 0) (ps : List ByteArray) : checkE (outL base a b ps) = checkE (outL base b a ps) := by
  refine check_paths (out_valid ha hb) (out_valid hb ha) ?_
  rw [out_paths, out_paths]
  congr 1
  funext p
  exact take_there _ _ _
theorem no_conf {base a b : List FileV} (h : confL base a b (bothL a b) = []) (p : ByteArray) : (takenAt base a b p).2 = false := by
  by_cases hp : p ∈ bothL a b
  · unfold confL at h
    cases e : (takenAt base a b p).2
    · rfl
    · have : p ∈ (bothL a b).filter fun p => (takenAt base a b p).2 := List.mem_filter.2 ⟨hp, e⟩
      rw [h] at this; cases this
  · have := look_out hp
    unfold takenAt takeE
    rw [if_pos (.inl this)]
theorem out_comm {base a b : List FileV} (h : ∀ p, (takenAt base a b p).2 = false) (ps : List ByteArray) : outL base a b ps = outL base b a ps := by
  unfold outL
  congr 1
  funext p
  have : (takenAt base a b p).1 = (takenAt base b a p).1 := take_side _ _ _ (h p)
  rw [this]

theorem look_taken {base a b : List FileV} (hs : Srt (outL base a b (bothL a b))) (q : ByteArray) : lookE (outL base a b (bothL a b)) q = (takenAt base a b q).1 := by
  cases h : (takenAt base a b q).1.there
  · have h0 : (takenAt base a b q).1 = ⟨noFile, false⟩ := by
      unfold takenAt at h ⊢
      rcases take_one (lookE base q) (lookE a q) (lookE b q) with e | e
      · rw [e] at h ⊢; exact look_not h
      · rw [e] at h ⊢; exact look_not h
    rw [h0]
    refine look_not ?_
    cases e : (lookE (outL base a b (bothL a b)) q).there
    · rfl
    · have hm := look_mem e
      have hp := look_path e
      have : q ∈ (outL base a b (bothL a b)).map (·.path) := List.mem_map.2 ⟨_, hm, hp⟩
      rw [out_paths] at this
      have := (List.mem_filter.1 this).2
      rw [h] at this; cases this
  · have hq : q ∈ bothL a b := by
      rcases Classical.em (q ∈ bothL a b) with hq | hq
      · exact hq
      · have ho := look_out hq
        rw [both_mem] at hq
        unfold takenAt at h
        rcases take_one (lookE base q) (lookE a q) (lookE b q) with e | e
        · rw [e] at h; exact absurd (.inl ⟨_, look_mem h, look_path h⟩) hq
        · rw [e] at h; exact absurd (.inr ⟨_, look_mem h, look_path h⟩) hq
    have hmem : (takenAt base a b q).1.f ∈ outL base a b (bothL a b) := by
      unfold outL
      exact List.mem_filterMap.2 ⟨q, hq, by rw [if_pos h]⟩
    have := look_of_mem hs hmem
    rw [taken_path h] at this
    rw [this]
    cases hX : (takenAt base a b q).1 with
    | mk f t => rw [hX] at h; cases h; rfl

theorem patch_gen {a b t : List FileV} (ht : Srt t) : ∀ (ps : List ByteArray) (l : List FileV), SrtP ps → Srt l → (∀ x ∈ ps, (lookE a x = lookE b x → lookE l x = lookE t x) ∧ (¬ lookE a x = lookE b x → lookE l x = lookE a x ∧ lookE t x = lookE b x)) →
    (∀ q, ¬ q ∈ ps → lookE l q = lookE t q) → patchL (diffL a b ps) l = (t, 0)
  | [], l, _, hl, _, h2 => by
    have : l = t := look_ext hl ht fun q => h2 q (by simp)
    subst this; rfl
  | x :: r, l, hp, hl, h1, h2 => by
    obtain ⟨p1, p2⟩ := List.pairwise_cons.1 hp
    have hx := h1 x (List.mem_cons_self ..)
    by_cases he : lookE a x = lookE b x
    · have hd : diffL a b (x :: r) = diffL a b r := by unfold diffL; rw [List.filterMap_cons_none (change_none he)]
      rw [hd]
      refine patch_gen ht r l p2 hl (fun y hy => h1 y (List.mem_cons_of_mem _ hy)) fun q hq => ?_
      by_cases e : q = x
      · subst e; exact hx.1 he
      · exact h2 q (by simp [e, hq])
    · obtain ⟨hxa, hxt⟩ := hx.2 he
      obtain ⟨c, hc⟩ : ∃ c, changeAt a b x = some c := ⟨_, change_some he⟩
      obtain ⟨m, hs, hm, hmx, hmq⟩ := step_diff hl hxa hc
      have hd : diffL a b (x :: r) = c :: diffL a b r := by unfold diffL; rw [List.filterMap_cons_some hc]
      rw [hd, patchL, hs, if_pos rfl]
      refine patch_gen ht r m p2 hm (fun y hy => ?_) fun q hq => ?_
      · rw [hmq y (fun e => by subst e; exact less_ne (p1 _ hy) rfl)]
        exact h1 y (List.mem_cons_of_mem _ hy)
      · by_cases e : q = x
        · subst e; rw [hmx, hxt]
        · rw [hmq q e]; exact h2 q (by simp [e, hq])

/-- Is a change's file not the same in the two trees? -/
def apartB (a b : List FileV) (p : ByteArray) : Bool := decide (¬ lookE a p = lookE b p)
theorem diff_filter (a b : List FileV) (g : ByteArray → Bool) : ∀ ps : List ByteArray, (diffL a b ps).filter (fun c => g c.path) = diffL a b (ps.filter g)
  | [] => rfl
  | x :: r => by
    have ih := diff_filter a b g r
    unfold diffL at ih ⊢
    cases hc : changeAt a b x with
    | none =>
      rw [List.filterMap_cons_none hc, ih, List.filter_cons]
      split
      · rw [List.filterMap_cons_none hc]
      · rfl
    | some c =>
      rw [List.filterMap_cons_some hc, List.filter_cons, List.filter_cons, change_path hc]
      split
      · rw [List.filterMap_cons_some hc, ih]
      · exact ih

theorem patch_agrees {base a b : List FileV} (h0 : checkE base = 0) (ha : checkE a = 0) (hb : checkE b = 0) (hT : checkE (outL base a b (bothL a b)) = 0) (hc : confL base a b (bothL a b) = []) :
    patchE a ((diffL base b (bothL base b)).filter fun c => apartB a b c.path) = (outL base a b (bothL a b), 0) := by
  have hn := no_conf hc
  rw [diff_filter]
  refine patchE_4 ha (patch_gen (check_srt hT) _ a (List.Pairwise.filter _ (both_srt (check_srt h0) (check_srt hb))) (check_srt ha) (fun x hx => ?_) fun q hq => ?_) hT
  · have hap : ¬ lookE a x = lookE b x := of_decide_eq_true (List.mem_filter.1 hx).2
    rw [look_taken (check_srt hT)]
    refine ⟨fun e => ?_, fun e => ?_⟩
    · unfold takenAt takeE; rw [if_pos (.inr e)]
    · have h2 := hn x
      unfold takenAt takeE at h2 ⊢
      rw [if_neg (by rintro (e1 | e1); exact hap e1; exact e e1)] at h2 ⊢
      by_cases h3 : lookE base x = lookE a x
      · rw [if_pos h3]; exact ⟨h3.symm, rfl⟩
      · rw [if_neg h3] at h2; cases h2
  · rw [look_taken (check_srt hT)]
    unfold takenAt takeE
    by_cases h1 : q ∈ bothL base b
    · have : lookE a q = lookE b q := by
        by_cases e : lookE a q = lookE b q
        · exact e
        · exact absurd (List.mem_filter.2 ⟨h1, decide_eq_true e⟩) hq
      rw [if_pos (.inl this)]
    · rw [if_pos (.inr (look_out h1))]

theorem row3 (w : World) (A B C : Option Addr) (ca cb cc : Nat) (l m n : List FileV) (hA : RdL w A l) (hB : RdL w B m) (hC : RdL w C n) (hl : l.length ≤ maxLen) (hm : m.length ≤ maxLen) (hn : n.length ≤ maxLen) :
    ∀ i x, [l, m, n][i]? = some x → ∃ X c, (w.alloc (.cells #[.slice A l.length ca, .slice B m.length cb, .slice C n.length cc] 22)).cell? ⟨w.heap.size, 0 + i, none⟩ = some (.slice X x.length c) ∧ RdL (w.alloc (.cells #[.slice A l.length ca, .slice B m.length cb, .slice C n.length cc] 22)) X x ∧ x.length ≤ maxLen := by
  have hx := ext_alloc1 w (.cells #[.slice A l.length ca, .slice B m.length cb, .slice C n.length cc] 22)
  intro i x hi
  match i with
  | 0 => cases hi; exact ⟨A, ca, by rw [cell_blk (World.alloc_heap_new w _)]; rfl, hA.ext hx, hl⟩
  | 1 => cases hi; exact ⟨B, cb, by rw [cell_blk (World.alloc_heap_new w _)]; rfl, hB.ext hx, hm⟩
  | 2 => cases hi; exact ⟨C, cc, by rw [cell_blk (World.alloc_heap_new w _)]; rfl, hC.ext hx, hn⟩
  | n + 3 => cases hi

/-- The cells of some changes, their fragments read at w0. -/
def ChAt (w0 : World) (xs : List Value) (cs : List ChangeV) : Prop :=
  xs.length = cs.length * 8 ∧ ∀ k c, cs[k]? = some c → ∃ F j G m, (∀ r u, (chCells c F G j m)[r]? = some u → xs[k * 8 + r]? = some u) ∧ Fr w0 F j c.old.frags ∧ Fr w0 G m c.new.frags
theorem ChAt.nil (w : World) : ChAt w [] [] := ⟨rfl, fun k c hk => (by simp at hk)⟩
theorem ChAt.snoc {w : World} {xs : List Value} {cs : List ChangeV} (h : ChAt w xs cs) {F G : Option Addr} {j m : Nat} {c : ChangeV} (h3 : Fr w F j c.old.frags) (h4 : Fr w G m c.new.frags) :
    ChAt w (xs ++ chCells c F G j m) (cs ++ [c]) := by
  obtain ⟨h1, h2⟩ := h
  refine ⟨by simp [h1, chCells]; omega, fun k g hk => ?_⟩
  rcases Nat.lt_or_ge k cs.length with hlt | hge
  · rw [List.getElem?_append_left hlt] at hk
    obtain ⟨F', j', G', m', e1, e2, e3⟩ := h2 k g hk
    refine ⟨F', j', G', m', fun r u hr => ?_, e2, e3⟩
    have hr8 : r < 8 := by have := (List.getElem?_eq_some_iff.1 hr).1; simpa [chCells] using this
    rw [List.getElem?_append_left (by omega)]
    exact e1 r u hr
  · rw [List.getElem?_append_right hge] at hk
    have hk0 : k = cs.length := by
      rcases Nat.eq_zero_or_pos (k - cs.length) with h | h
      · omega
      · rw [List.getElem?_eq_none (by simp; omega)] at hk; cases hk
    subst hk0
    simp at hk
    subst hk
    refine ⟨F, j, G, m, fun r u hr => ?_, h3, h4⟩
    rw [List.getElem?_append_right (by omega), h1, Nat.add_sub_cancel_left]
    exact hr
/-- A list of changes in a row of its own, the fragments read at w0. -/
def OwnA (n0 : Nat) (w0 w : World) (v : Value) (cs : List ChangeV) : Prop := ∃ xs, w.ownsRow n0 67 8 v cs.length xs ∧ ChAt w0 xs cs
theorem OwnA.nil (n0 : Nat) (w0 w : World) : OwnA n0 w0 w (.slice none 0 0) [] := ⟨[], World.ownsRow_nil _ _ _ _, ChAt.nil _⟩
theorem OwnA.ext {n0 : Nat} {w0 w w' : World} {v : Value} {cs : List ChangeV} (h : OwnA n0 w0 w v cs) (he : Ext w w') : OwnA n0 w0 w' v cs := by
  obtain ⟨xs, h1, h2⟩ := h
  exact ⟨xs, (KeepT.of_ext he).own h1, h2⟩
theorem OwnA.rd {n0 : Nat} {w0 w : World} {v : Value} {cs : List ChangeV} (h : OwnA n0 w0 w v cs) (he : Ext w0 w) : ∃ A c, v = .slice A cs.length c ∧ RdC w A cs := by
  obtain ⟨xs, h1, h2, h3⟩ := h
  obtain ⟨A, c, rfl, _, _, h4⟩ := own_rd h1
  refine ⟨A, c, rfl, ?_⟩
  rcases h4 with rfl | ⟨b, off, hA, hc⟩
  · left
    cases cs with
    | nil => rfl
    | cons f r => simp at h2
  · refine .inr ⟨b, off, hA, fun k c hk => ?_⟩
    obtain ⟨F, j, G, m, e1, e2, e3⟩ := h3 k c hk
    refine ⟨F, j, G, m, fun r u hr => ?_, e2.ext he, e3.ext he⟩
    obtain ⟨l0, g0⟩ := List.getElem?_eq_some_iff.1 (e1 r u hr)
    rw [Nat.add_assoc, hc _ l0, g0]
theorem OwnA.snoc {n0 : Nat} {w0 w1 : World} {v' : Value} {cs : List ChangeV} {c : ChangeV} {F G : Option Addr} {j m : Nat} {xs : List Value} (hok : ChAt w0 xs cs) (hF : Fr w0 F j c.old.frags) (hG : Fr w0 G m c.new.frags)
    (hown : w1.ownsRow n0 67 8 v' (cs.length + 1) (xs ++ chCells c F G j m)) : OwnA n0 w0 w1 v' (cs ++ [c]) :=
  ⟨_, by rw [List.length_append]; exact hown, hok.snoc hF hG⟩

theorem merge_bad {base a b : List FileV} (h0 : checkE base = 0) (ha : checkE a = 0) (hb : checkE b = 0) (hT : ¬ checkE (outL base a b (bothL a b)) = 0) :
    mergeE base a b = ([], [], checkE (outL base a b (bothL a b))) ∧ mergeE base b a = ([], [], checkE (outL base a b (bothL a b))) := by
  have h1 : checks [base, a, b] = 0 := by simp [checks, h0, ha, hb]
  have h2 : checks [base, b, a] = 0 := by simp [checks, h0, ha, hb]
  have h3 := out_check (base := base) ha hb (bothL a b)
  have h4 := both_comm (check_srt ha) (check_srt hb)
  refine ⟨by unfold mergeE; rw [if_pos h1, if_neg hT], ?_⟩
  unfold mergeE
  rw [if_pos h2, ← h4, ← h3, if_neg hT]
theorem merge_good {base a b : List FileV} (h0 : checkE base = 0) (ha : checkE a = 0) (hb : checkE b = 0) (hT : checkE (outL base a b (bothL a b)) = 0) :
    mergeE base a b = (outL base a b (bothL a b), confL base a b (bothL a b), 0) ∧ mergeE base b a = (outL base b a (bothL a b), confL base a b (bothL a b), 0) := by
  have h1 : checks [base, a, b] = 0 := by simp [checks, h0, ha, hb]
  have h2 : checks [base, b, a] = 0 := by simp [checks, h0, ha, hb]
  have h3 := out_check (base := base) ha hb (bothL a b)
  have h4 := both_comm (check_srt ha) (check_srt hb)
  refine ⟨by unfold mergeE; rw [if_pos h1, if_pos hT], ?_⟩
  unfold mergeE
  rw [if_pos h2, ← h4, ← h3, if_pos hT, conf_comm base b a]

theorem strings_same (F1 F2 : Option Addr) (k1 k2 : Nat) (l : List ByteArray) (w : World) (h1 : RdS w F1 l) (h2 : RdS w F2 l) (g : l.length ≤ 4096) :
    Calls Tryd.prog 16 #[.slice F1 l.length k1, .slice F2 l.length k2] w fun e w' => e = .returned (.bool true) ∧ Ext w w' := by
  refine (eqstr_any F1 F2 k1 k2 l l w h1 h2 g g).mono ?_
  intro e w' h
  first
  | (obtain ⟨rfl, hx⟩ := h; exact ⟨by rw [decide_eq_true rfl], by first | exact hx | (subst hx; exact Ext.refl _)⟩)
theorem filter_take {ds : List ChangeV} {g : ChangeV → Bool} {i : Nat} {c : ChangeV} (h : ds[i]? = some c) : (ds.take (i + 1)).filter g = (ds.take i).filter g ++ (if g c = true then [c] else []) := by
  rw [List.take_add_one, h, List.filter_append]
  simp only [Option.toList, List.filter_cons, List.filter_nil]
theorem fine_filter {cs : List ChangeV} {g : ChangeV → Bool} (h : Fine cs) : Fine (cs.filter g) := fun c hc => h c (List.mem_filter.1 hc).1
set_option maxRecDepth 100000 in
set_option maxHeartbeats 8000000 in
theorem agrees_all (A B C : Option Addr) (ca cb cc : Nat) (base a b : List FileV) (w : World) (hm : Mx w) (hla : base.length ≤ maxLen) (hlb : a.length ≤ maxLen) (hlc : b.length ≤ maxLen) (hA : RdL w A base) (hB : RdL w B a) (hC : RdL w C b) :
    Calls Tryd.prog 10 #[.slice A base.length ca, .slice B a.length cb, .slice C b.length cc] w fun e w' => e = .returned (.bool true) ∧ Ext w w' := by
  have HA := Lib.hid hA; have HB := Lib.hid hB; have HC := Lib.hid hC; clear hA hB hC
  have HLA := Lib.hid hla; have HLB := Lib.hid hlb; have HLC := Lib.hid hlc; clear hla hlb hlc
  obtain ⟨i67, hi67, hz67, hz67', hz67''⟩ := info_parts info67
  have HI := Lib.hid hi67; have HZ0 := Lib.hid hz67; have HZ1 := Lib.hid hz67'; have HZ2 := Lib.hid hz67''
  clear hi67 hz67 hz67' hz67''
  go_enter Tryd.func10, Tryd.ntmps10
  go_wp2_with fail
  have hx0 := ext_alloc1 w (.cells #[.slice A base.length ca, .slice B a.length cb, .slice C b.length cc] 22)
  refine (right_any w.heap.size 0 3 [base, a, b] _ (hm.ext hx0) (by simp) (row3 w A B C ca cb cc base a b HA.out HB.out HC.out HLA.out HLB.out HLC.out)).mono ?_
  rintro e w1 ⟨rfl, hx1⟩
  replace hx1 := hx0.trans hx1
  clear hx0
  rcases hr : [base, a, b].all rightB with _ | _
  · go_wp2_with fail
    refine (awake_any _ (hm.ext hx1)).mono ?_
    rintro e w2 ⟨rfl, hx2⟩
    go_wp2_with fail
    go_ret
    exact ⟨rfl, hx1.trans hx2⟩
  · have hr1 : rightB base = true ∧ rightB a = true ∧ rightB b = true := by simpa using hr
    obtain ⟨hf0, hc0⟩ := right_parts hr1.1
    obtain ⟨hf1, hc1⟩ := right_parts hr1.2.1
    obtain ⟨hf2, hc2⟩ := right_parts hr1.2.2
    have F0 := Lib.hid (fit_of hf0 (HA.out.ext hx1))
    have F1 := Lib.hid (fit_of hf1 (HB.out.ext hx1))
    have F2 := Lib.hid (fit_of hf2 (HC.out.ext hx1))
    have h30 := (few_parts hf0).1
    have h31 := (few_parts hf1).1
    have h32 := (few_parts hf2).1
    have HC0 := Lib.hid hc0
    have HC1 := Lib.hid hc1
    have HC2 := Lib.hid hc2
    clear hf0 hf1 hf2 hr hr1 hc0 hc1 hc2
    have hbl : (bothL a b).length ≤ 60 := by have := bothN_len (a.length + b.length) a b; unfold bothL; omega
    by_cases hT : checkE (outL base a b (bothL a b)) = 0
    · obtain ⟨hm1, hm2⟩ := merge_good HC0.out HC1.out HC2.out hT
      have hol := Nat.le_trans (outL_len base a b (bothL a b)) hbl
      have hcl := Nat.le_trans (confL_len base a b (bothL a b)) hbl
      go_wp2_with fail
      refine (merge_fit A B C ca cb cc base a b w1 (hm.ext hx1) F0.out F1.out F2.out _ hm1).mono ?_
      rintro e w2 ⟨A1, c1, D1, k1, rfl, hr1, hd1, hx2⟩
      have HR1 := Lib.hid hr1; have HD1 := Lib.hid hd1
      clear hr1 hd1
      go_wp2_with fail
      refine (merge_fit A C B ca cc cb base b a w2 (hm.ext (hx1.trans hx2)) (F0.out.ext hx2) (F2.out.ext hx2) (F1.out.ext hx2) _ hm2).mono ?_
      rintro e w3 ⟨A2, c2, D2, k2, rfl, hr2, hd2, hx3⟩
      replace HR1 := Lib.hid (HR1.out.ext hx3)
      have HR2 := Lib.hid hr2
      have HD1' : Hid (RdS w3 D1 (confL base a b (bothL a b))) := HD1.out.ext hx3
      have HD2 := Lib.hid hd2
      have hz3 := hx2.trans hx3
      clear hr2 hd2 hm1 hm2 hx2 hx3 HD1
      go_wp2_with fail
      refine (strings_same D1 D2 k1 k2 (confL base a b (bothL a b)) w3 HD1'.out HD2.out (by omega)).mono ?_
      rintro e w4 ⟨rfl, hx4⟩
      replace HR1 := Lib.hid (HR1.out.ext hx4)
      replace HR2 := Lib.hid (HR2.out.ext hx4)
      have hz4 := hz3.trans hx4
      clear hz3 hx4
      by_cases hcf : confL base a b (bothL a b) = []
      · have hT2 : outL base b a (bothL a b) = outL base a b (bothL a b) := (out_comm (no_conf hcf) _).symm
        have HPA := Lib.hid (patch_agrees HC0.out HC1.out HC2.out hT hcf)
        rw [hT2] at HR2 ⊢
        rw [hcf]
        clear hT2 hT hcf hcl HD1' HD2
        generalize outL base a b (bothL a b) = T at *
        go_wp2_with fail
        refine (diff_any A C ca cc base b w4 (hm.ext (hx1.trans hz4)) (by omega) (by omega) F0.out.short F2.out.short F0.out.small F2.out.small (F0.out.rd.ext hz4) (F2.out.rd.ext hz4)).mono ?_
        rw [diffE_3 HC0.out HC2.out]
        rintro e w5' ⟨A3, c3, rfl, hr3, hx5⟩
        have HDS0 := Lib.hid hr3
        have hdl : (diffL base b (bothL base b)).length ≤ 60 := by
          have h1 := diffL_len base b (bothL base b)
          have h2 := bothN_len (base.length + b.length) base b
          unfold bothL at h1 ⊢; omega
        have HFN : Hid (Fine (diffL base b (bothL base b))) := fun c hc => by
          rcases new_or hc with h | h
          · exact ⟨F2.out.short _ h, F2.out.small _ h⟩
          · rw [h]; exact ⟨Nat.zero_le _, Nat.zero_le _⟩
        replace HR1 := Lib.hid (HR1.out.ext hx5)
        replace HR2 := Lib.hid (HR2.out.ext hx5)
        have hz5' := hz4.trans hx5
        clear hr3 hz4 hx5
        generalize diffL base b (bothL base b) = ds at *
        go_wp2_with fail
        refine (same_same A1 A2 c1 c2 T w5' (by simp only [maxLen]; omega) HR1.out HR2.out).mono ?_
        rintro e w5 ⟨rfl, hx5⟩
        replace HR1 := Lib.hid (HR1.out.ext hx5)
        have HDS := Lib.hid (HDS0.out.ext hx5)
        have hz5 := hz5'.trans hx5
        have HB5 := Lib.hid (F1.out.rd.ext hz5)
        have HC5 := Lib.hid (F2.out.rd.ext hz5)
        have hy5 := hx1.trans hz5
        clear hx5 hz5' hz5 HDS0 HR2 hx1
        go_wp2_with fail
        go_loopg [15, 82] (ds.length + 1) (fun f out i wr => ∃ (i' : Nat), i = .int .i64 i' ∧ i' ≤ ds.length ∧ ds.length + 1 ≤ i' + f ∧ Hid (OwnA w5.heap.size w5 wr out ((ds.take i').filter fun c => apartB a b c.path)) ∧ Ext w5 wr)
        case atStart => exact ⟨0, rfl, by omega, by omega, OwnA.nil _ _ _, Ext.refl _⟩
        case round =>
          obtain ⟨i', rfl, h2, h3, HO, hx⟩ := hrel
          by_cases hlt : i' < ds.length
          · obtain ⟨c, hci⟩ : ∃ x, ds[i']? = some x := ⟨_, List.getElem?_eq_getElem hlt⟩
            obtain ⟨b0, o0, F, j, G, m, rfl, hr0, hr1, hr2, hr3, hr4, hr5, hr6, hr7, hfa, hfb⟩ := HDS.out.cells hci
            replace hr0 := hx.cell hr0
            replace hr1 := hx.cell hr1
            replace hr2 := hx.cell hr2
            replace hr3 := hx.cell hr3
            replace hr4 := hx.cell hr4
            replace hr5 := hx.cell hr5
            replace hr6 := hx.cell hr6
            replace hr7 := hx.cell hr7
            have HTK := Lib.hid (filter_take (g := fun c => apartB a b c.path) hci)
            have hfl : ((ds.take i').filter fun c => apartB a b c.path).length ≤ i' := Nat.le_trans (List.length_filter_le _ _) (List.length_take_le _ _)
            clear hci
            obtain ⟨kd, p, o, n⟩ := c
            dsimp only at hr0 hr1 hr2 hr3 hr4 hr5 hr6 hr7 hfa hfb
            have HF1 := Lib.hid hfa; have HF2 := Lib.hid hfb
            have hbx := World.alloc_heap_new wr (.cells #[.int .i64 kd, .string p, .string o.path, .int .i64 o.len, .slice F o.frags.length j, .string n.path, .int .i64 n.len, .slice G n.frags.length m] 67)
            have hxa := ext_alloc1 wr (.cells #[.int .i64 kd, .string p, .string o.path, .int .i64 o.len, .slice F o.frags.length j, .string n.path, .int .i64 n.len, .slice G n.frags.length m] 67)
            clear hfa hfb
            go_wp2_with fail
            generalize wr.alloc (.cells #[.int .i64 kd, .string p, .string o.path, .int .i64 o.len, .slice F o.frags.length j, .string n.path, .int .i64 n.len, .slice G n.frags.length m] 67) = W at *
            refine (tfind_any B cb a p W (hm.ext (hy5.trans (hx.trans hxa))) (by omega) F1.out.short (HB5.out.ext (hx.trans hxa))).mono ?_
            clear hr0 hr1 hr2 hr3 hr4 hr5 hr6 hr7
            have hap : apartB a b p = decide (¬ lookE a p = lookE b p) := rfl
            cases ha : hasB p a
            · have hla := look_no ha
              rw [find_not p HC1.out ha]
              rintro e w6 ⟨rfl, hx6⟩
              replace hbx := hx6.blk hbx
              replace hx6 := hxa.trans hx6
              obtain ⟨c0, c1, c2, c3, c4, c5, c6, c7⟩ := blk8 hbx
              go_wp2_with fail
              refine (tfind_any C cc b p w6 (hm.ext (hy5.trans (hx.trans hx6))) (by omega) F2.out.short (HC5.out.ext (hx.trans hx6))).mono ?_
              cases hb : hasB p b
              · have HAB : Hid (apartB a b p = false) := by rw [Hid, hap, hla, look_no hb]; simp
                rw [find_not p HC2.out hb]
                rintro e w7 ⟨rfl, hx7⟩
                replace hbx := hx7.blk hbx
                replace hx7 := hx6.trans hx7
                clear c0 c1 c2 c3 c4 c5 c6 c7 hap hla ha hb
                obtain ⟨c0, c1, c2, c3, c4, c5, c6, c7⟩ := blk8 hbx
                go_wp2_with fail
                go_quiet (fail)
                go_wp2_with fail
                go_roundg (gk - 1)
                case measure => omega
                case rel => exact ⟨i' + 1, by go_num, by omega, by omega, by rw [HTK.out, if_neg (by rw [HAB.out]; decide), List.append_nil]; exact HO.out.ext (hx7.drewN nq), hx.trans (hx7.drewN nq)⟩
              · obtain ⟨g, hg, hgp⟩ := has_at hb
                have HAB : Hid (apartB a b p = true) := by rw [Hid, hap, hla, look_yes hb hg]; simp
                rw [find_has p HC2.out hb]
                rintro e w7 ⟨rfl, hx7⟩
                replace hbx := hx7.blk hbx
                replace hx7 := hx6.trans hx7
                clear c0 c1 c2 c3 c4 c5 c6 c7 hap hla ha hb hg hgp
                obtain ⟨c0, c1, c2, c3, c4, c5, c6, c7⟩ := blk8 hbx
                generalize lowI p b = ib at *
                go_wp2_with fail
                go_quiet (fail)
                have hxq := hx7.drewN nq
                obtain ⟨xs, hro, hok⟩ := HO.out.ext hxq
                have HOK := Lib.hid hok
                clear hok
                go_wp2_with (at_builtin; refine wpList_append1 rfl (.tmp 118) (.tmp 120) 57 rfl w5.heap.size 67 i67 _ 8 120 Tryd.underlying57 HI.out HZ0.out HZ1.out HZ2.out rfl (by decide) (by decide) u15 _ xs rfl hro (chCells ⟨kd, p, o, n⟩ F G j m) rfl rfl (by simp [chCells, Value.oneCell']) (by omega) (hx.trans hxq).size ?_; intro v9 w9 hown9 hbel9 _ hgr9; have HN := Lib.hid (OwnA.snoc (c := ⟨kd, p, o, n⟩) HOK.out HF1.out HF2.out hown9); have hx9 : Ext w5 w9 := Below.trans (hx.trans hxq) hbel9; clear hro hown9 hgr9 hbel9)
                go_roundg (gk - 1)
                case measure => omega
                case rel => exact ⟨i' + 1, by go_num, by omega, by omega, by rw [HTK.out, if_pos HAB.out]; exact HN.out, hx9⟩
            · obtain ⟨f, hf, hfp⟩ := has_at ha
              have hla := look_yes ha hf
              have hia : lowI p a < a.length := (List.getElem?_eq_some_iff.1 hf).1
              rw [find_has p HC1.out ha]
              rintro e w6 ⟨rfl, hx6⟩
              replace hbx := hx6.blk hbx
              replace hx6 := hxa.trans hx6
              obtain ⟨c0, c1, c2, c3, c4, c5, c6, c7⟩ := blk8 hbx
              go_wp2_with fail
              refine (tfind_any C cc b p w6 (hm.ext (hy5.trans (hx.trans hx6))) (by omega) F2.out.short (HC5.out.ext (hx.trans hx6))).mono ?_
              cases hb : hasB p b
              · have HAB : Hid (apartB a b p = true) := by rw [Hid, hap, hla, look_no hb]; simp
                rw [find_not p HC2.out hb]
                rintro e w7 ⟨rfl, hx7⟩
                replace hbx := hx7.blk hbx
                replace hx7 := hx6.trans hx7
                clear c0 c1 c2 c3 c4 c5 c6 c7 hap hla ha hb hf hfp
                obtain ⟨c0, c1, c2, c3, c4, c5, c6, c7⟩ := blk8 hbx
                generalize lowI p a = ia at *
                go_wp2_with fail
                go_quiet (fail)
                have hxq := hx7.drewN nq
                obtain ⟨xs, hro, hok⟩ := HO.out.ext hxq
                have HOK := Lib.hid hok
                clear hok
                go_wp2_with (at_builtin; refine wpList_append1 rfl (.tmp 118) (.tmp 120) 57 rfl w5.heap.size 67 i67 _ 8 120 Tryd.underlying57 HI.out HZ0.out HZ1.out HZ2.out rfl (by decide) (by decide) u15 _ xs rfl hro (chCells ⟨kd, p, o, n⟩ F G j m) rfl rfl (by simp [chCells, Value.oneCell']) (by omega) (hx.trans hxq).size ?_; intro v9 w9 hown9 hbel9 _ hgr9; have HN := Lib.hid (OwnA.snoc (c := ⟨kd, p, o, n⟩) HOK.out HF1.out HF2.out hown9); have hx9 : Ext w5 w9 := Below.trans (hx.trans hxq) hbel9; clear hro hown9 hgr9 hbel9)
                go_roundg (gk - 1)
                case measure => omega
                case rel => exact ⟨i' + 1, by go_num, by omega, by omega, by rw [HTK.out, if_pos HAB.out]; exact HN.out, hx9⟩
              · obtain ⟨g, hg, hgp⟩ := has_at hb
                have hlb := look_yes hb hg
                have hib : lowI p b < b.length := (List.getElem?_eq_some_iff.1 hg).1
                have HAB0 : Hid (apartB a b p = !decide (f = g)) := by rw [Hid, hap, hla, hlb]; by_cases e : f = g <;> simp [e]
                rw [find_has p HC2.out hb]
                rintro e w7 ⟨rfl, hx7⟩
                replace hbx := hx7.blk hbx
                replace hx7 := hx6.trans hx7
                clear c0 c1 c2 c3 c4 c5 c6 c7 hap hla hlb ha hb hfp hgp
                generalize lowI p a = ia at *
                generalize lowI p b = ib at *
                obtain ⟨c0, c1, c2, c3, c4, c5, c6, c7⟩ := blk8 hbx
                go_wp2_with fail
                have hxd : Ext w7 w7.drew := (Below.refl _ _).drew
                obtain ⟨ba, oa, Fa, ka, rfl, ga1, ga2, ga3, ga4⟩ := (HB5.out.ext ((hx.trans hx7).trans hxd)).at_ hf
                obtain ⟨bb, ob, Fb, kb, rfl, gb1, gb2, gb3, gb4⟩ := (HC5.out.ext ((hx.trans hx7).trans hxd)).at_ hg
                have hS : Ext w7.drew w7.drew := Ext.refl _
                clear c0 c1 c2 c3 c4 c5 c6 c7 hf hg
                refine wp_region_T (fun W' => Ext w7.drew W') [] (by kernel_rfl) ?_
                refine takeT 0 ?v0_1 rfl (by kernel_rfl) (fun _ _ _ h => h) rfl hS ?hy0_1 ?hk0_1
                case hy0_1 =>
                  rintro w' he
                  go_simp
                  first | done | with_reducible rfl
                try simp only [Act.put, List.setIfInBounds_toArray, List.set_cons_zero, List.set_cons_succ]
                refine takeT 1 ?v1_2 rfl (by kernel_rfl) (fun _ _ _ h => h) rfl hS ?hy1_2 ?hk1_2
                case hy1_2 =>
                  rintro w' he
                  go_simp
                  first | done | with_reducible rfl
                try simp only [Act.put, List.setIfInBounds_toArray, List.set_cons_zero, List.set_cons_succ]
                refine takeT 2 ?v2_3 rfl (by kernel_rfl) (fun _ _ _ h => h) rfl hS ?hy2_3 ?hk2_3
                case hy2_3 =>
                  rintro w' he
                  go_simp
                  first | done | with_reducible rfl
                try simp only [Act.put, List.setIfInBounds_toArray, List.set_cons_zero, List.set_cons_succ]
                refine takeT 3 ?v3_4 rfl (by kernel_rfl) (fun _ _ _ h => h) rfl hS ?hy3_4 ?hk3_4
                case hy3_4 =>
                  rintro w' he
                  go_simp
                  first | done | with_reducible rfl
                try simp only [Act.put, List.setIfInBounds_toArray, List.set_cons_zero, List.set_cons_succ]
                refine takeG 4 ?v4_5 rfl (by kernel_rfl) (fun _ _ _ h => h) (by rfl) hS ?hy4_5 ?hk4_5
                case hy4_5 =>
                  rintro w' he
                  go_simp
                  first | done | with_reducible rfl
                try simp only [Act.put, List.setIfInBounds_toArray, List.set_cons_zero, List.set_cons_succ]
                refine takeG 5 ?v5_6 rfl (by kernel_rfl) (fun _ _ _ h => h) (by rfl) hS ?hy5_6 ?hk5_6
                case hy5_6 =>
                  rintro w' he
                  go_simp
                  first | done | with_reducible rfl
                try simp only [Act.put, List.setIfInBounds_toArray, List.set_cons_zero, List.set_cons_succ]
                refine takeG 6 ?v6_7 rfl (by kernel_rfl) (fun _ _ _ h => h) (by rfl) hS ?hy6_7 ?hk6_7
                case hy6_7 =>
                  rintro w' he
                  go_simp
                  first | done | with_reducible rfl
                try simp only [Act.put, List.setIfInBounds_toArray, List.set_cons_zero, List.set_cons_succ]
                refine takeG 7 ?v7_8 rfl (by kernel_rfl) (fun _ _ _ h => h) (by rfl) hS ?hy7_8 ?hk7_8
                case hy7_8 =>
                  rintro w' he
                  go_simp
                  first | done | with_reducible rfl
                try simp only [Act.put, List.setIfInBounds_toArray, List.set_cons_zero, List.set_cons_succ]
                refine takeG 8 ?v8_9 rfl (by kernel_rfl) (fun _ _ _ h => h) (by rfl) hS ?hy8_9 ?hk8_9
                case hy8_9 =>
                  rintro w' he
                  go_simp
                  first | done | with_reducible rfl
                try simp only [Act.put, List.setIfInBounds_toArray, List.set_cons_zero, List.set_cons_succ]
                refine takeG 9 ?v9_10 rfl (by kernel_rfl) (fun _ _ _ h => h) (by rfl) hS ?hy9_10 ?hk9_10
                case hy9_10 =>
                  rintro w' he 
                  have s1 := he.cell ga1
                  have s2 := he.cell ga2
                  have s3 := he.cell ga3
                  go_simp
                  first | done | with_reducible rfl
                try simp only [Act.put, List.setIfInBounds_toArray, List.set_cons_zero, List.set_cons_succ]
                refine takeG 10 ?v10_11 rfl (by kernel_rfl) (fun _ _ _ h => h) (by rfl) hS ?hy10_11 ?hk10_11
                case hy10_11 =>
                  rintro w' he
                  go_simp
                  first | done | with_reducible rfl
                try simp only [Act.put, List.setIfInBounds_toArray, List.set_cons_zero, List.set_cons_succ]
                refine takeG 11 ?v11_12 rfl (by kernel_rfl) (fun _ _ _ h => h) (by rfl) hS ?hy11_12 ?hk11_12
                case hy11_12 =>
                  rintro w' he
                  go_simp
                  first | done | with_reducible rfl
                try simp only [Act.put, List.setIfInBounds_toArray, List.set_cons_zero, List.set_cons_succ]
                refine takeG 12 ?v12_13 rfl (by kernel_rfl) (fun _ _ _ h => h) (by rfl) hS ?hy12_13 ?hk12_13
                case hy12_13 =>
                  rintro w' he
                  go_simp
                  first | done | with_reducible rfl
                try simp only [Act.put, List.setIfInBounds_toArray, List.set_cons_zero, List.set_cons_succ]
                refine takeG 13 ?v13_14 rfl (by kernel_rfl) (fun _ _ _ h => h) (by rfl) hS ?hy13_14 ?hk13_14
                case hy13_14 =>
                  rintro w' he 
                  have s1 := he.cell gb1
                  have s2 := he.cell gb2
                  have s3 := he.cell gb3
                  go_simp
                  first | done | with_reducible rfl
                try simp only [Act.put, List.setIfInBounds_toArray, List.set_cons_zero, List.set_cons_succ]
                refine oneG 14 rfl (by kernel_rfl) (by rfl) fun K hK => ?_
                go_simp
                refine (samefile_any _ _ f g w7.drew ⟨_, _, rfl, ga4⟩ ⟨_, _, rfl, gb4⟩).mono ?_
                generalize decide (f = g) = eq at *
                rintro e w8 ⟨rfl, hx8⟩
                refine hK _ _ (fun _ => hx8) ?_
                clear hK K hS
                have hS := hx8
                try simp only [Act.put, List.setIfInBounds_toArray, List.set_cons_zero, List.set_cons_succ]
                refine takeG 15 ?v15_15 rfl (by kernel_rfl) (fun _ _ _ h => h) (by rfl) hS ?hy15_15 ?hk15_15
                case hy15_15 =>
                  rintro w' he
                  go_simp
                  first | done | with_reducible rfl
                try simp only [Act.put, List.setIfInBounds_toArray, List.set_cons_zero, List.set_cons_succ]
                refine takeG 16 ?v16_16 rfl (by kernel_rfl) (fun _ _ _ h => h) (by rfl) hS ?hy16_16 ?hk16_16
                case hy16_16 =>
                  rintro w' he
                  go_simp
                  first | done | with_reducible rfl
                try simp only [Act.put, List.setIfInBounds_toArray, List.set_cons_zero, List.set_cons_succ]
                refine takeT 17 ?v17_17 rfl (by kernel_rfl) (fun _ _ _ h => h) rfl hS ?hy17_17 ?hk17_17
                case hy17_17 =>
                  rintro w' he
                  go_simp
                  first | done | with_reducible rfl
                try simp only [Act.put, List.setIfInBounds_toArray, List.set_cons_zero, List.set_cons_succ]
                refine doneT (by kernel_rfl) ?_ _
                have hbx8 := (hxd.trans hx8).blk hbx
                have hxq := hx7.trans (hxd.trans hx8)
                clear hS ga1 ga2 ga3 ga4 gb1 gb2 gb3 gb4
                obtain ⟨c0, c1, c2, c3, c4, c5, c6, c7⟩ := blk8 hbx8
                cases eq
                · have HAB : Hid (apartB a b p = true) := HAB0.out
                  obtain ⟨xs, hro, hok⟩ := HO.out.ext hxq
                  have HOK := Lib.hid hok
                  clear hok
                  go_wp2_with (at_builtin; refine wpList_append1 rfl (.tmp 118) (.tmp 120) 57 rfl w5.heap.size 67 i67 _ 8 120 Tryd.underlying57 HI.out HZ0.out HZ1.out HZ2.out rfl (by decide) (by decide) u15 _ xs rfl hro (chCells ⟨kd, p, o, n⟩ F G j m) rfl rfl (by simp [chCells, Value.oneCell']) (by omega) (hx.trans hxq).size ?_; intro v9 w9 hown9 hbel9 _ hgr9; have HN := Lib.hid (OwnA.snoc (c := ⟨kd, p, o, n⟩) HOK.out HF1.out HF2.out hown9); have hx9 : Ext w5 w9 := Below.trans (hx.trans hxq) hbel9; clear hro hown9 hgr9 hbel9)
                  go_roundg (gk - 1)
                  case measure => omega
                  case rel => exact ⟨i' + 1, by go_num, by omega, by omega, by rw [HTK.out, if_pos HAB.out]; exact HN.out, hx9⟩
                · have HAB : Hid (apartB a b p = false) := HAB0.out
                  go_wp2_with fail
                  go_roundg (gk - 1)
                  case measure => omega
                  case rel => exact ⟨i' + 1, by go_num, by omega, by omega, by rw [HTK.out, if_neg (by rw [HAB.out]; decide), List.append_nil]; exact HO.out.ext (hxq), hx.trans (hxq)⟩
          · obtain rfl : i' = ds.length := by omega
            have HO2 : Hid (OwnA w5.heap.size w5 wr u15 (ds.filter fun c => apartB a b c.path)) := by have := HO.out; rwa [List.take_length] at this
            obtain ⟨A6, c6, rfl, hr6⟩ := HO2.out.rd hx
            have HR6 := Lib.hid hr6
            have hfl : (ds.filter fun c => apartB a b c.path).length ≤ ds.length := List.length_filter_le _ _
            have HFF := Lib.hid (fine_filter (g := fun c => apartB a b c.path) HFN.out)
            clear hr6
            generalize (ds.filter fun c => apartB a b c.path) = rs at *
            go_wp2_with fail
            refine (tpatch_any B A6 cb c6 a rs wr (hm.ext (hy5.trans hx)) (by omega) F1.out.short F1.out.small (HB5.out.ext hx) HR6.out HFF.out).mono ?_
            rw [HPA.out]
            rintro e w7 ⟨A7, c7, rfl, hr7, hx7⟩
            have HR7 := Lib.hid hr7
            replace hx7 := hx.trans hx7
            clear hr7
            go_wp2_with fail
            refine (same_same A7 A1 c7 c1 T w7 (by simp only [maxLen]; omega) HR7.out (HR1.out.ext hx7)).mono ?_
            rintro e w8 ⟨rfl, hx8⟩
            replace hx8 := hx7.trans hx8
            go_wp2_with fail
            refine (awake_any _ (hm.ext (hy5.trans hx8))).mono ?_
            rintro e w9 ⟨rfl, hx9⟩
            go_wp2_with fail
            go_ret
            exact ⟨rfl, hy5.trans (hx8.trans hx9)⟩
      · have hpos : 0 < (confL base a b (bothL a b)).length := by cases h : confL base a b (bothL a b) with | nil => exact absurd h hcf | cons x r => simp
        have q1 : decide ((0 : Int) < ((confL base a b (bothL a b)).length : Int)) = true := decide_eq_true (by omega)
        generalize (confL base a b (bothL a b)).length = nc at *
        clear hcf HD1' HD2
        go_wp2_with fail
        refine (awake_any _ (hm.ext (hx1.trans hz4))).mono ?_
        rintro e w5 ⟨rfl, hx5⟩
        go_wp2_with fail
        go_ret
        exact ⟨rfl, (hx1.trans hz4).trans hx5⟩
    · obtain ⟨hm1, hm2⟩ := merge_bad HC0.out HC1.out HC2.out hT
      have q1 : (checkE (outL base a b (bothL a b)) == 0) = false := beq_eq_false_iff_ne.2 hT
      have q2 : (checkE (outL base a b (bothL a b)) != 0) = true := by simp [bne, q1]
      generalize checkE (outL base a b (bothL a b)) = ce at *
      go_wp2_with fail
      refine (merge_fit A B C ca cb cc base a b w1 (hm.ext hx1) F0.out F1.out F2.out _ hm1).mono ?_
      rintro e w2 ⟨A1, c1, D1, k1, rfl, hr1, hd1, hx2⟩
      clear hr1 hd1
      go_wp2_with fail
      refine (merge_fit A C B ca cc cb base b a w2 (hm.ext (hx1.trans hx2)) (F0.out.ext hx2) (F2.out.ext hx2) (F1.out.ext hx2) _ hm2).mono ?_
      rintro e w3 ⟨A2, c2, D2, k2, rfl, hr2, hd2, hx3⟩
      clear hr2 hd2 hm1 hm2 hT
      go_wp2_with fail
      refine (strings_same D1 D2 k1 k2 [] w3 (.inl rfl) (.inl rfl) (by simp)).mono ?_
      rintro e w4 ⟨rfl, hx4⟩
      have hz4 := (hx1.trans hx2).trans (hx3.trans hx4)
      go_wp2_with fail
      refine (awake_any _ (hm.ext hz4)).mono ?_
      rintro e w5 ⟨rfl, hx5⟩
      go_wp2_with fail
      go_ret
      exact ⟨rfl, hz4.trans hx5⟩
end Go.Proofs.YtcjokhhcncimdaaDoor

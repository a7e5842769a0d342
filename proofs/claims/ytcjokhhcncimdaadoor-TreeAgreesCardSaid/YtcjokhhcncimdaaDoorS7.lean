/- A list of changes in a row of its own; what Diff returns. -/
import Derived.Test.YtcjokhhcncimdaaDoorW27
import Derived.Test.YtcjokhhcncimdaaDoorW16
set_option linter.unusedVariables false
set_option linter.unusedSimpArgs false
namespace Go.Proofs.YtcjokhhcncimdaaDoor
open Go.RowKit Go.PF Go.Tr

theorem info67 : (Tryd.prog.info? 67).map (fun i => (i.zero, i.size, i.bytes)) = some (some (.agg #[.int .i64 0, .string ⟨#[]⟩, .string ⟨#[]⟩, .int .i64 0, .slice none 0 0, .string ⟨#[]⟩, .int .i64 0, .slice none 0 0]), 8, 120) := by kernel_rfl

/-- The cells of some changes, their fragments in rows of their own. -/
def ChOut (n0 : Nat) (w : World) (xs : List Value) (cs : List ChangeV) : Prop :=
  xs.length = cs.length * 8 ∧ ∀ k c, cs[k]? = some c → ∃ F j G m, (∀ r u, (chCells c F G j m)[r]? = some u → xs[k * 8 + r]? = some u) ∧ FrOwn n0 w F j c.old.frags ∧ FrOwn n0 w G m c.new.frags
theorem ChOut.keep3 {n0 : Nat} {w w' : World} {xs : List Value} {cs : List ChangeV} (h : ChOut n0 w xs cs) (hk : Keep3 w w') : ChOut n0 w' xs cs :=
  ⟨h.1, fun k c hc => by obtain ⟨F, j, G, m, h1, h2, h3⟩ := h.2 k c hc; exact ⟨F, j, G, m, h1, h2.keep3 hk, h3.keep3 hk⟩⟩
theorem ChOut.nil (n0 : Nat) (w : World) : ChOut n0 w [] [] := ⟨rfl, fun k c hk => (by simp at hk)⟩
theorem ChOut.snoc {n0 : Nat} {w : World} {xs : List Value} {cs : List ChangeV} (h : ChOut n0 w xs cs) {F G : Option Addr} {j m : Nat} {c : ChangeV} (h3 : FrOwn n0 w F j c.old.frags) (h4 : FrOwn n0 w G m c.new.frags) :
    ChOut n0 w (xs ++ chCells c F G j m) (cs ++ [c]) := by
  obtain ⟨h1, h2⟩ := h
  refine ⟨by simp [h1, chCells]; omega, fun k g hk => ?_⟩
  rcases Nat.lt_or_ge k cs.length with hlt | hge
  · rw [List.getElem?_append_left hlt] at hk
    obtain ⟨F', j', G', m', e1, e2, e3⟩ := h2 k g hk
    refine ⟨F', j', G', m', fun r u hr => ?_, e2, e3⟩
    have hr8 : r < 8 := by have := (List.getElem?_eq_some_iff.1 hr).1; simpa [chCells] using this
    rw [List.getElem?_append_left (by omega)]
    exact e1 r u hr
  · rw [List.getElem?_append_right hge] at hk
    have hk0 : k = cs.length := by
      rcases Nat.eq_zero_or_pos (k - cs.length) with h | h
      · omega
      · rw [List.getElem?_eq_none (by simp; omega)] at hk; cases hk
    subst hk0
    simp at hk
    subst hk
    refine ⟨F, j, G, m, fun r u hr => ?_, h3, h4⟩
    rw [List.getElem?_append_right (by omega), h1, Nat.add_sub_cancel_left]
    exact hr

theorem rdC_of {n0 : Nat} {w : World} {A : Option Addr} {xs : List Value} {cs : List ChangeV} (h : Rd w A xs) (ho : ChOut n0 w xs cs) : RdC w A cs := by
  obtain ⟨h1, h2⟩ := ho
  rcases h with rfl | ⟨b, off, hA, hc⟩
  · left
    cases cs with
    | nil => rfl
    | cons f r => simp at h1
  · refine .inr ⟨b, off, hA, fun k c hk => ?_⟩
    obtain ⟨F, j, G, m, e1, e2, e3⟩ := h2 k c hk
    refine ⟨F, j, G, m, fun r u hr => ?_, e2.1, e3.1⟩
    obtain ⟨l0, g0⟩ := List.getElem?_eq_some_iff.1 (e1 r u hr)
    rw [Nat.add_assoc, hc _ l0, g0]

/-- A list of changes in a row of its own. -/
def OwnC (n0 : Nat) (w : World) (v : Value) (cs : List ChangeV) : Prop := ∃ xs, w.ownsRow n0 67 8 v cs.length xs ∧ ChOut n0 w xs cs
theorem OwnC.nil (n0 : Nat) (w : World) : OwnC n0 w (.slice none 0 0) [] := ⟨[], World.ownsRow_nil _ _ _ _, ChOut.nil _ _⟩
theorem OwnC.ext {n0 : Nat} {w w' : World} {v : Value} {cs : List ChangeV} (h : OwnC n0 w v cs) (he : Ext w w') : OwnC n0 w' v cs := by
  obtain ⟨xs, h1, h2⟩ := h
  exact ⟨xs, (KeepT.of_ext he).own h1, h2.keep3 (Keep3.of_ext he)⟩
theorem OwnC.rd {n0 : Nat} {w : World} {v : Value} {cs : List ChangeV} (h : OwnC n0 w v cs) : ∃ A c, v = .slice A cs.length c ∧ RdC w A cs := by
  obtain ⟨xs, h1, h2⟩ := h
  obtain ⟨A, c, rfl, _, _, h3⟩ := own_rd h1
  exact ⟨A, c, rfl, rdC_of h3 h2⟩
theorem OwnC.snoc {n0 : Nat} {w w1 : World} {v v' : Value} {cs : List ChangeV} {c : ChangeV} {F G : Option Addr} {j m : Nat} {xs : List Value} (h : w.ownsRow n0 67 8 v cs.length xs) (hok : ChOut n0 w xs cs) (hF : FrOwn n0 w F j c.old.frags) (hG : FrOwn n0 w G m c.new.frags)
    (hown : w1.ownsRow n0 67 8 v' (cs.length + 1) (xs ++ chCells c F G j m)) (hg : (w.alloc (.cells (chCells c F G j m).toArray 67)).grownBy w1 v.ownBlock) :
    OwnC n0 w1 v' (cs ++ [c]) := by
  have hx := ext_alloc1 w (.cells (chCells c F G j m).toArray 67)
  have k3 : KeepT 3 w w1 := (KeepT.of_ext hx).trans (KeepT.append ((KeepT.of_ext hx).own h) hg (by decide))
  exact ⟨_, by rw [List.length_append]; exact hown, (hok.snoc hF hG).keep3 k3⟩

/-- What Diff returns. -/
def diffE (a b : List FileV) : List ChangeV × Int :=
  if checkE a = 0 then (if checkE b = 0 then (diffL a b (bothL a b), 0) else ([], checkE b)) else ([], checkE a)
theorem diffE_1 {a b : List FileV} (h : ¬ checkE a = 0) : diffE a b = ([], checkE a) := by unfold diffE; rw [if_neg h]
theorem diffE_2 {a b : List FileV} (h : checkE a = 0) (h2 : ¬ checkE b = 0) : diffE a b = ([], checkE b) := by unfold diffE; rw [if_pos h, if_neg h2]
theorem diffE_3 {a b : List FileV} (h : checkE a = 0) (h2 : checkE b = 0) : diffE a b = (diffL a b (bothL a b), 0) := by unfold diffE; rw [if_pos h, if_pos h2]
theorem frOwn_nil (n0 : Nat) (w : World) : FrOwn n0 w none 0 [] := ⟨⟨by simp, by simp, .inl rfl⟩, .inl rfl⟩
end Go.Proofs.YtcjokhhcncimdaaDoor

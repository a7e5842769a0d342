/- Some sides looked up and laid into new blocks, in whatever order. -/
import Derived.Test.YtcjokhhcncimdaaDoorW9
set_option linter.unusedVariables false
namespace Go.Proofs.YtcjokhhcncimdaaDoor
open Go.RowKit Go.PF Go.Tr

def upd {α : Type} (f : Nat → α) (k : Nat) (v : α) : Nat → α := fun j => if j = k then v else f j
theorem upd_same {α : Type} (f : Nat → α) (k : Nat) (v : α) : upd f k v k = v := by simp [upd]
theorem upd_other {α : Type} (f : Nat → α) {k j : Nat} (v : α) (h : j ≠ k) : upd f k v j = f j := by simp [upd, h]
theorem setL_same (L : Nat → Bool) (i : Nat) : setL L i i = true := by simp [setL]
theorem setL_other (L : Nat → Bool) {i j : Nat} (h : j ≠ i) : setL L i j = L j := by simp [setL, h]

structure Lanes (n : Nat) (ci ai si : Nat → Nat) : Prop where
  ca : ∀ j k, j < n → k < n → ci j ≠ ai k
  cs : ∀ j k, j < n → k < n → ci j ≠ si k
  az : ∀ j k, j < n → k < n → ai j ≠ si k
  cc : ∀ j k, j < n → k < n → j ≠ k → ci j ≠ ci k
  aa : ∀ j k, j < n → k < n → j ≠ k → ai j ≠ ai k
  ss : ∀ j k, j < n → k < n → j ≠ k → si j ≠ si k

structure St (n : Nat) (ci ai si : Nat → Nat) (S0 : World) (n1 : Nat) (sd : Nat → SideV) (L : Nat → Bool) (p q : Nat → Value) (B : Nat → Nat) (W : World) : Prop where
  ext : Ext S0 W
  ord : ∀ k, k < n → L (si k) = true → L (ci k) = true ∧ L (ai k) = true
  side : ∀ k, k < n → L (ci k) = true → SideOwn n1 W (q k) (sd k)
  ptr : ∀ k, k < n → L (ai k) = true → p k = .pointer (some ⟨B k, 0, none⟩) ∧ S0.heap.size ≤ B k ∧ ∃ a0 a1 a2 a3, W.heap[B k]? = some (.cells #[a0, a1, a2, a3] 74 (0, 0)) ∧ (L (si k) = true → q k = .agg #[a0, a1, a2, a3])
  sep : ∀ j k, j < n → k < n → j ≠ k → L (ai j) = true → L (ai k) = true → B j ≠ B k

variable {n : Nat} {ci ai si : Nat → Nat} {S0 : World} {n1 : Nat} {sd : Nat → SideV} {L : Nat → Bool} {p q : Nat → Value} {B : Nat → Nat} {W W' : World}

theorem St.call (hl : Lanes n ci ai si) (h : St n ci ai si S0 n1 sd L p q B W) {k : Nat} (hk : k < n) (hc : L (ci k) = false) {v : Value} (hv : SideOwn n1 W' v (sd k)) (hx : Ext W W') :
    St n ci ai si S0 n1 sd (setL L (ci k)) p (upd q k v) B W' := by
  have hs : L (si k) = false := by
    cases hh : L (si k)
    · rfl
    · rw [(h.ord k hk hh).1] at hc; cases hc
  refine ⟨h.ext.trans hx, fun j hj hs' => ?_, fun j hj hc' => ?_, fun j hj ha => ?_, fun i j hi hj hij ha hb => ?_⟩
  · rw [setL_other L (Ne.symm (hl.cs k j hk hj))] at hs'
    obtain ⟨h1, h2⟩ := h.ord j hj hs'
    refine ⟨?_, by rw [setL_other L (Ne.symm (hl.ca k j hk hj))]; exact h2⟩
    by_cases e : j = k
    · subst e; exact setL_same _ _
    · rw [setL_other L (hl.cc j k hj hk e)]; exact h1
  · by_cases e : j = k
    · subst e; rw [upd_same]; exact hv
    · rw [setL_other L (hl.cc j k hj hk e)] at hc'
      rw [upd_other q v e]
      exact (h.side j hj hc').keep3 (Keep3.of_ext hx)
  · rw [setL_other L (Ne.symm (hl.ca k j hk hj))] at ha
    obtain ⟨h1, h2, a0, a1, a2, a3, h3, h4⟩ := h.ptr j hj ha
    refine ⟨h1, h2, a0, a1, a2, a3, hx.blk h3, fun hs' => ?_⟩
    rw [setL_other L (Ne.symm (hl.cs k j hk hj))] at hs'
    by_cases e : j = k
    · subst e; rw [hs] at hs'; cases hs'
    · rw [upd_other q v e]; exact h4 hs'
  · rw [setL_other L (Ne.symm (hl.ca k i hk hi))] at ha
    rw [setL_other L (Ne.symm (hl.ca k j hk hj))] at hb
    exact h.sep i j hi hj hij ha hb

theorem St.alloc (hl : Lanes n ci ai si) (h : St n ci ai si S0 n1 sd L p q B W) {k : Nat} (hk : k < n) (ha : L (ai k) = false) (a0 a1 a2 a3 : Value) :
    St n ci ai si S0 n1 sd (setL L (ai k)) (upd p k (.pointer (some ⟨W.heap.size, 0, none⟩))) q (upd B k W.heap.size) (W.alloc (.cells #[a0, a1, a2, a3] 74)) := by
  have hs : L (si k) = false := by
    cases hh : L (si k)
    · rfl
    · rw [(h.ord k hk hh).2] at ha; cases ha
  have hx := ext_alloc1 W (.cells #[a0, a1, a2, a3] 74)
  have hlt : ∀ j, j < n → L (ai j) = true → B j < W.heap.size := fun j hj hj' => by
    obtain ⟨_, _, _, _, _, _, h3, _⟩ := h.ptr j hj hj'
    exact (Array.getElem?_eq_some_iff.1 h3).1
  refine ⟨h.ext.trans hx, fun j hj hs' => ?_, fun j hj hc' => ?_, fun j hj ha' => ?_, fun i j hi hj hij ha' hb => ?_⟩
  · rw [setL_other L (Ne.symm (hl.az k j hk hj))] at hs'
    obtain ⟨h1, h2⟩ := h.ord j hj hs'
    refine ⟨by rw [setL_other L (hl.ca j k hj hk)]; exact h1, ?_⟩
    by_cases e : j = k
    · subst e; exact setL_same _ _
    · rw [setL_other L (hl.aa j k hj hk e)]; exact h2
  · rw [setL_other L (hl.ca j k hj hk)] at hc'
    exact (h.side j hj hc').keep3 (Keep3.of_ext hx)
  · by_cases e : j = k
    · subst e
      refine ⟨by rw [upd_same, upd_same], by rw [upd_same]; exact h.ext.size, a0, a1, a2, a3, by rw [upd_same]; exact World.alloc_heap_new W _, fun hs' => ?_⟩
      rw [setL_other L (Ne.symm (hl.az j j hj hj)), hs] at hs'
      cases hs'
    · rw [setL_other L (hl.aa j k hj hk e)] at ha'
      obtain ⟨h1, h2, b0, b1, b2, b3, h3, h4⟩ := h.ptr j hj ha'
      refine ⟨by rw [upd_other p _ e, upd_other B _ e]; exact h1, by rw [upd_other B _ e]; exact h2, b0, b1, b2, b3, by rw [upd_other B _ e]; exact hx.blk h3, fun hs' => ?_⟩
      rw [setL_other L (Ne.symm (hl.az k j hk hj))] at hs'
      exact h4 hs'
  · by_cases e : i = k
    · subst e
      rw [setL_other L (hl.aa j i hj hi (Ne.symm hij))] at hb
      rw [upd_same, upd_other B _ (Ne.symm hij)]
      have := hlt j hj hb
      omega
    · rw [setL_other L (hl.aa i k hi hk e)] at ha'
      rw [upd_other B _ e]
      have h1 := hlt i hi ha'
      by_cases e2 : j = k
      · subst e2; rw [upd_same]; omega
      · rw [upd_other B _ e2]
        rw [setL_other L (hl.aa j k hj hk e2)] at hb
        exact h.sep i j hi hj hij ha' hb

theorem St.store (hl : Lanes n ci ai si) (h : St n ci ai si S0 n1 sd L p q B W) {k : Nat} (hk : k < n) (hc : L (ci k) = true) (ha : L (ai k) = true) {c0 c1 c2 c3 : Value} (hq : q k = .agg #[c0, c1, c2, c3]) :
    St n ci ai si S0 n1 sd (setL L (si k)) p q B ((((W.setCell ⟨B k, 0, none⟩ c0).setCell ⟨B k, 1, none⟩ c1).setCell ⟨B k, 2, none⟩ c2).setCell ⟨B k, 3, none⟩ c3) := by
  obtain ⟨hp, hn, b0, b1, b2, b3, hb, hbs⟩ := h.ptr k hk ha
  have hnew := blk_set4 hb c0 c1 c2 c3
  have k1 := Keep3.set hb (by decide) 0 c0
  have k2 := Keep3.set (blk_set hb 0 c0) (by decide) 1 c1
  have k3 := Keep3.set (blk_set (blk_set hb 0 c0) 1 c1) (by decide) 2 c2
  have k4 := Keep3.set (blk_set (blk_set (blk_set hb 0 c0) 1 c1) 2 c2) (by decide) 3 c3
  have hkeep := ((k1.trans k2).trans k3).trans k4
  have hext : Ext S0 ((((W.setCell ⟨B k, 0, none⟩ c0).setCell ⟨B k, 1, none⟩ c1).setCell ⟨B k, 2, none⟩ c2).setCell ⟨B k, 3, none⟩ c3) := ext_set (ext_set (ext_set (ext_set h.ext hn c0) hn c1) hn c2) hn c3
  refine ⟨hext, fun j hj hs' => ?_, fun j hj hc' => ?_, fun j hj ha' => ?_, fun i j hi hj hij ha' hb' => ?_⟩
  · rw [setL_other L (hl.cs j k hj hk), setL_other L (hl.az j k hj hk)]
    by_cases e : j = k
    · subst e; exact ⟨hc, ha⟩
    · rw [setL_other L (hl.ss j k hj hk e)] at hs'
      exact h.ord j hj hs'
  · rw [setL_other L (hl.cs j k hj hk)] at hc'
    exact (h.side j hj hc').keep3 hkeep
  · rw [setL_other L (hl.az j k hj hk)] at ha'
    by_cases e : j = k
    · subst e
      exact ⟨hp, hn, c0, c1, c2, c3, hnew, fun _ => hq⟩
    · obtain ⟨h1, h2, d0, d1, d2, d3, h3, h4⟩ := h.ptr j hj ha'
      have hne : B k ≠ B j := h.sep k j hk hj (Ne.symm e) ha ha'
      refine ⟨h1, h2, d0, d1, d2, d3, blk_other (blk_other (blk_other (blk_other h3 hne 0 c0) hne 1 c1) hne 2 c2) hne 3 c3, fun hs' => ?_⟩
      rw [setL_other L (hl.ss j k hj hk e)] at hs'
      exact h4 hs'
  · rw [setL_other L (hl.az i k hi hk)] at ha'
    rw [setL_other L (hl.az j k hj hk)] at hb'
    exact h.sep i j hi hj hij ha' hb'
end Go.Proofs.YtcjokhhcncimdaaDoor

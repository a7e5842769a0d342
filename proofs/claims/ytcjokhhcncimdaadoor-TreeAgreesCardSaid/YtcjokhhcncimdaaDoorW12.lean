/- The walks of slices.Equal on strings, file. -/
import Derived.Test.YtcjokhhcncimdaaDoorW11
set_option linter.unusedVariables false
set_option linter.unusedSimpArgs false
namespace Go.Proofs.YtcjokhhcncimdaaDoor
open Go.RowKit Go.PF Go.Tr


theorem eqstr_any (F1 F2 : Option Addr) (k1 k2 : Nat) (l1 l2 : List ByteArray) (w : World) (h1 : RdS w F1 l1) (h2 : RdS w F2 l2) (g1 : l1.length ≤ 4096) (g2 : l2.length ≤ 4096) :
    Calls Tryd.prog 16 #[.slice F1 l1.length k1, .slice F2 l2.length k2] w fun e w' => e = .returned (.bool (decide (l1 = l2))) ∧ Ext w w' := by
  by_cases hl : l1.length = l2.length
  · rcases h1 with h0 | ⟨b, off, rfl, hc⟩
    · have h0 : l1 = [] := by simpa using h0
      subst h0
      have h3 : l2 = [] := List.eq_nil_of_length_eq_zero (by simpa using hl.symm)
      subst h3
      refine (Tryd.slices_Equal_string_empty F1 F2 k1 0 k2 w (by omega)).mono ?_
      rintro e w' ⟨rfl, rfl⟩
      exact ⟨by simp, Ext.refl _⟩
    · rcases h2 with h0 | ⟨b2, off2, rfl, hc2⟩
      · have h0 : l2 = [] := by simpa using h0
        subst h0
        have h3 : l1 = [] := List.eq_nil_of_length_eq_zero (by simpa using hl)
        subst h3
        refine (Tryd.slices_Equal_string_empty _ F2 k1 0 k2 w (by omega)).mono ?_
        rintro e w' ⟨rfl, rfl⟩
        exact ⟨by simp, Ext.refl _⟩
      · refine (Tryd.slices_Equal_string b off l1.length k1 b2 off2 l2.length k2 l1 l2 w (Nat.le_refl _) (Nat.le_refl _) (by omega) (by omega) ?_ ?_).mono ?_
        · intro j hj
          rw [hc j (by simpa using hj)]
          simp [List.getD_eq_getElem?_getD, List.getElem?_eq_getElem hj]
        · intro j hj
          rw [hc2 j (by simpa using hj)]
          simp [List.getD_eq_getElem?_getD, List.getElem?_eq_getElem hj]
        · rintro e w' ⟨rfl, q, rfl⟩
          refine ⟨?_, (Ext.refl w).drewN q⟩
          rw [List.take_of_length_le (Nat.le_refl _), List.take_of_length_le (Nat.le_refl _)]
  · refine (Tryd.slices_Equal_string_lens F1 F2 l1.length k1 l2.length k2 w hl).mono ?_
    rintro e w' ⟨rfl, rfl⟩
    exact ⟨by rw [decide_eq_false (fun h => hl (by rw [h]))], Ext.refl _⟩

theorem file_any (p : ByteArray) (n : Int) (w : World) :
    Calls Tryd.prog 36 #[.string p, .int .i64 n] w fun e w' => ∃ v, e = .returned v ∧ FileOwn w.heap.size w' v ⟨p, 1, [n]⟩ ∧ Ext w w' := by
  go_enter Tryd.func36, Tryd.ntmps36
  go_wp2_with fail
  obtain ⟨hb1, hb2⟩ := heap2 w (.cells #[.string p, .int .i64 1, .slice (some ⟨w.heap.size + 1, 0, none⟩) 1 1] 46) (.cells #[.int .i64 n] 3)
  have hx := ext_alloc2 w (.cells #[.string p, .int .i64 1, .slice (some ⟨w.heap.size + 1, 0, none⟩) 1 1] 46) (.cells #[.int .i64 n] 3)
  generalize ((w.alloc (.cells #[.string p, .int .i64 1, .slice (some ⟨w.heap.size + 1, 0, none⟩) 1 1] 46)).alloc (.cells #[.int .i64 n] 3)) = W at *
  have hr0 := cell_blk hb1 0
  have hr1 := cell_blk hb1 1
  have hr2 := cell_blk hb1 2
  simp only [List.getElem?_toArray, List.getElem?_cons_succ, List.getElem?_cons_zero] at hr0 hr1 hr2
  refine bodyPost_ret (v := .agg #[.string p, .int .i64 1, .slice (some ⟨w.heap.size + 1, 0, none⟩) 1 1]) (by simp [results, Tryd.results36, go_sem, hr0, hr1, hr2]) rfl ?_
  refine ⟨_, rfl, ⟨some ⟨w.heap.size + 1, 0, none⟩, 1, rfl, ⟨⟨by simp, by simp [maxLen], .inr ⟨_, 0, rfl, fun k hk => ?_⟩⟩, .inr ⟨_, 0, rfl, by omega, _, _, hb2⟩⟩⟩, hx⟩
  have hk0 : k = 0 := by simpa using hk
  subst hk0
  rw [cell_blk hb2]
  rfl

/-- Some files by value in a row of their own. -/
theorem rdL_row {n0 : Nat} {w : World} {b : Nat} {cs : List Value} {fs : List FileV} {r : Nat × Nat} (hb : w.heap[b]? = some (.cells cs.toArray 46 r)) (ho : OutOk n0 w cs fs) : RdL w (some ⟨b, 0, none⟩) fs := by
  obtain ⟨h1, h2⟩ := ho
  refine .inr ⟨b, 0, rfl, fun k f hf => ?_⟩
  obtain ⟨F, c, e0, e1, e2, e3⟩ := h2 k f hf
  exact ⟨F, c, by rw [cell_blk hb]; simpa using e0, by rw [cell_blk hb]; simpa using e1, by rw [cell_blk hb]; simpa using e2, e3.1⟩
end Go.Proofs.YtcjokhhcncimdaaDoor

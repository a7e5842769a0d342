/- The walks of equal, same, check. -/
import Derived.Test.YtcjokhhcncimdaaDoorW8
set_option linter.unusedVariables false
set_option linter.unusedSimpArgs false
namespace Go.Proofs.YtcjokhhcncimdaaDoor
open Go.RowKit Go.PF Go.Tr

theorem eqint_any (F1 F2 : Option Addr) (k1 k2 : Nat) (l1 l2 : List Int) (w : World) (h1 : Fr w F1 k1 l1) (h2 : Fr w F2 k2 l2) :
    Calls Tryd.prog 80 #[.slice F1 l1.length k1, .slice F2 l2.length k2] w fun e w' => e = .returned (.bool (decide (l1 = l2))) ∧ Ext w w' := by
  have g1 := h1.le; have g2 := h1.max; have g3 := h2.le; have g4 := h2.max
  unfold maxLen at g2 g4
  by_cases hl : l1.length = l2.length
  · rcases h1.rd with h0 | ⟨b, off, rfl, hc⟩
    · have h0 : l1 = [] := by simpa using h0
      subst h0
      have h3 : l2 = [] := List.eq_nil_of_length_eq_zero (by simpa using hl.symm)
      subst h3
      refine (Tryd.slices_Equal_int_empty F1 F2 k1 0 k2 w (by omega)).mono ?_
      rintro e w' ⟨rfl, rfl⟩
      exact ⟨by simp, Ext.refl _⟩
    · rcases h2.rd with h0 | ⟨b2, off2, rfl, hc2⟩
      · have h0 : l2 = [] := by simpa using h0
        subst h0
        have h3 : l1 = [] := List.eq_nil_of_length_eq_zero (by simpa using hl)
        subst h3
        refine (Tryd.slices_Equal_int_empty _ F2 k1 0 k2 w (by omega)).mono ?_
        rintro e w' ⟨rfl, rfl⟩
        exact ⟨by simp, Ext.refl _⟩
      · refine (Tryd.slices_Equal_int b off l1.length k1 b2 off2 l2.length k2 l1 l2 w (Nat.le_refl _) (Nat.le_refl _) (by omega) (by omega) ?_ ?_).mono ?_
        · intro j hj
          rw [hc j (by simpa using hj)]
          simp [i64, List.getD_eq_getElem?_getD, List.getElem?_eq_getElem hj]
        · intro j hj
          rw [hc2 j (by simpa using hj)]
          simp [i64, List.getD_eq_getElem?_getD, List.getElem?_eq_getElem hj]
        · rintro e w' ⟨rfl, q, rfl⟩
          refine ⟨?_, (Ext.refl w).drewN q⟩
          rw [List.take_of_length_le (Nat.le_refl _), List.take_of_length_le (Nat.le_refl _)]
          congr 2
          by_cases h : l1 = l2 <;> simp [h]
  · refine (Tryd.slices_Equal_int_lens F1 F2 l1.length k1 l2.length k2 w hl).mono ?_
    rintro e w' ⟨rfl, rfl⟩
    exact ⟨by rw [decide_eq_false (fun h => hl (by rw [h]))], Ext.refl _⟩

theorem equal_any (v1 v2 : Value) (f g : FileV) (w : World) (h1 : FileIs w v1 f) (h2 : FileIs w v2 g) :
    Calls Tryd.prog 66 #[v1, v2] w fun e w' => e = .returned (.bool (decide (f = g))) ∧ Ext w w' := by
  obtain ⟨F1, c1, rfl, hF1⟩ := h1
  obtain ⟨F2, c2, rfl, hF2⟩ := h2
  obtain ⟨p1, n1, l1⟩ := f
  obtain ⟨p2, n2, l2⟩ := g
  dsimp only at *
  have hx := ext_alloc2 w (.cells #[.string p1, .int .i64 n1, .slice F1 l1.length c1] 46) (.cells #[.string p2, .int .i64 n2, .slice F2 l2.length c2] 46)
  by_cases hp : p1.toList = p2.toList
  · have q1 : (p1.toList == p2.toList) = true := by rw [hp]; simp
    by_cases hn : n1 = n2
    · subst hn
      have HD : Hid (decide (FileV.mk p1 n1 l1 = FileV.mk p2 n1 l2) = decide (l1 = l2)) := by
        have := ba_inj hp
        subst this
        rw [Hid]; congr 1; simp
      clear hp
      go_enter Tryd.func66, Tryd.ntmps66
      go_wp2_with fail
      refine (eqint_any F1 F2 c1 c2 l1 l2 _ (hF1.ext hx) (hF2.ext hx)).mono ?_
      rintro e w1 ⟨rfl, hx1⟩
      go_wp2_with fail
      go_ret
      exact ⟨by rw [HD.out]; simp [q1], hx.trans hx1⟩
    · have HD := Lib.hid (ne_len (p1 := p1) (p2 := p2) (l1 := l1) (l2 := l2) hn)
      have q2 : (n1 == n2) = false := beq_eq_false_iff_ne.2 hn
      clear hp
      go_enter Tryd.func66, Tryd.ntmps66
      go_wp2_with fail
      go_ret
      exact ⟨by rw [HD.out]; simp [q2], hx⟩
  · have HD := Lib.hid (ne_path (n1 := n1) (n2 := n2) (l1 := l1) (l2 := l2) hp)
    have q1 : (p1.toList == p2.toList) = false := beq_eq_false_iff_ne.2 hp
    go_enter Tryd.func66, Tryd.ntmps66
    go_wp2_with fail
    go_ret
    exact ⟨by rw [HD.out]; simp [q1], hx⟩

/-- A side by value. -/
def SideIs (w : World) (v : Value) (x : SideV) : Prop := ∃ F c, v = .agg #[.string x.f.path, .int .i64 x.f.len, .slice F x.f.frags.length c, .bool x.there] ∧ Fr w F c x.f.frags
theorem SideIs.ext {w w' : World} {v : Value} {x : SideV} (h : SideIs w v x) (he : Ext w w') : SideIs w' v x := by
  obtain ⟨F, c, h1, h2⟩ := h
  exact ⟨F, c, h1, h2.ext he⟩
theorem SideOwn.is {n0 : Nat} {w : World} {v : Value} {x : SideV} (h : SideOwn n0 w v x) : SideIs w v x := by
  obtain ⟨F, c, h1, h2⟩ := h
  exact ⟨F, c, h1, h2.1⟩

theorem same_side_any (v1 v2 : Value) (x y : SideV) (w : World) (h1 : SideIs w v1 x) (h2 : SideIs w v2 y) :
    Calls Tryd.prog 40 #[v1, v2] w fun e w' => e = .returned (.bool (decide (x = y))) ∧ Ext w w' := by
  obtain ⟨F1, c1, rfl, hF1⟩ := h1
  obtain ⟨F2, c2, rfl, hF2⟩ := h2
  obtain ⟨f, t1⟩ := x
  obtain ⟨g, t2⟩ := y
  dsimp only at *
  have hx := ext_alloc2 w (.cells #[.string f.path, .int .i64 f.len, .slice F1 f.frags.length c1, .bool t1] 74) (.cells #[.string g.path, .int .i64 g.len, .slice F2 g.frags.length c2, .bool t2] 74)
  by_cases ht : t1 = t2
  · subst ht
    have HD : Hid (decide (SideV.mk f t1 = SideV.mk g t1) = decide (f = g)) := by rw [Hid]; congr 1; simp
    go_enter Tryd.func40, Tryd.ntmps40
    go_wp2_with fail
    all_goals
      refine (equal_any _ _ f g _ ⟨_, _, rfl, hF1.ext hx⟩ ⟨_, _, rfl, hF2.ext hx⟩).mono ?_
      rintro e w1 ⟨rfl, hx1⟩
      go_wp2_with fail
      go_ret
      exact ⟨by rw [HD.out]; simp, hx.trans hx1⟩
  · have HD : Hid (decide (SideV.mk f t1 = SideV.mk g t2) = false) := by rw [Hid, decide_eq_false_iff_not]; simp [ht]
    have q1 : (t1 == t2) = false := beq_eq_false_iff_ne.2 ht
    go_enter Tryd.func40, Tryd.ntmps40
    go_wp2_with fail
    go_ret
    exact ⟨by rw [HD.out]; simp [q1], hx⟩

/-- The first error of some trees. -/
def checks : List (List FileV) → Int
  | [] => 0
  | l :: r => if checkE l = 0 then checks r else checkE l
theorem checks_bad {ts : List (List FileV)} {i : Nat} {l : List FileV} (h : ts[i]? = some l) (hc : ¬ checkE l = 0) : checks (ts.drop i) = checkE l := by
  rw [drop_cons h, checks, if_neg hc]
theorem checks_ok {ts : List (List FileV)} {i : Nat} {l : List FileV} (h : ts[i]? = some l) (hc : checkE l = 0) : checks (ts.drop i) = checks (ts.drop (i + 1)) := by
  rw [drop_cons h, checks, if_pos hc]

theorem checks_any (b off cap : Nat) (ts : List (List FileV)) (w : World) (hm : Mx w) (hn : ts.length ≤ 10)
    (hB : ∀ i l, ts[i]? = some l → ∃ A c, w.cell? ⟨b, off + i, none⟩ = some (.slice A l.length c) ∧ RdL w A l ∧ l.length ≤ 1000 ∧ Short l) :
    Calls Tryd.prog 37 #[.slice (some ⟨b, off, none⟩) ts.length cap] w fun e w' => e = .returned (.int .i64 (checks ts)) ∧ Ext w w' := by
  have HB := Lib.hid hB; clear hB
  go_enter Tryd.func37, Tryd.ntmps37
  go_wp2_with fail
  go_loopg [8] 11 (fun f i wr => ∃ (i' : Nat), i = .int .i64 i' ∧ i' ≤ ts.length ∧ 11 ≤ i' + f ∧ Hid (checks ts = checks (ts.drop i')) ∧ Ext w wr)
  case atStart => exact ⟨0, rfl, by omega, by omega, rfl, Ext.refl _⟩
  case round =>
    obtain ⟨i', rfl, h2, h3, HA, hx⟩ := hrel
    by_cases hlt : i' < ts.length
    · obtain ⟨l, hl⟩ : ∃ x, ts[i']? = some x := ⟨_, List.getElem?_eq_getElem hlt⟩
      obtain ⟨A, c, hc, hr, hll, hsl⟩ := HB.out i' l hl
      have hc' := hx.cell hc
      have HX := Lib.hid hl; clear hl hc
      go_wp2_with fail
      refine (tcheck_any A c l wr (hm.ext hx) hll hsl (hr.ext hx)).mono ?_
      rintro e w1 ⟨rfl, hx1⟩
      by_cases hc0 : checkE l = 0
      · have HC := Lib.hid (HA.out.trans (checks_ok HX.out hc0))
        rw [hc0]
        clear hc0
        go_wp2_with fail
        go_roundg (gk - 1)
        case measure => omega
        case rel => exact ⟨i' + 1, by go_num, by omega, by omega, HC.out, hx.trans hx1⟩
      · have HC := Lib.hid (HA.out.trans (checks_bad HX.out hc0))
        have q1 : (checkE l == 0) = false := beq_eq_false_iff_ne.2 hc0
        go_wp2_with fail
        go_ret
        exact ⟨by rw [HC.out]; rfl, hx.trans hx1⟩
    · obtain rfl : i' = ts.length := by omega
      have HZ : Hid (checks ts = 0) := by rw [Hid, HA.out, List.drop_length]; rfl
      go_wp2_with fail
      go_ret
      exact ⟨by rw [HZ.out]; rfl, hx⟩
end Go.Proofs.YtcjokhhcncimdaaDoor

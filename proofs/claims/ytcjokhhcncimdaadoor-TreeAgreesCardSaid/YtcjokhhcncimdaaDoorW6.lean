/- The walks of the search. -/
import Derived.Test.YtcjokhhcncimdaaDoorW5
import Derived.Test.YtcjokhhcncimdaaDoorSort
import Derived.Deep.Cut
set_option linter.unusedVariables false
set_option linter.unusedSimpArgs false
namespace Go.Proofs.YtcjokhhcncimdaaDoor
open Go.RowKit Go.PF Go.Tr

def cmpS (p q : ByteArray) : Int := if lessB p q = true then -1 else if p = q then 0 else 1

theorem nan_any (p : ByteArray) (w : World) : Calls Tryd.prog 85 #[.string p] w fun e w' => e = .returned (.bool false) ∧ w = w' := by
  go_enter Tryd.func85, Tryd.ntmps85
  go_wp2_with fail
  go_ret
  exact ⟨by simp, rfl⟩

theorem cmpstr_any (p q : ByteArray) (w : World) : Calls Tryd.prog 73 #[.string p, .string q] w fun e w' => e = .returned (.int .i64 (cmpS p q)) ∧ w = w' := by
  by_cases h : lessB p q = true
  · have HC : Hid (cmpS p q = -1) := by unfold cmpS; rw [Hid, if_pos h]
    have q1 : Op.bytesLess p.toList q.toList = true := h
    clear h
    go_enter Tryd.func73, Tryd.ntmps73
    go_wp2_with (go_at_call 85; refine (nan_any _ _).mono ?_; rintro e w' ⟨rfl, rfl⟩)
    go_ret
    exact ⟨by rw [HC.out]; rfl, rfl⟩
  · have h' : lessB p q = false := by simpa using h
    have q1 : Op.bytesLess p.toList q.toList = false := h'
    by_cases he : p = q
    · have HC : Hid (cmpS p q = 0) := by unfold cmpS; rw [Hid, if_neg h, if_pos he]
      have q2 : (p.toList == q.toList) = true := by rw [he]; simp
      clear h h' he
      go_enter Tryd.func73, Tryd.ntmps73
      go_wp2_with (go_at_call 85; refine (nan_any _ _).mono ?_; rintro e w' ⟨rfl, rfl⟩)
      go_ret
      exact ⟨by rw [HC.out]; rfl, rfl⟩
    · have HC : Hid (cmpS p q = 1) := by unfold cmpS; rw [Hid, if_neg h, if_neg he]
      have q2 : (p.toList == q.toList) = false := beq_eq_false_iff_ne.2 (fun e => he (ba_inj e))
      clear h h' he
      go_enter Tryd.func73, Tryd.ntmps73
      go_wp2_with (go_at_call 85; refine (nan_any _ _).mono ?_; rintro e w' ⟨rfl, rfl⟩)
      go_ret
      exact ⟨by rw [HC.out]; rfl, rfl⟩

theorem compare_any (v : Value) (f : FileV) (p : ByteArray) (w : World) (hv : FileIs w v f) :
    Calls Tryd.prog 52 #[v, .string p] w fun e w' => e = .returned (.int .i64 (cmpS f.path p)) ∧ Ext w w' := by
  obtain ⟨F, k, rfl, -⟩ := hv
  go_enter Tryd.func52, Tryd.ntmps52
  go_wp2_with fail
  refine (cmpstr_any _ _ _).mono ?_
  rintro e w' ⟨rfl, rfl⟩
  go_wp2_with fail
  go_ret
  exact ⟨rfl, ext_alloc1 _ _⟩

theorem low_lt' {p : ByteArray} {l : List FileV} (hs : Srt l) {i : Nat} {f : FileV} (hf : l[i]? = some f) (h : cmpS f.path p < 0) : i < lowI p l := by
  refine (low_iff hs hf).1 ?_
  unfold cmpS at h
  split at h
  · assumption
  · split at h <;> omega
theorem low_ge' {p : ByteArray} {l : List FileV} (hs : Srt l) {i : Nat} {f : FileV} (hf : l[i]? = some f) (h : ¬ cmpS f.path p < 0) : lowI p l ≤ i := by
  rcases Nat.lt_or_ge i (lowI p l) with h1 | h1
  · have := (low_iff hs hf).2 h1
    exfalso; apply h
    unfold cmpS
    rw [if_pos this]; omega
  · exact h1
theorem cmp_zero {p q : ByteArray} : (cmpS p q == 0) = decide (p = q) := by
  unfold cmpS
  by_cases h : lessB p q = true
  · rw [if_pos h, decide_eq_false (less_ne h)]; rfl
  · rw [if_neg h]
    by_cases e : p = q
    · rw [if_pos e, decide_eq_true e]; rfl
    · rw [if_neg e, decide_eq_false e]; rfl

set_option maxRecDepth 100000 in
theorem bsearch_any (A : Option Addr) (cap : Nat) (l : List FileV) (p : ByteArray) (w : World) (hn : l.length ≤ 1000) (hs : Srt l) (hB : RdL w A l) :
    Calls Tryd.prog 68 #[.slice A l.length cap, .string p, .func (.func 52) #[] #[]] w fun e w' => e = .returned (.tuple #[.int .i64 (lowI p l), .bool (hasB p l)]) ∧ Ext w w' := by
  have HB := Lib.hid hB; clear hB
  have HS := Lib.hid hs; clear hs
  have hle := low_le p l
  go_enter Tryd.func68, Tryd.ntmps68
  go_wp2_with fail
  go_loopg [9, 10] 1001 (fun f i j wr => ∃ (i' j' : Nat), i = .int .i64 i' ∧ j = .int .i64 j' ∧ i' ≤ lowI p l ∧ lowI p l ≤ j' ∧ j' ≤ l.length ∧ j' + 1 ≤ i' + f ∧ Ext w wr)
  case atStart => exact ⟨0, l.length, rfl, rfl, by omega, by omega, by omega, by omega, Ext.refl _⟩
  case round =>
    obtain ⟨i', j', rfl, rfl, h1, h2, h3, h4, hx⟩ := hrel
    by_cases hlt : i' < j'
    · obtain ⟨f, hf⟩ : ∃ x, l[(i' + j') / 2]? = some x := ⟨_, List.getElem?_eq_getElem (by omega)⟩
      obtain ⟨b, o, F, k, rfl, hr1, hr2, hr3, hr4⟩ := (HB.out.ext hx).at_ hf
      have HX := Lib.hid hf; clear hf
      obtain ⟨m, hm⟩ : ∃ m, m = (i' + j') / 2 := ⟨_, rfl⟩
      have hm' : ((i' : Int) + (j' : Int)) / 2 = (m : Int) := by omega
      have hm1 : i' ≤ m := by omega
      have hm2 : m < j' := by omega
      rw [← hm] at hr1 hr2 hr3 HX
      clear hm
      go_wp2_with fail
      refine (compare_any _ f p _ ⟨_, _, rfl, hr4⟩).mono ?_
      rintro e w1 ⟨rfl, hx1⟩
      by_cases hc : cmpS f.path p < 0
      · have h5 := low_lt' HS.out HX.out hc
        go_wp2_with fail
        go_roundg (gk - 1)
        case measure => omega
        case rel => exact ⟨m + 1, j', by go_num, rfl, by omega, by omega, by omega, by omega, hx.trans hx1⟩
      · have h5 := low_ge' HS.out HX.out hc
        have h6 : 0 ≤ cmpS f.path p := by omega
        have q1 : decide (cmpS f.path p < 0) = false := by rw [decide_eq_false_iff_not]; exact hc
        clear hc
        go_wp2_with fail
        go_roundg (gk - 1)
        case measure => omega
        case rel => exact ⟨i', m, rfl, rfl, by omega, by omega, by omega, by omega, hx.trans hx1⟩
    · obtain rfl : i' = j' := by omega
      have hi : lowI p l = i' := by omega
      clear h1 h2 hle h4
      by_cases hlt2 : i' < l.length
      · obtain ⟨f, hf⟩ : ∃ x, l[i']? = some x := ⟨_, List.getElem?_eq_getElem hlt2⟩
        obtain ⟨b, o, F, k, rfl, hr1, hr2, hr3, hr4⟩ := (HB.out.ext hx).at_ hf
        have HR : Hid (hasB p l = decide (f.path = p)) := by unfold hasB; rw [Hid, hi, hf]
        have HI := Lib.hid hi; clear hf hi
        go_wp2_with fail
        refine (compare_any _ f p _ ⟨_, _, rfl, hr4⟩).mono ?_
        rintro e w1 ⟨rfl, hx1⟩
        have q1 := cmp_zero (p := f.path) (q := p)
        go_wp2_with fail
        go_ret2
        exact ⟨by rw [HR.out, HI.out]; simp [q1], hx.trans hx1⟩
      · have HR : Hid (hasB p l = false) := by unfold hasB; rw [Hid, hi, List.getElem?_eq_none (by omega)]
        have HI := Lib.hid hi; clear hi
        go_wp2_with fail
        go_ret2
        exact ⟨by rw [HR.out, HI.out]; rfl, hx⟩

theorem search_any (A : Option Addr) (cap : Nat) (l : List FileV) (p : ByteArray) (w : World) (hn : l.length ≤ 1000) (hs : Srt l) (hB : RdL w A l) :
    Calls Tryd.prog 46 #[.slice A l.length cap, .string p] w fun e w' => e = .returned (.tuple #[.int .i64 (lowI p l), .bool (hasB p l)]) ∧ Ext w w' := by
  go_enter Tryd.func46, Tryd.ntmps46
  go_wp2_with fail
  refine (bsearch_any A cap l p w hn hs hB).mono ?_
  rintro e w1 ⟨rfl, hx⟩
  go_wp2_with fail
  go_ret2
  exact ⟨rfl, hx⟩
end Go.Proofs.YtcjokhhcncimdaaDoor

/- The walk of TreeKeeps. -/
import Derived.Test.YtcjokhhcncimdaaDoorW14
set_option linter.unusedVariables false
set_option linter.unusedSimpArgs false
namespace Go.Proofs.YtcjokhhcncimdaaDoor
open Go.RowKit Go.PF Go.Tr

theorem keep1 {base a : List FileV} (hb : checkE base = 0) (ha : checkE a = 0) : mergeE base a base = (a, [], 0) := by
  have h : outL base a base (bothL a base) = a := out_look (taken_bab base a) (check_srt ha) (both_srt (check_srt ha) (check_srt hb)) (fun f hf => both_mem.2 (.inl ⟨f, hf, rfl⟩))
  unfold mergeE
  rw [if_pos (by simp [checks, hb, ha]), h, if_pos ha, conf_none (fun p => by rw [taken_bab])]
theorem keep2 {base a : List FileV} (hb : checkE base = 0) (ha : checkE a = 0) : mergeE base base a = (a, [], 0) := by
  have h : outL base base a (bothL base a) = a := out_look (taken_bba base a) (check_srt ha) (both_srt (check_srt hb) (check_srt ha)) (fun f hf => both_mem.2 (.inr ⟨f, hf, rfl⟩))
  unfold mergeE
  rw [if_pos (by simp [checks, hb, ha]), h, if_pos ha, conf_none (fun p => by rw [taken_bba])]
theorem keep3 {base a : List FileV} (hb : checkE base = 0) (ha : checkE a = 0) : mergeE base a a = (a, [], 0) := by
  have h : outL base a a (bothL a a) = a := out_look (taken_baa base a) (check_srt ha) (both_srt (check_srt ha) (check_srt ha)) (fun f hf => both_mem.2 (.inl ⟨f, hf, rfl⟩))
  unfold mergeE
  rw [if_pos (by simp [checks, hb, ha]), h, if_pos ha, conf_none (fun p => by rw [taken_baa])]

/-- What is asked of a list that is handed to Merge. -/
structure Fit (w : World) (A : Option Addr) (l : List FileV) : Prop where
  len : l.length ≤ 500
  short : Short l
  small : Small l
  rd : RdL w A l
theorem Fit.ext {w w' : World} {A : Option Addr} {l : List FileV} (h : Fit w A l) (he : Ext w w') : Fit w' A l := ⟨h.len, h.short, h.small, h.rd.ext he⟩
theorem fit_of {w : World} {A : Option Addr} {l : List FileV} (h : few l = true) (hB : RdL w A l) : Fit w A l := by
  obtain ⟨h1, h2, h3⟩ := few_parts h
  exact ⟨by omega, h2, h3, hB⟩
theorem merge_fit (A B C : Option Addr) (ca cb cc : Nat) (base a b : List FileV) (w : World) (hm : Mx w) (hA : Fit w A base) (hB : Fit w B a) (hC : Fit w C b) (r : List FileV × List ByteArray × Int) (hr : mergeE base a b = r) :
    Calls Tryd.prog 13 #[.slice A base.length ca, .slice B a.length cb, .slice C b.length cc] w fun e w' => ∃ Ao co Ac cc, e = .returned (.tuple #[.slice Ao r.1.length co, .slice Ac r.2.1.length cc, .int .i64 r.2.2]) ∧
      RdL w' Ao r.1 ∧ RdS w' Ac r.2.1 ∧ Ext w w' := by
  subst hr
  exact merge_any A B C ca cb cc base a b w hm hA.len hB.len hC.len hA.short hB.short hC.short hA.small hB.small hC.small hA.rd hB.rd hC.rd
theorem same_same (A1 A2 : Option Addr) (c1 c2 : Nat) (l : List FileV) (w : World) (hl : l.length ≤ maxLen) (h1 : RdL w A1 l) (h2 : RdL w A2 l) :
    Calls Tryd.prog 15 #[.slice A1 l.length c1, .slice A2 l.length c2] w fun e w' => e = .returned (.bool true) ∧ Ext w w' := by
  refine (same_any A1 A2 c1 c2 l l w hl hl h1 h2).mono ?_
  rintro e w' ⟨rfl, hx⟩
  exact ⟨by rw [decide_eq_true rfl], hx⟩

theorem row2 (w : World) (A B : Option Addr) (ca cb : Nat) (l m : List FileV) (hA : RdL w A l) (hB : RdL w B m) (hl : l.length ≤ maxLen) (hm : m.length ≤ maxLen) :
    ∀ i x, [l, m][i]? = some x → ∃ X c, (w.alloc (.cells #[.slice A l.length ca, .slice B m.length cb] 22)).cell? ⟨w.heap.size, 0 + i, none⟩ = some (.slice X x.length c) ∧ RdL (w.alloc (.cells #[.slice A l.length ca, .slice B m.length cb] 22)) X x ∧ x.length ≤ maxLen := by
  have hx := ext_alloc1 w (.cells #[.slice A l.length ca, .slice B m.length cb] 22)
  intro i x hi
  match i with
  | 0 => cases hi; exact ⟨A, ca, by rw [cell_blk (World.alloc_heap_new w _)]; rfl, hA.ext hx, hl⟩
  | 1 => cases hi; exact ⟨B, cb, by rw [cell_blk (World.alloc_heap_new w _)]; rfl, hB.ext hx, hm⟩
  | n + 2 => cases hi

set_option maxHeartbeats 1000000 in
theorem keeps_all (A B : Option Addr) (ca cb : Nat) (l m : List FileV) (w : World) (hm : Mx w) (hl : l.length ≤ maxLen) (hml : m.length ≤ maxLen) (hA : RdL w A l) (hB : RdL w B m) :
    Calls Tryd.prog 4 #[.slice A l.length ca, .slice B m.length cb] w fun e w' => e = .returned (.bool true) ∧ Ext w w' := by
  have HA := Lib.hid hA; have HB := Lib.hid hB; clear hA hB
  have HL := Lib.hid hl; have HM := Lib.hid hml; clear hl hml
  go_enter Tryd.func4, Tryd.ntmps4
  go_wp2_with fail
  have hx0 := ext_alloc1 w (.cells #[.slice A l.length ca, .slice B m.length cb] 22)
  refine (right_any w.heap.size 0 2 [l, m] _ (hm.ext hx0) (by simp) (row2 w A B ca cb l m HA.out HB.out HL.out HM.out)).mono ?_
  rintro e w1 ⟨rfl, hx1⟩
  have hx := hx0.trans hx1
  clear hx0 hx1
  rcases hr : [l, m].all rightB with _ | _
  · go_wp2_with fail
    refine (awake_any _ (hm.ext hx)).mono ?_
    rintro e w2 ⟨rfl, hx2⟩
    go_wp2_with fail
    go_ret
    exact ⟨rfl, hx.trans hx2⟩
  · have hr1 : rightB l = true ∧ rightB m = true := by simpa using hr
    obtain ⟨hl1, hl2⟩ := right_parts hr1.1
    obtain ⟨hm1, hm2⟩ := right_parts hr1.2
    have FA := Lib.hid (fit_of hl1 (HA.out.ext hx))
    have FB := Lib.hid (fit_of hm1 (HB.out.ext hx))
    have K1 := Lib.hid (keep1 hl2 hm2)
    have K2 := Lib.hid (keep2 hl2 hm2)
    have K3 := Lib.hid (keep3 hl2 hm2)
    clear hr hr1 hl1 hl2 hm1 hm2
    go_wp2_with fail
    have hb := World.alloc_heap_new w1 (.cells #[.slice A l.length ca, .slice B m.length cb, .slice A l.length ca, .slice A l.length ca, .slice A l.length ca, .slice B m.length cb, .slice A l.length ca, .slice B m.length cb, .slice B m.length cb] 35)
    have hxa := ext_alloc1 w1 (.cells #[.slice A l.length ca, .slice B m.length cb, .slice A l.length ca, .slice A l.length ca, .slice A l.length ca, .slice B m.length cb, .slice A l.length ca, .slice B m.length cb, .slice B m.length cb] 35)
    generalize w1.alloc (.cells #[.slice A l.length ca, .slice B m.length cb, .slice A l.length ca, .slice A l.length ca, .slice A l.length ca, .slice B m.length cb, .slice A l.length ca, .slice B m.length cb, .slice B m.length cb] 35) = W at *
    have HX := Lib.hid hb; clear hb
    generalize w1.heap.size = nb at *
    go_loopg [30] 4 (fun f i wr => ∃ (i' : Nat), i = .int .i64 i' ∧ i' ≤ 3 ∧ 4 ≤ i' + f ∧ Ext W wr)
    case atStart => exact ⟨0, rfl, by omega, by omega, Ext.refl _⟩
    case round =>
      obtain ⟨i', rfl, h2, h3, hxr⟩ := hrel
      by_cases hlt : i' < 3
      · obtain ⟨P, Q, R, cp, cq, cr, u, v, x, e0, e1, e2, HU, HV, HX2, HE⟩ : ∃ (P Q R : Option Addr) (cp cq cr : Nat) (u v x : List FileV), wr.cell? ⟨nb, i' * 3, none⟩ = some (.slice P u.length cp) ∧ wr.cell? ⟨nb, i' * 3 + 1, none⟩ = some (.slice Q v.length cq) ∧ wr.cell? ⟨nb, i' * 3 + 2, none⟩ = some (.slice R x.length cr) ∧
            Hid (Fit w1 P u) ∧ Hid (Fit w1 Q v) ∧ Hid (Fit w1 R x) ∧ Hid (mergeE u v x = (m, [], 0)) := by
          match i', hlt with
          | 0, _ => exact ⟨A, B, A, ca, cb, ca, l, m, l, hxr.cell (by rw [cell_blk HX.out]; rfl), hxr.cell (by rw [cell_blk HX.out]; rfl), hxr.cell (by rw [cell_blk HX.out]; rfl), FA, FB, FA, K1⟩
          | 1, _ => exact ⟨A, A, B, ca, ca, cb, l, l, m, hxr.cell (by rw [cell_blk HX.out]; rfl), hxr.cell (by rw [cell_blk HX.out]; rfl), hxr.cell (by rw [cell_blk HX.out]; rfl), FA, FA, FB, K2⟩
          | 2, _ => exact ⟨A, B, B, ca, cb, cb, l, m, m, hxr.cell (by rw [cell_blk HX.out]; rfl), hxr.cell (by rw [cell_blk HX.out]; rfl), hxr.cell (by rw [cell_blk HX.out]; rfl), FA, FB, FB, K3⟩
        go_wp2_with fail
        have hxc := ((hxa.trans hxr).trans (ext_alloc1 wr (.cells #[.slice P u.length cp, .slice Q v.length cq, .slice R x.length cr] 35)))
        refine (merge_fit P Q R cp cq cr u v x _ (hm.ext (hx.trans hxc)) (HU.out.ext hxc) (HV.out.ext hxc) (HX2.out.ext hxc) _ HE.out).mono ?_
        rintro e w3 ⟨Ao, co, Ac, cc, rfl, hro, _, hx3⟩
        have hx3' := (ext_alloc1 wr (.cells #[.slice P u.length cp, .slice Q v.length cq, .slice R x.length cr] 35)).trans hx3
        clear e0 e1 e2
        go_wp2_with fail
        refine (same_same Ao B co cb m w3 HM.out hro (FB.out.rd.ext ((hxa.trans hxr).trans hx3'))).mono ?_
        rintro e w4 ⟨rfl, hx4⟩
        go_wp2_with fail
        go_roundg (gk - 1)
        case measure => omega
        case rel => exact ⟨i' + 1, by go_num, by omega, by omega, (hxr.trans hx3').trans hx4⟩
      · obtain rfl : i' = 3 := by omega
        go_wp2_with fail
        refine (awake_any _ (hm.ext ((hx.trans hxa).trans hxr))).mono ?_
        rintro e w3 ⟨rfl, hx3⟩
        go_wp2_with fail
        go_ret
        exact ⟨rfl, ((hx.trans hxa).trans hxr).trans hx3⟩
end Go.Proofs.YtcjokhhcncimdaaDoor

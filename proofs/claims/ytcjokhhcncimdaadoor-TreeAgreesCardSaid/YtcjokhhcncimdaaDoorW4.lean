/- The walks of a file's check. -/
import Derived.Test.YtcjokhhcncimdaaDoorW3
set_option linter.unusedSimpArgs false
set_option linter.unusedVariables false
namespace Go.Proofs.YtcjokhhcncimdaaDoor
open Go.RowKit Go.PF Go.Tr

set_option maxHeartbeats 1000000 in
theorem rvalid_any (v : Value) (f : FileV) (w : World) (hv : FileIs w v f) (hp : f.path.size ≤ maxLen) :
    Calls Tryd.prog 54 #[v] w fun e w' => e = .returned (.int .i64 (validE f)) ∧ Ext w w' := by
  obtain ⟨F, k, rfl, hf⟩ := hv
  obtain ⟨p, n, l⟩ := f
  dsimp only at *
  go_enter Tryd.func54, Tryd.ntmps54
  go_wp2_with fail
  refine (rpath_any p hp _).mono ?_
  rintro e w' ⟨rfl, rfl⟩
  have hx := ext_alloc1 w (.cells #[.string p, .int .i64 n, .slice F l.length k] 46)
  have hb := World.alloc_heap_new w (.cells #[.string p, .int .i64 n, .slice F l.length k] 46)
  generalize w.alloc (.cells #[.string p, .int .i64 n, .slice F l.length k] 46) = W at *
  have hc0 := cell_blk hb 0
  have hc1 := cell_blk hb 1
  have hc2 := cell_blk hb 2
  simp only [List.getElem?_toArray, List.getElem?_cons_succ, List.getElem?_cons_zero] at hc0 hc1 hc2
  have HF := Lib.hid (hf.ext hx); clear hf hb
  have hle := HF.out.le
  have hmx := HF.out.max
  unfold maxLen at hmx
  by_cases hq : pathB p = true
  · have HQ := Lib.hid hq
    rw [pathE_yes hq]
    clear hq
    by_cases hlen : n < 0 ∨ 65536 < n
    · have HV := Lib.hid (validE_len (f := ⟨p, n, l⟩) HQ.out hlen)
      rcases hlen with hlen | hlen
      · go_wp2_with fail
        go_ret
        exact ⟨by rw [HV.out]; rfl, hx⟩
      · go_wp2_with fail
        go_ret
        exact ⟨by rw [HV.out]; rfl, hx⟩
    · have HL := Lib.hid hlen
      have h0 : 0 ≤ n := by omega
      have h1 : n ≤ 65536 := by omega
      clear hlen
      go_wp2_with fail
      go_loopg [4] (l.length + 1) (fun f i wr => ∃ (i' : Nat), i = .int .i64 i' ∧ i' ≤ l.length ∧ l.length + 1 ≤ i' + f ∧ Hid ((l.take i').all fragOk = true) ∧ wr = W)
      case atStart => exact ⟨0, rfl, by omega, by omega, rfl, rfl⟩
      case round =>
        obtain ⟨i', rfl, h2, h3, HA, rfl⟩ := hrel
        by_cases hlt : i' < l.length
        · obtain ⟨x, hx1⟩ : ∃ x, l[i']? = some x := ⟨_, List.getElem?_eq_getElem hlt⟩
          obtain ⟨b, o, rfl, hr⟩ := HF.out.rd.at_ (by omega)
          replace hr := hr i' hlt
          rw [hx1] at hr
          simp only [Option.getD_some] at hr
          have HX := Lib.hid hx1; clear hx1
          by_cases hok : 0 ≤ x ∧ x < 4096
          · obtain ⟨g1, g2⟩ := hok
            have g2' : decide (4096 ≤ x) = false := by rw [decide_eq_false_iff_not]; omega
            go_wp2_with fail
            go_roundg (gk - 1)
            case measure => omega
            case rel => exact ⟨i' + 1, by go_num, by omega, by omega, all_succ HA.out HX.out (by unfold fragOk; rw [decide_eq_true_iff]; omega), rfl⟩
          · have HV := Lib.hid (validE_frag (f := ⟨p, n, l⟩) HQ.out HL.out (all_stop HX.out (by unfold fragOk; rw [decide_eq_false_iff_not]; exact hok)))
            rcases (by omega : x < 0 ∨ 0 ≤ x) with g1 | g1
            · go_wp2_with fail
              go_ret
              exact ⟨by rw [HV.out]; rfl, hx⟩
            · have g2 : 4096 ≤ x := by omega
              clear hok
              go_wp2_with fail
              go_ret
              exact ⟨by rw [HV.out]; rfl, hx⟩
        · obtain rfl : i' = l.length := by omega
          have HB := Lib.hid (all_done HA.out)
          clear HA
          by_cases hmany : 4096 < l.length
          · have HV := Lib.hid (validE_many (f := ⟨p, n, l⟩) HQ.out HL.out HB.out hmany)
            go_wp2_with fail
            go_ret
            exact ⟨by rw [HV.out]; rfl, hx⟩
          · have HV := Lib.hid (validE_end (f := ⟨p, n, l⟩) HQ.out HL.out HB.out hmany)
            have hm2 : l.length ≤ 4096 := by omega
            clear hmany
            dsimp only at HV
            by_cases e1 : n = 0 <;> by_cases e2 : l.length = 0
            · have q1 : ((n : Int) == 0) = true := by simp [e1]
              have q2 : ((l.length : Int) == 0) = true := by simp [e2]
              rw [if_pos (by simp [e1, e2])] at HV
              go_wp2_with fail
              go_ret
              exact ⟨by rw [HV.out]; rfl, hx⟩
            · have q1 : ((n : Int) == 0) = true := by simp [e1]
              have q2 : ((l.length : Int) == 0) = false := beq_eq_false_iff_ne.2 (by omega)
              rw [if_neg (by simp [e1, e2])] at HV
              go_wp2_with fail
              go_ret
              exact ⟨by rw [HV.out]; rfl, hx⟩
            · have q1 : ((n : Int) == 0) = false := by simp; omega
              have q2 : ((l.length : Int) == 0) = true := by simp [e2]
              rw [if_neg (by simp [e1, e2])] at HV
              go_wp2_with fail
              go_ret
              exact ⟨by rw [HV.out]; rfl, hx⟩
            · have q1 : ((n : Int) == 0) = false := by simp; omega
              have q2 : ((l.length : Int) == 0) = false := beq_eq_false_iff_ne.2 (by omega)
              rw [if_pos (by simp [e1, e2])] at HV
              go_wp2_with fail
              go_ret
              exact ⟨by rw [HV.out]; rfl, hx⟩
  · have hq : pathB p = false := by simpa using hq
    have HV := Lib.hid (validE_path (f := ⟨p, n, l⟩) hq)
    rw [pathE_no hq]
    clear hq
    go_wp2_with fail
    go_ret
    exact ⟨by rw [HV.out]; rfl, hx⟩

theorem strange_any (n : Int) (w : World) : Calls Tryd.prog 71 #[.int .i64 n] w fun e w' => e = .returned (.bool (!fragOk n)) ∧ w = w' := by
  by_cases hok : 0 ≤ n ∧ n < 4096
  · have HV : Hid (fragOk n = true) := by unfold fragOk; rw [Hid, decide_eq_true_iff]; exact hok
    obtain ⟨g1, g2⟩ := hok
    have g3 : decide (4096 ≤ n) = false := by rw [decide_eq_false_iff_not]; omega
    have g4 : decide (n < 0) = false := by rw [decide_eq_false_iff_not]; omega
    go_enter Tryd.func71, Tryd.ntmps71
    go_wp2_with fail
    go_ret
    exact ⟨by rw [HV.out]; rfl, rfl⟩
  · have HV : Hid (fragOk n = false) := by unfold fragOk; rw [Hid, decide_eq_false_iff_not]; exact hok
    rcases (by omega : n < 0 ∨ (0 ≤ n ∧ 4096 ≤ n)) with g1 | ⟨g1, g2⟩
    · clear hok
      go_enter Tryd.func71, Tryd.ntmps71
      go_wp2_with fail
      go_ret
      exact ⟨by rw [HV.out]; rfl, rfl⟩
    · clear hok
      go_enter Tryd.func71, Tryd.ntmps71
      go_wp2_with fail
      go_ret
      exact ⟨by rw [HV.out]; rfl, rfl⟩

theorem indexfunc_any (F : Option Addr) (k : Nat) (l : List Int) (w : World) (hf : Fr w F k l) :
    Calls Tryd.prog 84 #[.slice F l.length k, .func (.func 71) #[] #[]] w fun e w' => ∃ r, e = .returned (.int .i64 r) ∧ (l.all fragOk = true → r = -1) ∧ (l.all fragOk = false → 0 ≤ r) ∧ w = w' := by
  have hle := hf.le
  have hmx := hf.max
  unfold maxLen at hmx
  have HF := Lib.hid hf; clear hf
  go_enter Tryd.func84, Tryd.ntmps84
  go_wp2_with fail
  go_loopg [8] (l.length + 1) (fun f i wr => ∃ (i' : Nat), i = .int .i64 i' ∧ i' ≤ l.length ∧ l.length + 1 ≤ i' + f ∧ Hid ((l.take i').all fragOk = true) ∧ wr = w)
  case atStart => exact ⟨0, rfl, by omega, by omega, rfl, rfl⟩
  case round =>
    obtain ⟨i', rfl, h2, h3, HA, rfl⟩ := hrel
    by_cases hlt : i' < l.length
    · obtain ⟨x, hx1⟩ : ∃ x, l[i']? = some x := ⟨_, List.getElem?_eq_getElem hlt⟩
      obtain ⟨b, o, rfl, hr⟩ := HF.out.rd.at_ (by omega)
      replace hr := hr i' hlt
      rw [hx1] at hr
      simp only [Option.getD_some] at hr
      have HX := Lib.hid hx1; clear hx1
      go_wp2_with fail
      refine (strange_any _ _).mono ?_
      rintro e w' ⟨rfl, rfl⟩
      by_cases hok : fragOk x = true
      · have HO := Lib.hid hok
        rw [hok]
        clear hok
        go_wp2_with fail
        go_roundg (gk - 1)
        case measure => omega
        case rel => exact ⟨i' + 1, by go_num, by omega, by omega, all_succ HA.out HX.out HO.out, rfl⟩
      · have hok : fragOk x = false := by simpa using hok
        have HO := Lib.hid (all_stop HX.out hok)
        rw [hok]
        clear hok
        go_wp2_with fail
        go_ret
        exact ⟨_, rfl, fun h => (by rw [HO.out] at h; cases h), fun _ => by omega, rfl⟩
    · obtain rfl : i' = l.length := by omega
      have HB := Lib.hid (all_done HA.out)
      go_wp2_with fail
      go_ret
      exact ⟨_, rfl, fun _ => rfl, fun h => (by rw [HB.out] at h; cases h), rfl⟩

theorem contains_any (F : Option Addr) (k : Nat) (l : List Int) (w : World) (hf : Fr w F k l) :
    Calls Tryd.prog 72 #[.slice F l.length k, .func (.func 71) #[] #[]] w fun e w' => e = .returned (.bool (!(l.all fragOk))) ∧ w = w' := by
  go_enter Tryd.func72, Tryd.ntmps72
  go_wp2_with fail
  refine (indexfunc_any F k l w hf).mono ?_
  rintro e w' ⟨r, rfl, h1, h2, rfl⟩
  by_cases hok : l.all fragOk = true
  · rw [h1 hok]
    have HO := Lib.hid hok
    clear h1 h2 hok
    go_wp2_with fail
    go_ret
    exact ⟨by rw [HO.out]; rfl, rfl⟩
  · have hok : l.all fragOk = false := by simpa using hok
    have h2 := h2 hok
    have HO := Lib.hid hok
    have h3 : decide (0 ≤ r) = true := decide_eq_true h2
    clear h1 hok
    go_wp2_with fail
    go_ret
    refine ⟨?_, rfl⟩
    rw [HO.out]
    simp [h3]

set_option maxHeartbeats 1000000 in
theorem tvalid_any (v : Value) (f : FileV) (w : World) (hm : Mx w) (hv : FileIs w v f) (hp : f.path.size ≤ maxLen) :
    Calls Tryd.prog 51 #[v] w fun e w' => e = .returned (.int .i64 (validE f)) ∧ Ext w w' := by
  obtain ⟨F, k, rfl, hf⟩ := hv
  obtain ⟨p, n, l⟩ := f
  dsimp only at *
  go_enter Tryd.func51, Tryd.ntmps51
  go_wp2_with fail
  have hx0 := ext_alloc1 w (.cells #[.string p, .int .i64 n, .slice F l.length k] 46)
  have hb := World.alloc_heap_new w (.cells #[.string p, .int .i64 n, .slice F l.length k] 46)
  generalize w.alloc (.cells #[.string p, .int .i64 n, .slice F l.length k] 46) = W0 at *
  refine (tpath_any p hp W0 (hm.ext hx0)).mono ?_
  rintro e W ⟨rfl, hx1⟩
  have hx := hx0.trans hx1
  replace hb := hx1.blk hb
  have hc0 := cell_blk hb 0
  have hc1 := cell_blk hb 1
  have hc2 := cell_blk hb 2
  simp only [List.getElem?_toArray, List.getElem?_cons_succ, List.getElem?_cons_zero] at hc0 hc1 hc2
  have HF := Lib.hid (hf.ext hx); clear hf hb hx0 hx1 hm
  have hle := HF.out.le
  have hmx := HF.out.max
  unfold maxLen at hmx
  by_cases hq : pathB p = true
  · have HQ := Lib.hid hq
    rw [pathE_yes hq]
    clear hq
    by_cases hlen : n < 0 ∨ 65536 < n
    · have HV := Lib.hid (validE_len (f := ⟨p, n, l⟩) HQ.out hlen)
      rcases hlen with hlen | hlen
      · go_wp2_with fail
        go_ret
        exact ⟨by rw [HV.out]; rfl, hx⟩
      · go_wp2_with fail
        go_ret
        exact ⟨by rw [HV.out]; rfl, hx⟩
    · have HL := Lib.hid hlen
      have h0 : 0 ≤ n := by omega
      have h1 : n ≤ 65536 := by omega
      clear hlen
      go_wp2_with fail
      refine (contains_any F k l W HF.out).mono ?_
      rintro e w' ⟨rfl, rfl⟩
      by_cases hok : l.all fragOk = true
      · have HB := Lib.hid hok
        rw [hok]
        clear hok
        by_cases hmany : 4096 < l.length
        · have HV := Lib.hid (validE_many (f := ⟨p, n, l⟩) HQ.out HL.out HB.out hmany)
          go_wp2_with fail
          go_ret
          exact ⟨by rw [HV.out]; rfl, hx⟩
        · have HV := Lib.hid (validE_end (f := ⟨p, n, l⟩) HQ.out HL.out HB.out hmany)
          have hm2 : l.length ≤ 4096 := by omega
          clear hmany
          dsimp only at HV
          by_cases e1 : n = 0 <;> by_cases e2 : l.length = 0
          · have q1 : ((n : Int) == 0) = true := by simp [e1]
            have q2 : ((l.length : Int) == 0) = true := by simp [e2]
            rw [if_pos (by simp [e1, e2])] at HV
            go_wp2_with fail
            go_ret
            exact ⟨by rw [HV.out]; rfl, hx⟩
          · have q1 : ((n : Int) == 0) = true := by simp [e1]
            have q2 : ((l.length : Int) == 0) = false := beq_eq_false_iff_ne.2 (by omega)
            rw [if_neg (by simp [e1, e2])] at HV
            go_wp2_with fail
            go_ret
            exact ⟨by rw [HV.out]; rfl, hx⟩
          · have q1 : ((n : Int) == 0) = false := by simp; omega
            have q2 : ((l.length : Int) == 0) = true := by simp [e2]
            rw [if_neg (by simp [e1, e2])] at HV
            go_wp2_with fail
            go_ret
            exact ⟨by rw [HV.out]; rfl, hx⟩
          · have q1 : ((n : Int) == 0) = false := by simp; omega
            have q2 : ((l.length : Int) == 0) = false := beq_eq_false_iff_ne.2 (by omega)
            rw [if_pos (by simp [e1, e2])] at HV
            go_wp2_with fail
            go_ret
            exact ⟨by rw [HV.out]; rfl, hx⟩
      · have hok : l.all fragOk = false := by simpa using hok
        have HV := Lib.hid (validE_frag (f := ⟨p, n, l⟩) HQ.out HL.out hok)
        rw [hok]
        clear hok
        go_wp2_with fail
        go_ret
        exact ⟨by rw [HV.out]; rfl, hx⟩
  · have hq : pathB p = false := by simpa using hq
    have HV := Lib.hid (validE_path (f := ⟨p, n, l⟩) hq)
    rw [pathE_no hq]
    clear hq
    go_wp2_with fail
    go_ret
    exact ⟨by rw [HV.out]; rfl, hx⟩
end Go.Proofs.YtcjokhhcncimdaaDoor

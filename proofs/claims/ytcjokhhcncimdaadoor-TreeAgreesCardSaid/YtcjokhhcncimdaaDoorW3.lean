/- The walks of the paths. -/
import Derived.Test.YtcjokhhcncimdaaDoorW2
import Derived.Test.YtcjokhhcncimdaaDoorPure
import Derived.Test.YtcjokhhcncimdaaDoorShelf
namespace Go.Proofs.YtcjokhhcncimdaaDoor
open Go.RowKit Go.PF Go.Tr

set_option maxHeartbeats 1000000 in
theorem tname_any (s : ByteArray) (hs : s.size ≤ 1000) (w : World) :
    Calls Tryd.prog 49 #[.string s] w fun e w' => e = .returned (.bool (nameB s)) ∧ w = w' := by
  have hlen := toList_len s
  go_enter Tryd.func49, Tryd.ntmps49
  go_wp2_with fail
  go_loopg [7] 1001 (fun f i wr => ∃ (i' : Nat), i = .int .i64 i' ∧ i' ≤ s.size ∧ 1001 ≤ i' + f ∧ Hid ((s.toList.take i').all letB = true) ∧ wr = w)
  case atStart => exact ⟨0, rfl, by omega, by omega, rfl, rfl⟩
  case round =>
    obtain ⟨i', rfl, h1, h2, HA, rfl⟩ := hrel
    by_cases hlt : i' < s.size
    · have HX := Lib.hid (toList_at hlt)
      have hb := s[i'].toNat_lt
      generalize hc : s[i'] = c at *
      have HL : Hid (letB c = letterI (c.toNat : Int)) := rfl
      have hcases : letB c = true ∨ letB c = false := by cases letB c <;> simp
      rcases hcases with hl | hl
      · have hl2 : 97 ≤ (c.toNat : Int) ∧ (c.toNat : Int) ≤ 122 ∨ 65 ≤ (c.toNat : Int) ∧ (c.toNat : Int) ≤ 90 ∨ 48 ≤ (c.toNat : Int) ∧ (c.toNat : Int) ≤ 57 ∨ (c.toNat : Int) = 46 ∨ (c.toNat : Int) = 45 ∨ (c.toNat : Int) = 95 := by
          rw [HL.out] at hl; unfold letterI at hl; rwa [decide_eq_true_iff] at hl
        have HI := Lib.hid hl; clear hl
        rcases hl2 with ⟨g1, g2⟩ | ⟨g1, g2⟩ | ⟨g1, g2⟩ | g1 | g1 | g1
        all_goals
          go_wp2_with fail
          go_roundg (gk - 1)
        all_goals first
          | omega
          | exact ⟨i' + 1, by go_num, by omega, by omega, all_succ HA.out HX.out HI.out, rfl⟩
      · have hl2 : ¬ (97 ≤ (c.toNat : Int) ∧ (c.toNat : Int) ≤ 122 ∨ 65 ≤ (c.toNat : Int) ∧ (c.toNat : Int) ≤ 90 ∨ 48 ≤ (c.toNat : Int) ∧ (c.toNat : Int) ≤ 57 ∨ (c.toNat : Int) = 46 ∨ (c.toNat : Int) = 45 ∨ (c.toNat : Int) = 95) := by
          rw [HL.out] at hl; unfold letterI at hl; rwa [decide_eq_false_iff_not] at hl
        have hn : nameB s = false := by unfold nameB; rw [all_stop HX.out hl]; rfl
        have HI := Lib.hid hn; clear hl hn
        have hl3 : (c.toNat : Int) < 45 ∨ (c.toNat : Int) = 47 ∨ (58 ≤ (c.toNat : Int) ∧ (c.toNat : Int) ≤ 64) ∨ (91 ≤ (c.toNat : Int) ∧ (c.toNat : Int) ≤ 94) ∨ (c.toNat : Int) = 96 ∨ 123 ≤ (c.toNat : Int) := by omega
        clear hl2
        have e1 : ((c.toNat : Int) == 46) = false := by simp; omega
        have e2 : ((c.toNat : Int) == 45) = false := by simp; omega
        have e3 : ((c.toNat : Int) == 95) = false := by simp; omega
        rcases hl3 with g1 | g1 | ⟨g1, g2⟩ | ⟨g1, g2⟩ | g1 | g1
        all_goals
          try have e4 : decide ((c.toNat : Int) ≤ 57) = false := by rw [decide_eq_false_iff_not]; omega
          try have e5 : decide ((c.toNat : Int) ≤ 90) = false := by rw [decide_eq_false_iff_not]; omega
          try have e6 : decide ((c.toNat : Int) ≤ 122) = false := by rw [decide_eq_false_iff_not]; omega
          go_wp2_with fail
          go_ret
          exact ⟨by rw [HI.out]; rfl, rfl⟩
    · obtain rfl : i' = s.size := by omega
      have HB : Hid (s.toList.all letB = true) := by
        have := HA.out
        rwa [List.take_of_length_le (by omega)] at this
      go_wp2_with fail
      all_goals
        go_ret
        refine ⟨?_, rfl⟩
        unfold nameB
        rw [HB.out]
        simp [*]

theorem rpath_any (s : ByteArray) (hs : s.size ≤ maxLen) (w : World) :
    Calls Tryd.prog 21 #[.string s] w fun e w' => e = .returned (.int .i64 (pathE s)) ∧ w = w' := by
  unfold maxLen at hs
  rcases Nat.lt_or_ge 255 s.size with hgt | hle
  · have HE := Lib.hid (pathE_no (pathB_long hgt))
    go_enter Tryd.func21, Tryd.ntmps21
    go_wp2_with fail
    go_ret
    exact ⟨by rw [HE.out]; rfl, rfl⟩
  · have HP : Hid (pathB s = rest s 0 0) := by rw [rest_zero]; exact pathB_short hle
    go_enter Tryd.func21, Tryd.ntmps21
    go_wp2_with fail
    go_loopg [3, 4] 257 (fun f m i wr => ∃ (i' m' : Nat), m = .int .i64 m' ∧ i = .int .i64 i' ∧ i' ≤ s.size + 1 ∧ m' ≤ i' ∧ 257 ≤ i' + f ∧ (i' = s.size + 1 → pathB s = true) ∧ (i' ≤ s.size → Hid (pathB s = rest s m' i')) ∧ wr = w)
    case atStart => exact ⟨0, 0, rfl, rfl, by omega, by omega, by omega, fun h => by omega, fun _ => HP, rfl⟩
    case round =>
      obtain ⟨i', m', rfl, rfl, h1, h2, h3, h4, h5, rfl⟩ := hrel
      rcases Nat.lt_trichotomy i' s.size with hlt | heq | hgt
      · have HA := h5 (by omega)
        clear h4 h5
        have hb := s[i'].toNat_lt
        by_cases h47 : s[i'] = 47
        · have h47' : (s[i'].toNat : Int) = 47 := by rw [h47]; rfl
          have HR := Lib.hid (rest_slash s m' i' hlt h47)
          clear h47
          go_wp2_with fail
          refine (rname_any _ (by simp; omega) _).mono ?_
          rintro e w' ⟨rfl, rfl⟩
          by_cases hn : nameB (s.extract m' i') = true
          · have HN := Lib.hid hn
            rw [hn]
            clear hn
            go_wp2_with fail
            go_roundg (gk - 1)
            case measure => omega
            case rel => exact ⟨i' + 1, i' + 1, by go_num, by go_num, by omega, by omega, by omega, fun h => by omega, fun _ => by rw [Hid, HA.out, HR.out, HN.out]; rfl, rfl⟩
          · have hn : nameB (s.extract m' i') = false := by simpa using hn
            have HN := Lib.hid hn
            rw [hn]
            clear hn
            go_wp2_with fail
            go_ret
            exact ⟨by rw [pathE_no (by rw [HA.out, HR.out, HN.out]; rfl)]; rfl, rfl⟩
        · have h47' : ¬ (s[i'].toNat : Int) = 47 := by
            intro h
            apply h47
            apply UInt8.toNat_inj.1
            have : (47 : UInt8).toNat = 47 := rfl
            omega
          have HR := Lib.hid (rest_next s m' i' h2 hlt h47)
          clear h47
          have q1 : ((i' : Int) == (s.size : Int)) = false := by simp; omega
          have q2 : ((s[i'].toNat : Int) == 47) = false := by simp; omega
          go_wp2_with fail
          go_roundg (gk - 1)
          case measure => omega
          case rel => exact ⟨i' + 1, m', rfl, by go_num, by omega, by omega, by omega, fun h => by omega, fun _ => by rw [Hid, HA.out, HR.out], rfl⟩
      · subst heq
        have HA := h5 (by omega)
        clear h4 h5
        have HR := Lib.hid (rest_end s m' h2)
        go_wp2_with fail
        refine (rname_any _ (by simp; omega) _).mono ?_
        rintro e w' ⟨rfl, rfl⟩
        by_cases hn : nameB (s.extract m' s.size) = true
        · have HN := Lib.hid hn
          rw [hn]
          clear hn
          go_wp2_with fail
          go_roundg (gk - 1)
          case measure => omega
          case rel => exact ⟨s.size + 1, s.size + 1, by go_num, by go_num, by omega, by omega, by omega, fun _ => by rw [HA.out, HR.out, HN.out], fun h => by omega, rfl⟩
        · have hn : nameB (s.extract m' s.size) = false := by simpa using hn
          have HN := Lib.hid hn
          rw [hn]
          clear hn
          go_wp2_with fail
          go_ret
          exact ⟨by rw [pathE_no (by rw [HA.out, HR.out, HN.out])]; rfl, rfl⟩
      · have HY := Lib.hid (pathE_yes (h4 (by omega)))
        clear h4 h5
        go_wp2_with fail
        go_ret
        exact ⟨by rw [HY.out]; rfl, rfl⟩

/-- The variable that the library's search reads holds a number. -/
def Mx (w : World) : Prop := ∃ m, w.cell? ⟨0, 0, none⟩ = some (.int .i64 m)
theorem Mx.ext {w w' : World} (h : Mx w) (he : Ext w w') : Mx w' := by
  obtain ⟨m, h⟩ := h
  exact ⟨m, he.cell h⟩

theorem tpath_any (s : ByteArray) (hs : s.size ≤ maxLen) (w : World) (hm : Mx w) :
    Calls Tryd.prog 20 #[.string s] w fun e w' => e = .returned (.int .i64 (pathE s)) ∧ Ext w w' := by
  unfold maxLen at hs
  rcases Nat.lt_or_ge 255 s.size with hgt | hle
  · have HE := Lib.hid (pathE_no (pathB_long hgt))
    go_enter Tryd.func20, Tryd.ntmps20
    go_wp2_with fail
    go_ret
    exact ⟨by rw [HE.out]; rfl, Ext.refl _⟩
  · have HP : Hid (pathB s = (Lib.splitB ⟨#[47]⟩ 0 (Lib.countB s ⟨#[47]⟩) s).all nameB) := (pathB_short hle).trans (split_path s).symm
    have hlen := Lib.splitB_all ⟨#[47]⟩ (by decide) 0 (Lib.countB s ⟨#[47]⟩) s rfl
    have hcnt := Lib.countB_le ⟨#[47]⟩ (by decide) s.size s (Nat.le_refl _)
    have HS := Lib.hid (split_small ⟨#[47]⟩ (Lib.countB s ⟨#[47]⟩) s)
    obtain ⟨m, hm⟩ := hm
    go_enter Tryd.func20, Tryd.ntmps20
    go_wp2_with fail
    refine (Tryd.strings_Split s ⟨#[47]⟩ m w (by omega) hm (by decide)).mono ?_
    rintro e w1 ⟨rfl, rfl⟩
    generalize Lib.splitB ⟨#[47]⟩ 0 (Lib.countB s ⟨#[47]⟩) s = ps at *
    rw [← hlen]
    generalize Lib.countB s ⟨#[47]⟩ = k at *
    have hx : Ext w (w.alloc (.cells (ps.map Value.string).toArray 9)) := ext_alloc1 _ _
    have HC : Hid (∀ j p, ps[j]? = some p → (w.alloc (.cells (ps.map Value.string).toArray 9)).cell? ⟨w.heap.size, j, none⟩ = some (.string p)) := by
      intro j p hj
      rw [cell_blk (World.alloc_heap_new w _)]
      simp [hj]
    generalize w.alloc (.cells (ps.map Value.string).toArray 9) = W at *
    clear hm
    go_wp2_with fail
    go_loopg [11] 257 (fun f i wr => ∃ (i' : Nat), i = .int .i64 i' ∧ i' ≤ ps.length ∧ 257 ≤ i' + f ∧ Hid ((ps.take i').all nameB = true) ∧ wr = W)
    case atStart => exact ⟨0, rfl, by omega, by omega, rfl, rfl⟩
    case round =>
      obtain ⟨i', rfl, h1, h2, HA, rfl⟩ := hrel
      by_cases hlt : i' < ps.length
      · obtain ⟨p, hp⟩ : ∃ x, ps[i']? = some x := ⟨_, List.getElem?_eq_getElem hlt⟩
        have hc := HC.out i' p hp
        have hsz := HS.out p (List.mem_of_getElem? hp)
        have HX := Lib.hid hp; clear hp
        go_wp2_with fail
        refine (tname_any p (by omega) _).mono ?_
        rintro e w' ⟨rfl, rfl⟩
        by_cases hn : nameB p = true
        · have HN := Lib.hid hn
          rw [hn]
          clear hn
          go_wp2_with fail
          go_roundg (gk - 1)
          case measure => omega
          case rel => exact ⟨i' + 1, by go_num, by omega, by omega, all_succ HA.out HX.out HN.out, rfl⟩
        · have hn : nameB p = false := by simpa using hn
          have HN := Lib.hid hn
          rw [hn]
          clear hn
          go_wp2_with fail
          go_ret
          exact ⟨by rw [pathE_no (by rw [HP.out, all_stop HX.out HN.out])]; rfl, hx⟩
      · obtain rfl : i' = ps.length := by omega
        go_wp2_with fail
        go_ret
        exact ⟨by rw [pathE_yes (by rw [HP.out, all_done HA.out])]; rfl, hx⟩
end Go.Proofs.YtcjokhhcncimdaaDoor

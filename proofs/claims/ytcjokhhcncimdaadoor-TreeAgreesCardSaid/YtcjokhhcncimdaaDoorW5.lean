/- The walks of the reference's check of a tree. -/
import Derived.Test.YtcjokhhcncimdaaDoorW4
set_option linter.unusedVariables false
set_option linter.unusedSimpArgs false
namespace Go.Proofs.YtcjokhhcncimdaaDoor
open Go.RowKit Go.PF Go.Tr

theorem dir_any (p q : ByteArray) (hp : p.size ≤ maxLen) (hq : q.size ≤ maxLen) (w : World) :
    Calls Tryd.prog 75 #[.string p, .string q] w fun e w' => e = .returned (.bool (dirB p q)) ∧ w = w' := by
  unfold maxLen at hp hq
  by_cases h : p.size < q.size
  · by_cases h1 : (q.extract 0 p.size).toList = p.toList
    · by_cases h2 : (q[p.size].toNat : Int) = 47
      · have HD := Lib.hid (dir_yes h h1 h2)
        go_enter Tryd.func75, Tryd.ntmps75
        go_wp2_with fail
        go_ret
        exact ⟨by rw [HD.out]; simp [h, h1, h2], rfl⟩
      · have HD := Lib.hid (dir_at h h2)
        go_enter Tryd.func75, Tryd.ntmps75
        go_wp2_with fail
        go_ret
        exact ⟨by rw [HD.out]; simp [h, h1, h2], rfl⟩
    · have HD := Lib.hid (dir_pre h h1)
      go_enter Tryd.func75, Tryd.ntmps75
      go_wp2_with fail
      go_ret
      exact ⟨by rw [HD.out]; simp [h1], rfl⟩
  · have HD := Lib.hid (dir_long h)
    go_enter Tryd.func75, Tryd.ntmps75
    go_wp2_with fail
    go_ret
    exact ⟨by rw [HD.out]; simp, rfl⟩

/-- No path is longer than memory. -/
def Short (l : List FileV) : Prop := ∀ f ∈ l, f.path.size ≤ maxLen

theorem apart_no {l : List FileV} (h : (l.any fun f => l.any fun g => dirB f.path g.path) = false) : apartE l = 0 := by unfold apartE; rw [h]; rfl
theorem apart_yes {l : List FileV} (h : (l.any fun f => l.any fun g => dirB f.path g.path) = true) : apartE l = 3 := by unfold apartE; rw [h]; rfl

theorem apart_any (A : Option Addr) (cap : Nat) (l : List FileV) (w : World) (hn : l.length ≤ 1000) (hs : Short l) (hB : RdL w A l) :
    Calls Tryd.prog 55 #[.slice A l.length cap] w fun e w' => e = .returned (.int .i64 (apartE l)) ∧ Ext w w' := by
  have HB := Lib.hid hB; clear hB
  have HS := Lib.hid hs; clear hs
  go_enter Tryd.func55, Tryd.ntmps55
  go_wp2_with fail
  go_loopg [3] 1001 (fun f i wr => ∃ (i' : Nat), i = .int .i64 i' ∧ i' ≤ l.length ∧ 1001 ≤ i' + f ∧ Hid ((l.take i').any (fun f => l.any fun g => dirB f.path g.path) = false) ∧ Ext w wr)
  case atStart => exact ⟨0, rfl, by omega, by omega, rfl, Ext.refl _⟩
  case round =>
    obtain ⟨i', rfl, h2, h3, HA, hx⟩ := hrel
    by_cases hlt : i' < l.length
    · obtain ⟨f, hf⟩ : ∃ x, l[i']? = some x := ⟨_, List.getElem?_eq_getElem hlt⟩
      have hr0 := (HB.out.ext hx).at_ hf; obtain ⟨b, o, F, k, rfl, -⟩ := hr0
      have HX := Lib.hid hf; clear hf
      obtain ⟨fo, rfl⟩ : ∃ fo, fo = gk := ⟨_, rfl⟩
      go_wp2_with fail
      go_loopg [4] 1001 (fun f2 j wr => ∃ (j' : Nat), j = .int .i64 j' ∧ j' ≤ l.length ∧ 1001 ≤ j' + f2 ∧ Hid ((l.take j').any (fun g => dirB f.path g.path) = false) ∧ Ext w wr)
      case atStart => exact ⟨0, rfl, by omega, by omega, rfl, hx⟩
      case round =>
        clear hx
        obtain ⟨j', rfl, h4, h5, HC, hx⟩ := hrel
        by_cases hlt2 : j' < l.length
        · obtain ⟨g, hg⟩ : ∃ x, l[j']? = some x := ⟨_, List.getElem?_eq_getElem hlt2⟩
          obtain ⟨b2, o2, F2, k2, hA, hr2, -, -, -⟩ := (HB.out.ext hx).at_ hg
          obtain ⟨b1, o1, F1, k1, hA1, hr1, -, -, -⟩ := (HB.out.ext hx).at_ HX.out
          cases hA1
          cases hA
          have hsf := HS.out f (List.mem_of_getElem? HX.out)
          have hsg := HS.out g (List.mem_of_getElem? hg)
          have HY := Lib.hid hg; clear hg
          go_wp2_with fail
          go_quiet (first | (go_at_call 75; refine quiet_left (dir_any f.path g.path hsf hsg _)))
          by_cases hd : dirB f.path g.path = true
          · have HD := Lib.hid (apart_yes (any_stop HX.out (any_stop HY.out hd)))
            rw [hd]
            clear hd
            go_wp2_with fail
            go_ret
            exact ⟨by rw [HD.out]; rfl, hx.drewN _⟩
          · have hd : dirB f.path g.path = false := by simpa using hd
            have HD := Lib.hid hd
            rw [hd]
            clear hd
            go_wp2_with fail
            go_roundg (gk - 1)
            case measure => omega
            case rel => exact ⟨j' + 1, by go_num, by omega, by omega, any_succ HC.out HY.out HD.out, hx.drewN _⟩
        · obtain rfl : j' = l.length := by omega
          have HE := Lib.hid (any_done HC.out)
          go_wp2_with fail
          go_roundg (fo - 1)
          case measure => omega
          case rel => exact ⟨i' + 1, by go_num, by omega, by omega, any_succ HA.out HX.out HE.out, hx⟩
    · obtain rfl : i' = l.length := by omega
      have HE := Lib.hid (any_done HA.out)
      go_wp2_with fail
      go_ret
      exact ⟨by rw [apart_no HE.out]; rfl, hx⟩

theorem rcheck_any (A : Option Addr) (cap : Nat) (l : List FileV) (w : World) (hn : l.length ≤ 1000) (hs : Short l) (hB : RdL w A l) :
    Calls Tryd.prog 23 #[.slice A l.length cap] w fun e w' => e = .returned (.int .i64 (checkE l)) ∧ Ext w w' := by
  have HB := Lib.hid hB; clear hB
  have HS := Lib.hid hs; clear hs
  by_cases hmany : 256 < l.length
  · have HM := Lib.hid (check_many hmany)
    go_enter Tryd.func23, Tryd.ntmps23
    go_wp2_with fail
    go_ret
    exact ⟨by rw [HM.out]; rfl, Ext.refl _⟩
  · have HN := Lib.hid hmany
    have hm2 : l.length ≤ 256 := by omega
    clear hmany
    go_enter Tryd.func23, Tryd.ntmps23
    go_wp2_with fail
    go_loopg [3] 1001 (fun f i wr => ∃ (i' : Nat), i = .int .i64 i' ∧ i' ≤ l.length ∧ 1001 ≤ i' + f ∧ Hid (scanE none l = scanE (prevAt l i') (l.drop i')) ∧ Ext w wr)
    case atStart => exact ⟨0, rfl, by omega, by omega, rfl, Ext.refl _⟩
    case round =>
      obtain ⟨i', rfl, h2, h3, HA, hx⟩ := hrel
      by_cases hlt : i' < l.length
      · obtain ⟨f, hf⟩ : ∃ x, l[i']? = some x := ⟨_, List.getElem?_eq_getElem hlt⟩
        obtain ⟨b, o, F, k, rfl, hr1, hr2, hr3, hr4⟩ := (HB.out.ext hx).at_ hf
        have hsf := HS.out f (List.mem_of_getElem? hf)
        have HX := Lib.hid hf; clear hf
        go_wp2_with fail
        refine (rvalid_any _ f _ ⟨_, _, rfl, hr4⟩ hsf).mono ?_
        rintro e w1 ⟨rfl, hx1⟩
        by_cases hv : validE f = 0
        · have HV := Lib.hid hv
          rw [hv]
          clear hv
          replace hx := hx.trans hx1
          replace hr1 := hx1.cell hr1
          clear hx1 hr2 hr3 hr4
          rcases Nat.eq_zero_or_pos i' with h0 | h0
          · subst h0
            go_wp2_with fail
            go_quiet (fail)
            go_wp2_with fail
            go_quiet (fail)
            go_wp2_with fail
            go_roundg (gk - 1)
            case measure => omega
            case rel => exact ⟨1, rfl, by omega, by omega, HA.out.trans (scan_first HX.out HV.out), hx.drewN _⟩
          · obtain ⟨j, rfl⟩ : ∃ j, i' = j + 1 := ⟨i' - 1, by omega⟩
            obtain ⟨g, hg⟩ : ∃ x, l[j]? = some x := ⟨_, List.getElem?_eq_getElem (by omega)⟩
            obtain ⟨b2, o2, F2, k2, hA, ht1, -, -, -⟩ := (HB.out.ext hx).at_ hg
            cases hA
            have HY := Lib.hid hg; clear hg
            by_cases hp : f.path = g.path
            · have HT := Lib.hid (HA.out.trans (scan_twice HX.out HY.out HV.out hp))
              have HE := Lib.hid (check_bad HN.out (by rw [HT.out]; decide))
              have q1 : (f.path.toList == g.path.toList) = true := by rw [hp]; simp
              clear hp
              go_wp2_with fail
              go_quiet (fail)
              go_wp2_with fail
              go_ret
              exact ⟨by rw [HE.out, HT.out]; rfl, hx.drewN _⟩
            · have q1 : (f.path.toList == g.path.toList) = false := beq_eq_false_iff_ne.2 (fun e => hp (ba_inj e))
              have HP := Lib.hid hp; clear hp
              by_cases ho : lessB f.path g.path = true
              · have HT := Lib.hid (HA.out.trans (scan_order HX.out HY.out HV.out HP.out ho))
                have HE := Lib.hid (check_bad HN.out (by rw [HT.out]; decide))
                have q2 : Op.bytesLess f.path.toList g.path.toList = true := ho
                clear ho
                go_wp2_with fail
                go_quiet (fail)
                go_wp2_with fail
                go_quiet (fail)
                go_wp2_with fail
                go_ret
                exact ⟨by rw [HE.out, HT.out]; rfl, (hx.drewN _).drewN _⟩
              · have ho : lessB f.path g.path = false := by simpa using ho
                have HT := Lib.hid (HA.out.trans (scan_next HX.out HY.out HV.out HP.out ho))
                have q2 : Op.bytesLess f.path.toList g.path.toList = false := ho
                clear ho
                go_wp2_with fail
                go_quiet (fail)
                go_wp2_with fail
                go_quiet (fail)
                go_wp2_with fail
                go_roundg (gk - 1)
                case measure => omega
                case rel => exact ⟨j + 1 + 1, by go_num, by omega, by omega, HT.out, hx.drewN _⟩
        · have HV := Lib.hid hv
          have HW := Lib.hid (HA.out.trans (scan_bad HX.out hv))
          have HE := Lib.hid (check_bad HN.out (by rw [HW.out]; exact hv))
          have q1 : (validE f == 0) = false := beq_eq_false_iff_ne.2 hv
          clear hv
          go_wp2_with fail
          go_ret
          exact ⟨by rw [HE.out, HW.out]; rfl, hx.trans hx1⟩
      · obtain rfl : i' = l.length := by omega
        have HZ : Hid (scanE none l = 0) := by rw [Hid, HA.out, List.drop_length]; cases prevAt l l.length <;> rfl
        have HE := Lib.hid (check_end HN.out HZ.out)
        go_wp2_with fail
        refine (apart_any A cap l _ hn HS.out (HB.out.ext hx)).mono ?_
        rintro e w1 ⟨rfl, hx1⟩
        go_wp2_with fail
        go_ret
        exact ⟨by rw [HE.out]; rfl, hx.trans hx1⟩

theorem at_any (A : Option Addr) (cap : Nat) (l : List FileV) (path : ByteArray) (w : World) (hn : l.length ≤ 1000) (hB : RdL w A l) :
    Calls Tryd.prog 47 #[.slice A l.length cap, .string path] w fun e w' => e = .returned (.int .i64 (atL path l)) ∧ w = w' := by
  have HB := Lib.hid hB; clear hB
  go_enter Tryd.func47, Tryd.ntmps47
  go_wp2_with fail
  go_loopg [5] 1001 (fun f i wr => ∃ (i' : Nat), i = .int .i64 i' ∧ i' ≤ l.length ∧ 1001 ≤ i' + f ∧ Hid ((l.take i').any (fun f => decide (f.path = path)) = false) ∧ wr = w)
  case atStart => exact ⟨0, rfl, by omega, by omega, rfl, rfl⟩
  case round =>
    obtain ⟨i', rfl, h2, h3, HA, rfl⟩ := hrel
    by_cases hlt : i' < l.length
    · obtain ⟨f, hf⟩ : ∃ x, l[i']? = some x := ⟨_, List.getElem?_eq_getElem hlt⟩
      obtain ⟨b, o, F, k, rfl, hr1, -, -, -⟩ := HB.out.at_ hf
      have HX := Lib.hid hf; clear hf
      by_cases hp : f.path = path
      · have HE := Lib.hid (at_hit HA.out HX.out hp)
        have q1 : (f.path.toList == path.toList) = true := by rw [hp]; simp
        clear hp
        go_wp2_with fail
        go_ret
        exact ⟨by rw [HE.out]; rfl, rfl⟩
      · have q1 : (f.path.toList == path.toList) = false := beq_eq_false_iff_ne.2 (fun e => hp (ba_inj e))
        have HP := Lib.hid hp; clear hp
        go_wp2_with fail
        go_roundg (gk - 1)
        case measure => omega
        case rel => exact ⟨i' + 1, by go_num, by omega, by omega, any_succ HA.out HX.out (decide_eq_false HP.out), rfl⟩
    · obtain rfl : i' = l.length := by omega
      have HE := Lib.hid (at_miss (any_done HA.out))
      go_wp2_with fail
      go_ret
      exact ⟨by rw [HE.out]; rfl, rfl⟩

theorem rfind_any (A : Option Addr) (cap : Nat) (l : List FileV) (path : ByteArray) (w : World) (hn : l.length ≤ 1000) (hs : Short l) (hB : RdL w A l) :
    Calls Tryd.prog 19 #[.slice A l.length cap, .string path] w fun e w' => e = .returned (.tuple #[.int .i64 (findE l path).1, .bool (findE l path).2]) ∧ Ext w w' := by
  have HB := Lib.hid hB; clear hB
  by_cases hc : checkE l = 0
  · by_cases ha : atL path l < 0
    · have HE := Lib.hid (find_no path (.inr ha))
      go_enter Tryd.func19, Tryd.ntmps19
      go_wp2_with fail
      refine (rcheck_any A cap l w hn hs HB.out).mono ?_
      rintro e w1 ⟨rfl, hx⟩
      go_wp2_with fail
      refine (at_any A cap l path w1 hn (HB.out.ext hx)).mono ?_
      rintro e w2 ⟨rfl, rfl⟩
      go_wp2_with fail
      go_ret2
      exact ⟨by rw [HE.out]; rfl, hx⟩
    · have HE := Lib.hid (find_yes path hc ha)
      have ha' : 0 ≤ atL path l := by omega
      clear ha
      have q1 : decide (atL path l < 0) = false := by rw [decide_eq_false_iff_not]; omega
      go_enter Tryd.func19, Tryd.ntmps19
      go_wp2_with fail
      refine (rcheck_any A cap l w hn hs HB.out).mono ?_
      rintro e w1 ⟨rfl, hx⟩
      go_wp2_with fail
      refine (at_any A cap l path w1 hn (HB.out.ext hx)).mono ?_
      rintro e w2 ⟨rfl, rfl⟩
      go_wp2_with fail
      refine (at_any A cap l path w1 hn (HB.out.ext hx)).mono ?_
      rintro e w2 ⟨rfl, rfl⟩
      go_wp2_with fail
      go_ret2
      exact ⟨by rw [HE.out]; rfl, hx⟩
  · have HE := Lib.hid (find_no path (.inl hc))
    have q1 : (checkE l == 0) = false := beq_eq_false_iff_ne.2 hc
    have q2 : (checkE l != 0) = true := by simp [bne, q1]
    go_enter Tryd.func19, Tryd.ntmps19
    go_wp2_with fail
    refine (rcheck_any A cap l w hn hs HB.out).mono ?_
    rintro e w1 ⟨rfl, hx⟩
    go_wp2_with fail
    go_ret2
    exact ⟨by rw [HE.out]; rfl, hx⟩
end Go.Proofs.YtcjokhhcncimdaaDoor

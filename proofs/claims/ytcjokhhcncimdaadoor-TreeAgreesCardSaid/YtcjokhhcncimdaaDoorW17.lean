/- The walks of the reference's get, look, same. -/
import Derived.Test.YtcjokhhcncimdaaDoorW16
set_option linter.unusedVariables false
set_option linter.unusedSimpArgs false
namespace Go.Proofs.YtcjokhhcncimdaaDoor
open Go.RowKit Go.PF Go.Tr

theorem get_any (A : Option Addr) (cap : Nat) (l : List FileV) (p : ByteArray) (w : World) (hn : l.length ≤ 1000) (hsm : Small l) (hB : RdL w A l) :
    Calls Tryd.prog 60 #[.slice A l.length cap, .string p] w fun e w' => ∃ v, e = .returned (.tuple #[v, .bool (getE l p).there]) ∧ FileOwn w.heap.size w' v (getE l p).f ∧ Ext w w' := by
  have HB := Lib.hid hB; clear hB
  have HM := Lib.hid hsm; clear hsm
  go_enter Tryd.func60, Tryd.ntmps60
  go_wp2_with fail
  have hx := ext_alloc1 w (.cells #[.string { data := #[] }, .int .i64 0, .slice none 0 0] 46)
  have hb := World.alloc_heap_new w (.cells #[.string { data := #[] }, .int .i64 0, .slice none 0 0] 46)
  have hsz : (w.alloc (.cells #[.string { data := #[] }, .int .i64 0, .slice none 0 0] 46)).heap.size = w.heap.size + 1 := by simp
  generalize (w.alloc (.cells #[.string { data := #[] }, .int .i64 0, .slice none 0 0] 46)) = W at *
  refine (at_any A cap l p W hn (HB.out.ext hx)).mono ?_
  rintro e w' ⟨rfl, rfl⟩
  have hab := at_bound p l
  have he0 := blk_frozen hb 0
  have he1 := blk_frozen hb 1
  have he2 := blk_frozen hb 2
  have hd0 := cell_blk hb 0
  have hd1 := cell_blk hb 1
  have hd2 := cell_blk hb 2
  simp only [List.getElem?_toArray, List.getElem?_cons_succ, List.getElem?_cons_zero] at hd0 hd1 hd2
  by_cases hneg : atL p l < 0
  · have HG := Lib.hid (get_none hneg)
    have q1 : decide (atL p l < 0) = true := decide_eq_true hneg
    go_wp2_with fail
    have hX := ext_set (p := ⟨w.heap.size, 2, none⟩) (ext_set (p := ⟨w.heap.size, 1, none⟩) (ext_set (p := ⟨w.heap.size, 0, none⟩) hx (Nat.le_refl _) (.string { data := #[] })) (Nat.le_refl _) (.int .i64 0)) (Nat.le_refl _) (.slice none 0 0)
    have hR := blk_set3 hb (.string { data := #[] }) (.int .i64 0) (.slice none 0 0)
    generalize ((W.setCell ⟨w.heap.size, 0, none⟩ (.string { data := #[] })).setCell ⟨w.heap.size, 1, none⟩ (.int .i64 0)).setCell ⟨w.heap.size, 2, none⟩ (.slice none 0 0) = W3 at *
    have hr0 := cell_blk hR 0
    have hr1 := cell_blk hR 1
    have hr2 := cell_blk hR 2
    simp only [List.getElem?_toArray, List.getElem?_cons_succ, List.getElem?_cons_zero] at hr0 hr1 hr2
    try simp only [Exit.inBlock, Exit.then]
    refine bodyPost_ret (v := .tuple #[.agg #[.string { data := #[] }, .int .i64 0, .slice none 0 0], .bool false]) (by simp [results, Tryd.results60, go_sem, hr0, hr1, hr2]) rfl ?_
    exact ⟨_, by rw [HG.out], by rw [HG.out]; exact ⟨none, 0, rfl, ⟨⟨by simp [noFile], by simp, .inl rfl⟩, .inl rfl⟩⟩, hX⟩
  · obtain ⟨i, hi⟩ : ∃ i : Nat, atL p l = (i : Int) := ⟨(atL p l).toNat, by omega⟩
    have hil : i < l.length := by omega
    obtain ⟨f, hf⟩ : ∃ x, l[i]? = some x := ⟨_, List.getElem?_eq_getElem hil⟩
    have HG := Lib.hid (get_some hi hf)
    obtain ⟨b, o, F, k, rfl, hr1, hr2, hr3, hr4⟩ := (HB.out.ext hx).at_ hf
    have hsm := HM.out f (List.mem_of_getElem? hf)
    rw [hi]
    clear hab hneg hi hf
    go_wp2_with fail
    refine (copyfile_any _ f W ⟨_, _, rfl, hr4⟩ hsm).mono ?_
    rintro e w2 ⟨v', rfl, ⟨F', k', rfl, ho⟩, hx2⟩
    replace hb := hx2.blk hb
    clear hd0 hd1 hd2 he0 he1 he2
    have he0 := blk_frozen hb 0
    have he1 := blk_frozen hb 1
    have he2 := blk_frozen hb 2
    have hd0 := cell_blk hb 0
    have hd1 := cell_blk hb 1
    have hd2 := cell_blk hb 2
    simp only [List.getElem?_toArray, List.getElem?_cons_succ, List.getElem?_cons_zero] at hd0 hd1 hd2
    clear hr1 hr2 hr3 hr4
    go_wp2_with fail
    have hX := ext_set (p := ⟨w.heap.size, 2, none⟩) (ext_set (p := ⟨w.heap.size, 1, none⟩) (ext_set (p := ⟨w.heap.size, 0, none⟩) (hx.trans hx2) (Nat.le_refl _) (.string f.path)) (Nat.le_refl _) (.int .i64 f.len)) (Nat.le_refl _) (.slice F' f.frags.length k')
    have hR := blk_set3 hb (.string f.path) (.int .i64 f.len) (.slice F' f.frags.length k')
    have hO := ((ho.setCell (p := ⟨w.heap.size, 0, none⟩) (by show w.heap.size < _; omega) (.string f.path)).setCell (p := ⟨w.heap.size, 1, none⟩) (by show w.heap.size < _; omega) (.int .i64 f.len)).setCell (p := ⟨w.heap.size, 2, none⟩) (by show w.heap.size < _; omega) (.slice F' f.frags.length k')
    generalize ((w2.setCell ⟨w.heap.size, 0, none⟩ (.string f.path)).setCell ⟨w.heap.size, 1, none⟩ (.int .i64 f.len)).setCell ⟨w.heap.size, 2, none⟩ (.slice F' f.frags.length k') = W3 at *
    have hr0 := cell_blk hR 0
    have hr1 := cell_blk hR 1
    have hr2 := cell_blk hR 2
    simp only [List.getElem?_toArray, List.getElem?_cons_succ, List.getElem?_cons_zero] at hr0 hr1 hr2
    try simp only [Exit.inBlock, Exit.then]
    refine bodyPost_ret (v := .tuple #[.agg #[.string f.path, .int .i64 f.len, .slice F' f.frags.length k'], .bool true]) (by simp [results, Tryd.results60, go_sem, hr0, hr1, hr2]) rfl ?_
    exact ⟨_, by rw [HG.out], by rw [HG.out]; exact ⟨F', k', rfl, hO.mono (by omega)⟩, hX⟩

theorem rlook_any (A : Option Addr) (cap : Nat) (l : List FileV) (p : ByteArray) (w : World) (hn : l.length ≤ 1000) (hsm : Small l) (hB : RdL w A l) :
    Calls Tryd.prog 42 #[.slice A l.length cap, .string p] w fun e w' => ∃ v, e = .returned v ∧ SideOwn w.heap.size w' v (getE l p) ∧ Ext w w' := by
  have HB := Lib.hid hB; clear hB
  have HM := Lib.hid hsm; clear hsm
  go_enter Tryd.func42, Tryd.ntmps42
  go_wp2_with fail
  have hx := ext_alloc1 w (.cells #[.string { data := #[] }, .int .i64 0, .slice none 0 0, .bool false] 79)
  have hb := World.alloc_heap_new w (.cells #[.string { data := #[] }, .int .i64 0, .slice none 0 0, .bool false] 79)
  have hsz : (w.alloc (.cells #[.string { data := #[] }, .int .i64 0, .slice none 0 0, .bool false] 79)).heap.size = w.heap.size + 1 := by simp
  generalize (w.alloc (.cells #[.string { data := #[] }, .int .i64 0, .slice none 0 0, .bool false] 79)) = W at *
  refine (get_any A cap l p W hn HM.out (HB.out.ext hx)).mono ?_
  rcases hg : getE l p with ⟨f, t⟩
  have HG := Lib.hid hg
  clear hg
  rintro e w1 ⟨v, rfl, ⟨F, k, rfl, ho⟩, hx1⟩
  dsimp only at ho ⊢
  replace hb := hx1.blk hb
  have hsz1 := hx1.size
  replace hx := hx.trans hx1
  have HO := Lib.hid ho; clear ho
  have hxa := ext_alloc1 w1 (.cells #[.string f.path, .int .i64 f.len, .slice F f.frags.length k] 46)
  replace hb := hxa.blk hb
  have he0 := blk_frozen hb 0
  have he1 := blk_frozen hb 1
  have he2 := blk_frozen hb 2
  have he3 := blk_frozen hb 3
  have hd0 := cell_blk hb 0
  have hd1 := cell_blk hb 1
  have hd2 := cell_blk hb 2
  have hd3 := cell_blk hb 3
  simp only [List.getElem?_toArray, List.getElem?_cons_succ, List.getElem?_cons_zero] at hd0 hd1 hd2 hd3
  go_wp2_with fail
  have ho := HO.out.ext hxa
  replace hx := hx.trans hxa
  clear hxa
  generalize w1.alloc (.cells #[.string f.path, .int .i64 f.len, .slice F f.frags.length k] 46) = w2 at *
  have hX := ext_set (p := ⟨w.heap.size, 3, none⟩) (ext_set (p := ⟨w.heap.size, 2, none⟩) (ext_set (p := ⟨w.heap.size, 1, none⟩) (ext_set (p := ⟨w.heap.size, 0, none⟩) hx (Nat.le_refl _) (.string f.path)) (Nat.le_refl _) (.int .i64 f.len)) (Nat.le_refl _) (.slice F f.frags.length k)) (Nat.le_refl _) (.bool t)
  have hR := blk_set4 hb (.string f.path) (.int .i64 f.len) (.slice F f.frags.length k) (.bool t)
  have hO := (((ho.setCell (p := ⟨w.heap.size, 0, none⟩) (by show w.heap.size < W.heap.size; omega) (.string f.path)).setCell (p := ⟨w.heap.size, 1, none⟩) (by show w.heap.size < W.heap.size; omega) (.int .i64 f.len)).setCell (p := ⟨w.heap.size, 2, none⟩) (by show w.heap.size < W.heap.size; omega) (.slice F f.frags.length k)).setCell (p := ⟨w.heap.size, 3, none⟩) (by show w.heap.size < W.heap.size; omega) (.bool t)
  generalize ((((w2.setCell ⟨w.heap.size, 0, none⟩ (.string f.path)).setCell ⟨w.heap.size, 1, none⟩ (.int .i64 f.len)).setCell ⟨w.heap.size, 2, none⟩ (.slice F f.frags.length k)).setCell ⟨w.heap.size, 3, none⟩ (.bool t)) = W3 at *
  have hr0 := cell_blk hR 0
  have hr1 := cell_blk hR 1
  have hr2 := cell_blk hR 2
  have hr3 := cell_blk hR 3
  simp only [List.getElem?_toArray, List.getElem?_cons_succ, List.getElem?_cons_zero] at hr0 hr1 hr2 hr3
  try simp only [Exit.inBlock, Exit.then]
  refine bodyPost_ret (v := .agg #[.string f.path, .int .i64 f.len, .slice F f.frags.length k, .bool t]) (by simp [results, Tryd.results42, go_sem, hr0, hr1, hr2, hr3]) rfl ?_
  exact ⟨_, rfl, by rw [HG.out]; exact ⟨F, k, rfl, hO.mono (show w.heap.size ≤ W.heap.size by omega)⟩, hX⟩

theorem rsame_any (v1 v2 : Value) (x y : SideV) (w : World) (h1 : SideIs w v1 x) (h2 : SideIs w v2 y) :
    Calls Tryd.prog 43 #[v1, v2] w fun e w' => e = .returned (.bool (decide (x = y))) ∧ Ext w w' := by
  obtain ⟨F1, c1, rfl, hF1⟩ := h1
  obtain ⟨F2, c2, rfl, hF2⟩ := h2
  obtain ⟨f, t1⟩ := x
  obtain ⟨g, t2⟩ := y
  dsimp only at *
  have hx := ext_alloc2 w (.cells #[.string f.path, .int .i64 f.len, .slice F1 f.frags.length c1, .bool t1] 79) (.cells #[.string g.path, .int .i64 g.len, .slice F2 g.frags.length c2, .bool t2] 79)
  by_cases ht : t1 = t2
  · subst ht
    have HD : Hid (decide (SideV.mk f t1 = SideV.mk g t1) = decide (f = g)) := by rw [Hid]; congr 1; simp
    go_enter Tryd.func43, Tryd.ntmps43
    go_wp2_with fail
    all_goals
      refine (samefile_any _ _ f g _ ⟨_, _, rfl, hF1.ext hx⟩ ⟨_, _, rfl, hF2.ext hx⟩).mono ?_
      rintro e w1 ⟨rfl, hx1⟩
      go_wp2_with fail
      go_ret
      exact ⟨by rw [HD.out]; simp, hx.trans hx1⟩
  · have HD : Hid (decide (SideV.mk f t1 = SideV.mk g t2) = false) := by rw [Hid, decide_eq_false_iff_not]; simp [ht]
    have q1 : (t1 == t2) = false := beq_eq_false_iff_ne.2 ht
    go_enter Tryd.func43, Tryd.ntmps43
    go_wp2_with fail
    go_ret
    exact ⟨by rw [HD.out]; simp [q1], hx⟩
end Go.Proofs.YtcjokhhcncimdaaDoor

/- The walks of Find, check, and of what a tree has at a path. -/
import Derived.Test.YtcjokhhcncimdaaDoorW7
import Derived.Test.YtcjokhhcncimdaaDoorS1
import Derived.Handy
set_option linter.unusedVariables false
set_option linter.unusedSimpArgs false
namespace Go.Proofs.YtcjokhhcncimdaaDoor
open Go.RowKit Go.PF Go.Tr

theorem check_srt {l : List FileV} (h : checkE l = 0) : Srt l := by
  unfold checkE at h
  split at h
  · cases h
  · split at h
    · exact (scan_srt (by assumption)).1
    · exact absurd h (by assumption)
theorem find_has {l : List FileV} (p : ByteArray) (h : checkE l = 0) (hb : hasB p l = true) : findE l p = (((lowI p l : Nat) : Int), true) := by
  have := atL_has (check_srt h) hb
  rw [find_yes p h (by omega), this]
theorem find_not {l : List FileV} (p : ByteArray) (h : checkE l = 0) (hb : hasB p l = false) : findE l p = (0, false) := by
  have := atL_not (check_srt h) hb
  exact find_no p (.inr (by omega))

theorem tfind_any (A : Option Addr) (cap : Nat) (l : List FileV) (path : ByteArray) (w : World) (hm : Mx w) (hn : l.length ≤ 1000) (hs : Short l) (hB : RdL w A l) :
    Calls Tryd.prog 18 #[.slice A l.length cap, .string path] w fun e w' => e = .returned (.tuple #[.int .i64 (findE l path).1, .bool (findE l path).2]) ∧ Ext w w' := by
  have HB := Lib.hid hB; clear hB
  by_cases hc : checkE l = 0
  · have HS := Lib.hid (check_srt hc)
    cases hb : hasB path l
    · have HE := Lib.hid (find_not path hc hb)
      go_enter Tryd.func18, Tryd.ntmps18
      go_wp2_with fail
      refine (tcheck_any A cap l w hm hn hs HB.out).mono ?_
      rintro e w1 ⟨rfl, hx⟩
      go_wp2_with fail
      refine (search_any A cap l path w1 hn HS.out (HB.out.ext hx)).mono ?_
      rintro e w2 ⟨rfl, hx2⟩
      rw [hb]
      clear hb
      go_wp2_with fail
      go_ret2
      exact ⟨by rw [HE.out]; rfl, hx.trans hx2⟩
    · have HE := Lib.hid (find_has path hc hb)
      go_enter Tryd.func18, Tryd.ntmps18
      go_wp2_with fail
      refine (tcheck_any A cap l w hm hn hs HB.out).mono ?_
      rintro e w1 ⟨rfl, hx⟩
      go_wp2_with fail
      refine (search_any A cap l path w1 hn HS.out (HB.out.ext hx)).mono ?_
      rintro e w2 ⟨rfl, hx2⟩
      rw [hb]
      clear hb
      go_wp2_with fail
      go_ret2
      exact ⟨by rw [HE.out]; rfl, hx.trans hx2⟩
  · have HE := Lib.hid (find_no path (.inl hc))
    have q1 : (checkE l == 0) = false := beq_eq_false_iff_ne.2 hc
    have q2 : (checkE l != 0) = true := by simp [bne, q1]
    go_enter Tryd.func18, Tryd.ntmps18
    go_wp2_with fail
    refine (tcheck_any A cap l w hm hn hs HB.out).mono ?_
    rintro e w1 ⟨rfl, hx⟩
    go_wp2_with fail
    go_ret2
    exact ⟨by rw [HE.out]; rfl, hx⟩

/-- Fragments in memory of their own. -/
def FrOwn (n0 : Nat) (w : World) (A : Option Addr) (cap : Nat) (l : List Int) : Prop := Fr w A cap l ∧ (l = [] ∨ ∃ b off, A = some ⟨b, off, none⟩ ∧ n0 ≤ b ∧ ∃ cs r, w.heap[b]? = some (.cells cs 3 r))
theorem frOwn_of {w : World} {n0 n : Nat} {v : Value} {l : List Int} (h : w.ownsRow n0 3 1 v n (l.map (Value.int .i64))) (hn : n = l.length) : ∃ A cap, v = .slice A l.length cap ∧ FrOwn n0 w A cap l := by
  obtain ⟨A, cap, rfl, h1, h2, h3⟩ := own_rd h
  refine ⟨A, cap, by rw [hn], ⟨by omega, h2, h3⟩, ?_⟩
  rcases h.2 with ⟨hz, h4⟩ | ⟨g, cap', cur, hv, hg, hh, _⟩
  · left
    exact List.eq_nil_of_length_eq_zero (by omega)
  · injection hv with h4
    exact .inr ⟨g, 0, h4, hg, _, _, hh⟩

theorem clone_any (F : Option Addr) (k : Nat) (l : List Int) (w : World) (hf : Fr w F k l) (hb : l.length * 8 ≤ 140737488355328) :
    Calls Tryd.prog 79 #[.slice F l.length k] w fun e w' => ∃ F' k', e = .returned (.slice F' l.length k') ∧ FrOwn w.heap.size w' F' k' l ∧ Ext w w' := by
  rcases hf.rd with h0 | ⟨b, off, rfl, hc⟩
  · have h0 : l = [] := by simpa using h0
    subst h0
    cases F with
    | none =>
      refine (Tryd.slices_Clone_int_nil _ k w).mono ?_
      rintro e w' ⟨rfl, rfl⟩
      exact ⟨none, 0, rfl, ⟨⟨by simp, by simp, .inl rfl⟩, .inl rfl⟩, Ext.refl _⟩
    | some a =>
      refine (Tryd.slices_Clone_int_zero a k w).mono ?_
      rintro e w' ⟨v', rfl, ho, -, hx⟩
      obtain ⟨A, cap, rfl, h⟩ := frOwn_of (l := []) ho rfl
      exact ⟨A, cap, rfl, h, hx⟩
  · refine (Tryd.slices_Clone_int b off l.length k l w (Nat.le_refl _) hb ?_).mono ?_
    · intro j hj
      have := hc j (by simpa using hj)
      rw [this]
      simp [i64, List.getD_eq_getElem?_getD, List.getElem?_eq_getElem hj]
    · rintro e w' ⟨v', rfl, ho, -, hx⟩
      rw [List.take_of_length_le (Nat.le_refl _)] at ho
      obtain ⟨A, cap, rfl, h⟩ := frOwn_of ho rfl
      exact ⟨A, cap, rfl, h, hx⟩

/-- A file by value, its fragments in memory of its own. -/
def FileOwn (n0 : Nat) (w : World) (v : Value) (f : FileV) : Prop := ∃ F c, v = .agg #[.string f.path, .int .i64 f.len, .slice F f.frags.length c] ∧ FrOwn n0 w F c f.frags

theorem FrOwn.keep {n0 : Nat} {w w' : World} {A : Option Addr} {c : Nat} {l : List Int} (h : FrOwn n0 w A c l) (hk : ∀ (b : Nat) (cs : Array Value) (r : Nat × Nat), n0 ≤ b → w.heap[b]? = some (.cells cs 3 r) → w'.heap[b]? = some (.cells cs 3 r)) : FrOwn n0 w' A c l := by
  obtain ⟨h1, h2⟩ := h
  rcases h2 with rfl | ⟨b, off, rfl, hb, cs, r, hh⟩
  · exact ⟨⟨h1.le, h1.max, .inl rfl⟩, .inl rfl⟩
  · have hk' := hk b cs r hb hh
    refine ⟨⟨h1.le, h1.max, ?_⟩, .inr ⟨b, off, rfl, hb, cs, r, hk'⟩⟩
    rcases h1.rd with h0 | ⟨b', off', hA, hc⟩
    · exact .inl h0
    · cases hA
      exact .inr ⟨b, off, rfl, fun k hk => (World.cell?_of_block (w := w) (a := ⟨b, off + k, none⟩) (hk'.trans hh.symm)).trans (hc k hk)⟩
theorem FrOwn.setCell {n0 : Nat} {w : World} {A : Option Addr} {c : Nat} {l : List Int} (h : FrOwn n0 w A c l) {p : Addr} (hp : p.block < n0) (v : Value) : FrOwn n0 (w.setCell p v) A c l :=
  h.keep fun b cs r hb hg => (Below.heap_setCell _ _ _ _ (by omega)).trans hg
theorem FrOwn.keep3 {n0 : Nat} {w w' : World} {A : Option Addr} {c : Nat} {l : List Int} (h : FrOwn n0 w A c l) (hk : Keep3 w w') : FrOwn n0 w' A c l := h.keep fun b cs r _ hg => hk b cs r hg
theorem FrOwn.ext {n0 : Nat} {w w' : World} {A : Option Addr} {c : Nat} {l : List Int} (h : FrOwn n0 w A c l) (he : Ext w w') : FrOwn n0 w' A c l := h.keep3 (Keep3.of_ext he)
theorem FrOwn.mono {n0 n1 : Nat} {w : World} {A : Option Addr} {c : Nat} {l : List Int} (h : FrOwn n0 w A c l) (he : n1 ≤ n0) : FrOwn n1 w A c l :=
  ⟨h.1, h.2.imp id fun ⟨b, off, h1, h2, h3⟩ => ⟨b, off, h1, by omega, h3⟩⟩
theorem FileOwn.ext {n0 : Nat} {w w' : World} {v : Value} {f : FileV} (h : FileOwn n0 w v f) (he : Ext w w') : FileOwn n0 w' v f := by
  obtain ⟨F, c, h1, h2⟩ := h
  exact ⟨F, c, h1, h2.ext he⟩
theorem FileOwn.mono {n0 n1 : Nat} {w : World} {v : Value} {f : FileV} (h : FileOwn n0 w v f) (he : n1 ≤ n0) : FileOwn n1 w v f := by
  obtain ⟨F, c, h1, h2⟩ := h
  exact ⟨F, c, h1, h2.mono he⟩
theorem FileOwn.is {n0 : Nat} {w : World} {v : Value} {f : FileV} (h : FileOwn n0 w v f) : FileIs w v f := by
  obtain ⟨F, c, h1, h2⟩ := h
  exact ⟨F, c, h1, h2.1⟩
/-- Writing where nothing was. -/
theorem ext_set {w w' : World} (h : Ext w w') {p : Addr} (hp : w.heap.size ≤ p.block) (v : Value) : Ext w (w'.setCell p v) := Below.setCell h hp v

theorem blk_set3 {w : World} {b : Nat} {a0 a1 a2 : Value} {t : TypeId} (h : w.heap[b]? = some (.cells #[a0, a1, a2] t (0, 0))) (x y z : Value) :
    (((w.setCell ⟨b, 0, none⟩ x).setCell ⟨b, 1, none⟩ y).setCell ⟨b, 2, none⟩ z).heap[b]? = some (.cells #[x, y, z] t (0, 0)) := by
  have := blk_set (blk_set (blk_set h 0 x) 1 y) 2 z
  simpa using this
theorem blk_set4 {w : World} {b : Nat} {a0 a1 a2 a3 : Value} {t : TypeId} (h : w.heap[b]? = some (.cells #[a0, a1, a2, a3] t (0, 0))) (x y z u : Value) :
    ((((w.setCell ⟨b, 0, none⟩ x).setCell ⟨b, 1, none⟩ y).setCell ⟨b, 2, none⟩ z).setCell ⟨b, 3, none⟩ u).heap[b]? = some (.cells #[x, y, z, u] t (0, 0)) := by
  have := blk_set (blk_set (blk_set (blk_set h 0 x) 1 y) 2 z) 3 u
  simpa using this

theorem copied_any (v : Value) (f : FileV) (w : World) (hv : FileIs w v f) (hb : f.frags.length * 8 ≤ 140737488355328) :
    Calls Tryd.prog 65 #[v] w fun e w' => ∃ v', e = .returned v' ∧ FileOwn w.heap.size w' v' f ∧ Ext w w' := by
  obtain ⟨F, k, rfl, hf⟩ := hv
  obtain ⟨p, n, l⟩ := f
  dsimp only at *
  go_enter Tryd.func65, Tryd.ntmps65
  go_wp2_with fail
  obtain ⟨hb1, hb2⟩ := heap2 w (.cells #[.string p, .int .i64 n, .slice F l.length k] 46) (.cells #[.string { data := #[] }, .int .i64 0, .slice none 0 0] 46)
  have hx := ext_alloc2 w (.cells #[.string p, .int .i64 n, .slice F l.length k] 46) (.cells #[.string { data := #[] }, .int .i64 0, .slice none 0 0] 46)
  have hsz : ((w.alloc (.cells #[.string p, .int .i64 n, .slice F l.length k] 46)).alloc (.cells #[.string { data := #[] }, .int .i64 0, .slice none 0 0] 46)).heap.size = w.heap.size + 2 := by simp
  generalize ((w.alloc (.cells #[.string p, .int .i64 n, .slice F l.length k] 46)).alloc (.cells #[.string { data := #[] }, .int .i64 0, .slice none 0 0] 46)) = W at *
  refine (clone_any F k l W (hf.ext hx) hb).mono ?_
  rintro e w1 ⟨F', k', rfl, ho, hx1⟩
  replace hb1 := hx1.blk hb1
  replace hb2 := hx1.blk hb2
  have hf1 := blk_frozen hb1 2
  have hc0 := cell_blk hb1 0
  have hc1 := cell_blk hb1 1
  have hc2 := cell_blk hb1 2
  have hd0 := cell_blk hb2 0
  have hd1 := cell_blk hb2 1
  have hd2 := cell_blk hb2 2
  have he0 := blk_frozen hb2 0
  have he1 := blk_frozen hb2 1
  have he2 := blk_frozen hb2 2
  simp only [List.getElem?_toArray, List.getElem?_cons_succ, List.getElem?_cons_zero] at hc0 hc1 hc2 hd0 hd1 hd2
  have HO := Lib.hid ho; clear ho
  go_wp2_with fail
  have hO := (((HO.out.setCell (p := ⟨w.heap.size, 2, none⟩) (by show w.heap.size < _; omega) (.slice F' l.length k')).setCell (p := ⟨w.heap.size + 1, 0, none⟩) (by show w.heap.size + 1 < _; omega) (.string p)).setCell (p := ⟨w.heap.size + 1, 1, none⟩) (by show w.heap.size + 1 < _; omega) (.int .i64 n)).setCell (p := ⟨w.heap.size + 1, 2, none⟩) (by show w.heap.size + 1 < _; omega) (.slice F' l.length k')
  have hX := ext_set (p := ⟨w.heap.size + 1, 2, none⟩) (ext_set (p := ⟨w.heap.size + 1, 1, none⟩) (ext_set (p := ⟨w.heap.size + 1, 0, none⟩) (ext_set (p := ⟨w.heap.size, 2, none⟩) (hx.trans hx1) (Nat.le_refl _) (.slice F' l.length k')) (Nat.le_succ _) (.string p)) (Nat.le_succ _) (.int .i64 n)) (Nat.le_succ _) (.slice F' l.length k')
  have hR := blk_set3 (blk_other (b' := w.heap.size) hb2 (by omega) 2 (.slice F' l.length k')) (.string p) (.int .i64 n) (.slice F' l.length k')
  generalize (((w1.setCell ⟨w.heap.size, 2, none⟩ (.slice F' l.length k')).setCell ⟨w.heap.size + 1, 0, none⟩ (.string p)).setCell ⟨w.heap.size + 1, 1, none⟩ (.int .i64 n)).setCell ⟨w.heap.size + 1, 2, none⟩ (.slice F' l.length k') = W3 at *
  clear hb1 hb2 hc0 hc1 hc2 hd0 hd1 hd2 hf1 he0 he1 he2 hx1
  have hr0 := cell_blk hR 0
  have hr1 := cell_blk hR 1
  have hr2 := cell_blk hR 2
  simp only [List.getElem?_toArray, List.getElem?_cons_succ, List.getElem?_cons_zero] at hr0 hr1 hr2
  try simp only [Exit.inBlock, Exit.then]
  refine bodyPost_ret (v := .agg #[.string p, .int .i64 n, .slice F' l.length k']) (by simp [results, Tryd.results65, go_sem, hr0, hr1, hr2]) rfl ?_
  exact ⟨_, rfl, ⟨F', k', rfl, hO.mono (by omega)⟩, hX⟩

/-- No file has more fragments than memory can copy. -/
def Small (l : List FileV) : Prop := ∀ f ∈ l, f.frags.length * 8 ≤ 140737488355328
/-- A side by value, its fragments in memory of their own. -/
def SideOwn (n0 : Nat) (w : World) (v : Value) (x : SideV) : Prop := ∃ F c, v = .agg #[.string x.f.path, .int .i64 x.f.len, .slice F x.f.frags.length c, .bool x.there] ∧ FrOwn n0 w F c x.f.frags

theorem SideOwn.keep3 {n0 : Nat} {w w' : World} {v : Value} {x : SideV} (h : SideOwn n0 w v x) (hk : Keep3 w w') : SideOwn n0 w' v x := by
  obtain ⟨F, c, h1, h2⟩ := h
  exact ⟨F, c, h1, h2.keep3 hk⟩
theorem look_any (A : Option Addr) (cap : Nat) (l : List FileV) (p : ByteArray) (w : World) (hn : l.length ≤ 1000) (hs : Srt l) (hsm : Small l) (hB : RdL w A l) :
    Calls Tryd.prog 39 #[.slice A l.length cap, .string p] w fun e w' => ∃ v, e = .returned v ∧ SideOwn w.heap.size w' v (lookE l p) ∧ Ext w w' := by
  have HB := Lib.hid hB; clear hB
  have HS := Lib.hid hs; clear hs
  have HM := Lib.hid hsm; clear hsm
  go_enter Tryd.func39, Tryd.ntmps39
  go_wp2_with fail
  have hx := ext_alloc1 w (.cells #[.string { data := #[] }, .int .i64 0, .slice none 0 0, .bool false] 74)
  have hb := World.alloc_heap_new w (.cells #[.string { data := #[] }, .int .i64 0, .slice none 0 0, .bool false] 74)
  have hsz : (w.alloc (.cells #[.string { data := #[] }, .int .i64 0, .slice none 0 0, .bool false] 74)).heap.size = w.heap.size + 1 := by simp
  generalize (w.alloc (.cells #[.string { data := #[] }, .int .i64 0, .slice none 0 0, .bool false] 74)) = W at *
  refine (search_any A cap l p W hn HS.out (HB.out.ext hx)).mono ?_
  rintro e w1 ⟨rfl, hx1⟩
  replace hb := hx1.blk hb
  replace hx := hx.trans hx1
  have hsz1 := hx1.size
  clear hx1
  have he0 := blk_frozen hb 0
  have he1 := blk_frozen hb 1
  have he2 := blk_frozen hb 2
  have he3 := blk_frozen hb 3
  have hd0 := cell_blk hb 0
  have hd1 := cell_blk hb 1
  have hd2 := cell_blk hb 2
  have hd3 := cell_blk hb 3
  simp only [List.getElem?_toArray, List.getElem?_cons_succ, List.getElem?_cons_zero] at hd0 hd1 hd2 hd3
  by_cases hh : hasB p l = true
  · obtain ⟨f, hf, hp⟩ := has_at hh
    have HL := Lib.hid (look_yes hh hf)
    have hle := low_le p l
    have hlt := (List.getElem?_eq_some_iff.1 hf).1
    obtain ⟨b, o, F, k, rfl, hr1, hr2, hr3, hr4⟩ := (HB.out.ext hx).at_ hf
    have hsm := HM.out f (List.mem_of_getElem? hf)
    rw [hh]
    generalize lowI p l = q at *
    clear hf hp hh
    go_wp2_with fail
    refine (copied_any _ f w1 ⟨_, _, rfl, hr4⟩ hsm).mono ?_
    rintro e w2 ⟨v', rfl, ⟨F', k', rfl, ho⟩, hx2⟩
    replace hb := hx2.blk hb
    clear hd0 hd1 hd2 hd3 he0 he1 he2 he3
    have he0 := blk_frozen hb 0
    have he1 := blk_frozen hb 1
    have he2 := blk_frozen hb 2
    have he3 := blk_frozen hb 3
    have hd0 := cell_blk hb 0
    have hd1 := cell_blk hb 1
    have hd2 := cell_blk hb 2
    have hd3 := cell_blk hb 3
    simp only [List.getElem?_toArray, List.getElem?_cons_succ, List.getElem?_cons_zero] at hd0 hd1 hd2 hd3
    clear hr1 hr2 hr3 hr4
    go_wp2_with fail
    have hX := ext_set (p := ⟨w.heap.size, 3, none⟩) (ext_set (p := ⟨w.heap.size, 2, none⟩) (ext_set (p := ⟨w.heap.size, 1, none⟩) (ext_set (p := ⟨w.heap.size, 0, none⟩) (hx.trans hx2) (Nat.le_refl _) (.string f.path)) (Nat.le_refl _) (.int .i64 f.len)) (Nat.le_refl _) (.slice F' f.frags.length k')) (Nat.le_refl _) (.bool true)
    have hR := blk_set4 hb (.string f.path) (.int .i64 f.len) (.slice F' f.frags.length k') (.bool true)
    have hO := (((ho.setCell (p := ⟨w.heap.size, 0, none⟩) (by show w.heap.size < _; omega) (.string f.path)).setCell (p := ⟨w.heap.size, 1, none⟩) (by show w.heap.size < _; omega) (.int .i64 f.len)).setCell (p := ⟨w.heap.size, 2, none⟩) (by show w.heap.size < _; omega) (.slice F' f.frags.length k')).setCell (p := ⟨w.heap.size, 3, none⟩) (by show w.heap.size < _; omega) (.bool true)
    generalize ((((w2.setCell ⟨w.heap.size, 0, none⟩ (.string f.path)).setCell ⟨w.heap.size, 1, none⟩ (.int .i64 f.len)).setCell ⟨w.heap.size, 2, none⟩ (.slice F' f.frags.length k')).setCell ⟨w.heap.size, 3, none⟩ (.bool true)) = W3 at *
    have hr0 := cell_blk hR 0
    have hr1 := cell_blk hR 1
    have hr2 := cell_blk hR 2
    have hr3 := cell_blk hR 3
    simp only [List.getElem?_toArray, List.getElem?_cons_succ, List.getElem?_cons_zero] at hr0 hr1 hr2 hr3
    try simp only [Exit.inBlock, Exit.then]
    refine bodyPost_ret (v := .agg #[(.string f.path), (.int .i64 f.len), (.slice F' f.frags.length k'), (.bool true)]) (by simp [results, Tryd.results39, go_sem, hr0, hr1, hr2, hr3]) rfl ?_
    exact ⟨_, rfl, by rw [HL.out]; exact ⟨F', k', rfl, hO.mono (by omega)⟩, hX⟩
  · have hh : hasB p l = false := by simpa using hh
    have HL := Lib.hid (look_no hh)
    rw [hh]
    clear hh
    go_wp2_with fail
    have hX := ext_set (p := ⟨w.heap.size, 3, none⟩) (ext_set (p := ⟨w.heap.size, 2, none⟩) (ext_set (p := ⟨w.heap.size, 1, none⟩) (ext_set (p := ⟨w.heap.size, 0, none⟩) hx (Nat.le_refl _) (.string { data := #[] })) (Nat.le_refl _) (.int .i64 0)) (Nat.le_refl _) (.slice none 0 0)) (Nat.le_refl _) (.bool false)
    have hR := blk_set4 hb (.string { data := #[] }) (.int .i64 0) (.slice none 0 0) (.bool false)
    generalize ((((w1.setCell ⟨w.heap.size, 0, none⟩ (.string { data := #[] })).setCell ⟨w.heap.size, 1, none⟩ (.int .i64 0)).setCell ⟨w.heap.size, 2, none⟩ (.slice none 0 0)).setCell ⟨w.heap.size, 3, none⟩ (.bool false)) = W3 at *
    have hr0 := cell_blk hR 0
    have hr1 := cell_blk hR 1
    have hr2 := cell_blk hR 2
    have hr3 := cell_blk hR 3
    simp only [List.getElem?_toArray, List.getElem?_cons_succ, List.getElem?_cons_zero] at hr0 hr1 hr2 hr3
    try simp only [Exit.inBlock, Exit.then]
    refine bodyPost_ret (v := .agg #[(.string { data := #[] }), (.int .i64 0), (.slice none 0 0), (.bool false)]) (by simp [results, Tryd.results39, go_sem, hr0, hr1, hr2, hr3]) rfl ?_
    exact ⟨_, rfl, by rw [HL.out]; exact ⟨none, 0, rfl, ⟨⟨by simp [noFile], by simp, .inl rfl⟩, .inl rfl⟩⟩, hX⟩
end Go.Proofs.YtcjokhhcncimdaaDoor

/- The walk of slices.Insert at files: one file more. -/
import Derived.Test.YtcjokhhcncimdaaDoorW20
import Derived.Lib.AppendZerosOnto
import Derived.Lib.Overlaps
import Derived.Laws.NewBlocks
set_option linter.unusedVariables false
set_option linter.unusedSimpArgs false
namespace Go.Proofs.YtcjokhhcncimdaaDoor
open Go.RowKit Go.PF Go.Tr

theorem add_none' (b off n : Nat) : (⟨b, off, none⟩ : Addr).add n = ⟨b, off + n, none⟩ := by unfold Addr.add; split <;> simp_all
theorem size46 : (Tryd.prog.info? 46).map (·.size) = some 3 := by kernel_rfl
theorem run_copy3 (w : World) (ty : TypeId) (b o dLen dCap : Nat) (a : Addr) (sLen sCap : Nat) (cs : List Value) (hn : cs.length = Nat.min sLen dLen * 3)
    (hsrc : ∀ j v, cs[j]? = some v → w.cell? (a.add j) = some v) (hc : ∀ j, j < cs.length → (w.cell? ⟨b, o + j, none⟩).isSome = true) (hf : ∀ j, j < cs.length → w.frozen? ⟨b, o + j, none⟩ = false) (h1 : ∀ v ∈ cs, v.oneCell' = true) :
    (Builtin.copy_ #[22, 22] ty #[.slice (some ⟨b, o, none⟩) dLen dCap, .slice (some a) sLen sCap]).run Tryd.prog w = .ok (goInt (Nat.min sLen dLen)) (w.setCells b o cs) := by
  have hl := run_loadCells_list (P := Tryd.prog) w a cs hsrc
  have hst := run_storeCells_cells (P := Tryd.prog) b o cs 0 w (by simpa using hc) (by simpa using hf) h1
  cases hq : Tryd.prog.info? 46 with
  | none => have := size46; rw [hq] at this; cases this
  | some i =>
    have hi : i.size = 3 := by have := size46; simpa [hq] using this
    simp [Builtin.copy_, run_underlying Tryd.underlying22, Builtin.lenOf, Builtin.firstCells, sizeOf, typeInfo, hq, hi, ← hn, hl, hst]

theorem wpList_copy_run {P : Program} (w : World) {ops : Array Oper} {rest : List Oper} {o : Oper} {a : Act} {Q : Exit → Act → World → Prop} (hgd : o.guard = none) (d s : Operand) (t t' : TypeId)
    (ho : o.op = .call { callee := .builtin .copy, args := #[d, s], argTypes := #[t, t'] }) (v u : Value) (hd : a.eval d = v) (hs : a.eval s = u) {v' : Value} {w' : World}
    (hr : (Builtin.copy_ #[t, t'] o.type #[v, u]).run P w = .ok v' w') (h : wpList P ops Q rest (a.put o.dst v') w') : wpList P ops Q (o :: rest) a w :=
  wpList_plain hgd fun K hK => by
    unfold Oper.wp execOp
    simp only [ho, resolve, invoke, builtin, Sem.run_bind, Sem.run_pure, Result.andThen_ok, List.map_toArray, List.map_cons, List.map_nil, hd, hs, hr]
    exact hK _ _ h
theorem step_copy_run {P : Program} {ops : Array Oper} {o : Oper} {a : Act} {w : World} {K : Act → World → Prop} {Q : Exit → Act → World → Prop} {E : Prop}
    (hg : o.guard = none) (d x : Operand) (dT sT : TypeId) (hop : o.op = Op.call { callee := Callee.builtin Builtin.copy, args := #[d, x], argTypes := #[dT, sT] })
    (v u : Value) (hd : a.eval d = v) (hx : a.eval x = u) {v' : Value} {w' : World} (hr : (Builtin.copy_ #[dT, sT] o.type #[v, u]).run P w = .ok v' w') (hK : K (a.put o.dst v') w') :
    if Region.wanted o (yielded ops a.tmps) = true then Oper.wp P o a w K Q else E := by
  have hw : Region.wanted o (yielded ops a.tmps) = true := by simp [Region.wanted, hg]
  rw [if_pos hw]
  unfold Oper.wp
  simp [execOp, hop, resolve, invoke, builtin, hd, hx, hr, Result.andThen]
  exact hK

theorem shape_of {w : World} {g : Nat} {cs : List Value} (h : w.heap[g]? = some (.cells cs.toArray 46 (0, 0))) : w.shape? g = some (46, cs.length) := by simp [World.shape?, h]
theorem sizeOf46 (w : World) : (Go.sizeOf 46).run Tryd.prog w = .ok 3 w := by
  cases hq : Tryd.prog.info? 46 with
  | none => have := size46; rw [hq] at this; cases this
  | some i =>
    have hi : i.size = 3 := by have := size46; simpa [hq] using this
    simp [sizeOf, typeInfo, hq, hi]

/-- The row behind an insertion. -/
theorem ins_take {cs xs us : List Value} {n i cap : Nat} (hcl : (n + 1) * 3 ≤ cs.length) (htk : cs.take (n * 3) = xs) (hxl : xs.length = n * 3) (hul : us.length = 3) (hi : i ≤ n) :
    (seg (seg cs ((i + 1) * 3) (xs.drop (i * 3))) (i * 3) us).take ((n + 1) * 3) = xs.take (i * 3) ++ us ++ xs.drop (i * 3) := by
  have hdl : (xs.drop (i * 3)).length = (n - i) * 3 := by rw [List.length_drop, hxl]; omega
  have hs1 : (seg cs ((i + 1) * 3) (xs.drop (i * 3))).length = cs.length := seg_len (by rw [hdl]; omega)
  have ht : (xs.take (i * 3)).length = i * 3 := by rw [List.length_take]; omega
  apply List.ext_getElem?
  intro j
  rw [List.getElem?_take]
  by_cases hj : j < (n + 1) * 3
  · rw [if_pos hj, seg_at (by rw [hs1, hul]; omega), hul]
    by_cases e : j < i * 3
    · rw [if_pos e, seg_at (by rw [hdl]; omega), if_pos (by omega), List.append_assoc, List.getElem?_append_left (by omega), List.getElem?_take, if_pos e, ← htk, List.getElem?_take, if_pos (by omega)]
    · rw [if_neg e]
      by_cases e2 : j < i * 3 + 3
      · rw [if_pos e2, List.getElem?_append_left (by rw [List.length_append, ht, hul]; omega), List.getElem?_append_right (by omega), ht]
      · rw [if_neg e2, seg_at (by rw [hdl]; omega), if_neg (by omega), if_pos (by rw [hdl]; omega), List.getElem?_append_right (by rw [List.length_append, ht, hul]; omega), List.length_append, ht, hul]
        congr 1; omega
  · rw [if_neg hj, List.getElem?_eq_none]
    rw [List.length_append, List.length_append, ht, hul, hdl]; omega

/-- What Insert is handed: a row of its own, one file's cells in a block apart. -/
structure InsOk (n0 n : Nat) (v : Value) (xs us : List Value) (vb : Nat) (w : World) : Prop where
  own : w.ownsRow n0 46 3 v n xs
  onex : ∀ u ∈ xs, u.oneCell' = true
  len : us.length = 3
  oneu : ∀ u ∈ us, u.oneCell' = true
  blk : w.heap[vb]? = some (.cells us.toArray 46 (0, 0))
  ne : v.ownBlock ≠ some vb
  big : n ≤ 1000
  base : n0 ≤ w.heap.size

set_option maxRecDepth 100000 in
/-- At the end. -/
theorem insert_end (n0 n : Nat) (v : Value) (xs us : List Value) (vb : Nat) (w : World) (h : InsOk n0 n v xs us vb w) :
    Calls Tryd.prog 76 #[v, .int .i64 n, .slice (some ⟨vb, 0, none⟩) 1 1] w fun e w' => ∃ v', e = .returned v' ∧ w'.ownsRow n0 46 3 v' (n + 1) (xs ++ us) ∧ w.grownBy w' v.ownBlock := by
  obtain ⟨i46, hi46, hz46, hz46', hz46''⟩ := info_parts info46
  have hbig := h.big
  obtain ⟨v', w', hrun, h2, h3, -, -⟩ := run_append_own_at (P := Tryd.prog) w n0 22 22 46 i46 _ 3 48 Tryd.underlying22 hi46 hz46 hz46' hz46'' rfl (by omega) v n xs h.own ⟨vb, 0, none⟩ 1 1 us (by rw [h.len])
    (fun j u hu => by rw [add_none', Nat.zero_add, cell_blk h.blk]; simpa using hu) h.oneu (by simp only [maxLen]; omega) (by omega) h.base
  obtain ⟨A, cap, rfl, hle, hmx, -⟩ := own_rd h.own
  unfold maxLen at hmx
  have HR := Lib.hid hrun
  have H2 := Lib.hid h2
  have H3 := Lib.hid h3
  clear hi46 hz46 hz46' hz46'' hrun h2 h3 h
  go_enter Tryd.func76, Tryd.ntmps76
  go_wp2_with (at_builtin; refine wpList_append_run w rfl (.tmp 23) (.tmp 24) 22 22 rfl _ _ rfl rfl HR.out ?_)
  all_goals
    go_ret
    exact ⟨_, rfl, H2.out, by cases A <;> exact H3.out⟩

set_option maxRecDepth 100000 in
set_option maxHeartbeats 2000000 in
/-- In the middle, where there is room. -/
theorem insert_shift (n0 n i g cap : Nat) (cs xs us : List Value) (vb : Nat) (w : World) (h : InsOk n0 n (.slice (some ⟨g, 0, none⟩) n cap) xs us vb w) (hg : n0 ≤ g) (hb : w.heap[g]? = some (.cells cs.toArray 46 (0, 0)))
    (hcm : cap ≤ maxLen) (hcl : cs.length = cap * 3) (htk : cs.take (n * 3) = xs) (hi : i < n) (hroom : n + 1 ≤ cap) :
    Calls Tryd.prog 76 #[.slice (some ⟨g, 0, none⟩) n cap, .int .i64 i, .slice (some ⟨vb, 0, none⟩) 1 1] w fun e w' => ∃ v', e = .returned v' ∧ w'.ownsRow n0 46 3 v' (n + 1) (xs.take (i * 3) ++ us ++ xs.drop (i * 3)) ∧ w.grownBy w' (some g) := by
  have hbig := h.big
  have hxl : xs.length = n * 3 := h.own.1
  have hul := h.len
  have hvb := h.blk
  have h1x := h.onex
  have h1u := h.oneu
  have hne : vb ≠ g := fun e => h.ne (by simp [Value.ownBlock, e])
  have hcm0 := hcm
  unfold maxLen at hcm
  have hcell : ∀ j, j < n * 3 → w.cell? ⟨g, j, none⟩ = xs[j]? := fun j hj => by
    rw [cell_blk hb, ← htk, List.getElem?_take, if_pos hj]; simp
  have hdl : (xs.drop (i * 3)).length = (n - i) * 3 := by rw [List.length_drop, hxl]; omega
  obtain ⟨W1, hW1⟩ : ∃ W1, W1 = w.drew.setCells g ((i + 1) * 3) (xs.drop (i * 3)) := ⟨_, rfl⟩
  have hcp1 : ∀ ty dc sc, (Builtin.copy_ #[22, 22] ty #[.slice (some ⟨g, (i + 1) * 3, none⟩) (n - i) dc, .slice (some ⟨g, i * 3, none⟩) (n + 1 - i) sc]).run Tryd.prog w.drew = .ok (goInt (Nat.min (n + 1 - i) (n - i))) W1 := fun ty dc sc => by
    rw [hW1]
    refine run_copy3 w.drew ty g ((i + 1) * 3) _ _ ⟨g, i * 3, none⟩ _ _ (xs.drop (i * 3)) (by rw [hdl]; simp only [Nat.min_def]; split <;> omega) (fun j v hj => ?_) (fun j hj => ?_) (fun j hj => blk_frozen (w := w) hb _) (fun v hv => h1x v (List.mem_of_mem_drop hv))
    · have hjl := (List.getElem?_eq_some_iff.1 hj).1
      rw [List.getElem?_drop] at hj
      rw [add_none']
      exact (hcell _ (by omega)).trans hj
    · show (w.cell? _).isSome = true
      rw [cell_blk hb]; simp only [List.getElem?_toArray]; rw [List.getElem?_eq_getElem (by omega)]; rfl
  have hb1 : W1.heap[g]? = some (.cells (seg cs ((i + 1) * 3) (xs.drop (i * 3))).toArray 46 (0, 0)) := by
    rw [hW1]; exact setCells_seg g _ _ cs 46 w.drew hb (by rw [hdl]; omega)
  have hl1 : (seg cs ((i + 1) * 3) (xs.drop (i * 3))).length = cs.length := seg_len (by rw [hdl]; omega)
  have hg1 : w.grownBy W1 (some g) := by rw [hW1]; exact grown_trans' (grown_drew w _) (grown_setCells g _ _ _)
  have hvb1 : W1.heap[vb]? = some (.cells us.toArray 46 (0, 0)) := (hg1.block vb (Array.getElem?_eq_some_iff.1 hvb).1 (fun e => hne (Option.some.inj e))).trans hvb
  obtain ⟨W2, hW2⟩ : ∃ W2, W2 = W1.setCells g (i * 3) us := ⟨_, rfl⟩
  have hcp2 : ∀ ty dc, (Builtin.copy_ #[22, 22] ty #[.slice (some ⟨g, i * 3, none⟩) (n + 1 - i) dc, .slice (some ⟨vb, 0, none⟩) 1 1]).run Tryd.prog W1 = .ok (goInt (Nat.min 1 (n + 1 - i))) W2 := fun ty dc => by
    rw [hW2]
    refine run_copy3 W1 ty g (i * 3) _ _ ⟨vb, 0, none⟩ _ _ us (by rw [hul]; simp only [Nat.min_def]; split <;> omega) (fun j v hj => ?_) (fun j hj => ?_) (fun j hj => blk_frozen hb1 _) h1u
    · rw [add_none', Nat.zero_add, cell_blk hvb1]; simpa using hj
    · rw [cell_blk hb1]; simp only [List.getElem?_toArray]; rw [List.getElem?_eq_getElem (by omega)]; rfl
  have hb2 : W2.heap[g]? = some (.cells (seg (seg cs ((i + 1) * 3) (xs.drop (i * 3))) (i * 3) us).toArray 46 (0, 0)) := by
    rw [hW2]; exact setCells_seg g _ _ _ 46 W1 hb1 (by omega)
  have hl2 : (seg (seg cs ((i + 1) * 3) (xs.drop (i * 3))) (i * 3) us).length = cap * 3 := by rw [seg_len (by omega), hl1, hcl]
  have hg2 : w.grownBy W2 (some g) := by rw [hW2]; exact grown_trans' hg1 (grown_setCells g _ _ _)
  have hov : ∀ lb cb, (callFunc 86 #[.slice (some ⟨vb, 0, none⟩) 1 1, .slice (some ⟨g, (i + 1) * 3, none⟩) lb cb]).run Tryd.prog w = .ok (.value (.bool false)) w := fun lb cb => by
    rw [run_callFunc_extern Tryd.func86 (by kernel_rfl) (by kernel_rfl) (by kernel_rfl) (e := Extern.SlicesOverlaps.overlaps #[22, 22] #[4]) (by kernel_rfl),
      Lib.run_overlaps_apart w 22 4 46 Tryd.underlying22 3 sizeOf46 ⟨vb, 0, none⟩ ⟨g, (i + 1) * 3, none⟩ 1 1 lb cb hne 46 46 us.length cs.length (shape_of hvb) (shape_of hb) (by omega) (blk_frozen hvb _) (blk_frozen hvb _)]
    rfl
  have HT := Lib.hid (ins_take (cs := cs) (xs := xs) (us := us) (n := n) (i := i) (cap := cap) (by omega) htk hxl hul (by omega))
  have HB2 := Lib.hid hb2
  have HL2 := Lib.hid hl2
  have HG2 := Lib.hid hg2
  have HLEN : Hid ((xs.take (i * 3) ++ us ++ xs.drop (i * 3)).length = (n + 1) * 3) := by
    rw [Hid, List.length_append, List.length_append, List.length_take, hdl, hul, hxl]; omega
  have HCM := Lib.hid hcm0
  clear hW1 hW2 hb1 hb2 hl1 hl2 hg1 hg2 hvb1 hcell htk hb hvb h1x h1u h hcl hul hxl hdl hcm0
  have q1 : IntKind.i64.wrap ((i : Int) + 1) = (i : Int) + 1 := IntWalk.i64_in _ (by omega)
  have q2 : ((i : Int) + 1).toNat = i + 1 := by omega
  have q3 : (0 : Int) ≤ (i : Int) + 1 := by omega
  have q4 : ¬ ((i : Int) = (n : Int)) := by omega
  have q5 : ((n : Int) + 1).toNat = n + 1 := by omega
  have q6 : ¬ (cap = i + 1) := by omega
  have q7 : ¬ (cap = i) := by omega
  have q8 : i ≤ n := by omega
  have q9 : i ≤ n + 1 := by omega
  have q10 : (i : Int) ≤ (n : Int) + 1 := by omega
  go_enter Tryd.func76, Tryd.ntmps76
  go_wp2_with (simp only [hov])
  have mixed : Tryd.prog.follows .mixedOrders = true := by kernel_rfl
  go_region_law_o (refine step_copy_run rfl (.tmp 73) (.tmp 76) 22 22 rfl (.slice (some ⟨g, (i + 1) * 3, none⟩) (n - i) (cap - (i + 1))) (.slice (some ⟨g, i * 3, none⟩) (n + 1 - i) (cap - i)) (by simp [Act.eval, Act.put]) (by simp [Act.eval, Act.put]) (hcp1 _ _ _) ?_)
  go_wp2_with (with_reducible refine wpList_copy_run _ rfl (.tmp 80) (.tmp 81) 22 22 rfl (.slice (some ⟨g, i * 3, none⟩) (n + 1 - i) (cap - i)) (.slice (some ⟨vb, 0, none⟩) 1 1) rfl rfl (hcp2 _ _) ?_)
  go_ret
  refine ⟨_, rfl, ⟨HLEN.out, .inr ⟨g, cap, _, rfl, hg, HB2.out, by omega, HCM.out, by simpa using HL2.out, ?_⟩⟩, HG2.out⟩
  have := HT.out
  simpa using this

theorem zeros_size (k : Nat) : (Builtin.zeroCells (Value.agg #[.string ⟨#[]⟩, .int .i64 0, .slice none 0 0]).cells k).size = k * 3 := by
  simp [Builtin.zeroCells, Value.cells]
/-- The row behind an insertion into a new row. -/
theorem ins_new {row xs us : List Value} {n i : Nat} (hrl : (n + 1) * 3 ≤ row.length) (htk : row.take (i * 3) = xs.take (i * 3)) (hxl : xs.length = n * 3) (hul : us.length = 3) (hi : i ≤ n) :
    (seg (seg row (i * 3) us) ((i + 1) * 3) (xs.drop (i * 3))).take ((n + 1) * 3) = xs.take (i * 3) ++ us ++ xs.drop (i * 3) := by
  have hdl : (xs.drop (i * 3)).length = (n - i) * 3 := by rw [List.length_drop, hxl]; omega
  have hs1 : (seg row (i * 3) us).length = row.length := seg_len (by rw [hul]; omega)
  have ht : (xs.take (i * 3)).length = i * 3 := by rw [List.length_take]; omega
  apply List.ext_getElem?
  intro j
  rw [List.getElem?_take]
  by_cases hj : j < (n + 1) * 3
  · rw [if_pos hj, seg_at (by rw [hs1, hdl]; omega), hdl]
    by_cases e : j < i * 3
    · rw [if_pos (by omega), seg_at (by rw [hul]; omega), if_pos e, List.append_assoc, List.getElem?_append_left (by omega), ← htk, List.getElem?_take, if_pos e]
    · by_cases e2 : j < i * 3 + 3
      · rw [if_pos (by omega), seg_at (by rw [hul]; omega), if_neg e, if_pos (by rw [hul]; omega), List.getElem?_append_left (by rw [List.length_append, ht, hul]; omega), List.getElem?_append_right (by omega), ht]
      · rw [if_neg (by omega), if_pos (by omega), List.getElem?_append_right (by rw [List.length_append, ht, hul]; omega), List.length_append, ht, hul]
        congr 1; omega
  · rw [if_neg hj, List.getElem?_eq_none]
    rw [List.length_append, List.length_append, ht, hul, hdl]; omega

set_option maxRecDepth 100000 in
set_option maxHeartbeats 2000000 in
/-- In the middle, where there is no room: a new row. -/
theorem insert_grow (n0 n i g cap : Nat) (cs xs us : List Value) (vb : Nat) (w : World) (h : InsOk n0 n (.slice (some ⟨g, 0, none⟩) n cap) xs us vb w) (hg : n0 ≤ g) (hb : w.heap[g]? = some (.cells cs.toArray 46 (0, 0)))
    (hcl : cs.length = cap * 3) (htk : cs.take (n * 3) = xs) (hi : i < n) (hnc : n ≤ cap) (hroom : cap < n + 1) :
    Calls Tryd.prog 76 #[.slice (some ⟨g, 0, none⟩) n cap, .int .i64 i, .slice (some ⟨vb, 0, none⟩) 1 1] w fun e w' => ∃ v', e = .returned v' ∧ w'.ownsRow n0 46 3 v' (n + 1) (xs.take (i * 3) ++ us ++ xs.drop (i * 3)) ∧ w.grownBy w' (some g) := by
  obtain ⟨i46, hi46, hz46, hz46', hz46''⟩ := info_parts info46
  have hbig := h.big
  have hxl : xs.length = n * 3 := h.own.1
  have hul := h.len
  have hvb := h.blk
  have h1x := h.onex
  have h1u := h.oneu
  have hbase := h.base
  have hne : vb ≠ g := fun e => h.ne (by simp [Value.ownBlock, e])
  have hcell : ∀ j, j < n * 3 → w.cell? ⟨g, j, none⟩ = xs[j]? := fun j hj => by
    rw [cell_blk hb, ← htk, List.getElem?_take, if_pos hj]; simp
  have hdl : (xs.drop (i * 3)).length = (n - i) * 3 := by rw [List.length_drop, hxl]; omega
  have hgw : g < w.heap.size := (Array.getElem?_eq_some_iff.1 hb).1
  have hvw : vb < w.heap.size := (Array.getElem?_eq_some_iff.1 hvb).1
  have hold : (Builtin.firstCells i46.size i (.slice (some ⟨g, 0, none⟩) i cap)).run Tryd.prog w.drew = .ok (xs.take (i * 3)).toArray w.drew := by
    rw [hz46']
    exact run_firstCells_some w.drew 3 i ⟨g, 0, none⟩ i cap (xs.take (i * 3)) (by rw [List.length_take]; omega) (fun j v hj => by
      have hjl := (List.getElem?_eq_some_iff.1 hj).1
      rw [List.length_take] at hjl
      rw [add_none', Nat.zero_add]
      rw [List.getElem?_take, if_pos (by omega)] at hj
      exact (hcell _ (by omega)).trans hj)
  obtain ⟨G, hG⟩ : ∃ G, G = grownCap w (n + 1) cap 46 := ⟨_, rfl⟩
  have hGn : n + 1 ≤ G := by rw [hG]; exact grownCap_ge w _ _ _
  have hG63 : G ≤ maxLen := by rw [hG]; exact grownCap_le_maxLen w (n + 1) cap 46 (by unfold maxLen; omega)
  obtain ⟨ROW, hROW⟩ : ∃ ROW : List Value, ROW = ((xs.take (i * 3)).toArray ++ Builtin.zeroCells (Value.agg #[.string ⟨#[]⟩, .int .i64 0, .slice none 0 0]).cells (n + 1 - i) ++ Builtin.zeroCells (Value.agg #[.string ⟨#[]⟩, .int .i64 0, .slice none 0 0]).cells (G - (n + 1))).toList := ⟨_, rfl⟩
  have hRl : ROW.length = G * 3 := by
    rw [hROW, Array.length_toList, Array.size_append, Array.size_append, zeros_size, zeros_size, List.size_toArray, List.length_take]; omega
  have hRt : ROW.take (i * 3) = xs.take (i * 3) := by
    have ht : (xs.take (i * 3)).length = i * 3 := by rw [List.length_take]; omega
    rw [hROW, Array.toList_append, Array.toList_append, List.append_assoc]
    exact (List.take_append_of_le_length (by rw [List.toList_toArray, ht]; exact Nat.le_refl _)).trans (by rw [List.toList_toArray]; exact List.take_of_length_le (by omega))
  have hrz : ∀ ty, (Builtin.append_ #[22, 3] ty #[.slice (some ⟨g, 0, none⟩) i cap, .int .i64 ((n : Int) + 1 - (i : Int))]).run Tryd.prog w =
      .ok (.slice (some ⟨w.heap.size, 0, none⟩) (n + 1) G) (w.drew.alloc (.cells ROW.toArray 46)) := fun ty => by
    have h := Lib.run_append_grow_zeros w 22 3 ty 46 i46 _ .i64 .i64 Tryd.underlying22 Tryd.underlying3 hi46 hz46 (some ⟨g, 0, none⟩) i cap (xs.take (i * 3)) hold (n + 1 - i) (by omega) (by omega) (by omega) (by omega) (by rw [hz46'']; omega)
      (by rw [hz46'', show i + (n + 1 - i) = n + 1 by omega]; exact growslice_fits hroom (by omega))
    rw [show i + (n + 1 - i) = n + 1 by omega, ← hG] at h
    rw [show (n : Int) + 1 - (i : Int) = ((n + 1 - i : Nat) : Int) by omega, hROW]
    exact h
  obtain ⟨N, hN⟩ : ∃ N, N = w.heap.size := ⟨_, rfl⟩
  rw [← hN] at hrz
  obtain ⟨W0, hW0⟩ : ∃ W0, W0 = w.drew.alloc (.cells ROW.toArray 46) := ⟨_, rfl⟩
  rw [← hW0] at hrz
  have hx0 : Ext w W0 := by rw [hW0]; exact Ext.trans (show Ext w w.drew from (Below.refl _ _).drew) (ext_alloc1 w.drew _)
  have hb0 : W0.heap[N]? = some (.cells ROW.toArray 46 (0, 0)) := by rw [hW0, hN]; exact World.alloc_heap_new w.drew _
  obtain ⟨W1, hW1⟩ : ∃ W1, W1 = W0.setCells N (i * 3) us := ⟨_, rfl⟩
  have hcp1 : ∀ ty dc, (Builtin.copy_ #[22, 22] ty #[.slice (some ⟨N, i * 3, none⟩) (n + 1 - i) dc, .slice (some ⟨vb, 0, none⟩) 1 1]).run Tryd.prog W0 = .ok (goInt (Nat.min 1 (n + 1 - i))) W1 := fun ty dc => by
    rw [hW1]
    refine run_copy3 W0 ty N (i * 3) _ _ ⟨vb, 0, none⟩ _ _ us (by rw [hul]; simp only [Nat.min_def]; split <;> omega) (fun j v hj => ?_) (fun j hj => ?_) (fun j hj => blk_frozen hb0 _) h1u
    · rw [add_none', Nat.zero_add]; exact hx0.cell (by rw [cell_blk hvb]; simpa using hj)
    · rw [cell_blk hb0]; simp only [List.getElem?_toArray]; rw [List.getElem?_eq_getElem (by omega)]; rfl
  have hb1 : W1.heap[N]? = some (.cells (seg ROW (i * 3) us).toArray 46 (0, 0)) := by rw [hW1]; exact setCells_seg N _ _ _ 46 W0 hb0 (by omega)
  have hl1 : (seg ROW (i * 3) us).length = G * 3 := by rw [seg_len (by omega), hRl]
  have hg1 : W0.grownBy W1 (some N) := by rw [hW1]; exact grown_setCells N _ _ _
  have hbg : W1.heap[g]? = some (.cells cs.toArray 46 (0, 0)) := (hg1.block g (Array.getElem?_eq_some_iff.1 (hx0.blk hb)).1 (fun e => by have := Option.some.inj e; omega)).trans (hx0.blk hb)
  have hcellg : ∀ j, j < n * 3 → W1.cell? ⟨g, j, none⟩ = xs[j]? := fun j hj => by
    rw [cell_blk hbg, ← htk, List.getElem?_take, if_pos hj]; simp
  obtain ⟨W2, hW2⟩ : ∃ W2, W2 = W1.drew.setCells N ((i + 1) * 3) (xs.drop (i * 3)) := ⟨_, rfl⟩
  have hcp2 : ∀ ty dc sc, (Builtin.copy_ #[22, 22] ty #[.slice (some ⟨N, (i + 1) * 3, none⟩) (n - i) dc, .slice (some ⟨g, i * 3, none⟩) (n - i) sc]).run Tryd.prog W1.drew = .ok (goInt (Nat.min (n - i) (n - i))) W2 := fun ty dc sc => by
    rw [hW2]
    refine run_copy3 W1.drew ty N ((i + 1) * 3) _ _ ⟨g, i * 3, none⟩ _ _ (xs.drop (i * 3)) (by rw [hdl]; simp only [Nat.min_def]; split <;> omega) (fun j v hj => ?_) (fun j hj => ?_) (fun j hj => blk_frozen (w := W1) hb1 _) (fun v hv => h1x v (List.mem_of_mem_drop hv))
    · have hjl := (List.getElem?_eq_some_iff.1 hj).1
      rw [List.getElem?_drop] at hj
      rw [add_none']
      exact (hcellg _ (by omega)).trans hj
    · show (W1.cell? _).isSome = true
      rw [cell_blk hb1]; simp only [List.getElem?_toArray]; rw [List.getElem?_eq_getElem (by omega)]; rfl
  have hb2 : W2.heap[N]? = some (.cells (seg (seg ROW (i * 3) us) ((i + 1) * 3) (xs.drop (i * 3))).toArray 46 (0, 0)) := by
    rw [hW2]; exact setCells_seg N _ _ _ 46 W1.drew hb1 (by omega)
  have hl2 : (seg (seg ROW (i * 3) us) ((i + 1) * 3) (xs.drop (i * 3))).length = G * 3 := by rw [seg_len (by omega), hl1]
  have hg2 : W0.grownBy W2 (some N) := by rw [hW2]; exact grown_trans' hg1 (grown_trans' (grown_drew _ _) (grown_setCells N _ _ _))
  have hfin : w.grownBy W2 (some g) := by
    refine ⟨hg2.os.trans hx0.os, hg2.tape.trans hx0.tape, hg2.output.trans hx0.output, Nat.le_trans hx0.size hg2.size, fun k hk hne' => ?_⟩
    rw [hg2.block k (Nat.lt_of_lt_of_le hk hx0.size) (fun e => by have := Option.some.inj e; omega)]
    exact hx0.block k hk
  have HT := Lib.hid (ins_new (row := ROW) (xs := xs) (us := us) (n := n) (i := i) (by omega) hRt hxl hul (by omega))
  have HB2 := Lib.hid hb2
  have HL2 := Lib.hid hl2
  have HG2 := Lib.hid hfin
  have HLEN : Hid ((xs.take (i * 3) ++ us ++ xs.drop (i * 3)).length = (n + 1) * 3) := by
    rw [Hid, List.length_append, List.length_append, List.length_take, hdl, hul, hxl]; omega
  have HCM := Lib.hid hG63
  have hNn : n0 ≤ N := by omega
  have hG63' : G ≤ 9223372036854775807 := by unfold maxLen at hG63; omega
  clear hW0 hW1 hW2 hb0 hb1 hb2 hl1 hl2 hg1 hg2 hx0 hbg hcellg hcell htk hb hvb h1x h1u h hcl hul hxl hdl hG63 hfin hRl hRt hROW hG hN hold hi46 hz46 hz46' hz46'' hgw hvw hbase
  have q1 : IntKind.i64.wrap ((i : Int) + 1) = (i : Int) + 1 := IntWalk.i64_in _ (by omega)
  have q2 : ((i : Int) + 1).toNat = i + 1 := by omega
  have q3 : (0 : Int) ≤ (i : Int) + 1 := by omega
  have q4 : ¬ ((i : Int) = (n : Int)) := by omega
  have q5 : (cap : Int) < (n : Int) + 1 := by omega
  have q6 : ¬ (G = i + 1) := by omega
  have q7 : ¬ (G = i) := by omega
  have q8 : i ≤ n := by omega
  have q9 : i ≤ n + 1 := by omega
  have q10 : (i : Int) ≤ (n : Int) + 1 := by omega
  have q11 : i ≤ cap := by omega
  have q12 : ¬ (cap = i) := by omega
  have q13 : (i : Int) ≤ (n : Int) := by omega
  have mixed : Tryd.prog.follows .mixedOrders = true := by kernel_rfl
  go_enter Tryd.func76, Tryd.ntmps76
  go_wp2_with (first
    | (at_builtin; refine wpList_append_run _ rfl (.tmp 34) (.tmp 39) 22 3 rfl (.slice (some ⟨g, 0, none⟩) i cap) (.int .i64 ((n : Int) + 1 - (i : Int))) rfl rfl (hrz _) ?_)
    | (with_reducible refine wpList_copy_run _ rfl (.tmp 43) (.tmp 44) 22 22 rfl (.slice (some ⟨N, i * 3, none⟩) (n + 1 - i) (G - i)) (.slice (some ⟨vb, 0, none⟩) 1 1) rfl rfl (hcp1 _ _) ?_))
  go_region_law_o (refine step_copy_run rfl (.tmp 50) (.tmp 53) 22 22 rfl (.slice (some ⟨N, (i + 1) * 3, none⟩) (n - i) (G - (i + 1))) (.slice (some ⟨g, i * 3, none⟩) (n - i) (cap - i)) (by simp [Act.eval, Act.put]) (by simp [Act.eval, Act.put]) (hcp2 _ _ _) ?_)
  go_wp2
  go_ret
  refine ⟨_, rfl, ⟨HLEN.out, .inr ⟨N, G, _, rfl, hNn, HB2.out, by omega, HCM.out, by simpa using HL2.out, ?_⟩⟩, HG2.out⟩
  have := HT.out
  simpa using this

/-- slices.Insert with one file. -/
theorem insert_any (n0 n i : Nat) (v : Value) (xs us : List Value) (vb : Nat) (w : World) (h : InsOk n0 n v xs us vb w) (hi : i ≤ n) :
    Calls Tryd.prog 76 #[v, .int .i64 i, .slice (some ⟨vb, 0, none⟩) 1 1] w fun e w' => ∃ v', e = .returned v' ∧ w'.ownsRow n0 46 3 v' (n + 1) (xs.take (i * 3) ++ us ++ xs.drop (i * 3)) ∧ w.grownBy w' v.ownBlock := by
  rcases Nat.lt_or_ge i n with hlt | hge
  · obtain ⟨g, cap, cs, rfl, hg, hb, hnc, hcm, hcl, htk⟩ := own_open h.own (by omega)
    rcases Nat.lt_or_ge cap (n + 1) with hr | hr
    · exact insert_grow n0 n i g cap cs xs us vb w h hg hb hcl htk hlt hnc hr
    · exact insert_shift n0 n i g cap cs xs us vb w h hg hb hcm hcl htk hlt hr
  · obtain rfl : i = n := by omega
    have hxl := h.own.1
    rw [List.take_of_length_le (by omega), List.drop_eq_nil_of_le (by omega), List.append_nil]
    exact insert_end n0 i v xs us vb w h
end Go.Proofs.YtcjokhhcncimdaaDoor

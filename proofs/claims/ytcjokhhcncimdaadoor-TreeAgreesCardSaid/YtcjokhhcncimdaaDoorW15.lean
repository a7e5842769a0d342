/- The walk of CopyFile. -/
import Derived.Test.YtcjokhhcncimdaaDoorW12
import Derived.Deep.Upon
set_option linter.unusedVariables false
set_option linter.unusedSimpArgs false
namespace Go.Proofs.YtcjokhhcncimdaaDoor
open Go.RowKit Go.PF Go.Tr

theorem wp_append_run {P : Program} (w : World) {o : Oper} {a : Act} {K : Act → World → Prop} {Q : Exit → Act → World → Prop} (s x : Operand) (t t' : TypeId)
    (ho : o.op = .call { callee := .builtin .append, args := #[s, x], argTypes := #[t, t'] }) (v u : Value) (hs : a.eval s = v) (hx : a.eval x = u) {v' : Value} {w' : World}
    (hr : (Builtin.append_ #[t, t'] o.type #[v, u]).run P w = .ok v' w') (h : K (a.put o.dst v') w') : o.wp P a w K Q := by
  unfold Oper.wp execOp
  simp only [ho, resolve, invoke, builtin, Sem.run_bind, Sem.run_pure, Result.andThen_ok, List.map_toArray, List.map_cons, List.map_nil, hs, hx, hr]
  exact h
theorem wpList_append_run {P : Program} (w : World) {ops : Array Oper} {rest : List Oper} {o : Oper} {a : Act} {Q : Exit → Act → World → Prop} (hgd : o.guard = none) (s x : Operand) (t t' : TypeId)
    (ho : o.op = .call { callee := .builtin .append, args := #[s, x], argTypes := #[t, t'] }) (v u : Value) (hs : a.eval s = v) (hx : a.eval x = u) {v' : Value} {w' : World}
    (hr : (Builtin.append_ #[t, t'] o.type #[v, u]).run P w = .ok v' w') (h : wpList P ops Q rest (a.put o.dst v') w') : wpList P ops Q (o :: rest) a w :=
  wpList_plain hgd fun _ hK => wp_append_run w s x t t' ho v u hs hx hr (hK _ _ h)

theorem info_parts' {P : Program} {e : TypeId} {z : Value} {s b : Nat} (h : (P.info? e).map (fun i => (i.zero, i.size, i.bytes)) = some (some z, s, b)) : ∃ i, P.info? e = some i ∧ i.zero = some z ∧ i.size = s ∧ i.bytes = b := by
  cases hi : P.info? e with
  | none => rw [hi] at h; cases h
  | some i =>
    rw [hi] at h
    simp only [Option.map_some, Option.some.injEq, Prod.mk.injEq] at h
    exact ⟨i, rfl, h.1, h.2.1, h.2.2⟩
theorem info3 : (Tryd.prog.info? 3).map (fun i => (i.zero, i.size, i.bytes)) = some (some (.int .i64 0), 1, 8) := by kernel_rfl

/-- append(new, l...): the numbers of l in a row of their own. -/
theorem run_copy_frags (w w0 : World) (h0 : w = w0.alloc (.cells #[] 3)) (F : Option Addr) (c : Nat) (l : List Int) (hf : Fr w0 F c l) (hb : l.length * 8 ≤ 140737488355328) :
    ∃ F' c' w', (Builtin.append_ #[44, 44] 44 #[.slice (some ⟨w0.heap.size, 0, none⟩) 0 0, .slice F l.length c]).run Tryd.prog w = .ok (.slice F' l.length c') w' ∧ FrOwn w0.heap.size w' F' c' l ∧ Below w0.heap.size w w' := by
  obtain ⟨i, hi, hz, hs, hby⟩ := info_parts' info3
  subst h0
  have hblk := World.alloc_heap_new w0 (.cells #[] 3)
  have hf' := hf.ext (ext_alloc1 w0 (.cells #[] 3))
  have hown : (w0.alloc (.cells #[] 3)).ownsRow w0.heap.size 3 1 (.slice (some ⟨w0.heap.size, 0, none⟩) 0 0) 0 [] :=
    ⟨rfl, .inr ⟨w0.heap.size, 0, #[], rfl, Nat.le_refl _, hblk, Nat.le_refl _, Nat.zero_le _, rfl, rfl⟩⟩
  rcases hf'.rd with h0 | ⟨b, off, hA, hc⟩
  · have h0 : l = [] := by simpa using h0
    subst h0
    refine ⟨some ⟨w0.heap.size, 0, none⟩, 0, w0.alloc (.cells #[] 3), ?_, ?_, Below.refl _ _⟩
    · refine run_append_nothing _ 44 44 44 3 i Tryd.underlying44 hi (some ⟨w0.heap.size, 0, none⟩) 0 0 (Nat.le_refl _) _ ⟨.inl ⟨3, Tryd.underlying44⟩, fun w' => ?_, ?_, ?_, by simp, by simp⟩
      · cases F <;> rfl
      · cases F <;> simp [Builtin.firstCells, loadCells, loadCellsFrom]
      · cases F <;> simp [Builtin.firstCells, loadCells, loadCellsFrom]
    · exact ⟨⟨Nat.le_refl _, Nat.zero_le _, .inl rfl⟩, .inl rfl⟩
  · subst hA
    obtain ⟨v', w', hrun, h2, h3, -, h5⟩ := run_append_own_at (P := Tryd.prog) (w0.alloc (.cells #[] 3)) w0.heap.size 44 44 3 i _ 1 8 Tryd.underlying44 hi hz hs hby rfl (by omega) _ 0 [] hown ⟨b, off, none⟩ l.length c (l.map (Value.int .i64)) (by simp)
      (fun j u hu => by
        rw [show (⟨b, off, none⟩ : Addr).add j = ⟨b, off + j, none⟩ by unfold Addr.add; split <;> simp_all]
        have hj : j < l.length := by have := (List.getElem?_eq_some_iff.1 hu).1; simpa using this
        rw [hc j (by simpa using hj)]
        simp only [List.getElem?_map, List.getElem?_eq_getElem hj, Option.map_some, Option.some.injEq] at hu
        subst hu
        simp [i64])
      (fun u hu => by obtain ⟨x, -, rfl⟩ := List.mem_map.1 hu; rfl) (by have := hf.le; have := hf.max; omega) (by omega) (by simp)
    rw [Nat.zero_add, List.nil_append] at h2
    obtain ⟨A, cap, rfl, ho⟩ := frOwn_of h2 rfl
    refine ⟨A, cap, w', hrun, ho, ?_⟩
    refine (Below.refl _ _).grown h3 (by simp) (fun k hk => ?_)
    simp [Value.ownBlock] at hk
    omega

set_option maxHeartbeats 1000000 in
theorem copyfile_any (v : Value) (f : FileV) (w : World) (hv : FileIs w v f) (hb : f.frags.length * 8 ≤ 140737488355328) :
    Calls Tryd.prog 77 #[v] w fun e w' => ∃ v', e = .returned v' ∧ FileOwn w.heap.size w' v' f ∧ Ext w w' := by
  obtain ⟨F, k, rfl, hf⟩ := hv
  obtain ⟨p, n, l⟩ := f
  dsimp only at *
  go_enter Tryd.func77, Tryd.ntmps77
  go_wp2_with fail
  obtain ⟨hb1, hb2⟩ := heap2 w (.cells #[.string p, .int .i64 n, .slice F l.length k] 46) (.cells #[.string { data := #[] }, .int .i64 0, .slice none 0 0] 46)
  have hx := ext_alloc2 w (.cells #[.string p, .int .i64 n, .slice F l.length k] 46) (.cells #[.string { data := #[] }, .int .i64 0, .slice none 0 0] 46)
  have hsz : ((w.alloc (.cells #[.string p, .int .i64 n, .slice F l.length k] 46)).alloc (.cells #[.string { data := #[] }, .int .i64 0, .slice none 0 0] 46)).heap.size = w.heap.size + 2 := by simp
  generalize ((w.alloc (.cells #[.string p, .int .i64 n, .slice F l.length k] 46)).alloc (.cells #[.string { data := #[] }, .int .i64 0, .slice none 0 0] 46)) = W at *
  have HSZ := Lib.hid hsz; clear hsz
  refine wp_region_T (fun W' => Ext W.drew W') [9] (by kernel_rfl) ?_
  have hS : Ext W.drew W.drew := Ext.refl _
  have cA : W.drew.cell? ⟨w.heap.size, 0, none⟩ = some (.string p) := (cell_blk hb1 0)
  have cB : W.drew.cell? ⟨w.heap.size, 1, none⟩ = some (.int .i64 n) := (cell_blk hb1 1)
  have cC : W.drew.cell? ⟨w.heap.size, 2, none⟩ = some (.slice F l.length k) := (cell_blk hb1 2)
  refine takeT 0 ?v0_1 rfl (by kernel_rfl) (fun _ _ _ h => h) rfl hS ?hy0_1 ?hk0_1
  case hy0_1 =>
    rintro w' he 
    have s1 := he.cell cA
    have s2 := he.cell cB
    have s3 := he.cell cC
    go_simp
    first | done | with_reducible rfl
  try simp only [Act.put, List.setIfInBounds_toArray, List.set_cons_zero, List.set_cons_succ]
  refine takeT 1 ?v1_2 rfl (by kernel_rfl) (fun _ _ _ h => h) rfl hS ?hy1_2 ?hk1_2
  case hy1_2 =>
    rintro w' he 
    have s1 := he.cell cA
    have s2 := he.cell cB
    have s3 := he.cell cC
    go_simp
    first | done | with_reducible rfl
  try simp only [Act.put, List.setIfInBounds_toArray, List.set_cons_zero, List.set_cons_succ]
  refine takeT 2 ?v2_3 rfl (by kernel_rfl) (fun _ _ _ h => h) rfl hS ?hy2_3 ?hk2_3
  case hy2_3 =>
    rintro w' he 
    have s1 := he.cell cA
    have s2 := he.cell cB
    have s3 := he.cell cC
    go_simp
    first | done | with_reducible rfl
  try simp only [Act.put, List.setIfInBounds_toArray, List.set_cons_zero, List.set_cons_succ]
  refine takeT 3 ?v3_4 rfl (by kernel_rfl) (fun _ _ _ h => h) rfl hS ?hy3_4 ?hk3_4
  case hy3_4 =>
    rintro w' he 
    have s1 := he.cell cA
    have s2 := he.cell cB
    have s3 := he.cell cC
    go_simp
    first | done | with_reducible rfl
  try simp only [Act.put, List.setIfInBounds_toArray, List.set_cons_zero, List.set_cons_succ]
  refine takeT 5 ?v5_5 rfl (by kernel_rfl) (fun _ _ _ h => h) rfl hS ?hy5_5 ?hk5_5
  case hy5_5 =>
    rintro w' he 
    have s1 := he.cell cA
    have s2 := he.cell cB
    have s3 := he.cell cC
    go_simp
    first | done | with_reducible rfl
  try simp only [Act.put, List.setIfInBounds_toArray, List.set_cons_zero, List.set_cons_succ]
  refine takeT 6 ?v6_6 rfl (by kernel_rfl) (fun _ _ _ h => h) rfl hS ?hy6_6 ?hk6_6
  case hy6_6 =>
    rintro w' he 
    have s1 := he.cell cA
    have s2 := he.cell cB
    have s3 := he.cell cC
    go_simp
    first | done | with_reducible rfl
  try simp only [Act.put, List.setIfInBounds_toArray, List.set_cons_zero, List.set_cons_succ]
  refine oneT 4 rfl (by kernel_rfl) rfl fun K hK => ?_
  go_simp
  refine hK _ _ (fun _ => ext_alloc1 _ _) ?_
  clear hK K
  try simp only [Act.put, List.setIfInBounds_toArray, List.set_cons_zero, List.set_cons_succ]
  have hfw : Fr W.drew F k l := (hf.ext hx).ext (show Ext W W.drew from (Below.refl _ _).drew)
  obtain ⟨F', k', w1, hrun, ho, hbel⟩ := run_copy_frags (W.drew.alloc (.cells #[] 3)) W.drew rfl F k l hfw hb
  have hx1 : Ext W.drew w1 := Below.trans (ext_alloc1 W.drew (.cells #[] 3)) hbel
  refine oneT 7 rfl (by kernel_rfl) rfl fun K hK => ?_
  replace hrun : (Builtin.append_ #[44, 44] 44 #[.slice (some ⟨W.heap.size, 0, none⟩) 0 0, .slice F l.length k]).run Tryd.prog (W.drew.alloc (.cells #[] 3)) = .ok (.slice F' l.length k') w1 := hrun
  refine wp_append_run (W.drew.alloc (.cells #[] 3)) (.tmp 7) (.tmp 9) 44 44 ?ho (.slice (some ⟨W.heap.size, 0, none⟩) 0 0) (.slice F l.length k) ?hs ?hx (v' := .slice F' l.length k') (w' := w1) ?hr ?_
  case ho => with_reducible rfl
  case hs => rfl
  case hx => rfl
  case hr => exact hrun
  refine hK _ _ (fun _ => hx1) ?_
  clear hK K hrun hbel
  try simp only [Act.put, List.setIfInBounds_toArray, List.set_cons_zero, List.set_cons_succ]
  refine takeT 8 ?v8 rfl (by kernel_rfl) (fun _ _ _ h => h) rfl hx1 ?hy8 ?hk8
  case hy8 =>
    rintro w' he
    go_simp
    first | done | with_reducible rfl
  try simp only [Act.put, List.setIfInBounds_toArray, List.set_cons_zero, List.set_cons_succ]
  refine oneT 9 rfl (by kernel_rfl) rfl fun K hK => ?_
  have hxd : Ext W W.drew := (Below.refl _ _).drew
  replace hb2 := (hxd.trans hx1).blk hb2
  have hd0 := cell_blk hb2 0
  have hd1 := cell_blk hb2 1
  have hd2 := cell_blk hb2 2
  have he0 := blk_frozen hb2 0
  have he1 := blk_frozen hb2 1
  have he2 := blk_frozen hb2 2
  simp only [List.getElem?_toArray, List.getElem?_cons_succ, List.getElem?_cons_zero] at hd0 hd1 hd2
  go_simp
  refine hK _ _ (fun h => absurd (List.mem_singleton.2 rfl) h) ?_
  clear hK K
  refine doneT (by kernel_rfl) ?_ _
  have hsz := HSZ.out
  have hO := ((ho.mono (n1 := w.heap.size + 2) (by show w.heap.size + 2 ≤ W.heap.size; omega)).setCell (p := ⟨w.heap.size + 1, 0, none⟩) (by show w.heap.size + 1 < _; omega) (.string p)).setCell (p := ⟨w.heap.size + 1, 1, none⟩) (by show w.heap.size + 1 < _; omega) (.int .i64 n) |>.setCell (p := ⟨w.heap.size + 1, 2, none⟩) (by show w.heap.size + 1 < _; omega) (.slice F' l.length k')
  have hX := ext_set (p := ⟨w.heap.size + 1, 2, none⟩) (ext_set (p := ⟨w.heap.size + 1, 1, none⟩) (ext_set (p := ⟨w.heap.size + 1, 0, none⟩) (hx.trans (hxd.trans hx1)) (Nat.le_succ _) (.string p)) (Nat.le_succ _) (.int .i64 n)) (Nat.le_succ _) (.slice F' l.length k')
  have hR := blk_set3 hb2 (.string p) (.int .i64 n) (.slice F' l.length k')
  generalize ((w1.setCell ⟨w.heap.size + 1, 0, none⟩ (.string p)).setCell ⟨w.heap.size + 1, 1, none⟩ (.int .i64 n)).setCell ⟨w.heap.size + 1, 2, none⟩ (.slice F' l.length k') = W3 at *
  have hr0 := cell_blk hR 0
  have hr1 := cell_blk hR 1
  have hr2 := cell_blk hR 2
  simp only [List.getElem?_toArray, List.getElem?_cons_succ, List.getElem?_cons_zero] at hr0 hr1 hr2
  clear hb1 hb2 hd0 hd1 hd2 he0 he1 he2 hx1 cA cB cC hS hsz
  go_wp2_with fail
  try simp only [Exit.inBlock, Exit.then]
  refine bodyPost_ret (v := .agg #[.string p, .int .i64 n, .slice F' l.length k']) (by simp [results, Tryd.results77, go_sem, hr0, hr1, hr2]) rfl ?_
  exact ⟨_, rfl, ⟨F', k', rfl, hO.mono (by omega)⟩, hX⟩
end Go.Proofs.YtcjokhhcncimdaaDoor

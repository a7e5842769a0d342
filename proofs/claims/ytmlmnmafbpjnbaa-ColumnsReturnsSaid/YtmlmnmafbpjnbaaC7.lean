/- The walk of ColumnsReturns. -/
import Derived.Test.YtmlmnmafbpjnbaaW10
import Derived.Deep.WholeRow
import Derived.Deep.Cut
namespace Go.Proofs.Ytmlmnmafbpjnbaa
open Go.RowKit Go.PF Go.Col

def zeros : Array Value := Array.replicate 256 (.int .i64 0)
theorem zeros_size : zeros.size = 256 := by simp [zeros]
theorem alloc41 (W : World) : (Instr.alloc 41 true undef).run Try.prog W = .ok (.pointer (some ⟨W.heap.size, 0, none⟩)) (W.alloc (.cells zeros 41)) := by kernel_rfl
theorem build41 (W : World) : (Instr.build 41 #[]).run Try.prog W = .ok (.agg zeros) W := by kernel_rfl
theorem neq41 (W : World) : (binOp .neq 41 (.agg zeros) (.agg zeros)).run Try.prog W = .ok (.bool false) W := by kernel_rfl
theorem eqg41 (x y : Operand) (W : World) : (eqGuard .neq 41 x y (.agg zeros) (.agg zeros)).run Try.prog W = .ok () W := by kernel_rfl
theorem neq41' (ρ : Operand → Value) (d : Option Tmp) (x y : Operand) (t : TypeId) (p : String) (e : Array Edge) (g : Option (Nat × Bool)) (W : World) (h1 : ρ x = .agg zeros) (h2 : ρ y = .agg zeros) :
    (execOp ρ { dst := d, op := .binOp .neq 41 x y 41, type := t, pos := p, after := e, guard := g }).run Try.prog W = .ok (.value (.bool false)) W := by
  simp [execOp, h1, h2, neq41, eqg41]
theorem size41 : (Try.prog.info? 41).map (·.size) = some zeros.size := by kernel_rfl

theorem wpList_run {P : Program} {ops : Array Oper} {rest : List Oper} {o : Oper} {a : Act} {Q : Exit → Act → World → Prop} {w w' : World} {v : Value} (hgd : o.guard = none)
    (hr : (execOp a.eval o).run P w = .ok (.value v) w') (h : wpList P ops Q rest (a.put o.dst v) w') : wpList P ops Q (o :: rest) a w :=
  wpList_plain hgd fun K hK => by unfold Oper.wp; rw [hr]; exact hK _ _ h
theorem alloc41' (ρ : Operand → Value) (d : Option Tmp) (t : TypeId) (p : String) (e : Array Edge) (g : Option (Nat × Bool)) (W : World) :
    (execOp ρ { dst := d, op := .alloc 41, type := t, pos := p, after := e, guard := g }).run Try.prog W = .ok (.value (.pointer (some ⟨W.heap.size, 0, none⟩))) (W.alloc (.cells zeros 41)) := by
  have := alloc41 W
  unfold undef at this
  simp [execOp, this]
theorem build41' (ρ : Operand → Value) (d : Option Tmp) (t : TypeId) (p : String) (e : Array Edge) (g : Option (Nat × Bool)) (W : World) :
    (execOp ρ { dst := d, op := .build 41 #[], type := t, pos := p, after := e, guard := g }).run Try.prog W = .ok (.value (.agg zeros)) W := by
  simp [execOp, build41]
theorem zeros_row (w : World) : (w.alloc (.cells zeros 41)).rowIs w.heap.size 41 256 (fun _ => .int .i64 0) := by
  have := World.rowIs_alloc w zeros 41 (fun _ => .int .i64 0) (fun i hi => by rw [zeros_size] at hi; unfold zeros; rw [Array.getElem?_replicate, if_pos hi])
  rwa [zeros_size] at this
theorem zeros_of {w : World} {b : Nat} (h : w.rowIs b 41 256 (fun _ => .int .i64 0)) : w.heap[b]? = some (.cells zeros 41 (0, 0)) := by
  obtain ⟨cs, h1, h2, h3⟩ := h
  have : cs = zeros := by
    apply Array.ext
    · rw [h2, zeros_size]
    · intro i h4 h5
      have h6 := h3 i (by omega)
      rw [Array.getElem?_eq_getElem h4] at h6
      have h7 : cs[i] = .int .i64 0 := by simpa using h6
      rw [h7]; simp [zeros]
  rw [h1, this]

theorem ret_eq (c : Nat → Int) (n k : Nat) (hk : 1 ≤ k) : strF (invTo (ordAt n k) (fun j => c (ordAt n k j)) n) n = strF c n :=
  strF_congr fun j hj => by rw [inv_law n k _ j hk hj]; show c (ordAt n k (placeF n k j)) = c j; rw [ordAt_place n k j hk hj]
theorem ret_eq2 (c : Nat → Int) (n k : Nat) (hk : 1 ≤ k) : strF (fun j => invTo (ordAt n k) c n (ordAt n k j)) n = strF c n :=
  strF_congr fun j hj => by
    show invTo (ordAt n k) c n (ordAt n k j) = c j
    rw [inv_law n k c _ hk (ordAt_lt' n k j hk hj), place_ordAt n k j hk hj]
theorem ret_eq3 (c : Nat → Int) (n k : Nat) (hk : 1 ≤ k) (h : k = 1 ∨ n ≤ k) : strF (fun j => c (ordAt n k j)) n = strF c n :=
  strF_congr fun j hj => by show c (ordAt n k j) = c j; rw [ordAt_id n k j hk hj h]

set_option maxHeartbeats 2000000 in
theorem returns_ok (A : Option Addr) (n cap : Nat) (c : Nat → Int) (a : Int) (w : World) (hB : RdF w A n c) (hcap : n ≤ cap) (hn : n ≤ 600) (ha : 0 ≤ a) (ha2 : a < 256) (hcb : ∀ i, 0 ≤ c i ∧ c i < 256) :
    Calls Try.prog 8 #[.slice A n cap, .int .u8 a] w fun e w' => e = .returned (.bool true) ∧ Below w.heap.size w w' := by
  have HB := Lib.hid hB; clear hB
  have HCB := Lib.hid hcb; clear hcb
  obtain ⟨k, hk, hk1, hk2⟩ : ∃ k : Nat, 1 + a % 64 = (k : Int) ∧ 1 ≤ k ∧ k ≤ 64 := ⟨(1 + a % 64).toNat, by omega, by omega, by omega⟩
  have HN := Lib.hid (ordLen_eq n k hk1)
  go_enter Try.func8, Try.ntmps8
  go_wp2_with fail
  refine (forward_ok2 A cap n c k _ (by omega) hk1 hk2 HB.out).mono ?_
  rintro e w1 ⟨B1, c1, rfl, hr1, hx1, hc1⟩
  rw [HN.out] at hr1 hc1 ⊢
  have HR1 := Lib.hid hr1; clear hr1
  go_wp2_with fail
  refine (inverse_ok B1 c1 n _ k _ (by omega) hc1 hk1 hk2 HR1.out HN.out).mono ?_
  rintro e w2 ⟨B2, c2, rfl, hr2, hx2⟩
  have HR2 := Lib.hid hr2; clear hr2
  go_wp2_with fail
  refine (inverse_ok A cap n c k _ (by omega) hcap hk1 hk2 (HB.out.ext (hx1.trans hx2)) HN.out).mono ?_
  rintro e w3 ⟨B3, c3, rfl, hr3, hx3⟩
  have HR3 := Lib.hid hr3; clear hr3
  go_wp2_with fail
  refine (forward_ok B3 c3 n _ k _ (by omega) hk1 hk2 HR3.out).mono ?_
  rintro e w4 ⟨B4, c4, rfl, hr4, hx4⟩
  rw [HN.out] at hr4 ⊢
  have HR4 := Lib.hid hr4; clear hr4
  have hs2 := conv_bytes (HR2.out.ext (hx3.trans hx4)) c2
  have hs4 := conv_bytes HR4.out c4
  have hsA := conv_bytes (HB.out.ext (((hx1.trans hx2).trans hx3).trans hx4)) cap
  rw [ret_eq c n k hk1] at hs2
  rw [ret_eq2 c n k hk1] at hs4
  have HSA : Hid (∃ S, S = strF c n) := ⟨_, rfl⟩
  generalize hSS : strF c n = S at *
  have HSS := Lib.hid hSS; clear hSS
  go_wp2_with (refine wpList_run rfl (alloc41' _ _ _ _ _ _ _) ?_)
  have hrow0 := zeros_row w4
  have hx40 : Ext w4 (w4.alloc (.cells zeros 41)) := (Below.refl _ _).alloc (Nat.le_refl _) _
  have HX : Hid (∀ v, cntTo c (fun j => c (ordAt n k j)) n v = 0) := fun v => cntTo_end c n k v hk1
  have HXB : Hid (∀ j, j < n → ordAt n k j < n) := fun j hj => ordAt_lt' n k j hk1 hj
  have HR1' := Lib.hid (HR1.out.ext ((hx2.trans hx3).trans hx4))
  have HB' := Lib.hid (HB.out.ext (((hx1.trans hx2).trans hx3).trans hx4))
  have HXC : Hid (∀ i, 0 ≤ c (ordAt n k i) ∧ c (ordAt n k i) < 256) := fun i => HCB.out _
  have HE3 : Hid (k = 1 ∨ n ≤ k → strF (fun j => c (ordAt n k j)) n = S) := fun h => by rw [← HSS.out]; exact ret_eq3 c n k hk1 h
  generalize hX : (fun j => c (ordAt n k j)) = x at *
  have HXC' : Hid (∀ i, 0 ≤ x i ∧ x i < 256) := by rw [← hX]; exact HXC.out
  clear hX HXC hs2 hs4
  go_loopg [15] n (fun f i wr => ∃ (i' : Nat), i = .int .i64 i' ∧ i' ≤ n ∧ n ≤ i' + f ∧ wr.rowIs w4.heap.size 41 256 (fun v => .int .i64 (cntTo c x i' v)) ∧ Ext w4 wr)
  case atStart => exact ⟨0, rfl, by omega, by omega, hrow0, hx40⟩
  case round =>
    clear hrow0 hx40 hsA
    obtain ⟨i', rfl, h1, h2, hrow, hx⟩ := hrel
    by_cases hlt : i' < n
    · rcases HB'.out.ext hx with h0 | ⟨b, off, rfl, hcc⟩
      · omega
      have hca := hcc i' hlt
      have hbl := World.block_lt_of_cell? _ _ hca
      rcases HR1'.out.ext hx with h0 | ⟨b2, off2, rfl, hcc2⟩
      · omega
      have hcx := hcc2 i' hlt
      have hne1 : b2 ≠ w4.heap.size := by
        rcases HR1'.out with h0 | ⟨b3, off3, h3, h4⟩
        · omega
        · have := World.block_lt_of_cell? _ _ (h4 i' hlt)
          cases h3
          simp at this
          omega
      clear hcc hcc2
      have hc0 := (HCB.out i').1
      have hc1 := (HCB.out i').2
      have hx0 := (HXC'.out i').1
      have hx1' := (HXC'.out i').2
      obtain ⟨v1, hv1⟩ : ∃ v1 : Nat, c i' = (v1 : Int) := ⟨(c i').toNat, by omega⟩
      obtain ⟨v2, hv2⟩ : ∃ v2 : Nat, x i' = (v2 : Int) := ⟨(x i').toNat, by omega⟩
      rw [hv1] at hca hc0 hc1
      rw [hv2] at hcx hx0 hx1'
      have hcell := hrow.cell (i := v1) (by omega)
      have hfr := hrow.frozen v1
      have hbd1 := cntTo_bd c x v1 i'
      have hbd2 := cntTo_bd c x v2 i'
      have HV1 := Lib.hid hv1; have HV2 := Lib.hid hv2; clear hv1 hv2
      go_upto_region 15 with (fail)
      have hrow1 := (hrow.set v1 (.int .i64 (cntTo c x i' v1 + 1))).congr (g := fun j => .int .i64 (cntTo c x i' j + if j = v1 then 1 else 0)) fun j _ => by
        by_cases hj : j = v1
        · subst hj; simp
        · simp [hj]
      have hx1 : Ext w4 (wr.setCell ⟨w4.heap.size, v1, none⟩ (.int .i64 (cntTo c x i' v1 + 1))) := hx.setCell (p := ⟨w4.heap.size, v1, none⟩) (Nat.le_refl _) _
      have hcx1 : (wr.setCell ⟨w4.heap.size, v1, none⟩ (.int .i64 (cntTo c x i' v1 + 1))).cell? ⟨b2, off2 + i', none⟩ = some (.int .u8 (v2 : Int)) :=
        (World.cell?_setCell_far _ _ _ _ (by simpa using Ne.symm hne1)).trans hcx
      clear hrow hx hca hcx hcell hfr
      generalize hW : wr.setCell ⟨w4.heap.size, v1, none⟩ (.int .i64 (cntTo c x i' v1 + 1)) = wr1 at *
      clear hW
      have hcell := hrow1.cell (i := v2) (by omega)
      have hfr := hrow1.frozen v2
      have hbd3 : -(i' : Int) ≤ cntTo c x i' v2 + (if v2 = v1 then 1 else 0) ∧ cntTo c x i' v2 + (if v2 = v1 then 1 else 0) ≤ i' + 1 := by split <;> omega
      generalize hY : cntTo c x i' v2 + (if v2 = v1 then 1 else 0) = y at *
      have HY := Lib.hid hY; clear hY hbd2
      go_wp2_with fail
      go_roundg (gk - 1)
      case measure => omega
      case rel =>
        refine ⟨i' + 1, by go_num, by omega, by omega, ?_, hx1.setCell (p := ⟨w4.heap.size, v2, none⟩) (Nat.le_refl _) _⟩
        refine (hrow1.set v2 (.int .i64 (y - 1))).congr fun j _ => ?_
        show (if j = v2 then Value.int .i64 (y - 1) else _) = Value.int .i64 (cntTo c x (i' + 1) j)
        have e1 : ((j : Int) = c i') ↔ j = v1 := by rw [HV1.out]; omega
        have e2 : ((j : Int) = x i') ↔ j = v2 := by rw [HV2.out]; omega
        rw [cntTo]
        simp only [e1, e2]
        rw [← HY.out]
        by_cases hj : j = v2
        · subst hj; simp
        · simp [hj]
    · obtain rfl : i' = n := by omega
      have hz := zeros_of (hrow.congr (g := fun _ => .int .i64 0) fun j hj => by rw [HX.out])
      have HZ := Lib.hid hz; clear hz hrow
      go_upto_region 16 with (fail)
      go_step
      refine wpList_load_row rfl 41 (.tmp 14) rfl w4.heap.size rfl 41 zeros (0, 0) (.array 256 3) HZ.out Try.underlying41 rfl size41 ?_
      simp only [Act.put, List.setIfInBounds_toArray, List.set_cons_zero, List.set_cons_succ]
      refine wpList_run rfl (build41' _ _ _ _ _ _ _) ?_
      simp only [Act.put, List.setIfInBounds_toArray, List.set_cons_zero, List.set_cons_succ]
      refine wpList_run rfl (neq41' _ _ _ _ _ _ _ _ _ rfl rfl) ?_
      simp only [Act.put, List.setIfInBounds_toArray, List.set_cons_zero, List.set_cons_succ]
      go_wp2_with fail
      refine (awake_any _).mono ?_
      rintro e w5 ⟨rfl, hx5⟩
      have hc1 := Lib.hid (conv_bytes (HR1'.out.ext (hx.trans hx5)) c1)
      have hc2 := Lib.hid (conv_bytes (HB'.out.ext (hx.trans hx5)) cap)
      rw [HSS.out] at hc2
      by_cases hp : 1 < k ∧ k < i'
      · obtain ⟨hp1, hp2⟩ := hp
        go_wp2_with fail
        go_ret
        exact ⟨rfl, (((((hx1.trans hx2).trans hx3).trans hx4).trans hx).trans hx5)⟩
      · have hp1 : k ≤ 1 ∨ i' ≤ k := by omega
        rw [HE3.out (by omega)] at hc1
        have hc1' := hc1.out
        have hc2' := hc2.out
        clear hc1 hc2
        rcases hp1 with hp1 | hp1
        · go_wp2_with fail
          go_ret
          exact ⟨rfl, (((((hx1.trans hx2).trans hx3).trans hx4).trans hx).trans hx5)⟩
        · by_cases hp2 : k ≤ 1
          · go_wp2_with fail
            go_ret
            exact ⟨rfl, (((((hx1.trans hx2).trans hx3).trans hx4).trans hx).trans hx5)⟩
          · go_wp2_with fail
            go_ret
            exact ⟨rfl, (((((hx1.trans hx2).trans hx3).trans hx4).trans hx).trans hx5)⟩

end Go.Proofs.Ytmlmnmafbpjnbaa

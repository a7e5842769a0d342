/- What holds within a round that fills two boxed rows. -/
import Derived.Test.YtcjokhhcncimdaaDoorS2
import Derived.Test.YtcjokhhcncimdaaDoorS3
import Derived.OwnWalkIn
set_option linter.unusedVariables false
namespace Go.Proofs.YtcjokhhcncimdaaDoor
open Go.RowKit Go.PF Go.Tr

theorem wpListIn_append1 {F : Fence} {n' : Nat} {P : Program} {w : World} {ops : Array Oper} {rest : List Oper} {o : Oper} {a : Act} {Q : Exit → Act → World → Prop} (hgd : o.guard = none) (s x : Operand) (t : TypeId)
    (ho : o.op = .call { callee := .builtin .append, args := #[s, x], argTypes := #[t, t] })
    (base : Nat) (e : TypeId) (i : TypeInfo) (z : Value) (size bytes : Nat) (ht : P.underlying t = some (.slice e)) (hi : P.info? e = some i) (hz : i.zero = some z)
    (hsize : i.size = size) (hby : i.bytes = bytes) (hzs : z.cells.size = size) (hsz : 0 < size) (hb : bytes ≤ 1024)
    (v : Value) (n : Nat) (xs : List Value) (hs : a.eval s = v) (hown : w.ownsRow base e size v n xs) (us : List Value) (hus : us.length = size) (hx : a.eval x = .slice (some ⟨w.heap.size, 0, none⟩) 1 1) (h1 : ∀ u ∈ us, u.oneCell' = true)
    (hn : n ≤ 68719476736) (hbase : base ≤ w.heap.size)
    (h : ∀ v' w', w'.ownsRow base e size v' (n + 1) (xs ++ us) → Below base w w' → (w.alloc (.cells us.toArray e)).grownBy w' v.ownBlock → wpListIn F n' P ops Q rest (a.put o.dst v') w') :
    wpListIn F n' P ops Q (o :: rest) a (w.alloc (.cells us.toArray e)) := by
  refine wpListIn_plain hgd fun K hK' => ?_
  obtain ⟨v', w', hrun, h2, h3, _, h5⟩ := run_append1 (P := P) (w := w) base t o.type e i z size bytes ht hi hz hsize hby hzs hsz hb v n xs hown us hus h1 hn hbase
  unfold Oper.wpIn
  refine ⟨?_, ?_⟩
  · simp [Oper.about, ho, resolve, Target.leads, Sem.run_pure]
  · rw [Oper.semAt_plain F _ _ (by rw [ho]; intro c hc'; cases hc')]
    simp only [execOp, ho, resolve, invoke, builtin, Sem.run_bind, Sem.run_pure, Result.andThen_ok, List.map_toArray, List.map_cons, List.map_nil, hs, hx, hrun]
    exact hK' _ _ (h v' w' h2 h3 h5)

/-- The cells of some files, their fragments in rows of their own. -/
def OutOk (n0 : Nat) (w : World) (xs : List Value) (fs : List FileV) : Prop := xs.length = fs.length * 3 ∧ ∀ k f, fs[k]? = some f → ∃ F c, xs[k * 3]? = some (.string f.path) ∧ xs[k * 3 + 1]? = some (.int .i64 f.len) ∧ xs[k * 3 + 2]? = some (.slice F f.frags.length c) ∧ FrOwn n0 w F c f.frags
theorem OutOk.keep3 {n0 : Nat} {w w' : World} {xs : List Value} {fs : List FileV} (h : OutOk n0 w xs fs) (hk : Keep3 w w') : OutOk n0 w' xs fs :=
  ⟨h.1, fun k f hf => by obtain ⟨F, c, h1, h2, h3, h4⟩ := h.2 k f hf; exact ⟨F, c, h1, h2, h3, h4.keep3 hk⟩⟩
theorem OutOk.nil (n0 : Nat) (w : World) : OutOk n0 w [] [] := ⟨rfl, fun k f hf => (by simp at hf)⟩
theorem OutOk.snoc {n0 : Nat} {w : World} {xs : List Value} {fs : List FileV} (h : OutOk n0 w xs fs) {F : Option Addr} {c : Nat} {f : FileV} (ho : FrOwn n0 w F c f.frags) :
    OutOk n0 w (xs ++ [.string f.path, .int .i64 f.len, .slice F f.frags.length c]) (fs ++ [f]) := by
  obtain ⟨h1, h2⟩ := h
  refine ⟨by simp [h1]; omega, fun k g hk => ?_⟩
  rcases Nat.lt_or_ge k fs.length with hlt | hge
  · rw [List.getElem?_append_left hlt] at hk
    obtain ⟨F', c', h3, h4, h5, h6⟩ := h2 k g hk
    exact ⟨F', c', by rw [List.getElem?_append_left (by omega)]; exact h3, by rw [List.getElem?_append_left (by omega)]; exact h4, by rw [List.getElem?_append_left (by omega)]; exact h5, h6⟩
  · rw [List.getElem?_append_right hge] at hk
    have hk0 : k = fs.length := by
      rcases Nat.eq_zero_or_pos (k - fs.length) with h | h
      · omega
      · rw [List.getElem?_eq_none (by simp; omega)] at hk; cases hk
    subst hk0
    simp at hk
    subst hk
    exact ⟨F, c, by rw [List.getElem?_append_right (by omega), h1, Nat.sub_self]; rfl, by rw [List.getElem?_append_right (by omega), h1, Nat.add_sub_cancel_left]; rfl, by rw [List.getElem?_append_right (by omega), h1, Nat.add_sub_cancel_left]; rfl, ho⟩

/-- W0: where the round began; the files and the conflicts so far. -/
structure Mid (N0 Bo Bd : Nat) (W0 : World) (fs : List FileV) (ps : List ByteArray) (W : World) : Prop where
  big : N0 ≤ W.heap.size
  kb : KeepBut N0 [Bo, Bd] W0 W
  ko : KeepsOthers W0 W
  out : ∃ vo xs, Boxed W Bo 22 vo ∧ W.ownsRow N0 46 3 vo fs.length xs ∧ OutOk N0 W xs fs
  conf : ∃ vd, Boxed W Bd 25 vd ∧ W.ownsRow N0 9 1 vd ps.length (ps.map Value.string)

theorem others_ext {w w' : World} (h : Ext w w') : KeepsOthers w w' := ⟨h.size, fun k o hk _ => h.blk hk⟩

variable {N0 Bo Bd : Nat} {W0 W W' : World} {fs : List FileV} {ps : List ByteArray}
theorem Mid.ext (h : Mid N0 Bo Bd W0 fs ps W) (hx : Ext W W') : Mid N0 Bo Bd W0 fs ps W' := by
  obtain ⟨hb, h1, h2, ⟨vo, xs, h3, h4, h5⟩, ⟨vd, h6, h7⟩⟩ := h
  exact ⟨by have := hx.size; omega, h1.trans (KeepBut.of_below (hx.mono hb)), h2.trans (others_ext hx), ⟨vo, xs, (KeepT.of_ext hx).boxed h3, (KeepT.of_ext hx).own h4, h5.keep3 (Keep3.of_ext hx)⟩, ⟨vd, (KeepT.of_ext hx).boxed h6, (KeepT.of_ext hx).own h7⟩⟩
theorem Mid.set {g : Nat} {cs : Array Value} {t : TypeId} {x : Nat × Nat} (h : Mid N0 Bo Bd W0 fs ps W) (hg : W.heap[g]? = some (.cells cs t x)) (hn : N0 ≤ g) (ht : t = 74 ∨ t = 67) (j : Nat) (v : Value) : Mid N0 Bo Bd W0 fs ps (W.setCell ⟨g, j, none⟩ v) := by
  obtain ⟨hb, h1, h2, ⟨vo, xs, h3, h4, h5⟩, ⟨vd, h6, h7⟩⟩ := h
  have k22 : KeepT 22 W (W.setCell ⟨g, j, none⟩ v) := KeepT.set hg (by rcases ht with rfl | rfl <;> decide) j v
  have k25 : KeepT 25 W (W.setCell ⟨g, j, none⟩ v) := KeepT.set hg (by rcases ht with rfl | rfl <;> decide) j v
  have k46 : KeepT 46 W (W.setCell ⟨g, j, none⟩ v) := KeepT.set hg (by rcases ht with rfl | rfl <;> decide) j v
  have k9 : KeepT 9 W (W.setCell ⟨g, j, none⟩ v) := KeepT.set hg (by rcases ht with rfl | rfl <;> decide) j v
  have k3 : KeepT 3 W (W.setCell ⟨g, j, none⟩ v) := KeepT.set hg (by rcases ht with rfl | rfl <;> decide) j v
  exact ⟨by rw [show (W.setCell ⟨g, j, none⟩ v).heap.size = W.heap.size by simp [World.setCell]]; exact hb, h1.setCell (p := ⟨g, j, none⟩) (.inr hn) v, h2.trans (KeepsOthers.setCell _ _ _), ⟨vo, xs, k22.boxed h3, k46.own h4, h5.keep3 k3⟩, ⟨vd, k25.boxed h6, k9.own h7⟩⟩

/-- A conflict is laid behind the others. -/
theorem Mid.addConf {w1 : World} {vd v' : Value} {p : ByteArray} (h : Mid N0 Bo Bd W0 fs ps W) (hBd : Bd < N0) (hne : Bo ≠ Bd) (hv : Boxed W Bd 25 vd) (hrow : W.ownsRow N0 9 1 vd ps.length (ps.map Value.string))
    (hown : w1.ownsRow N0 9 1 v' (ps.length + 1) (ps.map Value.string ++ [.string p])) (hbel : Below N0 W w1) (hg : (W.alloc (.cells [Value.string p].toArray 9)).grownBy w1 vd.ownBlock) :
    Mid N0 Bo Bd W0 fs (ps ++ [p]) (w1.setCell ⟨Bd, 0, none⟩ v') := by
  obtain ⟨hb, h1, h2, ⟨vo, xs, h3, h4, h5⟩, -⟩ := h
  have hx := ext_alloc1 W (.cells [Value.string p].toArray 9)
  have hrow' := (KeepT.of_ext hx).own hrow
  have ka : ∀ e : TypeId, 9 ≠ e → KeepT e W w1 := fun e he => (KeepT.of_ext hx).trans (KeepT.append hrow' hg he)
  have hA := Boxed.appended hv (by decide : (25 : TypeId) ≠ 9) (own_base hrow (Nat.le_of_lt hBd)) (by omega) (Nat.le_refl _) (own_base hown (Nat.le_of_lt hBd)) hg
  have hsz : (w1.setCell ⟨Bd, 0, none⟩ v').heap.size = w1.heap.size := by simp [World.setCell]
  have hbx : w1.heap[Bd]? = some (.cells #[vd] 25 (0, 0)) := hA.1
  refine ⟨by have := hbel.size; omega, (h1.trans (KeepBut.of_below hbel)).setCell (p := ⟨Bd, 0, none⟩) (.inl (by simp)) v', h2.trans hA.2.2.2.1, ⟨vo, xs, ?_, ?_, ?_⟩, ⟨v', hA.2.1, ?_⟩⟩
  · exact ((ka 22 (by decide)).boxed h3).other hne v'
  · exact (KeepT.set hbx (by decide) 0 v').own ((ka 46 (by decide)).own h4)
  · exact (h5.keep3 (ka 3 (by decide))).keep3 (KeepT.set (e := 3) hbx (by decide) 0 v')
  · rw [List.length_append, List.map_append]
    exact (KeepT.set hbx (by decide) 0 v').own hown

/-- A file is laid behind the others. -/
theorem Mid.addOut {w1 : World} {vo v' : Value} {xs : List Value} {f : FileV} {F : Option Addr} {c : Nat} (h : Mid N0 Bo Bd W0 fs ps W) (hBo : Bo < N0) (hne : Bo ≠ Bd) (hv : Boxed W Bo 22 vo) (hrow : W.ownsRow N0 46 3 vo fs.length xs) (hok : OutOk N0 W xs fs)
    (hF : FrOwn N0 W F c f.frags)
    (hown : w1.ownsRow N0 46 3 v' (fs.length + 1) (xs ++ [.string f.path, .int .i64 f.len, .slice F f.frags.length c])) (hbel : Below N0 W w1) (hg : (W.alloc (.cells [.string f.path, .int .i64 f.len, .slice F f.frags.length c].toArray 46)).grownBy w1 vo.ownBlock) :
    Mid N0 Bo Bd W0 (fs ++ [f]) ps (w1.setCell ⟨Bo, 0, none⟩ v') := by
  obtain ⟨hb, h1, h2, -, ⟨vd, h6, h7⟩⟩ := h
  have hx := ext_alloc1 W (.cells [.string f.path, .int .i64 f.len, .slice F f.frags.length c].toArray 46)
  have hrow' := (KeepT.of_ext hx).own hrow
  have ka : ∀ e : TypeId, 46 ≠ e → KeepT e W w1 := fun e he => (KeepT.of_ext hx).trans (KeepT.append hrow' hg he)
  have hA := Boxed.appended hv (by decide : (22 : TypeId) ≠ 46) (own_base hrow (Nat.le_of_lt hBo)) (by omega) (Nat.le_refl _) (own_base hown (Nat.le_of_lt hBo)) hg
  have hsz : (w1.setCell ⟨Bo, 0, none⟩ v').heap.size = w1.heap.size := by simp [World.setCell]
  have hbx : w1.heap[Bo]? = some (.cells #[vo] 22 (0, 0)) := hA.1
  have k3 : KeepT 3 W (w1.setCell ⟨Bo, 0, none⟩ v') := (ka 3 (by decide)).trans (KeepT.set hbx (by decide) 0 v')
  refine ⟨by have := hbel.size; omega, (h1.trans (KeepBut.of_below hbel)).setCell (p := ⟨Bo, 0, none⟩) (.inl (by simp)) v', h2.trans hA.2.2.2.1, ⟨v', _, hA.2.1, ?_, (hok.snoc hF).keep3 k3⟩, ⟨vd, ?_, ?_⟩⟩
  · rw [List.length_append]
    exact (KeepT.set hbx (by decide) 0 v').own hown
  · exact ((ka 25 (by decide)).boxed h6).other (Ne.symm hne) v'
  · exact (KeepT.set hbx (by decide) 0 v').own ((ka 9 (by decide)).own h7)
end Go.Proofs.YtcjokhhcncimdaaDoor

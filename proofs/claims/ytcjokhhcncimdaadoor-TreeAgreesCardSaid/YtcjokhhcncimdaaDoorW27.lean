/- How a change and a list of changes read in memory; the walks of fits. -/
import Derived.Test.YtcjokhhcncimdaaDoorW24
import Derived.Test.YtcjokhhcncimdaaDoorLaw5
set_option linter.unusedVariables false
set_option linter.unusedSimpArgs false
namespace Go.Proofs.YtcjokhhcncimdaaDoor
open Go.RowKit Go.PF Go.Tr

/-- A change's eight cells. -/
def chCells (c : ChangeV) (F G : Option Addr) (j k : Nat) : List Value := [.int .i64 c.kind, .string c.path, .string c.old.path, .int .i64 c.old.len, .slice F c.old.frags.length j, .string c.new.path, .int .i64 c.new.len, .slice G c.new.frags.length k]
/-- A change by value. -/
def ChIs (w : World) (v : Value) (c : ChangeV) : Prop := ∃ F j G k, v = .agg #[.int .i64 c.kind, .string c.path, .string c.old.path, .int .i64 c.old.len, .slice F c.old.frags.length j, .string c.new.path, .int .i64 c.new.len, .slice G c.new.frags.length k] ∧ Fr w F j c.old.frags ∧ Fr w G k c.new.frags
theorem ChIs.ext {w w' : World} {v : Value} {c : ChangeV} (h : ChIs w v c) (he : Ext w w') : ChIs w' v c := by
  obtain ⟨F, j, G, k, h1, h2, h3⟩ := h
  exact ⟨F, j, G, k, h1, h2.ext he, h3.ext he⟩
/-- A list of changes in memory. -/
def RdC (w : World) (A : Option Addr) (cs : List ChangeV) : Prop :=
  cs = [] ∨ ∃ b off, A = some ⟨b, off, none⟩ ∧ ∀ k c, cs[k]? = some c → ∃ F j G m, (∀ r u, (chCells c F G j m)[r]? = some u → w.cell? ⟨b, off + k * 8 + r, none⟩ = some u) ∧ Fr w F j c.old.frags ∧ Fr w G m c.new.frags
theorem RdC.ext {w w' : World} {A : Option Addr} {cs : List ChangeV} (h : RdC w A cs) (he : Ext w w') : RdC w' A cs := by
  rcases h with h | ⟨b, off, hA, h⟩
  · exact .inl h
  · refine .inr ⟨b, off, hA, fun k c hk => ?_⟩
    obtain ⟨F, j, G, m, h1, h2, h3⟩ := h k c hk
    exact ⟨F, j, G, m, fun r u hr => he.cell (h1 r u hr), h2.ext he, h3.ext he⟩
theorem RdC.at_ {w : World} {A : Option Addr} {cs : List ChangeV} (h : RdC w A cs) {k : Nat} {c : ChangeV} (hk : cs[k]? = some c) :
    ∃ b off F j G m, A = some ⟨b, off, none⟩ ∧ (∀ r u, (chCells c F G j m)[r]? = some u → w.cell? ⟨b, off + k * 8 + r, none⟩ = some u) ∧ Fr w F j c.old.frags ∧ Fr w G m c.new.frags := by
  rcases h with rfl | ⟨b, off, hA, h⟩
  · simp at hk
  · obtain ⟨F, j, G, m, h⟩ := h k c hk
    exact ⟨b, off, F, j, G, m, hA, h⟩

theorem blk8 {w : World} {b : Nat} {a0 a1 a2 a3 a4 a5 a6 a7 : Value} {t : TypeId} (h : w.heap[b]? = some (.cells #[a0, a1, a2, a3, a4, a5, a6, a7] t (0, 0))) :
    w.cell? ⟨b, 0, none⟩ = some a0 ∧ w.cell? ⟨b, 1, none⟩ = some a1 ∧ w.cell? ⟨b, 2, none⟩ = some a2 ∧ w.cell? ⟨b, 3, none⟩ = some a3 ∧ w.cell? ⟨b, 4, none⟩ = some a4 ∧ w.cell? ⟨b, 5, none⟩ = some a5 ∧ w.cell? ⟨b, 6, none⟩ = some a6 ∧ w.cell? ⟨b, 7, none⟩ = some a7 := by
  refine ⟨?_, ?_, ?_, ?_, ?_, ?_, ?_, ?_⟩ <;> (rw [cell_blk h]; rfl)

theorem noFile_is (w : World) : FileIs w (.agg #[.string { data := #[] }, .int .i64 0, .slice none 0 0]) noFile := ⟨none, 0, rfl, ⟨by simp [noFile], by simp, .inl rfl⟩⟩

/-- Is a file none? -/
theorem none_any (v : Value) (f : FileV) (w : World) (h : FileIs w v f) :
    Calls Tryd.prog 88 #[v] w fun e w' => e = .returned (.bool (decide (f = noFile))) ∧ Ext w w' := by
  obtain ⟨F, c, rfl, hF⟩ := h
  have hx := ext_alloc1 w (.cells #[.string f.path, .int .i64 f.len, .slice F f.frags.length c] 46)
  go_enter Tryd.func88, Tryd.ntmps88
  go_wp2_with fail
  refine (equal_any _ _ f noFile _ ⟨_, _, rfl, hF.ext hx⟩ (noFile_is _)).mono ?_
  rintro e w1 ⟨rfl, hx1⟩
  go_wp2_with fail
  go_ret
  exact ⟨rfl, hx.trans hx1⟩

theorem chfit0 {c : ChangeV} (h : c.kind = 0) : fitsB c = (decide (c.new.path = c.path) && decide (c.old = noFile)) := by unfold fitsB; rw [if_pos h]
theorem chfit1 {c : ChangeV} (h0 : ¬ c.kind = 0) (h : c.kind = 1) : fitsB c = (decide (c.old.path = c.path) && decide (c.new = noFile)) := by unfold fitsB; rw [if_neg h0, if_pos h]
theorem chfit2 {c : ChangeV} (h0 : ¬ c.kind = 0) (h1 : ¬ c.kind = 1) (h : c.kind = 2) : fitsB c = (decide (c.old.path = c.path) && decide (c.new.path = c.path)) := by unfold fitsB; rw [if_neg h0, if_neg h1, if_pos h]
theorem chfit3 {c : ChangeV} (h0 : ¬ c.kind = 0) (h1 : ¬ c.kind = 1) (h : ¬ c.kind = 2) : fitsB c = false := by unfold fitsB; rw [if_neg h0, if_neg h1, if_neg h]
theorem path_eq (p q : ByteArray) : (p.toList == q.toList) = decide (p = q) := by
  by_cases h : p = q
  · subst h; simp
  · rw [decide_eq_false h]; exact beq_eq_false_iff_ne.2 (fun e => h (ba_inj e))

set_option maxHeartbeats 1000000 in
theorem tfits_any (v : Value) (c : ChangeV) (w : World) (h : ChIs w v c) :
    Calls Tryd.prog 78 #[v] w fun e w' => e = .returned (.bool (fitsB c)) ∧ Ext w w' := by
  obtain ⟨F, j, G, k, rfl, hF, hG⟩ := h
  obtain ⟨kd, p, o, n⟩ := c
  dsimp only at hF hG ⊢
  have hx := ext_alloc1 w (.cells #[.int .i64 kd, .string p, .string o.path, .int .i64 o.len, .slice F o.frags.length j, .string n.path, .int .i64 n.len, .slice G n.frags.length k] 67)
  have hb := World.alloc_heap_new w (.cells #[.int .i64 kd, .string p, .string o.path, .int .i64 o.len, .slice F o.frags.length j, .string n.path, .int .i64 n.len, .slice G n.frags.length k] 67)
  have HF := Lib.hid (hF.ext hx)
  have HG := Lib.hid (hG.ext hx)
  clear hF hG
  by_cases h0 : kd = 0
  · have HK := Lib.hid (chfit0 (c := ⟨kd, p, o, n⟩) h0)
    subst h0
    by_cases hp : n.path = p
    · have q1 : (n.path.toList == p.toList) = true := by rw [hp]; simp
      have HP : Hid (decide (n.path = p) = true) := decide_eq_true hp
      clear hp
      go_enter Tryd.func78, Tryd.ntmps78
      go_wp2_with fail
      refine (none_any _ o _ ⟨_, _, rfl, HF.out⟩).mono ?_
      rintro e w1 ⟨rfl, hx1⟩
      go_wp2_with fail
      go_ret
      exact ⟨by rw [HK.out]; simp [HP.out], hx.trans hx1⟩
    · have q1 : (n.path.toList == p.toList) = false := beq_eq_false_iff_ne.2 (fun e => hp (ba_inj e))
      have HP : Hid (decide (n.path = p) = false) := decide_eq_false hp
      clear hp
      go_enter Tryd.func78, Tryd.ntmps78
      go_wp2_with fail
      go_ret
      exact ⟨by rw [HK.out]; simp [HP.out, q1], hx⟩
  · by_cases h1 : kd = 1
    · have HK := Lib.hid (chfit1 (c := ⟨kd, p, o, n⟩) h0 h1)
      subst h1
      clear h0
      by_cases hp : o.path = p
      · have q1 : (o.path.toList == p.toList) = true := by rw [hp]; simp
        have HP : Hid (decide (o.path = p) = true) := decide_eq_true hp
        clear hp
        go_enter Tryd.func78, Tryd.ntmps78
        go_wp2_with fail
        refine (none_any _ n _ ⟨_, _, rfl, HG.out⟩).mono ?_
        rintro e w1 ⟨rfl, hx1⟩
        go_wp2_with fail
        go_ret
        exact ⟨by rw [HK.out]; simp [HP.out], hx.trans hx1⟩
      · have q1 : (o.path.toList == p.toList) = false := beq_eq_false_iff_ne.2 (fun e => hp (ba_inj e))
        have HP : Hid (decide (o.path = p) = false) := decide_eq_false hp
        clear hp
        go_enter Tryd.func78, Tryd.ntmps78
        go_wp2_with fail
        go_ret
        exact ⟨by rw [HK.out]; simp [HP.out, q1], hx⟩
    · by_cases h2 : kd = 2
      · have HK := Lib.hid (chfit2 (c := ⟨kd, p, o, n⟩) h0 h1 h2)
        subst h2
        clear h0 h1
        by_cases hp : o.path = p
        · have q1 : (o.path.toList == p.toList) = true := by rw [hp]; simp
          have HP : Hid (decide (o.path = p) = true) := decide_eq_true hp
          have HQ := Lib.hid (path_eq n.path p)
          clear hp
          go_enter Tryd.func78, Tryd.ntmps78
          go_wp2_with fail
          go_ret
          exact ⟨by rw [HK.out]; simp [HP.out, HQ.out], hx⟩
        · have q1 : (o.path.toList == p.toList) = false := beq_eq_false_iff_ne.2 (fun e => hp (ba_inj e))
          have HP : Hid (decide (o.path = p) = false) := decide_eq_false hp
          clear hp
          go_enter Tryd.func78, Tryd.ntmps78
          go_wp2_with fail
          go_ret
          exact ⟨by rw [HK.out]; simp [HP.out, q1], hx⟩
      · have HK := Lib.hid (chfit3 (c := ⟨kd, p, o, n⟩) h0 h1 h2)
        have q0 : (kd == 0) = false := beq_eq_false_iff_ne.2 h0
        have q1 : (kd == 1) = false := beq_eq_false_iff_ne.2 h1
        have q2 : (kd == 2) = false := beq_eq_false_iff_ne.2 h2
        go_enter Tryd.func78, Tryd.ntmps78
        go_wp2_with fail
        go_ret
        exact ⟨by rw [HK.out]; rfl, hx⟩
end Go.Proofs.YtcjokhhcncimdaaDoor

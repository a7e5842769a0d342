/- A region of whatever order, walked by what holds of what was done so far. -/
import Derived.Test.YtcjokhhcncimdaaDoorMem
namespace Go.PF
open Go.RowKit
set_option linter.unusedVariables false

section
variable {P : Program} {md : Region.Mode} {ops : Array Oper} {Q : Exit → Act → World → Prop} {S : World → Prop}

/-- Each operation waits for earlier ones alone, and none is guarded. -/
def plainOps (md : Region.Mode) (ops : Array Oper) : Bool := (List.range ops.size).all fun i => ((ops[i]?).map fun o => o.guard == none && o.after.all fun e => !Region.binds md e || decide (e.on < i)).getD true

def setL (L : Nat → Bool) (i : Nat) : Nat → Bool := fun j => if j = i then true else L j
def listedF (listed : Array Bool) : Nat → Bool := fun j => listed.getD j false
theorem listedF_set {listed : Array Bool} {i : Nat} (hi : i < listed.size) : listedF (listed.setIfInBounds i true) = setL (listedF listed) i := by
  funext j
  unfold listedF setL
  simp only [Array.getD_eq_getD_getElem?, Array.getElem?_setIfInBounds]
  by_cases h : i = j
  · subst h; simp [hi]
  · rw [if_neg h, if_neg (fun e => h e.symm)]

def openN (listed : Array Bool) : Nat := (listed.toList.filter (fun b => !b)).length

theorem openN_set {listed : Array Bool} {i : Nat} (h : listed.getD i true = false) : openN (listed.setIfInBounds i true) < openN listed := by
  obtain ⟨l⟩ := listed
  have hi : i < l.length := by
    rcases Nat.lt_or_ge i l.length with h1 | h1
    · exact h1
    · simp [Array.getD_eq_getD_getElem?, List.getElem?_eq_none h1] at h
  have hx : l[i] = false := by simpa [Array.getD_eq_getD_getElem?, List.getElem?_eq_getElem hi] using h
  unfold openN
  simp only [List.setIfInBounds_toArray]
  clear h
  induction l generalizing i with
  | nil => simp at hi
  | cons b l ih =>
    cases i with
    | zero => simp at hx; subst hx; simp
    | succ i =>
      simp only [List.set_cons_succ, List.filter_cons]
      have := ih (i := i) (by simpa using hi) (by simpa using hx)
      split <;> simp_all

theorem ready_all (hp : plainOps md ops = true) {listed : Array Bool} (hsz : listed.size = ops.size) (hr : Region.ready md ops listed = []) : ∀ i, i < ops.size → listedF listed i = true := by
  intro i
  induction i using Nat.strongRecOn with
  | ind i ih =>
    intro hi
    cases hl : listedF listed i
    · exfalso
      have : i ∈ Region.ready md ops listed := by
        refine mem_ready.2 ⟨?_, ops[i], Array.getElem?_eq_getElem hi, fun e he hb => ?_⟩
        · unfold listedF at hl
          simp only [Array.getD_eq_getD_getElem?] at hl ⊢
          rw [Array.getElem?_eq_getElem (by omega)] at hl ⊢
          simpa using hl
        · have h1 := List.all_eq_true.1 hp i (List.mem_range.2 hi)
          rw [Array.getElem?_eq_getElem hi] at h1
          simp only [Option.map_some, Option.getD_some, Bool.and_eq_true, Array.all_eq_true'] at h1
          have h2 := h1.2 e he
          rw [hb] at h2
          have h3 : e.on < i := by simpa using h2
          exact ih e.on h3 (by omega)
      rw [hr] at this
      cases this
    · rfl

/-- J holds at the start, each operation that may come up keeps it, and it gives the end. -/
theorem wpAnyT_inv {late : List Nat} (J : (Nat → Bool) → Act → World → Prop) (hp : plainOps md ops = true) (hS : ∀ L a w, J L a w → S w)
    (hstep : ∀ L a w, J L a w → ∀ i oi, ops[i]? = some oi → L i = false → (∀ j, waitsFor md ops i j = true → L j = true) →
      ∀ K : Act → World → Prop, (∀ a' w', J (setL L i) a' w' → K a' w') → oi.wp P a w K Q)
    (hend : ∀ L a w, J L a w → (∀ i, i < ops.size → L i = true) → Q .normal a w) :
    ∀ (fuel : Nat) (listed : Array Bool) (a : Act) (w : World), listed.size = ops.size → openN listed ≤ fuel → J (listedF listed) a w → wpAnyT P md ops Q S late fuel listed a w
  | 0, listed, a, w, hsz, hf, hJ => by
    have hr : Region.ready md ops listed = [] := by
      rw [List.eq_nil_iff_forall_not_mem]
      intro i hi
      have := openN_set (mem_ready.1 hi).1
      omega
    exact ⟨hr, hend _ _ _ hJ (ready_all hp hsz hr)⟩
  | fuel + 1, listed, a, w, hsz, hf, hJ => by
    refine ⟨fun hr => hend _ _ _ hJ (ready_all hp hsz hr), fun i hi => ?_⟩
    obtain ⟨hl, oi, hoi, hall⟩ := mem_ready.1 hi
    have his : i < ops.size := (Array.getElem?_eq_some_iff.1 hoi).1
    have hg : oi.guard = none := by
      have h1 := List.all_eq_true.1 hp i (List.mem_range.2 his)
      rw [hoi] at h1
      simp only [Option.map_some, Option.getD_some, Bool.and_eq_true, beq_iff_eq] at h1
      exact h1.1
    have hLi : listedF listed i = false := by
      unfold listedF
      simp only [Array.getD_eq_getD_getElem?] at hl ⊢
      rw [Array.getElem?_eq_getElem (by omega)] at hl ⊢
      simpa using hl
    unfold wpOp
    simp only [hoi, Region.wanted, hg, if_true]
    refine .inl (hstep _ _ _ hJ i oi hoi hLi ?_ _ ?_)
    · intro j hj
      simp only [waitsFor, hoi, Option.map_some, Option.getD_some, Array.any_eq_true', Bool.and_eq_true, beq_iff_eq] at hj
      obtain ⟨e, he, hb, rfl⟩ := hj
      exact hall e he hb
    · intro a' w' hJ'
      refine ⟨fun _ => hS _ _ _ hJ', wpAnyT_inv J hp hS hstep hend fuel (listed.setIfInBounds i true) a' w' (by simp [hsz]) (by have := openN_set hl; omega) ?_⟩
      rw [listedF_set (by omega)]
      exact hJ'
end

/-- Every row of numbers stands. -/
def Keep3 (w w' : World) : Prop := ∀ (b : Nat) (cs : Array Value) (r : Nat × Nat), w.heap[b]? = some (.cells cs 3 r) → w'.heap[b]? = some (.cells cs 3 r)
theorem Keep3.refl (w : World) : Keep3 w w := fun _ _ _ h => h
theorem Keep3.trans {a b c : World} (h : Keep3 a b) (k : Keep3 b c) : Keep3 a c := fun g cs r hg => k g cs r (h g cs r hg)
theorem Keep3.of_ext {w w' : World} (h : Ext w w') : Keep3 w w' := fun _ _ _ hg => h.blk hg
theorem Keep3.set {w : World} {b : Nat} {cs : Array Value} {t : TypeId} {e : Nat × Nat} (hb : w.heap[b]? = some (.cells cs t e)) (ht : t ≠ 3) (j : Nat) (v : Value) : Keep3 w (w.setCell ⟨b, j, none⟩ v) := fun g cs' r hg => by
  refine (Below.heap_setCell _ _ _ _ ?_).trans hg
  rintro rfl
  rw [hb] at hg
  cases hg
  exact ht rfl
theorem Keep3.grown {w w' : World} {row : Option Nat} (h : w.grownBy w' row) (hr : ∀ k, row = some k → ∃ cs t e, w.heap[k]? = some (.cells cs t e) ∧ t ≠ 3) : Keep3 w w' := fun g cs r hg => by
  refine (h.block g (Array.getElem?_eq_some_iff.1 hg).1 ?_).trans hg
  intro e
  obtain ⟨cs', t, e', h1, h2⟩ := hr g e.symm
  rw [hg] at h1
  cases h1
  exact h2 rfl
end Go.PF

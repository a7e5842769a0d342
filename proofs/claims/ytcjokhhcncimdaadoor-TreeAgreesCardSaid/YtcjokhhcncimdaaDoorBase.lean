/- Plain facts on memory that reads as lists: used by every walk of this seat. -/
import Derived.WalkKit
import Derived.WalkSpells
import Derived.WalkLawsBesides
import Derived.BigQuiet
import Derived.Deep.QuietTactic
import Derived.Deep.LoopGhost
import Derived.Lib.Hide
import Derived.Maps.AppendAt
import Derived.Deep.AppendLies
import Derived.RegionTactic
import Derived.OwnWalk
namespace Go.PF
open Go.RowKit

/-- What was there is there: blocks, tape, streams. -/
abbrev Ext (w w' : World) : Prop := Below w.heap.size w w'
theorem Ext.refl (w : World) : Ext w w := Below.refl _ _
theorem Ext.trans {a b c : World} (h : Ext a b) (k : Ext b c) : Ext a c := Below.trans h (k.mono h.size)
theorem Ext.drewN {a w : World} (h : Ext a w) (n : Nat) : Ext a (w.drewN n) := ⟨h.os, h.tape, h.output, h.size, h.block⟩
theorem Ext.cell {w w' : World} (h : Ext w w') {p : Addr} {v : Value} (hp : w.cell? p = some v) : w'.cell? p = some v :=
  (Below.cell h (World.block_lt_of_cell? w p hp)).trans hp
theorem Ext.frozen {w w' : World} (h : Ext w w') {p : Addr} {v : Value} (hp : w.cell? p = some v) : w'.frozen? p = w.frozen? p :=
  Below.frozen h (World.block_lt_of_cell? w p hp)
theorem Ext.blk {w w' : World} (h : Ext w w') {g : Nat} {o : Obj} (hp : w.heap[g]? = some o) : w'.heap[g]? = some o :=
  (h.block g (Array.getElem?_eq_some_iff.1 hp).1).trans hp

/-- The cells xs lie from A on. -/
def Rd (w : World) (A : Option Addr) (xs : List Value) : Prop :=
  xs = [] ∨ ∃ b off, A = some ⟨b, off, none⟩ ∧ ∀ k (h : k < xs.length), w.cell? ⟨b, off + k, none⟩ = some xs[k]

theorem Rd.ext {w w' : World} {A : Option Addr} {xs : List Value} (h : Rd w A xs) (he : Ext w w') : Rd w' A xs := by
  rcases h with h | ⟨b, off, hA, h⟩
  · exact .inl h
  · exact .inr ⟨b, off, hA, fun k hk => he.cell (h k hk)⟩
theorem Rd.nil (w : World) (A : Option Addr) : Rd w A [] := .inl rfl
theorem Rd.at_ {w : World} {A : Option Addr} {xs : List Value} (h : Rd w A xs) {k : Nat} (hk : k < xs.length) :
    ∃ b off, A = some ⟨b, off, none⟩ ∧ ∀ k (h : k < xs.length), w.cell? ⟨b, off + k, none⟩ = some xs[k] := by
  rcases h with rfl | h
  · simp at hk
  · exact h

def u8 (x : UInt8) : Value := .int .u8 (x.toNat : Int)
def i64 (x : Int) : Value := .int .i64 x
/-- A byte slice in memory. -/
def RdB (w : World) (A : Option Addr) (l : List UInt8) : Prop := Rd w A (l.map u8)
def RdI (w : World) (A : Option Addr) (l : List Int) : Prop := Rd w A (l.map i64)
theorem RdB.ext {w w' : World} {A : Option Addr} {l : List UInt8} (h : RdB w A l) (he : Ext w w') : RdB w' A l := Rd.ext h he
theorem RdI.ext {w w' : World} {A : Option Addr} {l : List Int} (h : RdI w A l) (he : Ext w w') : RdI w' A l := Rd.ext h he
theorem RdB.at_ {w : World} {A : Option Addr} {l : List UInt8} (h : RdB w A l) (hk : 0 < l.length) :
    ∃ b off, A = some ⟨b, off, none⟩ ∧ ∀ k, k < l.length → w.cell? ⟨b, off + k, none⟩ = some (.int .u8 ((l[k]?.getD 0).toNat : Int)) := by
  obtain ⟨b, off, hA, h⟩ := Rd.at_ h (k := 0) (by simpa using hk)
  refine ⟨b, off, hA, fun k hk => ?_⟩
  have := h k (by simpa using hk)
  simpa [u8, List.getElem?_eq_getElem hk] using this
theorem RdI.at_ {w : World} {A : Option Addr} {l : List Int} (h : RdI w A l) (hk : 0 < l.length) :
    ∃ b off, A = some ⟨b, off, none⟩ ∧ ∀ k, k < l.length → w.cell? ⟨b, off + k, none⟩ = some (.int .i64 (l[k]?.getD 0)) := by
  obtain ⟨b, off, hA, h⟩ := Rd.at_ h (k := 0) (by simpa using hk)
  refine ⟨b, off, hA, fun k hk => ?_⟩
  have := h k (by simpa using hk)
  simpa [i64, List.getElem?_eq_getElem hk] using this

/-- What is owned reads. -/
theorem own_rd {w : World} {base : Nat} {e : TypeId} {size n : Nat} {v : Value} {xs : List Value} (h : w.ownsRow base e size v n xs) : ∃ A cap, v = .slice A n cap ∧ n ≤ cap ∧ cap ≤ maxLen ∧ Rd w A xs := by
  rcases h.2 with ⟨rfl, rfl⟩ | ⟨g, cap, cur, rfl, _, hh, hn, hc, hs, ht⟩
  · exact ⟨none, 0, rfl, Nat.le_refl _, Nat.zero_le _, .inl (List.eq_nil_of_length_eq_zero (by simpa using h.1))⟩
  · refine ⟨_, _, rfl, hn, hc, .inr ⟨g, 0, rfl, fun k hk => ?_⟩⟩
    have := World.ownsRow.cells h (g := g) (by simp [Value.ownBlock]) k xs[k] (List.getElem?_eq_getElem hk)
    simpa [Addr.add_lit] using this

theorem own_len {w : World} {base : Nat} {e : TypeId} {size n : Nat} {v : Value} {xs : List Value} (h : w.ownsRow base e size v n xs) : xs.length = n * size := h.1
theorem own_base {w : World} {base base' : Nat} {e : TypeId} {size n : Nat} {v : Value} {xs : List Value} (h : w.ownsRow base e size v n xs) (hb : base' ≤ base) : w.ownsRow base' e size v n xs := by
  refine ⟨h.1, ?_⟩
  rcases h.2 with h2 | ⟨g, cap, cur, hv, hg, r⟩
  · exact .inl h2
  · exact .inr ⟨g, cap, cur, hv, by omega, r⟩
theorem own_drewN {w : World} {base : Nat} {e : TypeId} {size n : Nat} {v : Value} {xs : List Value} (h : w.ownsRow base e size v n xs) (m : Nat) : (w.drewN m).ownsRow base e size v n xs := h

section
variable {P : Program} {w : World}
/-- append(s, x): x lies in the block that was just made. -/
theorem run_append1 (base : Nat) (t ty e : TypeId) (i : TypeInfo) (z : Value) (size bytes : Nat) (ht : P.underlying t = some (.slice e)) (hi : P.info? e = some i) (hz : i.zero = some z)
    (hsize : i.size = size) (hby : i.bytes = bytes) (hzs : z.cells.size = size) (hsz : 0 < size) (hb : bytes ≤ 1024)
    (v : Value) (n : Nat) (xs : List Value) (hown : w.ownsRow base e size v n xs) (us : List Value) (hus : us.length = size) (h1 : ∀ u ∈ us, u.oneCell' = true)
    (hn : n ≤ 68719476736) (hbase : base ≤ w.heap.size) :
    ∃ v' w', (Builtin.append_ #[t, t] ty #[v, .slice (some ⟨w.heap.size, 0, none⟩) 1 1]).run P (w.alloc (.cells us.toArray e)) = .ok v' w' ∧ w'.ownsRow base e size v' (n + 1) (xs ++ us) ∧ Below base w w' ∧
      (v'.ownBlock = v.ownBlock ∨ ∃ g, v'.ownBlock = some g ∧ w.heap.size ≤ g) ∧ (w.alloc (.cells us.toArray e)).grownBy w' v.ownBlock := by
  have hown' := hown.alloc (.cells us.toArray e)
  have hcells : ∀ j u, us[j]? = some u → (w.alloc (.cells us.toArray e)).cell? ((⟨w.heap.size, 0, none⟩ : Addr).add j) = some u := by
    intro j u hu
    have hadd : (⟨w.heap.size, 0, none⟩ : Addr).add j = ⟨w.heap.size, j, none⟩ := by unfold Addr.add; split <;> simp_all
    rw [hadd, cell_of_row _ _ _ us.toArray e (0, 0) (heap_alloc_new w _)]
    simpa using hu
  obtain ⟨v', w', hrun, h2, h3, _, h5⟩ := run_append_own_at (P := P) (w.alloc (.cells us.toArray e)) base t ty e i z size bytes ht hi hz hsize hby hzs hsz v n xs hown' ⟨w.heap.size, 0, none⟩ 1 1 us (by omega) hcells h1
    (by simp only [maxLen]; omega) (by
      have : (n + 1) * bytes ≤ 68719476737 * 1024 := Nat.mul_le_mul (by omega) hb
      omega) (by simp; omega)
  refine ⟨v', w', hrun, h2, ?_, ?_, h3⟩
  · refine ((Below.refl base w).alloc hbase _).grown h3 (by simp; omega) (fun k hk => (hown.lt k hk).1)
  · rcases h5 with h5 | h5
    · exact .inl h5
    · exact .inr ⟨_, h5, by simp⟩

theorem wp_append1 {o : Oper} {a : Act} {K : Act → World → Prop} {Q : Exit → Act → World → Prop} (s x : Operand) (t : TypeId)
    (ho : o.op = .call { callee := .builtin .append, args := #[s, x], argTypes := #[t, t] })
    (base : Nat) (e : TypeId) (i : TypeInfo) (z : Value) (size bytes : Nat) (ht : P.underlying t = some (.slice e)) (hi : P.info? e = some i) (hz : i.zero = some z)
    (hsize : i.size = size) (hby : i.bytes = bytes) (hzs : z.cells.size = size) (hsz : 0 < size) (hb : bytes ≤ 1024)
    (v : Value) (n : Nat) (xs : List Value) (hs : a.eval s = v) (hown : w.ownsRow base e size v n xs) (us : List Value) (hus : us.length = size) (hx : a.eval x = .slice (some ⟨w.heap.size, 0, none⟩) 1 1) (h1 : ∀ u ∈ us, u.oneCell' = true)
    (hn : n ≤ 68719476736) (hbase : base ≤ w.heap.size)
    (h : ∀ v' w', w'.ownsRow base e size v' (n + 1) (xs ++ us) → Below base w w' → (v'.ownBlock = v.ownBlock ∨ ∃ g, v'.ownBlock = some g ∧ w.heap.size ≤ g) → (w.alloc (.cells us.toArray e)).grownBy w' v.ownBlock → K (a.put o.dst v') w') : o.wp P a (w.alloc (.cells us.toArray e)) K Q := by
  obtain ⟨v', w', hrun, h2, h3, h4, h5⟩ := run_append1 (P := P) (w := w) base t o.type e i z size bytes ht hi hz hsize hby hzs hsz hb v n xs hown us hus h1 hn hbase
  unfold Oper.wp execOp
  simp only [ho, resolve, invoke, builtin, Sem.run_bind, Sem.run_pure, Result.andThen_ok, List.map_toArray, List.map_cons, List.map_nil, hs, hx, hrun]
  exact h v' w' h2 h3 h4 h5

theorem wpList_append1 {ops : Array Oper} {rest : List Oper} {o : Oper} {a : Act} {Q : Exit → Act → World → Prop} (hgd : o.guard = none) (s x : Operand) (t : TypeId)
    (ho : o.op = .call { callee := .builtin .append, args := #[s, x], argTypes := #[t, t] })
    (base : Nat) (e : TypeId) (i : TypeInfo) (z : Value) (size bytes : Nat) (ht : P.underlying t = some (.slice e)) (hi : P.info? e = some i) (hz : i.zero = some z)
    (hsize : i.size = size) (hby : i.bytes = bytes) (hzs : z.cells.size = size) (hsz : 0 < size) (hb : bytes ≤ 1024)
    (v : Value) (n : Nat) (xs : List Value) (hs : a.eval s = v) (hown : w.ownsRow base e size v n xs) (us : List Value) (hus : us.length = size) (hx : a.eval x = .slice (some ⟨w.heap.size, 0, none⟩) 1 1) (h1 : ∀ u ∈ us, u.oneCell' = true)
    (hn : n ≤ 68719476736) (hbase : base ≤ w.heap.size)
    (h : ∀ v' w', w'.ownsRow base e size v' (n + 1) (xs ++ us) → Below base w w' → (v'.ownBlock = v.ownBlock ∨ ∃ g, v'.ownBlock = some g ∧ w.heap.size ≤ g) → (w.alloc (.cells us.toArray e)).grownBy w' v.ownBlock → wpList P ops Q rest (a.put o.dst v') w') :
    wpList P ops Q (o :: rest) a (w.alloc (.cells us.toArray e)) :=
  wpList_plain hgd fun _ hK => wp_append1 s x t ho base e i z size bytes ht hi hz hsize hby hzs hsz hb v n xs hs hown us hus hx h1 hn hbase fun v' w' h2 h3 h4 h5 => hK _ _ (h v' w' h2 h3 h4 h5)
end

theorem quiet_left {P : Program} {f : FuncId} {args : Array Value} {w : World} {n : Nat} {v : Value}
    (h : Calls P f args (w.drewN n) fun e w' => e = .returned v ∧ w.drewN n = w') : Calls P f args (w.drewN n) fun e w'' => e = .returned v ∧ ∃ m, w'' = w.drewN m :=
  h.mono fun _ _ ⟨he, hm⟩ => ⟨he, n, hm.symm⟩

theorem ret_int {k : IntKind} {a b : Int} (h : a = b) : Ending.returned (.int k a) = .returned (.int k b) := by rw [h]

end Go.PF

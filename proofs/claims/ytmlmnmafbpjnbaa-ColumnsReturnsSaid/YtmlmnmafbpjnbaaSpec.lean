/- The plain functions of layer 39: what the walks show the Go text to compute. -/
namespace Go.Col

def limitsF (n k : Int) : Int := if n > 65536 then 5 else if k < 1 ∨ k > 64 then 2 else 0

/-- how many of the first i places repeat the one k before -/
def scoreTo (c : Nat → Int) (k : Nat) : Nat → Nat
  | 0 => 0
  | i + 1 => scoreTo c k i + if k ≤ i ∧ c i = c (i - k) then 1 else 0

theorem scoreTo_zero (c : Nat → Int) (k : Nat) : ∀ i, i ≤ k → scoreTo c k i = 0
  | 0, _ => rfl
  | i + 1, h => by
    unfold scoreTo
    rw [scoreTo_zero c k i (by omega), if_neg (by omega)]
theorem scoreTo_yes (c : Nat → Int) (k i : Nat) (h : k ≤ i) (e : c i = c (i - k)) : scoreTo c k (i + 1) = scoreTo c k i + 1 := by
  show _ + _ = _; rw [if_pos ⟨h, e⟩]
theorem scoreTo_no (c : Nat → Int) (k i : Nat) (e : c i ≠ c (i - k)) : scoreTo c k (i + 1) = scoreTo c k i := by
  show _ + _ = _; rw [if_neg (fun h => e h.2)]; rfl
theorem scoreTo_le (c : Nat → Int) (k : Nat) : ∀ i, scoreTo c k i ≤ i
  | 0 => Nat.le_refl _
  | i + 1 => by
    have := scoreTo_le c k i
    unfold scoreTo; split <;> omega

/-- the first width among 1, 2, .., i + 1 with the greatest score -/
def guessTo (s : Nat → Nat) : Nat → Nat
  | 0 => 1
  | i + 1 => if s (guessTo s i) < s (i + 2) then i + 2 else guessTo s i

/-- i, i + w, .. below n -/
def colFrom (n w : Nat) : Nat → Nat → List Nat
  | 0, _ => []
  | f + 1, i => if i < n then i :: colFrom n w f (i + w) else []
def ordFrom (n w : Nat) : Nat → Nat → List Nat
  | 0, _ => []
  | f + 1, c => colFrom n w n c ++ ordFrom n w f (c + 1)
/-- the places in column order -/
def ord (n w : Nat) : List Nat := ordFrom n w w 0

def placeF (n w a : Nat) : Nat := a % w * (n / w) + min (a % w) (n % w) + a / w
/-- the last of the first i places at which l bears a; 0 if there is none -/
def placeTo (c : Nat → Nat) (a : Nat) : Nat → Nat
  | 0 => 0
  | i + 1 => if c i = a then i else placeTo c a i
theorem placeTo_le (c : Nat → Nat) (a : Nat) : ∀ i, placeTo c a i ≤ i
  | 0 => Nat.le_refl _
  | i + 1 => by
    have := placeTo_le c a i
    unfold placeTo; split <;> omega
theorem placeTo_yes (c : Nat → Nat) (a i : Nat) (h : c i = a) : placeTo c a (i + 1) = i := by unfold placeTo; rw [if_pos h]
theorem placeTo_no (c : Nat → Nat) (a i : Nat) (h : c i ≠ a) : placeTo c a (i + 1) = placeTo c a i := by
  show (if c i = a then i else placeTo c a i) = _; rw [if_neg h]
/-- the j-th place in column order -/
def ordAt (n w : Nat) (j : Nat) : Nat := (ord n w)[j]?.getD 0
def ordLen (n w : Nat) : Nat := (ord n w).length

end Go.Col
namespace Go.Col

theorem colFrom_len (n w : Nat) : ∀ f i, (colFrom n w f i).length ≤ f
  | 0, _ => Nat.le_refl _
  | f + 1, i => by
    unfold colFrom
    split
    · have := colFrom_len n w f (i + w); simp; omega
    · simp
theorem ordFrom_len (n w : Nat) : ∀ f c, (ordFrom n w f c).length ≤ f * n
  | 0, _ => by simp [ordFrom]
  | f + 1, c => by
    have := ordFrom_len n w f (c + 1)
    have := colFrom_len n w n c
    simp [ordFrom, Nat.add_mul]; omega
theorem colFrom_end (n w f i : Nat) (h : n ≤ i) : colFrom n w f i = [] := by
  cases f with
  | zero => rfl
  | succ f => unfold colFrom; rw [if_neg (by omega)]
theorem colFrom_go (n w f i : Nat) (h : i < n) : colFrom n w (f + 1) i = i :: colFrom n w f (i + w) := by
  rw [colFrom, if_pos h]
theorem ord_bound (n w : Nat) (hn : n ≤ 65536) (hw : w ≤ 64) : (ord n w).length ≤ 4194304 := by
  have h := ordFrom_len n w w 0
  have : w * n ≤ 64 * 65536 := Nat.mul_le_mul hw hn
  unfold ord; omega

end Go.Col
namespace Go.Col

theorem colFrom_lt (n w : Nat) : ∀ f i x, x ∈ colFrom n w f i → x < n
  | 0, _, _, h => by simp [colFrom] at h
  | f + 1, i, x, h => by
    unfold colFrom at h
    split at h
    · rcases List.mem_cons.1 h with h | h
      · omega
      · exact colFrom_lt n w f _ x h
    · simp at h
theorem ordFrom_lt (n w : Nat) : ∀ f c x, x ∈ ordFrom n w f c → x < n
  | 0, _, _, h => by simp [ordFrom] at h
  | f + 1, c, x, h => by
    simp only [ordFrom, List.mem_append] at h
    rcases h with h | h
    · exact colFrom_lt n w _ _ x h
    · exact ordFrom_lt n w f _ x h
theorem ordAt_lt (n w j : Nat) (h : j < ordLen n w) : ordAt n w j < n := by
  unfold ordAt
  unfold ordLen at h
  rw [List.getElem?_eq_getElem h]
  exact ordFrom_lt n w w 0 _ (List.getElem_mem h)

/-- out[o 0], out[o 1], .. = c 0, c 1, ..: the first i of these stores into zeros -/
def invTo (o : Nat → Nat) (c : Nat → Int) : Nat → Nat → Int
  | 0, _ => 0
  | i + 1, j => if j = o i then c i else invTo o c i j

end Go.Col
namespace Go.Col
theorem ordFrom_end (n w : Nat) : ∀ f c, n ≤ c → ordFrom n w f c = []
  | 0, _, _ => rfl
  | f + 1, c, h => by rw [ordFrom, colFrom_end n w n c h, ordFrom_end n w f (c + 1) (by omega)]; rfl
/-- columns that start beyond the last place are empty -/
theorem ordFrom_min (n w : Nat) : ∀ f c, f + c = w → ordFrom n w f c = ordFrom n w (min w n - c) c := by
  intro f
  induction f with
  | zero =>
    intro c h
    rw [show min w n - c = 0 from by omega]
  | succ f ih =>
    intro c h
    by_cases hc : c < n
    · rw [show min w n - c = (min w n - (c + 1)) + 1 from by omega, ordFrom, ordFrom, ih (c + 1) (by omega)]
    · rw [ordFrom_end n w _ c (by omega), ordFrom_end n w _ c (by omega)]
theorem ord_min (n w : Nat) : ordFrom n w (min w n) 0 = ord n w := by
  have := ordFrom_min n w w 0 rfl
  rw [Nat.sub_zero] at this
  exact this.symm
end Go.Col

namespace Go.Col
theorem invTo_congr (o o' : Nat → Nat) (c : Nat → Int) : ∀ m, (∀ i, i < m → o i = o' i) → ∀ j, invTo o c m j = invTo o' c m j
  | 0, _, _ => rfl
  | m + 1, h, j => by
    have := invTo_congr o o' c m (fun i hi => h i (by omega)) j
    show (if j = o m then c m else _) = (if j = o' m then c m else _)
    rw [h m (by omega), this]
/-- the places of a list of places -/
def oL {n : Nat} (pre : List {x : Nat // x < n}) (i : Nat) : Nat := (pre.map (·.1))[i]?.getD 0
theorem oL_snoc {n : Nat} (pre : List {x : Nat // x < n}) (x : {x : Nat // x < n}) (c : Nat → Int) (j : Nat) :
    invTo (oL (pre ++ [x])) c (pre.length + 1) j = if j = x.1 then c pre.length else invTo (oL pre) c pre.length j := by
  show (if j = oL (pre ++ [x]) pre.length then c pre.length else _) = _
  have h1 : oL (pre ++ [x]) pre.length = x.1 := by simp [oL]
  rw [h1, invTo_congr (oL (pre ++ [x])) (oL pre) c pre.length (fun i hi => by simp [oL, List.getElem?_append_left, hi])]
theorem oL_ord {n k : Nat} (ys : List {x : Nat // x < n}) (h : ys.map (·.1) = ord n k) : oL ys = ordAt n k := by
  funext i; simp only [oL, ordAt, h]
end Go.Col

namespace Go.Col
theorem guessTo_bd (s : Nat → Nat) : ∀ i, 1 ≤ guessTo s i ∧ guessTo s i ≤ i + 1
  | 0 => by simp [guessTo]
  | i + 1 => by
    have := guessTo_bd s i
    unfold guessTo; split <;> omega
theorem guessTo_yes (s : Nat → Nat) (i : Nat) (h : s (guessTo s i) < s (i + 2)) : guessTo s (i + 1) = i + 2 := by
  show (if s (guessTo s i) < s (i + 2) then i + 2 else guessTo s i) = _; rw [if_pos h]
theorem guessTo_no (s : Nat → Nat) (i : Nat) (h : ¬ s (guessTo s i) < s (i + 2)) : guessTo s (i + 1) = guessTo s i := by
  show (if s (guessTo s i) < s (i + 2) then i + 2 else guessTo s i) = _; rw [if_neg h]
end Go.Col

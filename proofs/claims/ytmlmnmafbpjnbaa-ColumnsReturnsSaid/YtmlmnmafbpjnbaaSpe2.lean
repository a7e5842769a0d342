/- The plain laws of layer 39: where each place stands in column order. -/
import Derived.Test.YtmlmnmafbpjnbaaSpec
namespace Go.Col

/-- how many of i, i + w, .. lie below n -/
def colLen (n w i : Nat) : Nat := (n - i + (w - 1)) / w
theorem colLen_end (n w i : Nat) (hw : 1 ≤ w) (h : n ≤ i) : colLen n w i = 0 := by
  unfold colLen
  rw [show n - i = 0 from by omega]
  exact Nat.div_eq_of_lt (by omega)
theorem colLen_go (n w i : Nat) (hw : 1 ≤ w) (h : i < n) : colLen n w i = colLen n w (i + w) + 1 := by
  unfold colLen
  by_cases hx : w ≤ n - i
  · rw [show n - i + (w - 1) = (n - (i + w) + (w - 1)) + w from by omega, Nat.add_div_right _ (by omega)]
  · rw [show n - (i + w) = 0 from by omega, Nat.div_eq_of_lt (show 0 + (w - 1) < w from by omega)]
    exact (Nat.div_eq_iff (by omega)).2 ⟨by omega, by omega⟩
theorem colFrom_eq (n w : Nat) (hw : 1 ≤ w) : ∀ f i, n ≤ i + f → colFrom n w f i = (List.range (colLen n w i)).map fun t => i + t * w
  | 0, i, h => by rw [colLen_end n w i hw (by omega)]; rfl
  | f + 1, i, h => by
    by_cases hi : i < n
    · rw [colFrom_go n w f i hi, colLen_go n w i hw hi, colFrom_eq n w hw f (i + w) (by omega), List.range_succ_eq_map]
      simp only [List.map_cons, List.map_map, Nat.zero_mul, Nat.add_zero]
      congr 1
      apply List.map_congr_left
      intro t _
      show i + w + t * w = i + (t + 1) * w
      rw [Nat.add_mul]; omega
    · rw [colFrom_end n w _ i (by omega), colLen_end n w i hw (by omega)]; rfl

/-- where column c begins -/
def colAt (n w c : Nat) : Nat := c * (n / w) + min c (n % w)
theorem colLen_eq (n w c : Nat) (hc : c < w) : colLen n w c = n / w + if c < n % w then 1 else 0 := by
  have hdm := Nat.div_add_mod n w
  have hr : n % w < w := Nat.mod_lt _ (by omega)
  unfold colLen
  generalize n / w = q at *
  generalize n % w = r at *
  have hmul : w * q = q * w := Nat.mul_comm _ _
  split
  · rename_i h
    rw [show n - c + (w - 1) = (r - c - 1) + w * (q + 1) from by rw [Nat.mul_add]; omega, Nat.add_mul_div_left _ _ (by omega), Nat.div_eq_of_lt (by omega)]
    omega
  · rename_i h
    by_cases hq : q = 0
    · subst hq
      rw [show n - c = 0 from by omega]
      exact Nat.div_eq_of_lt (by omega)
    · have : w ≤ w * q := Nat.le_mul_of_pos_right _ (by omega)
      rw [show n - c + (w - 1) = (r + (w - 1) - c) + w * q from by omega, Nat.add_mul_div_left _ _ (by omega), Nat.div_eq_of_lt (by omega)]
      omega
theorem colAt_succ (n w c : Nat) (hc : c < w) : colAt n w (c + 1) = colAt n w c + colLen n w c := by
  rw [colLen_eq n w c hc]
  unfold colAt
  rw [Nat.add_mul]
  split <;> omega
theorem colAt_end (n w : Nat) (hw : 1 ≤ w) : colAt n w w = n := by
  have hdm := Nat.div_add_mod n w
  have hr : n % w < w := Nat.mod_lt _ (by omega)
  unfold colAt
  omega
theorem colAt_zero (n w : Nat) : colAt n w 0 = 0 := by simp [colAt]

theorem ordFrom_len' (n w : Nat) (hw : 1 ≤ w) : ∀ f c, c + f = w → (ordFrom n w f c).length + colAt n w c = n
  | 0, c, h => by
    obtain rfl : c = w := by omega
    simp [ordFrom, colAt_end n c hw]
  | f + 1, c, h => by
    have ih := ordFrom_len' n w hw f (c + 1) (by omega)
    rw [colAt_succ n w c (by omega)] at ih
    rw [ordFrom, List.length_append, colFrom_eq n w hw n c (by omega), List.length_map, List.length_range]
    omega
theorem ordLen_eq (n w : Nat) (hw : 1 ≤ w) : ordLen n w = n := by
  have := ordFrom_len' n w hw w 0 (by omega)
  rw [colAt_zero] at this
  exact this

theorem colAt_le (n w c : Nat) (hw : 1 ≤ w) (hc : c ≤ w) : colAt n w c ≤ n := by
  have := ordFrom_len' n w hw (w - c) c (by omega)
  omega

theorem placeF_eq (n w a : Nat) : placeF n w a = colAt n w (a % w) + a / w := rfl
theorem div_lt_colLen (n w a : Nat) (hw : 1 ≤ w) (ha : a < n) : a / w < colLen n w (a % w) := by
  have h1 := Nat.div_add_mod a w
  have h2 : a % w < w := Nat.mod_lt _ (by omega)
  have h3 := Nat.div_add_mod n w
  have h4 : n % w < w := Nat.mod_lt _ (by omega)
  rw [colLen_eq n w _ h2]
  generalize a / w = p at *
  generalize a % w = s at *
  generalize n / w = q at *
  generalize n % w = r at *
  have hlt : ¬ q + 1 ≤ p := fun h => by
    have : w * (q + 1) ≤ w * p := Nat.mul_le_mul_left _ h
    rw [Nat.mul_add] at this
    omega
  split
  · omega
  · rename_i hs
    have : p ≠ q := fun e => by subst e; omega
    omega

/-- Every place stands where Place says. -/
theorem ordFrom_place (n w : Nat) (hw : 1 ≤ w) : ∀ f c, c + f = w → ∀ a, a < n → c ≤ a % w → ∃ d, placeF n w a = colAt n w c + d ∧ (ordFrom n w f c)[d]? = some a
  | 0, c, h, a, ha, hc => by
    have : a % w < w := Nat.mod_lt _ (by omega)
    omega
  | f + 1, c, h, a, ha, hc => by
    have hcol := colFrom_eq n w hw n c (by omega)
    have hlen : (colFrom n w n c).length = colLen n w c := by rw [hcol]; simp
    by_cases he : a % w = c
    · refine ⟨a / w, by rw [placeF_eq, he], ?_⟩
      have hl := div_lt_colLen n w a hw ha
      rw [he] at hl
      rw [ordFrom, List.getElem?_append_left (by omega), hcol]
      have h1 := Nat.div_add_mod a w
      have h2 : a / w * w = w * (a / w) := Nat.mul_comm _ _
      simp [hl]
      omega
    · obtain ⟨d, h1, h2⟩ := ordFrom_place n w hw f (c + 1) (by omega) a ha (by omega)
      rw [colAt_succ n w c (by omega)] at h1
      refine ⟨colLen n w c + d, by omega, ?_⟩
      rw [ordFrom, List.getElem?_append_right (by omega), hlen, Nat.add_sub_cancel_left]
      exact h2
/-- What stands somewhere is placed there. -/
theorem ordFrom_back (n w : Nat) (hw : 1 ≤ w) : ∀ f c, c + f = w → ∀ d a, (ordFrom n w f c)[d]? = some a → placeF n w a = colAt n w c + d
  | 0, c, h, d, a, ha => by simp [ordFrom] at ha
  | f + 1, c, h, d, a, ha => by
    have hcol := colFrom_eq n w hw n c (by omega)
    have hlen : (colFrom n w n c).length = colLen n w c := by rw [hcol]; simp
    by_cases hd : d < colLen n w c
    · rw [ordFrom, List.getElem?_append_left (by omega), hcol] at ha
      simp [hd] at ha
      subst ha
      rw [placeF_eq]
      have e1 : (c + d * w) % w = c := by rw [Nat.add_mul_mod_self_right]; exact Nat.mod_eq_of_lt (by omega)
      have e2 : (c + d * w) / w = d := by rw [Nat.add_mul_div_right _ _ (by omega), Nat.div_eq_of_lt (by omega)]; omega
      rw [e1, e2]
    · rw [ordFrom, List.getElem?_append_right (by omega), hlen] at ha
      have := ordFrom_back n w hw f (c + 1) (by omega) _ a ha
      rw [colAt_succ n w c (by omega)] at this
      omega

theorem ordAt_place (n w a : Nat) (hw : 1 ≤ w) (ha : a < n) : ordAt n w (placeF n w a) = a := by
  obtain ⟨d, h1, h2⟩ := ordFrom_place n w hw w 0 (by omega) a ha (by omega)
  rw [colAt_zero] at h1
  rw [show placeF n w a = d from by omega]
  unfold ordAt ord
  rw [h2]; rfl
theorem placeF_lt (n w a : Nat) (hw : 1 ≤ w) (ha : a < n) : placeF n w a < n := by
  obtain ⟨d, h1, h2⟩ := ordFrom_place n w hw w 0 (by omega) a ha (by omega)
  rw [colAt_zero] at h1
  have h3 := (List.getElem?_eq_some_iff.1 h2).1
  have h4 := ordLen_eq n w hw
  unfold ordLen ord at h4
  omega
theorem place_ordAt (n w j : Nat) (hw : 1 ≤ w) (hj : j < n) : placeF n w (ordAt n w j) = j := by
  have h4 := ordLen_eq n w hw
  have hl : j < (ord n w).length := by unfold ordLen at h4; omega
  have := ordFrom_back n w hw w 0 (by omega) j (ord n w)[j] (List.getElem?_eq_getElem hl)
  rw [colAt_zero] at this
  unfold ordAt
  rw [List.getElem?_eq_getElem hl]
  simpa using this
theorem ordAt_lt' (n w j : Nat) (hw : 1 ≤ w) (hj : j < n) : ordAt n w j < n := ordAt_lt n w j (by rw [ordLen_eq n w hw]; exact hj)

theorem placeTo_eq (c : Nat → Nat) (a p : Nat) : ∀ m, p < m → c p = a → (∀ i, i < m → c i = a → i = p) → placeTo c a m = p
  | 0, h, _, _ => by omega
  | m + 1, h, h1, h2 => by
    by_cases hm : c m = a
    · rw [placeTo_yes c a m hm]; exact h2 m (by omega) hm
    · rw [placeTo_no c a m hm]
      exact placeTo_eq c a p m (by rcases Nat.lt_or_ge p m with h | h; exact h; exact absurd (by rwa [show m = p from by omega]) hm) h1 (fun i hi he => h2 i (by omega) he)
theorem place_law (n w a : Nat) (hw : 1 ≤ w) (ha : a < n) : placeTo (ordAt n w) a (ordLen n w) = placeF n w a := by
  rw [ordLen_eq n w hw]
  exact placeTo_eq _ _ _ _ (placeF_lt n w a hw ha) (ordAt_place n w a hw ha) (fun i hi he => by rw [← he, place_ordAt n w i hw hi])

theorem invTo_eq (o : Nat → Nat) (c : Nat → Int) (j p : Nat) : ∀ m, p < m → o p = j → (∀ i, i < m → o i = j → i = p) → invTo o c m j = c p
  | 0, h, _, _ => by omega
  | m + 1, h, h1, h2 => by
    show (if j = o m then c m else invTo o c m j) = c p
    by_cases hm : o m = j
    · rw [if_pos hm.symm, h2 m (by omega) hm]
    · rw [if_neg (fun e => hm e.symm)]
      exact invTo_eq o c j p m (by rcases Nat.lt_or_ge p m with h | h; exact h; exact absurd (by rwa [show m = p from by omega]) hm) h1 (fun i hi he => h2 i (by omega) he)
theorem inv_law (n w : Nat) (c : Nat → Int) (j : Nat) (hw : 1 ≤ w) (hj : j < n) : invTo (ordAt n w) c n j = c (placeF n w j) :=
  invTo_eq _ _ _ _ _ (placeF_lt n w j hw hj) (ordAt_place n w j hw hj) (fun i hi he => by rw [← he, place_ordAt n w i hw hi])

/-- The width 1, and a width that is at least the length, change nothing. -/
theorem ordAt_id (n w j : Nat) (hw : 1 ≤ w) (hj : j < n) (h : w = 1 ∨ n ≤ w) : ordAt n w j = j := by
  have : placeF n w j = j := by
    unfold placeF
    rcases h with rfl | h
    · simp [Nat.mod_one]
    · have h1 : j % w = j := Nat.mod_eq_of_lt (by omega)
      have h2 : j / w = 0 := Nat.div_eq_of_lt (by omega)
      rw [h1, h2]
      rcases Nat.lt_or_ge n w with h3 | h3
      · rw [Nat.div_eq_of_lt h3, Nat.mod_eq_of_lt h3]; omega
      · obtain rfl : n = w := by omega
        rw [Nat.div_self (by omega), Nat.mod_self]; omega
  have h2 := ordAt_place n w j hw hj
  rwa [this] at h2

/-- Where the length is rows times width, column order with the width is the inverse order with the rows. -/
theorem turns_law (r w j : Nat) (hw : 1 ≤ w) (hr : 1 ≤ r) (hj : j < r * w) : ordAt (r * w) w j = placeF (r * w) r j := by
  have e1 : placeF (r * w) r j = j % r * w + j / r := by
    unfold placeF
    rw [Nat.mul_div_cancel_left _ (by omega), Nat.mul_mod_right]
    omega
  have h1 : j / r < w := Nat.div_lt_of_lt_mul (by omega)
  have h2 : j % r < r := Nat.mod_lt _ (by omega)
  have hdm := Nat.div_add_mod j r
  have hlt : j % r * w + j / r < r * w := by
    have : (j % r + 1) * w ≤ r * w := Nat.mul_le_mul_right _ (by omega)
    rw [Nat.add_mul] at this
    omega
  have e2 : placeF (r * w) w (j % r * w + j / r) = j := by
    unfold placeF
    rw [show j % r * w + j / r = j / r + j % r * w from by omega, Nat.add_mul_mod_self_right, Nat.mod_eq_of_lt h1, Nat.mul_div_cancel _ (by omega), Nat.mul_mod_left, Nat.add_mul_div_right _ _ (by omega), Nat.div_eq_of_lt h1]
    have : j / r * r = r * (j / r) := Nat.mul_comm _ _
    rw [Nat.min_zero]
    omega
  rw [e1]
  have := ordAt_place (r * w) w (j % r * w + j / r) hw hlt
  rwa [e2] at this

/-- The first of the greatest. -/
theorem guessTo_best (s : Nat → Nat) : ∀ i w, 1 ≤ w → w ≤ i + 1 → s w ≤ s (guessTo s i) ∧ (s w = s (guessTo s i) → guessTo s i ≤ w)
  | 0, w, h1, h2 => by
    obtain rfl : w = 1 := by omega
    simp [guessTo]
  | i + 1, w, h1, h2 => by
    by_cases h : s (guessTo s i) < s (i + 2)
    · rw [guessTo_yes s i h]
      by_cases hw : w = i + 2
      · subst hw; exact ⟨Nat.le_refl _, fun _ => Nat.le_refl _⟩
      · have := guessTo_best s i w h1 (by omega)
        exact ⟨by omega, fun e => by omega⟩
    · rw [guessTo_no s i h]
      have hb := guessTo_bd s i
      by_cases hw : w = i + 2
      · subst hw; exact ⟨by omega, fun _ => by omega⟩
      · exact guessTo_best s i w h1 (by omega)
theorem scoreTo_le' (c : Nat → Int) (k : Nat) : ∀ i, scoreTo c k i ≤ i - k
  | 0 => Nat.zero_le _
  | i + 1 => by
    have := scoreTo_le' c k i
    unfold scoreTo; split <;> omega
theorem scoreTo_all (c : Nat → Int) (k : Nat) : ∀ i, (∀ j, k ≤ j → j < i → c j = c (j - k)) → scoreTo c k i = i - k
  | 0, _ => by simp [scoreTo]
  | i + 1, h => by
    have ih := scoreTo_all c k i (fun j h1 h2 => h j h1 (by omega))
    by_cases hk : k ≤ i
    · rw [scoreTo_yes c k i hk (h i hk (by omega)), ih]; omega
    · have : ¬ (k ≤ i ∧ c i = c (i - k)) := fun h => hk h.1
      show scoreTo c k i + (if _ then _ else _) = _
      rw [if_neg this, ih]; omega

end Go.Col
namespace Go.Col
theorem ord_perm (n w : Nat) (hw : 1 ≤ w) : ((List.range n).map (ordAt n w)).Perm (List.range n) := by
  refine (List.perm_ext_iff_of_nodup ?_ List.nodup_range).2 fun a => ?_
  · rw [List.Nodup, List.pairwise_map]
    refine List.Pairwise.imp_of_mem ?_ List.nodup_range
    intro i j hi hj hne he
    have h1 := place_ordAt n w i hw (List.mem_range.1 hi)
    have h2 := place_ordAt n w j hw (List.mem_range.1 hj)
    rw [he, h2] at h1
    exact hne h1.symm
  · constructor
    · intro h
      obtain ⟨i, hi, rfl⟩ := List.mem_map.1 h
      exact List.mem_range.2 (ordAt_lt' n w i hw (List.mem_range.1 hi))
    · intro h
      have ha := List.mem_range.1 h
      exact List.mem_map.2 ⟨placeF n w a, List.mem_range.2 (placeF_lt n w a hw ha), ordAt_place n w a hw ha⟩

/-- what the counters hold behind i rounds: one more for each byte of c, one less for each of x -/
def cntTo (c x : Nat → Int) : Nat → Nat → Int
  | 0, _ => 0
  | i + 1, v => cntTo c x i v + (if (v : Int) = c i then 1 else 0) - (if (v : Int) = x i then 1 else 0)
theorem cntTo_eq (c x : Nat → Int) (v : Nat) : ∀ i, cntTo c x i v = (((List.range i).map c).count (v : Int) : Int) - (((List.range i).map x).count (v : Int) : Int)
  | 0 => rfl
  | i + 1 => by
    have ih := cntTo_eq c x v i
    rw [cntTo, ih, List.range_succ, List.map_append, List.map_append, List.count_append, List.count_append]
    simp only [List.map_cons, List.map_nil, List.count_singleton, beq_iff_eq]
    have e1 : (c i = (v : Int)) ↔ ((v : Int) = c i) := ⟨Eq.symm, Eq.symm⟩
    have e2 : (x i = (v : Int)) ↔ ((v : Int) = x i) := ⟨Eq.symm, Eq.symm⟩
    simp only [e1, e2]
    split <;> split <;> simp <;> omega
theorem cntTo_end (c : Nat → Int) (n w v : Nat) (hw : 1 ≤ w) : cntTo c (fun j => c (ordAt n w j)) n v = 0 := by
  rw [cntTo_eq]
  have h : ((List.range n).map fun j => c (ordAt n w j)) = ((List.range n).map (ordAt n w)).map c := by rw [List.map_map]; rfl
  rw [h, ((ord_perm n w hw).map c).count_eq]
  omega
theorem cntTo_bd (c x : Nat → Int) (v : Nat) : ∀ i : Nat, -(i : Int) ≤ cntTo c x i v ∧ cntTo c x i v ≤ i
  | 0 => by simp [cntTo]
  | i + 1 => by
    have := cntTo_bd c x v i
    rw [cntTo]; split <;> split <;> omega
end Go.Col

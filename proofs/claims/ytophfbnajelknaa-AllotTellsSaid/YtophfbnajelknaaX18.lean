import Derived.Test.YtophfbnajelknaaO2
/- Reference R02: those with the greatest rests get one more: by rank, as by turns. -/
namespace Go.Proofs.Ytophfbnajelknaa

theorem countP_lt {p q : Nat → Bool} : ∀ {l : List Nat}, (∀ x ∈ l, p x = true → q x = true) → (∃ x ∈ l, q x = true ∧ p x = false) → l.countP p < l.countP q
  | [], _, ⟨x, hx, _⟩ => by simp at hx
  | a :: l, h, ⟨x, hx, h1, h2⟩ => by
    rw [List.countP_cons, List.countP_cons]
    have hle : l.countP p ≤ l.countP q := List.countP_mono_left fun y hy => h y (by simp [hy])
    rcases List.mem_cons.1 hx with rfl | hx
    · rw [h1, h2]; simp; omega
    · have := countP_lt (l := l) (fun y hy => h y (by simp [hy])) ⟨x, hx, h1, h2⟩
      by_cases ha : p a = true
      · rw [ha, h a (by simp) ha]; simp; omega
      · simp [ha]; split <;> omega
/-- k comes ahead of i. -/
def beats (r : Nat → Int) (k i : Nat) : Bool := decide (r i < r k) || (decide (r k = r i) && decide (k < i))
def rankTo (r : Nat → Int) (i k : Nat) : Nat := (List.range k).countP fun j => beats r j i
theorem beats_iff {r : Nat → Int} {k i : Nat} : beats r k i = true ↔ r i < r k ∨ r k = r i ∧ k < i := by simp [beats]
theorem beats_total {r : Nat → Int} {k i : Nat} (h : k ≠ i) : beats r k i = true ∨ beats r i k = true := by rw [beats_iff, beats_iff]; omega
theorem rank_lt {r : Nat → Int} {n a b : Nat} (ha : a < n) (h : beats r a b = true) : rankTo r a n < rankTo r b n := by
  refine countP_lt (fun x _ hx => ?_) ⟨a, by simpa using ha, h, ?_⟩
  · rw [beats_iff] at *; omega
  · rw [Bool.eq_false_iff]; intro e; rw [beats_iff] at e; omega
theorem rankTo_succ (r : Nat → Int) (i k : Nat) : rankTo r i (k + 1) = rankTo r i k + if beats r k i = true then 1 else 0 := by
  rw [rankTo, List.range_succ, List.countP_append, List.countP_singleton]; rfl
theorem rankTo_le (r : Nat → Int) (i k : Nat) : rankTo r i k ≤ k := by
  have := List.countP_le_length (p := fun j => beats r j i) (l := List.range k)
  rw [List.length_range] at this
  exact this
/-- Greatest, the first one. -/
theorem grTo_spec (rs : List Int) : ∀ k, (∀ i, i < k → rs.getD i 0 ≤ rs.getD (grTo rs k) 0) ∧ (∀ i, i < grTo rs k → rs.getD i 0 < rs.getD (grTo rs k) 0)
  | 0 => by simp [grTo]
  | k + 1 => by
    have ih := grTo_spec rs k
    rw [grTo]
    split
    · rename_i h
      refine ⟨fun i hi => ?_, fun i hi => ?_⟩
      · rcases Nat.lt_or_eq_of_le (Nat.le_of_lt_succ hi) with h1 | h1
        · have := ih.1 i h1; omega
        · rw [h1]; exact Int.le_refl _
      · have := ih.1 i hi; omega
    · rename_i h
      refine ⟨fun i hi => ?_, ih.2⟩
      rcases Nat.lt_or_eq_of_le (Nat.le_of_lt_succ hi) with h1 | h1
      · exact ih.1 i h1
      · rw [h1]; omega
theorem getD_set {l : List Int} {i j : Nat} {x : Int} (h : i < l.length) : (l.set i x).getD j 0 = if j = i then x else l.getD j 0 := by
  by_cases hj : j = i
  · subst hj; rw [if_pos rfl, getD_set_self h]
  · rw [if_neg hj, List.getD_eq_getElem?_getD, List.getD_eq_getElem?_getD, List.getElem?_set_ne (fun e => hj e.symm)]
/-- After j turns: just those of ranks below j have one more. -/
structure Turns (p r : Nat → Int) (n j : Nat) (s : List Int × List Int) : Prop where
  l1 : s.1.length = n
  l2 : s.2.length = n
  out : ∀ i, i < n → s.1.getD i 0 = p i + if rankTo r i n < j then 1 else 0
  rest : ∀ i, i < n → s.2.getD i 0 = if rankTo r i n < j then -1 else r i
  many : (List.range n).countP (fun i => decide (rankTo r i n < j)) = j
theorem Turns.step {p r : Nat → Int} {n j : Nat} {s : List Int × List Int} (h : Turns p r n j s) (hr : ∀ i, i < n → 0 ≤ r i) (hj : j < n) : Turns p r n (j + 1) (giveOne s) := by
  have hn : 0 < n := by omega
  obtain ⟨g, hg⟩ : ∃ g, g = gr s.2 := ⟨_, rfl⟩
  have hgn : g < n := by rw [hg, ← h.l2]; exact gr_lt (by rw [h.l2]; exact hn)
  have sp := grTo_spec s.2 s.2.length
  rw [h.l2] at sp
  have hg' : g = grTo s.2 n := by rw [hg, gr, h.l2]
  rw [← hg'] at sp
  -- one is not given yet
  obtain ⟨u, hu, hun⟩ : ∃ u, u < n ∧ j ≤ rankTo r u n := by
    refine Classical.byContradiction fun hne => ?_
    have : (List.range n).countP (fun i => decide (rankTo r i n < j)) = n := by
      rw [List.countP_eq_length.2, List.length_range]
      intro i hi
      have hi : i < n := by simpa using hi
      refine decide_eq_true (Nat.lt_of_not_le fun hle => hne ⟨i, hi, hle⟩)
    have := h.many
    omega
  have hgu : j ≤ rankTo r g n := by
    refine Nat.le_of_not_lt fun hlt => ?_
    have h1 := sp.1 u hu
    rw [h.rest u hu, if_neg (by omega), h.rest g hgn, if_pos hlt] at h1
    have := hr u hu
    omega
  have hrg : s.2.getD g 0 = r g := by rw [h.rest g hgn, if_neg (by omega)]
  -- who isn't given is behind g
  have hbeat : ∀ i, i < n → j ≤ rankTo r i n → i ≠ g → beats r g i = true := by
    intro i hi hir hne
    have e : s.2.getD i 0 = r i := by rw [h.rest i hi, if_neg (by omega)]
    have h1 := sp.1 i hi
    have h2 := sp.2 i
    rw [hrg, e] at h1 h2
    rw [beats_iff]
    by_cases hlt : i < g
    · have := h2 hlt; omega
    · omega
  have hrank : rankTo r g n = j := by
    rw [← h.many, rankTo]
    refine List.countP_congr fun i hi => ?_
    have hi : i < n := by simpa using hi
    rw [decide_eq_true_iff]
    constructor
    · intro hb
      refine Nat.lt_of_not_le fun hle => ?_
      by_cases hne : i = g
      · subst hne; rw [beats_iff] at hb; omega
      · have := hbeat i hi hle hne
        rw [beats_iff] at *; omega
    · intro hlt
      rcases beats_total (r := r) (k := i) (i := g) (fun e => by subst e; omega) with hb | hb
      · exact hb
      · have := rank_lt hgn hb; omega
  have honly : ∀ i, i < n → (rankTo r i n < j + 1 ↔ rankTo r i n < j ∨ i = g) := by
    intro i hi
    constructor
    · intro h1
      rcases Nat.lt_or_ge (rankTo r i n) j with h2 | h2
      · exact .inl h2
      · refine .inr (Classical.byContradiction fun hne => ?_)
        have := rank_lt hgn (hbeat i hi h2 hne)
        omega
    · rintro (h1 | rfl)
      · omega
      · omega
  refine ⟨by rw [giveOne, List.length_set]; exact h.l1, by rw [giveOne, List.length_set]; exact h.l2, fun i hi => ?_, fun i hi => ?_, ?_⟩
  · rw [giveOne, ← hg, getD_set (by rw [h.l1]; exact hgn)]
    by_cases hig : i = g
    · subst hig; rw [if_pos rfl, h.out i hi, if_neg (by omega), if_pos (by omega)]; omega
    · rw [if_neg hig, h.out i hi]
      have := honly i hi
      by_cases h1 : rankTo r i n < j
      · rw [if_pos h1, if_pos (by omega)]
      · rw [if_neg h1, if_neg (by omega)]
  · rw [giveOne, ← hg, getD_set (by rw [h.l2]; exact hgn)]
    by_cases hig : i = g
    · subst hig; rw [if_pos rfl, if_pos (by omega)]
    · rw [if_neg hig, h.rest i hi]
      have := honly i hi
      by_cases h1 : rankTo r i n < j
      · rw [if_pos h1, if_pos (by omega)]
      · rw [if_neg h1, if_neg (by omega)]
  · have e : (List.range n).countP (fun i => decide (rankTo r i n < j + 1)) = (List.range n).countP (fun i => decide (rankTo r i n < j)) + (List.range n).countP (fun i => decide (i = g)) := by
      have : ∀ l : List Nat, (∀ i ∈ l, i < n) → l.countP (fun i => decide (rankTo r i n < j + 1)) = l.countP (fun i => decide (rankTo r i n < j)) + l.countP (fun i => decide (i = g)) := by
        intro l
        induction l with
        | nil => intro _; rfl
        | cons a l ih =>
          intro hl
          have h0 := ih fun i hi => hl i (by simp [hi])
          have h1 := honly a (hl a (by simp))
          rw [List.countP_cons, List.countP_cons, List.countP_cons, h0]
          by_cases ha : a = g
          · subst ha
            simp only [hrank]
            simp
            omega
          · have : decide (rankTo r a n < j + 1) = decide (rankTo r a n < j) := by
              rw [decide_eq_decide]; simpa [ha] using h1
            rw [this]
            simp only [ha, decide_false]
            simp
            omega
      exact this _ fun i hi => by simpa using hi
    rw [e, h.many]
    have : (List.range n).countP (fun i => decide (i = g)) = 1 := by
      have h1 : (List.range n).countP (fun i => decide (i = g)) = (List.range n).count g := by
        rw [List.count]; exact List.countP_congr fun i _ => by simp
      rw [h1]
      rw [List.nodup_range.count, if_pos (by simpa using hgn)]
    omega
theorem Turns.start {p r : Nat → Int} {n : Nat} : Turns p r n 0 (fillTo p n n, fillTo r n n) := by
  refine ⟨fillTo_length _ _ _, fillTo_length _ _ _, fun i hi => ?_, fun i hi => ?_, ?_⟩
  · simp only; rw [fillTo_at _ _ _ _ hi, if_pos hi, if_neg (by omega)]; omega
  · simp only; rw [fillTo_at _ _ _ _ hi, if_pos hi, if_neg (by omega)]
  · rw [List.countP_eq_zero]; simp
theorem turns {p r : Nat → Int} {n : Nat} (hr : ∀ i, i < n → 0 ≤ r i) : ∀ j, j ≤ n → Turns p r n j (giveN (fillTo p n n, fillTo r n n) j)
  | 0, _ => Turns.start
  | j + 1, h => (turns hr j (by omega)).step hr (by omega)
/-- One more for those of a rank below m, of the first k. -/
def moreTo (p r : Nat → Int) (n : Nat) (m : Int) (k : Nat) : List Int := (List.range n).map fun i => if i < k ∧ (rankTo r i n : Int) < m then p i + 1 else p i
theorem moreTo_length (p r : Nat → Int) (n : Nat) (m : Int) (k : Nat) : (moreTo p r n m k).length = n := by simp [moreTo]
theorem moreTo_at {p r : Nat → Int} {n : Nat} {m : Int} {k i : Nat} (h : i < n) : (moreTo p r n m k).getD i 0 = if i < k ∧ (rankTo r i n : Int) < m then p i + 1 else p i := by
  simp [moreTo, List.getD_eq_getElem?_getD, h]
theorem ext_getD {l m : List Int} (hl : l.length = m.length) (h : ∀ i, i < l.length → l.getD i 0 = m.getD i 0) : l = m := by
  apply List.ext_getElem hl
  intro i h1 h2
  have := h i h1
  simpa [List.getD_eq_getElem?_getD, h1, h2] using this
theorem moreTo_zero (p r : Nat → Int) (n : Nat) (m : Int) : moreTo p r n m 0 = fillTo p n n := by
  apply ext_getD (by rw [moreTo_length, fillTo_length])
  intro i hi
  rw [moreTo_length] at hi
  rw [moreTo_at hi, fillTo_at _ _ _ _ hi, if_pos hi, if_neg (by omega)]
theorem moreTo_yes {p r : Nat → Int} {n : Nat} {m : Int} {k : Nat} (hk : k < n) (h : (rankTo r k n : Int) < m) : moreTo p r n m (k + 1) = (moreTo p r n m k).set k (p k + 1) := by
  apply ext_getD (by rw [List.length_set, moreTo_length, moreTo_length])
  intro i hi
  rw [moreTo_length] at hi
  rw [getD_set (by rw [moreTo_length]; exact hk), moreTo_at hi, moreTo_at hi]
  by_cases hik : i = k
  · subst hik; rw [if_pos rfl, if_pos ⟨by omega, h⟩]
  · rw [if_neg hik]
    by_cases h1 : i < k ∧ (rankTo r i n : Int) < m
    · rw [if_pos h1, if_pos ⟨by omega, h1.2⟩]
    · rw [if_neg h1, if_neg (fun h2 => h1 ⟨by omega, h2.2⟩)]
theorem moreTo_no {p r : Nat → Int} {n : Nat} {m : Int} {k : Nat} (h : ¬ (rankTo r k n : Int) < m) : moreTo p r n m (k + 1) = moreTo p r n m k := by
  apply ext_getD (by rw [moreTo_length, moreTo_length])
  intro i hi
  rw [moreTo_length] at hi
  rw [moreTo_at hi, moreTo_at hi]
  by_cases h1 : i < k ∧ (rankTo r i n : Int) < m
  · rw [if_pos h1, if_pos ⟨by omega, h1.2⟩]
  · rw [if_neg h1, if_neg (fun h2 => h1 ⟨by rcases Nat.lt_or_eq_of_le (Nat.le_of_lt_succ h2.1) with h3 | h3; exact h3; (subst h3; exact absurd h2.2 h), h2.2⟩)]
/-- The portions, by rank. -/
theorem outSize_rank {size : Int} {ws : List Int} (hw : wrongE ws = 0) (h0 : 0 ≤ size) :
    outSize size ws = moreTo (partAt size ws.sum ws) (restAt size ws.sum ws) ws.length (missTo size ws.sum ws ws.length) ws.length := by
  obtain ⟨_, hl, hn, hs, _⟩ := wrongE_good hw
  have hm0 := miss_nonneg (size := size) rfl hs h0 hn (k := ws.length) (Nat.le_refl _)
  have hm1 := miss_lt (size := size) rfl hs hl
  have ht := turns (p := partAt size ws.sum ws) (r := restAt size ws.sum ws) (n := ws.length) (fun i _ => (restAt_range hs i).1) (missTo size ws.sum ws ws.length).toNat (by omega)
  apply ext_getD (by rw [moreTo_length]; exact ht.l1)
  intro i hi
  have hi : i < ws.length := by rw [← ht.l1]; exact hi
  rw [outSize, ht.out i hi, moreTo_at hi]
  by_cases h1 : rankTo (restAt size ws.sum ws) i ws.length < (missTo size ws.sum ws ws.length).toNat
  · rw [if_pos h1, if_pos ⟨hi, by omega⟩]
  · rw [if_neg h1, if_neg (fun h2 => h1 (by have := h2.2; omega))]; omega
end Go.Proofs.Ytophfbnajelknaa

import Derived.Test.YtophfbnajelknaaM
/- Package portion: what wrong and Out compute, as plain functions. -/
namespace Go.Proofs.Ytophfbnajelknaa

theorem getD_mem {xs : List Int} {k : Nat} (h : k < xs.length) : xs.getD k 0 ∈ xs := by
  rw [List.getD_eq_getElem?_getD, List.getElem?_eq_getElem h, Option.getD_some]; exact List.getElem_mem h
def wrongE (ws : List Int) : Int := if 64 < ws.length then 4 else if (ws.any fun x => decide (x < 0)) || !(ws.any fun x => decide (0 < x)) then 1 else fitE ws.sum
def wrongV (ws : List Int) : Int := if 64 < ws.length then 0 else if (ws.any fun x => decide (x < 0)) || !(ws.any fun x => decide (0 < x)) then 0 else fitV ws.sum

theorem any_snoc (p : Int → Bool) (xs : List Int) (k : Nat) (h : k < xs.length) : (xs.take (k + 1)).any p = ((xs.take k).any p || p (xs.getD k 0)) := by
  rw [List.take_succ_eq_append_getElem h, List.any_append, List.getD_eq_getElem?_getD, List.getElem?_eq_getElem h]; simp
theorem any_of_take {p : Int → Bool} {xs : List Int} {k : Nat} (h : k < xs.length) (hp : p (xs.getD k 0) = true) : xs.any p = true := by
  rw [List.any_eq_true]; exact ⟨_, getD_mem h, hp⟩

/-- Where the greatest of the first k stands, the first one of those. -/
def grTo (rs : List Int) : Nat → Nat
  | 0 => 0
  | k + 1 => if rs.getD k 0 > rs.getD (grTo rs k) 0 then k else grTo rs k
theorem grTo_lt (rs : List Int) : ∀ k, 0 < k → grTo rs k < k
  | 0, h => absurd h (by omega)
  | 1, _ => by unfold grTo; split <;> simp [grTo]
  | k + 2, _ => by have := grTo_lt rs (k + 1) (by omega); unfold grTo; split <;> omega
theorem grTo_le (rs : List Int) (k : Nat) : grTo rs k ≤ k := by
  rcases Nat.eq_zero_or_pos k with h | h
  · subst h; simp [grTo]
  · exact Nat.le_of_lt (grTo_lt rs k h)
def gr (rs : List Int) : Nat := grTo rs rs.length
theorem grTo_step {rs : List Int} {k g : Nat} (hk : k < rs.length) (hg : g < rs.length) (h : g = grTo rs k) : (rs[g] < rs[k] → k = grTo rs (k + 1)) ∧ (rs[k] ≤ rs[g] → g = grTo rs (k + 1)) := by
  have e1 : rs.getD k 0 = rs[k] := by simp [List.getD_eq_getElem?_getD, List.getElem?_eq_getElem hk]
  have e2 : rs.getD (grTo rs k) 0 = rs[g] := by subst h; simp [List.getD_eq_getElem?_getD, List.getElem?_eq_getElem hg]
  refine ⟨fun c => ?_, fun c => ?_⟩
  · rw [grTo, if_pos (by rw [e1, e2]; exact c)]
  · rw [grTo, if_neg (by rw [e1, e2]; omega), h]
def partAt (size S : Int) (ws : List Int) (k : Nat) : Int := size * ws.getD k 0 / S
def restAt (size S : Int) (ws : List Int) (k : Nat) : Int := size * ws.getD k 0 % S
/-- The rows after k rounds of the first loop. -/
def fillTo (f : Nat → Int) (n k : Nat) : List Int := (List.range n).map fun i => if i < k then f i else 0
theorem fillTo_length (f : Nat → Int) (n k : Nat) : (fillTo f n k).length = n := by simp [fillTo]
theorem fillTo_zero (f : Nat → Int) (n : Nat) : fillTo f n 0 = List.replicate n 0 := by
  apply List.ext_getElem
  · simp [fillTo]
  · intro i h1 h2; simp [fillTo]
theorem fillTo_set (f : Nat → Int) (n k : Nat) : (fillTo f n k).set k (f k) = fillTo f n (k + 1) := by
  apply List.ext_getElem
  · simp [fillTo]
  · intro i h1 h2
    simp only [fillTo, List.getElem_set, List.getElem_map, List.getElem_range]
    split
    · subst_vars; simp
    · by_cases h : i < k
      · simp [h, show i < k + 1 by omega]
      · simp [h, show ¬ i < k + 1 by omega]
theorem fillTo_at (f : Nat → Int) (n k i : Nat) (h : i < n) : (fillTo f n k).getD i 0 = if i < k then f i else 0 := by
  simp [fillTo, List.getD_eq_getElem?_getD, h]
/-- What is missing after k rounds. -/
def missTo (size S : Int) (ws : List Int) : Nat → Int
  | 0 => size
  | k + 1 => missTo size S ws k - partAt size S ws k
/-- One more to the one with the greatest rest. -/
def giveOne (s : List Int × List Int) : List Int × List Int := (s.1.set (gr s.2) (s.1.getD (gr s.2) 0 + 1), s.2.set (gr s.2) (-1))
def giveN (s : List Int × List Int) : Nat → List Int × List Int
  | 0 => s
  | j + 1 => giveOne (giveN s j)
/-- The portions of a size. -/
def outSize (size : Int) (ws : List Int) : List Int :=
  (giveN (fillTo (partAt size ws.sum ws) ws.length ws.length, fillTo (restAt size ws.sum ws) ws.length ws.length) (missTo size ws.sum ws ws.length).toNat).1
def outE (total : Int) (ws : List Int) : Int := if wrongE ws ≠ 0 then wrongE ws else if total = lowI then 3 else 0
def outL (total : Int) (ws : List Int) : List Int := if outE total ws ≠ 0 then [] else if total < 0 then (outSize (-total) ws).map (fun x => -x) else outSize total ws
theorem take_sum_snoc (ws : List Int) (k : Nat) (h : k < ws.length) : (ws.take (k + 1)).sum = (ws.take k).sum + ws.getD k 0 := by
  rw [List.take_succ_eq_append_getElem h, List.sum_append, List.getD_eq_getElem?_getD, List.getElem?_eq_getElem h]; simp
theorem take_sum_le {ws : List Int} (h : ∀ x ∈ ws, 0 ≤ x) (k : Nat) : (ws.take k).sum ≤ ws.sum := by
  have e : ws.sum = (ws.take k).sum + (ws.drop k).sum := by rw [← List.sum_append, List.take_append_drop]
  have h0 : ∀ l : List Int, (∀ x ∈ l, 0 ≤ x) → 0 ≤ l.sum := by
    intro l; induction l with
    | nil => simp
    | cons a l ih => intro hl; have := hl a (by simp); have := ih (fun x hx => hl x (by simp [hx])); simp; omega
  have := h0 (ws.drop k) (fun x hx => h x (List.mem_of_mem_drop hx))
  omega
section
variable {size S : Int} {ws : List Int}
theorem restAt_range (hS : 0 < S) (k : Nat) : 0 ≤ restAt size S ws k ∧ restAt size S ws k < S := ⟨Int.emod_nonneg _ (by omega), Int.emod_lt_of_pos _ hS⟩
theorem part_rest (k : Nat) : S * partAt size S ws k + restAt size S ws k = size * ws.getD k 0 := Int.mul_ediv_add_emod _ _
theorem partAt_nonneg (hS : 0 < S) (h0 : 0 ≤ size) (h : ∀ x ∈ ws, 0 ≤ x) {k : Nat} (hk : k < ws.length) : 0 ≤ partAt size S ws k :=
  Int.ediv_nonneg (Int.mul_nonneg h0 (h _ (getD_mem hk))) (by omega)
/-- S times what is missing: what the weights to come bear, and the rests so far. -/
theorem miss_eq : ∀ k, k ≤ ws.length → S * missTo size S ws k = size * (S - (ws.take k).sum) + ((List.range k).map (restAt size S ws)).sum
  | 0, _ => by simp [missTo, Int.mul_comm]
  | k + 1, h => by
    have ih := miss_eq k (by omega)
    have hp := part_rest (size := size) (S := S) (ws := ws) k
    rw [missTo, Int.mul_sub, ih, take_sum_snoc ws k (by omega), List.range_succ, List.map_append, List.sum_append]
    have e : size * (S - ((ws.take k).sum + ws.getD k 0)) = size * (S - (ws.take k).sum) - size * ws.getD k 0 := by
      rw [← Int.mul_sub]; congr 1; omega
    rw [e]; simp only [List.map_cons, List.map_nil, List.sum_cons, List.sum_nil]; omega
theorem rests_sum (hS : 0 < S) : ∀ k, 0 ≤ ((List.range k).map (restAt size S ws)).sum ∧ ((List.range k).map (restAt size S ws)).sum ≤ (S - 1) * k
  | 0 => by simp
  | k + 1 => by
    have ih := rests_sum hS k
    have hr := restAt_range (size := size) (ws := ws) hS k
    rw [List.range_succ, List.map_append, List.sum_append]
    have e : (S - 1) * ((k + 1 : Nat) : Int) = (S - 1) * k + (S - 1) := by rw [Int.natCast_add, Int.mul_add]; simp
    rw [e]; simp; omega
theorem miss_nonneg (hS : S = ws.sum) (hS0 : 0 < S) (h0 : 0 ≤ size) (h : ∀ x ∈ ws, 0 ≤ x) {k : Nat} (hk : k ≤ ws.length) : 0 ≤ missTo size S ws k := by
  have e := miss_eq (size := size) (S := S) (ws := ws) k hk
  have h1 := take_sum_le h k
  have h2 : 0 ≤ size * (S - (ws.take k).sum) := Int.mul_nonneg h0 (by omega)
  have h3 := (rests_sum (size := size) (ws := ws) hS0 k).1
  have h4 : 0 ≤ S * missTo size S ws k := by omega
  exact Int.nonneg_of_mul_nonneg_right h4 hS0
theorem miss_le (hS0 : 0 < S) (h0 : 0 ≤ size) (h : ∀ x ∈ ws, 0 ≤ x) : ∀ k, k ≤ ws.length → missTo size S ws k ≤ size
  | 0, _ => by simp [missTo]
  | k + 1, hk => by
    have := miss_le hS0 h0 h k (by omega)
    have := partAt_nonneg (size := size) hS0 h0 h (k := k) (by omega)
    rw [missTo]; omega
/-- Fewer are missing than there are weights. -/
theorem miss_lt (hS : S = ws.sum) (hS0 : 0 < S) (hn : 0 < ws.length) : missTo size S ws ws.length < ws.length := by
  have e := miss_eq (size := size) (S := S) (ws := ws) ws.length (Nat.le_refl _)
  rw [List.take_length, ← hS, Int.sub_self, Int.mul_zero, Int.zero_add] at e
  have h3 := (rests_sum (size := size) (ws := ws) hS0 ws.length).2
  have e2 : (S - 1) * (ws.length : Int) = S * ws.length - ws.length := by rw [Int.sub_mul, Int.one_mul]
  have h4 : S * missTo size S ws ws.length < S * ws.length := by omega
  exact Int.lt_of_mul_lt_mul_left h4 (by omega)
theorem part_le (hS : S = ws.sum) (hS0 : 0 < S) (h0 : 0 ≤ size) (h : ∀ x ∈ ws, 0 ≤ x) {k : Nat} (hk : k < ws.length) : partAt size S ws k ≤ size := by
  have h1 := miss_nonneg (size := size) hS hS0 h0 h (k := k + 1) (by omega)
  have h2 := miss_le (size := size) hS0 h0 h k (by omega)
  rw [missTo] at h1; omega
theorem fill_sum : ∀ k, k ≤ ws.length → (fillTo (partAt size S ws) ws.length k).sum + missTo size S ws k = size := by
  have hz : ∀ (n : Nat), (List.replicate n (0 : Int)).sum = 0 := by intro n; induction n with
    | zero => rfl
    | succ n ih => rw [List.replicate_succ, List.sum_cons, ih]; rfl
  have hset : ∀ (l : List Int) (i : Nat) (x : Int), i < l.length → (l.set i x).sum = l.sum - l.getD i 0 + x := by
    intro l; induction l with
    | nil => intro i x h; simp at h
    | cons a l ih =>
      intro i x h
      cases i with
      | zero => simp; omega
      | succ i => simp only [List.set_cons_succ, List.sum_cons, List.getD_cons_succ]; rw [ih i x (by simpa using h)]; omega
  intro k
  induction k with
  | zero => intro _; rw [fillTo_zero, hz, missTo]; omega
  | succ k ih =>
    intro hk
    have := ih (by omega)
    rw [← fillTo_set, hset _ _ _ (by rw [fillTo_length]; omega), fillTo_at _ _ _ _ (by omega), if_neg (by omega), missTo]
    omega
end
theorem set_sum (l : List Int) : ∀ (i : Nat) (x : Int), i < l.length → (l.set i x).sum = l.sum - l.getD i 0 + x := by
  induction l with
  | nil => intro i x h; simp at h
  | cons a l ih =>
    intro i x h
    cases i with
    | zero => simp; omega
    | succ i => simp only [List.set_cons_succ, List.sum_cons, List.getD_cons_succ]; rw [ih i x (by simpa using h)]; omega
theorem set_nonneg {l : List Int} (h : ∀ x ∈ l, 0 ≤ x) {i : Nat} {y : Int} (hy : 0 ≤ y) : ∀ x ∈ l.set i y, 0 ≤ x := by
  intro x hx
  rcases List.mem_or_eq_of_mem_set hx with h1 | h1
  · exact h x h1
  · rw [h1]; exact hy
theorem getD_nonneg {l : List Int} (h : ∀ x ∈ l, 0 ≤ x) (i : Nat) : 0 ≤ l.getD i 0 := by
  by_cases hi : i < l.length
  · exact h _ (getD_mem hi)
  · rw [List.getD_eq_getElem?_getD, List.getElem?_eq_none (by omega)]; simp
theorem getD_le_sum {l : List Int} (h : ∀ x ∈ l, 0 ≤ x) (i : Nat) : l.getD i 0 ≤ l.sum := by
  induction l generalizing i with
  | nil => simp
  | cons a l ih =>
    have h0 := h a (by simp)
    have h1 := ih (fun x hx => h x (by simp [hx]))
    cases i with
    | zero =>
      have : 0 ≤ l.sum := by have := h1 l.length; rw [List.getD_eq_getElem?_getD, List.getElem?_eq_none (by omega)] at this; simpa using this
      simp; omega
    | succ i => have := h1 i; simp only [List.getD_cons_succ, List.sum_cons]; omega
theorem giveN_length (s : List Int × List Int) : ∀ j, (giveN s j).1.length = s.1.length ∧ (giveN s j).2.length = s.2.length
  | 0 => ⟨rfl, rfl⟩
  | j + 1 => by have := giveN_length s j; simp [giveN, giveOne, this.1, this.2]
theorem gr_lt {rs : List Int} (h : 0 < rs.length) : gr rs < rs.length := grTo_lt rs _ h
theorem giveN_out {s : List Int × List Int} (h : ∀ x ∈ s.1, 0 ≤ x) (hl : s.1.length = s.2.length) (h0 : 0 < s.1.length) : ∀ j, (∀ x ∈ (giveN s j).1, 0 ≤ x) ∧ (giveN s j).1.sum = s.1.sum + j
  | 0 => ⟨h, by simp [giveN]⟩
  | j + 1 => by
    have ih := giveN_out h hl h0 j
    have hL := giveN_length s j
    have hg := gr_lt (rs := (giveN s j).2) (by omega)
    refine ⟨?_, ?_⟩
    · exact set_nonneg ih.1 (by have := getD_nonneg ih.1 (gr (giveN s j).2); omega)
    · rw [giveN, giveOne, set_sum _ _ _ (by omega), ih.2]; omega
theorem fillTo_nonneg {f : Nat → Int} {n k : Nat} (h : ∀ i, i < n → 0 ≤ f i) : ∀ x ∈ fillTo f n k, 0 ≤ x := by
  intro x hx
  simp only [fillTo, List.mem_map, List.mem_range] at hx
  obtain ⟨i, hi, rfl⟩ := hx
  split
  · exact h i hi
  · omega
/-- The portions after i rounds of the last loop: of the other sign, where the total is below 0. -/
def negTo (t : Int) (o : List Int) (i : Nat) : List Int := (List.range o.length).map fun j => if t < 0 ∧ j < i then -o.getD j 0 else o.getD j 0
theorem negTo_length (t : Int) (o : List Int) (i : Nat) : (negTo t o i).length = o.length := by simp [negTo]
theorem negTo_zero (t : Int) (o : List Int) : negTo t o 0 = o := by
  apply List.ext_getElem
  · simp [negTo]
  · intro j h1 h2; simp [negTo, List.getD_eq_getElem?_getD, List.getElem?_eq_getElem h2]
theorem negTo_set {t : Int} (ht : t < 0) (o : List Int) (i : Nat) : (negTo t o i).set i (-o.getD i 0) = negTo t o (i + 1) := by
  apply List.ext_getElem
  · simp [negTo]
  · intro j h1 h2
    simp only [negTo, List.getElem_set, List.getElem_map, List.getElem_range]
    split
    · subst_vars; simp [ht]
    · by_cases h : j < i
      · simp [h, show j < i + 1 by omega]
      · simp [h, show ¬ j < i + 1 by omega]
theorem negTo_pos {t : Int} (ht : 0 ≤ t) (o : List Int) (i : Nat) : negTo t o i = o := by
  apply List.ext_getElem
  · simp [negTo]
  · intro j h1 h2; simp [negTo, show ¬ t < 0 by omega, List.getD_eq_getElem?_getD, List.getElem?_eq_getElem h2]
theorem negTo_at (t : Int) (o : List Int) (i : Nat) (h : i < o.length) : (negTo t o i).getD i 0 = o.getD i 0 := by
  simp [negTo, List.getD_eq_getElem?_getD, h]
theorem negTo_all {t : Int} (ht : t < 0) (o : List Int) : negTo t o o.length = o.map (fun x => -x) := by
  apply List.ext_getElem
  · simp [negTo]
  · intro j h1 h2
    have h3 : j < o.length := by simpa using h2
    simp [negTo, ht, h3, List.getD_eq_getElem?_getD]
theorem gr_le_sum {l : List Int} {s : Int} (h : ∀ x ∈ l, 0 ≤ x) (hs : l.sum ≤ s) (i : Nat) : 0 ≤ l.getD i 0 ∧ l.getD i 0 ≤ s :=
  ⟨getD_nonneg h i, Int.le_trans (getD_le_sum h i) hs⟩
/-- What the second loop goes with. -/
theorem give_facts {size S : Int} {ws : List Int} (hS0 : 0 < S) (h0 : 0 ≤ size) (h : ∀ x ∈ ws, 0 ≤ x) (hn : 0 < ws.length) (j : Nat) :
    let s := giveN (fillTo (partAt size S ws) ws.length ws.length, fillTo (restAt size S ws) ws.length ws.length) j
    s.1.length = ws.length ∧ s.2.length = ws.length ∧ (∀ x ∈ s.1, 0 ≤ x) ∧ s.1.sum = size - missTo size S ws ws.length + j := by
  have hl := giveN_length (fillTo (partAt size S ws) ws.length ws.length, fillTo (restAt size S ws) ws.length ws.length) j
  have ho := giveN_out (s := (fillTo (partAt size S ws) ws.length ws.length, fillTo (restAt size S ws) ws.length ws.length)) (fillTo_nonneg (fun i hi => partAt_nonneg hS0 h0 h hi)) (by simp [fillTo_length]) (by simp [fillTo_length]; exact hn) j
  have hf := fill_sum (size := size) (S := S) (ws := ws) ws.length (Nat.le_refl _)
  refine ⟨by rw [hl.1, fillTo_length], by rw [hl.2, fillTo_length], ho.1, ?_⟩
  rw [ho.2]; show (fillTo _ _ _).sum + _ = _; omega
theorem getD_set_self {l : List Int} {i : Nat} (h : i < l.length) (x : Int) : (l.set i x).getD i 0 = x := by
  simp [List.getD_eq_getElem?_getD, h]
end Go.Proofs.Ytophfbnajelknaa

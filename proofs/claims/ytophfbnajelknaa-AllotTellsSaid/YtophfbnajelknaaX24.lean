import Derived.Test.YtophfbnajelknaaX23
/- Reference R13: Some, plain part. -/
namespace Go.Proofs.Ytophfbnajelknaa
open Go.RowKit

theorem ok_lt {last most : Int} : ∀ {l : List Int}, okFrom last most l = true → ∀ i j, i < j → j < l.length → l.getD i 0 < l.getD j 0
  | [], _, i, j, _, hj => by simp at hj
  | a :: l, h, i, j, hij, hj => by
    simp only [okFrom, Bool.and_eq_true, decide_eq_true_eq] at h
    rcases j with _ | j
    · omega
    · have hj' : j < l.length := by simpa using hj
      rw [List.getD_cons_succ]
      rcases i with _ | i
      · rw [List.getD_cons_zero]
        exact (okFrom_mem h.2 _ (getD_mem hj')).1
      · rw [List.getD_cons_succ]
        exact ok_lt h.2 i j (by omega) hj'
/-- How far the places have come, at i. -/
structure MergeI (whose : List Int) (i k : Nat) : Prop where
  le : k ≤ whose.length
  lo : ∀ j, j < k → whose.getD j 0 < i
  hi : k < whose.length → (i : Int) ≤ whose.getD k 0
theorem MergeI.hit {last most : Int} {whose : List Int} {i k : Nat} (h : MergeI whose i k) (ho : okFrom last most whose = true) (hk : k < whose.length) (e : whose.getD k 0 = i) : MergeI whose (i + 1) (k + 1) ∧ whose.contains (i : Int) = true := by
  refine ⟨⟨hk, fun j hj => ?_, fun hk' => ?_⟩, ?_⟩
  · rcases Nat.lt_or_eq_of_le (Nat.le_of_lt_succ hj) with h1 | h1
    · have := h.lo j h1; omega
    · rw [h1, e]; omega
  · have := ok_lt ho k (k + 1) (by omega) hk'; omega
  · rw [List.contains_eq_mem, decide_eq_true_iff, ← e]; exact getD_mem hk
theorem MergeI.miss {last most : Int} {whose : List Int} {i k : Nat} (h : MergeI whose i k) (ho : okFrom last most whose = true) (hne : k < whose.length → whose.getD k 0 ≠ i) : MergeI whose (i + 1) k ∧ whose.contains (i : Int) = false := by
  refine ⟨⟨h.le, fun j hj => by have := h.lo j hj; omega, fun hk => by have := h.hi hk; have := hne hk; omega⟩, ?_⟩
  rw [Bool.eq_false_iff]
  intro hc
  rw [List.contains_eq_mem, decide_eq_true_iff] at hc
  obtain ⟨j, hj, e⟩ := List.mem_iff_getElem.1 hc
  have e' : whose.getD j 0 = i := by rw [List.getD_eq_getElem?_getD, List.getElem?_eq_getElem hj]; exact e
  rcases Nat.lt_trichotomy j k with h1 | h1 | h1
  · have := h.lo j h1; omega
  · subst h1; exact hne hj e'
  · have h2 := ok_lt ho k j h1 hj
    have := h.hi (by omega)
    omega
theorem MergeI.start {last most : Int} {whose : List Int} (hl : -1 ≤ last) (ho : okFrom last most whose = true) : MergeI whose 0 0 :=
  ⟨Nat.zero_le _, fun j hj => by omega, fun hk => by have := (okFrom_mem ho _ (getD_mem hk)).1; omega⟩
theorem MergeI.all {last : Int} {n : Nat} {whose : List Int} {k : Nat} (h : MergeI whose n k) (ho : okFrom last n whose = true) : k = whose.length := by
  rcases Nat.lt_or_ge k whose.length with h1 | h1
  · have := h.hi h1
    have := (okFrom_mem ho _ (getD_mem h1)).2
    omega
  · have := h.le; omega
theorem other_yes {whose : List Int} {n i : Nat} (hi : i < n) (h : whose.contains (i : Int) = false) : otherB whose n i = true := by
  unfold otherB; rw [h]; simp; omega
theorem other_no {whose : List Int} {n i : Nat} (h : whose.contains (i : Int) = true) : otherB whose n i = false := by
  unfold otherB; rw [h]; simp
/-- The others' sum so far. -/
def otherTo (alone whose : List Int) (i : Nat) : Int := sumQ (otherB whose alone.length) (fun i => alone.getD i.toNat 0) i
theorem otherTo_yes {alone whose : List Int} {i : Nat} (h : otherB whose alone.length i = true) : otherTo alone whose (i + 1) = otherTo alone whose i + alone.getD i 0 := by
  rw [otherTo, sumQ, h]; rfl
theorem otherTo_no {alone whose : List Int} {i : Nat} (h : otherB whose alone.length i = false) : otherTo alone whose (i + 1) = otherTo alone whose i := by
  rw [otherTo, sumQ, h]; simp [otherTo]
theorem otherTo_small {alone whose : List Int} (hx : ∀ x ∈ alone, inI x) (hn : ∀ x ∈ alone, 0 ≤ x) (hl : alone.length ≤ 1000) : ∀ i, i ≤ alone.length → 0 ≤ otherTo alone whose i ∧ otherTo alone whose i ≤ 9223372036854775807 * i
  | 0, _ => by simp [otherTo, sumQ]
  | i + 1, h => by
    have ih := otherTo_small (whose := whose) hx hn hl i (by omega)
    have h1 := hx _ (getD_mem (k := i) (xs := alone) (by omega))
    have h2 := hn _ (getD_mem (k := i) (xs := alone) (by omega))
    unfold inI topI at h1
    cases hb : otherB whose alone.length i
    · rw [otherTo_no hb]; omega
    · rw [otherTo_yes hb]; omega
end Go.Proofs.Ytophfbnajelknaa

import Derived.Test.YtophfbnajelknaaA
/- Package portion, allot: plain facts: what is shared out is the total. -/
namespace Go.Proofs.Ytophfbnajelknaa

theorem wrongE_good {ws : List Int} (h : wrongE ws = 0) : ws.length ≤ 64 ∧ 0 < ws.length ∧ (∀ x ∈ ws, 0 ≤ x) ∧ 0 < ws.sum ∧ inI ws.sum := by
  unfold wrongE at h
  split at h
  · cases h
  · rename_i h1
    split at h
    · cases h
    · rename_i h2
      simp only [Bool.or_eq_true, Bool.not_eq_true', not_or, List.any_eq_false, List.any_eq_true, decide_eq_true_eq] at h2
      have hn : ∀ x ∈ ws, 0 ≤ x := fun x hx => Int.not_lt.1 (fun hlt => h2.1 ⟨x, hx, hlt⟩)
      obtain ⟨x, hx, hx0⟩ : ∃ x, x ∈ ws ∧ 0 < x := Classical.byContradiction fun hne => h2.2 fun x hx hlt => hne ⟨x, hx, hlt⟩
      obtain ⟨i, hi, e⟩ := List.mem_iff_getElem.1 hx
      have hs := getD_le_sum hn i
      rw [List.getD_eq_getElem?_getD, List.getElem?_eq_getElem hi, Option.getD_some, e] at hs
      refine ⟨by omega, by omega, hn, by omega, ?_⟩
      by_cases hi : inI ws.sum
      · exact hi
      · rw [fitE_out hi] at h; cases h
theorem outSize_facts {size : Int} {ws : List Int} (hw : wrongE ws = 0) (h0 : 0 ≤ size) : (∀ x ∈ outSize size ws, 0 ≤ x) ∧ (outSize size ws).sum = size ∧ (outSize size ws).length = ws.length := by
  obtain ⟨_, hl, hn, hs, _⟩ := wrongE_good hw
  have hm0 := miss_nonneg (size := size) rfl hs h0 hn (k := ws.length) (Nat.le_refl _)
  have hf := give_facts (size := size) hs h0 hn hl (missTo size ws.sum ws ws.length).toNat
  obtain ⟨f1, _, f3, f4⟩ := hf
  exact ⟨f3, by rw [outSize, f4]; omega, f1⟩
theorem neg_sum (l : List Int) : (l.map fun x => -x).sum = -l.sum := by
  induction l with
  | nil => rfl
  | cons a l ih => rw [List.map_cons, List.sum_cons, List.sum_cons, ih]; omega
theorem getElem_le_sum {l : List Int} (h : ∀ x ∈ l, 0 ≤ x) {x : Int} (hx : x ∈ l) : x ≤ l.sum := by
  obtain ⟨i, hi, e⟩ := List.mem_iff_getElem.1 hx
  have hs := getD_le_sum h i
  rwa [List.getD_eq_getElem?_getD, List.getElem?_eq_getElem hi, Option.getD_some, e] at hs
theorem outE_good {t : Int} {ws : List Int} (h : outE t ws = 0) : wrongE ws = 0 ∧ t ≠ lowI := by
  unfold outE at h
  split at h
  · rename_i h1; exact absurd h h1
  · rename_i h1
    split at h
    · cases h
    · exact ⟨by omega, by assumption⟩
/-- All that is shared out is the total, together. -/
theorem outL_facts {t : Int} {ws : List Int} (ht : inI t) (h : outE t ws = 0) :
    (outL t ws).sum = t ∧ (outL t ws).length = ws.length ∧ (0 ≤ t → ∀ x ∈ outL t ws, 0 ≤ x) ∧ ∀ x ∈ outL t ws, inI x := by
  obtain ⟨hw, hlow⟩ := outE_good h
  rw [outL, h, if_neg (by omega)]
  unfold inI lowI topI at ht
  unfold lowI at hlow
  by_cases hs : t < 0
  · rw [if_pos hs]
    obtain ⟨f1, f2, f3⟩ := outSize_facts (size := -t) hw (by omega)
    refine ⟨by rw [neg_sum, f2]; omega, by rw [List.length_map, f3], fun h => by omega, fun x hx => ?_⟩
    obtain ⟨y, hy, rfl⟩ := List.mem_map.1 hx
    have := f1 y hy
    have := getElem_le_sum f1 hy
    unfold inI lowI topI; omega
  · rw [if_neg hs]
    obtain ⟨f1, f2, f3⟩ := outSize_facts (size := t) hw (by omega)
    refine ⟨f2, f3, fun _ => f1, fun x hx => ?_⟩
    have := f1 x hx
    have := getElem_le_sum f1 hx
    unfold inI lowI topI; omega
theorem outL_bad {t : Int} {ws : List Int} (h : outE t ws ≠ 0) : outL t ws = [] := by rw [outL, if_pos h]
end Go.Proofs.Ytophfbnajelknaa

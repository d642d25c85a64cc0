import Derived.Test.YtophfbnajelknaaO2
/- Layer 13: the plain laws. -/
namespace Go.Proofs.Ytophfbnajelknaa

theorem zero_of_sum {l : List Int} (h : ∀ x ∈ l, 0 ≤ x) (hs : l.sum = 0) : ∀ x ∈ l, x = 0 := fun x hx => by have := getElem_le_sum h hx; have := h x hx; omega
theorem allE_good {price : Int} {ws : List Int} (h : allE price ws = 0) : 0 ≤ price ∧ outE price ws = 0 ∧ allL price ws = outL price ws := by
  unfold allE at h
  split at h
  · cases h
  · rename_i hp
    exact ⟨by omega, h, by rw [allL, if_neg hp]⟩
theorem addL_at {s d : List Int} {i : Nat} (h : i < s.length) : (addL s d).getD i 0 = s.getD i 0 + d.getD i 0 := by simp [addL, List.getD_eq_getElem?_getD, h]
theorem addL_length (s d : List Int) : (addL s d).length = s.length := by simp [addL]
theorem ext_getD {l m : List Int} (hl : l.length = m.length) (h : ∀ i, i < l.length → l.getD i 0 = m.getD i 0) : l = m := by
  apply List.ext_getElem hl
  intro i h1 h2
  have := h i h1
  simpa [List.getD_eq_getElem?_getD, List.getElem?_eq_getElem h1, List.getElem?_eq_getElem h2] using this
theorem outE_zero {t : Int} {ws : List Int} (h : outE t ws = 0) {u : Int} (hu : u ≠ lowI) : outE u ws = 0 := by
  have := outE_good h
  rw [outE, if_neg (by rw [this.1]; simp), if_neg hu]
/-- What was allotted, allotted again with the same price, stays. -/
theorem again_stays {price : Int} {ws : List Int} (hp : inI price) (h : allE price ws = 0) : againE price (allL price ws) ws = 0 ∧ againL price (allL price ws) ws = allL price ws := by
  obtain ⟨h0, ho, hl⟩ := allE_good h
  rw [hl]
  obtain ⟨f1, f2, f3, f4⟩ := outL_facts hp ho
  have hi : inI (outL price ws).sum := by rw [f1]; exact hp
  have e1 : leftV price (outL price ws) = 0 := by rw [leftV, if_pos hi, f1, Int.sub_self]; exact fitV_in inI_zero
  have e2 : leftE price (outL price ws) = 0 := by rw [leftE, if_pos hi, f1, Int.sub_self]; exact fitE_in inI_zero
  have e3 : outE 0 ws = 0 := outE_zero ho (by unfold lowI; omega)
  obtain ⟨g1, g2, g3, g4⟩ := outL_facts inI_zero e3
  have hz := zero_of_sum (g3 (by omega)) g1
  have hz' : ∀ i, (outL 0 ws).getD i 0 = 0 := by
    intro i
    by_cases h : i < (outL 0 ws).length
    · exact hz _ (getD_mem h)
    · rw [List.getD_eq_getElem?_getD, List.getElem?_eq_none (by omega)]; rfl
  have eL : addL (outL 0 ws) (outL price ws) = outL price ws := by
    refine ext_getD (by rw [addL_length, g2, f2]) (fun i h => ?_)
    rw [addL_length] at h
    rw [addL_at h, hz' i]; omega
  have eE : addE (outL 0 ws) (outL price ws) = 0 := by
    rw [addE, if_pos]
    rw [List.all_eq_true]
    intro i h
    have h' := List.mem_range.1 h
    rw [hz' i, Int.zero_add]
    simpa using f4 _ (getD_mem (by omega))
  have hE : againE price (outL price ws) ws = 0 := by
    rw [againE, if_neg (by omega), if_neg (by rw [e2]; simp), e1, if_neg (by rw [e3]; simp), eE]
  exact ⟨hE, by rw [againL, if_neg (by rw [hE]; simp), e1, eL]⟩
theorem againE_good {t : Int} {done ws : List Int} (h : againE t done ws = 0) :
    done.length = ws.length ∧ leftE t done = 0 ∧ outE (leftV t done) ws = 0 ∧ addE (outL (leftV t done) ws) done = 0 ∧ againL t done ws = addL (outL (leftV t done) ws) done := by
  have h' := h
  unfold againE at h
  split at h
  · cases h
  · rename_i h1
    split at h
    · rename_i h2; exact absurd h h2
    · rename_i h2
      split at h
      · rename_i h3; exact absurd h h3
      · rename_i h3
        exact ⟨by omega, by omega, by omega, h, by rw [againL, if_neg (by rw [h']; simp)]⟩
/-- With more of the price each gets no less. -/
theorem again_more {price more : Int} {ws : List Int} (hp : inI price) (hm : 0 ≤ more) (hmi : inI more) (h : allE price ws = 0) (h2 : againE (price + more) (allL price ws) ws = 0) :
    (againL (price + more) (allL price ws) ws).length = (allL price ws).length ∧ ∀ i, i < (allL price ws).length → (allL price ws).getD i 0 ≤ (againL (price + more) (allL price ws) ws).getD i 0 := by
  obtain ⟨h0, ho, hl⟩ := allE_good h
  obtain ⟨a1, a2, a3, a4, a5⟩ := againE_good h2
  rw [a5]
  rw [hl] at a1 a2 a3 a4 ⊢
  obtain ⟨f1, f2, f3, f4⟩ := outL_facts hp ho
  have hi : inI (outL price ws).sum := by rw [f1]; exact hp
  have e1 : leftV (price + more) (outL price ws) = more := by rw [leftV, if_pos hi, f1, show price + more - price = more by omega]; exact fitV_in hmi
  rw [e1] at a3 ⊢
  obtain ⟨g1, g2, g3, g4⟩ := outL_facts hmi a3
  refine ⟨by rw [addL_length, g2, f2], fun i h => ?_⟩
  rw [addL_at (by omega)]
  have := getD_nonneg (g3 hm) i
  omega
end Go.Proofs.Ytophfbnajelknaa

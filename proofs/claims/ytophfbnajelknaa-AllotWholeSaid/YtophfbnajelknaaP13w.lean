import Derived.Test.YtophfbnajelknaaP13n
/- Layer 13: the plain law of AllotWhole. -/
namespace Go.Proofs.Ytophfbnajelknaa

/-- What is allotted is the price, together; or nothing is. -/
def Whole (price : Int) (n : Nat) (E : Int) (L : List Int) : Prop := (E ≠ 0 → L = []) ∧ (E = 0 → L.sum = price ∧ L.length = n) ∧ ∀ x ∈ L, inI x

theorem all_whole {price : Int} {ws : List Int} (hp : inI price) : Whole price ws.length (allE price ws) (allL price ws) := by
  by_cases h0 : price < 0
  · rw [allE, allL, if_pos h0, if_pos h0]
    exact ⟨fun _ => rfl, fun h => (by cases h), fun x hx => by simp at hx⟩
  · rw [allE, allL, if_neg h0, if_neg h0]
    by_cases h : outE price ws = 0
    · obtain ⟨f1, f2, f3, f4⟩ := outL_facts hp h
      exact ⟨fun h' => absurd h h', fun _ => ⟨f1, f2⟩, f4⟩
    · rw [outL_bad h]
      exact ⟨fun _ => rfl, fun h' => absurd h' h, fun x hx => by simp at hx⟩
theorem range_sum_add (s d : List Int) : ∀ n, n ≤ s.length → n ≤ d.length → ((List.range n).map fun i => s.getD i 0 + d.getD i 0).sum = (s.take n).sum + (d.take n).sum
  | 0, _, _ => by simp
  | n + 1, h, h' => by
    rw [List.range_succ, List.map_append, List.sum_append, range_sum_add s d n (by omega) (by omega), take_sum_snoc s n (by omega), take_sum_snoc d n (by omega)]
    simp only [List.map_cons, List.map_nil, List.sum_cons, List.sum_nil]; omega
theorem addL_sum {s d : List Int} (h : s.length = d.length) : (addL s d).sum = s.sum + d.sum := by
  rw [addL, range_sum_add s d _ (Nat.le_refl _) (by omega), List.take_length, h, List.take_length]
theorem again_whole {price : Int} {done ws : List Int} : Whole price ws.length (againE price done ws) (againL price done ws) := by
  by_cases h : againE price done ws = 0
  · obtain ⟨a1, a2, a3, a4, a5⟩ := againE_good h
    have hin : inI (leftV price done) := by unfold leftV; split; exact inI_fitV _; exact inI_zero
    obtain ⟨g1, g2, g3, g4⟩ := outL_facts hin a3
    have hl := leE_good (t := price) (s := done.sum) a2
    have e : leftV price done = price - done.sum := hl.2.2
    refine ⟨fun h' => absurd h h', fun _ => ⟨?_, by rw [a5, addL_length, g2]⟩, fun x hx => ?_⟩
    · rw [a5, addL_sum (by omega), g1, e]; omega
    · rw [a5] at hx
      simp only [addL, List.mem_map, List.mem_range] at hx
      obtain ⟨i, hi, rfl⟩ := hx
      by_cases ha : (List.range (outL (leftV price done) ws).length).all (fun i => decide (inI ((outL (leftV price done) ws).getD i 0 + done.getD i 0))) = true
      · rw [List.all_eq_true] at ha
        simpa using ha i (List.mem_range.2 hi)
      · rw [addE, if_neg ha] at a4; cases a4
  · rw [againL, if_pos h]
    exact ⟨fun _ => rfl, fun h' => absurd h' h, fun x hx => by simp at hx⟩
theorem putTo_other {out whose sh : List Int} {i : Nat} (hw : ∀ x ∈ whose, 0 ≤ x) (h : whose.contains (i : Int) = false) : ∀ k, k ≤ whose.length → (putTo out whose sh k).getD i 0 = out.getD i 0
  | 0, _ => rfl
  | k + 1, hk => by
    have hne : (whose.getD k 0).toNat ≠ i := by
      intro e
      have h0 := hw _ (getD_mem (k := k) (xs := whose) (by omega))
      have : whose.getD k 0 = (i : Int) := by omega
      have hm := getD_mem (k := k) (xs := whose) (by omega)
      rw [this] at hm
      rw [List.contains_iff_mem.2 hm] at h; cases h
    rw [putTo, List.getD_eq_getElem?_getD, List.getElem?_set_ne hne, ← List.getD_eq_getElem?_getD, putTo_other hw h k (by omega)]
theorem putTo_before {out whose sh : List Int} {i : Nat} (hw : ∀ x ∈ whose, 0 ≤ x) : ∀ k, k ≤ whose.length → (whose.take k).contains (i : Int) = false → (putTo out whose sh k).getD i 0 = out.getD i 0
  | 0, _, _ => rfl
  | k + 1, hk, h => by
    have e1 : whose.getD k 0 = whose[k] := by simp [List.getD_eq_getElem?_getD, List.getElem?_eq_getElem (show k < whose.length by omega)]
    rw [List.take_succ_eq_append_getElem (show k < whose.length by omega), ← e1] at h
    simp only [List.contains_eq_mem, List.mem_append, List.mem_singleton, decide_eq_false_iff_not, not_or] at h
    have h0 := hw _ (getD_mem (k := k) (xs := whose) (by omega))
    have hne : (whose.getD k 0).toNat ≠ i := by intro e; exact h.2 (by omega)
    rw [putTo, List.getD_eq_getElem?_getD, List.getElem?_set_ne hne, ← List.getD_eq_getElem?_getD, putTo_before hw k (by omega) (by simpa using h.1)]
theorem putTo_sum {out whose sh : List Int} (hr : okFrom (-1) out.length whose = true) (hl : sh.length = whose.length) : ∀ k, k ≤ whose.length → (putTo out whose sh k).sum = out.sum - (ofL out (whose.take k)).sum + (sh.take k).sum
  | 0, _ => by simp [putTo, ofL]
  | k + 1, hk => by
    have hm := okFrom_mem hr _ (getD_mem (k := k) (xs := whose) (by omega))
    have hw : ∀ x ∈ whose, 0 ≤ x := fun x hx => by have := okFrom_mem hr x hx; omega
    have hb := putTo_before (out := out) (sh := sh) (i := (whose.getD k 0).toNat) hw k (by omega) (by rw [Int.toNat_of_nonneg (by omega)]; exact okFrom_take_notin hr k (by omega))
    rw [putTo, set_sum _ _ _ (by rw [putTo_length]; omega), putTo_sum hr hl k (by omega), hb, ofL_take _ _ _ (by omega), List.sum_append, take_sum_snoc sh k (by omega)]
    simp only [List.sum_cons, List.sum_nil]; omega
theorem putTo_mem {out whose sh : List Int} (Q : Int → Prop) (h1 : ∀ x ∈ out, Q x) (h2 : ∀ x ∈ sh, Q x) (hl : sh.length = whose.length) : ∀ k, k ≤ whose.length → ∀ x ∈ putTo out whose sh k, Q x
  | 0, _ => h1
  | k + 1, hk => by
    intro x hx
    rw [putTo] at hx
    rcases List.mem_or_eq_of_mem_set hx with h | h
    · exact putTo_mem Q h1 h2 hl k (by omega) x h
    · rw [h]; exact h2 _ (getD_mem (by omega))
theorem some_whole {price : Int} {alone whose : List Int} (ha : ∀ x ∈ alone, inI x) : Whole price alone.length (someE price alone whose) (someL price alone whose) := by
  by_cases h : someE price alone whose = 0
  · obtain ⟨h1, h2, h3, h4, h5⟩ := someE_good h
    obtain ⟨_, _, hr, _⟩ := someBad_good h1
    obtain ⟨_, h7, h6⟩ := leE_good h2
    have hs := split_sum hr
    obtain ⟨g1, g2, g3, g4⟩ := outL_facts (by rw [h6]; exact h7) h4
    have hl : (outL (leV price (othersSum alone whose)) (ofL alone whose)).length = whose.length := by rw [g2]; simp [ofL]
    refine ⟨fun h' => absurd h h', fun _ => ⟨?_, by rw [h5, putTo_length]⟩, ?_⟩
    · rw [h5, putTo_sum hr hl _ (Nat.le_refl _), List.take_length, ← hl, List.take_length, g1, h6]; omega
    · rw [h5]; exact putTo_mem inI ha g4 hl _ (Nat.le_refl _)
  · rw [someL, if_pos h]
    exact ⟨fun _ => rfl, fun h' => absurd h' h, fun x hx => by simp at hx⟩
/-- Allotted to some: each other one gets what it is alone; none gets below 0. -/
theorem some_others {price : Int} {alone whose : List Int} (h : someE price alone whose = 0) {i : Nat} :
    0 ≤ (someL price alone whose).getD i 0 ∧ (whose.contains (i : Int) = false → (someL price alone whose).getD i 0 = alone.getD i 0) := by
  obtain ⟨h1, h2, h3, h4, h5⟩ := someE_good h
  obtain ⟨_, hn, hr, _⟩ := someBad_good h1
  obtain ⟨_, h7, h6⟩ := leE_good h2
  obtain ⟨g1, g2, g3, g4⟩ := outL_facts (by rw [h6]; exact h7) h4
  have hl : (outL (leV price (othersSum alone whose)) (ofL alone whose)).length = whose.length := by rw [g2]; simp [ofL]
  rw [h5]
  refine ⟨getD_nonneg (putTo_mem (fun x => 0 ≤ x) hn (g3 h3) hl _ (Nat.le_refl _)) i, fun hc => putTo_other (fun x hx => ?_) hc _ (Nat.le_refl _)⟩
  have := okFrom_mem hr x hx; omega
end Go.Proofs.Ytophfbnajelknaa

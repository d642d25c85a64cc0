import Derived.Test.YtophfbnajelknaaP13
import Derived.Test.YtophfbnajelknaaSome
/- Layer 13: the plain law of AllotNone, and what AllotWhole needs. -/
namespace Go.Proofs.Ytophfbnajelknaa

theorem missTo_self {S : Int} {ws : List Int} (hS : S ≠ 0) : ∀ k, k ≤ ws.length → missTo S S ws k = S - (ws.take k).sum
  | 0, _ => by simp [missTo]
  | k + 1, h => by
    have e : partAt S S ws k = ws.getD k 0 := by rw [partAt, Int.mul_ediv_cancel_left _ hS]
    rw [missTo, missTo_self hS k (by omega), take_sum_snoc ws k (by omega), e]; omega
theorem outSize_self {ws : List Int} (hS : 0 < ws.sum) : outSize ws.sum ws = ws := by
  have hm : missTo ws.sum ws.sum ws ws.length = 0 := by rw [missTo_self (by omega) _ (Nat.le_refl _), List.take_length]; omega
  rw [outSize, hm]
  show fillTo _ _ _ = ws
  refine ext_getD (fillTo_length _ _ _) (fun i h => ?_)
  rw [fillTo_length] at h
  rw [fillTo_at _ _ _ _ h, if_pos h, partAt, Int.mul_ediv_cancel_left _ (by omega)]
theorem outL_self {ws : List Int} (h : outE ws.sum ws = 0) : outL ws.sum ws = ws := by
  obtain ⟨h1, h2⟩ := outE_good h
  obtain ⟨_, _, _, h3, _⟩ := wrongE_good h1
  rw [outL, if_neg (by omega), if_neg (by omega), outSize_self h3]
theorem sum_pos : ∀ {ws : List Int}, (∀ x ∈ ws, 1 ≤ x) → 0 < ws.length → 0 < ws.sum
  | [], _, h => by simp at h
  | a :: l, h, _ => by
    have h1 := h a (by simp)
    have h2 : ∀ l : List Int, (∀ x ∈ l, 1 ≤ x) → 0 ≤ l.sum := by
      intro l; induction l with
      | nil => simp
      | cons b m ih => intro hl; have := hl b (by simp); have := ih (fun x hx => hl x (by simp [hx])); simp; omega
    have := h2 l (fun x hx => h x (by simp [hx]))
    rw [List.sum_cons]; omega
theorem wrongE_pos {ws : List Int} (h : ∀ x ∈ ws, 1 ≤ x) (h0 : 0 < ws.length) (hl : ws.length ≤ 64) (hi : inI ws.sum) : wrongE ws = 0 := by
  have e1 : (ws.any fun x => decide (x < 0)) = false := by
    rw [List.any_eq_false]; intro x hx; have := h x hx; simp; omega
  have e2 : (ws.any fun x => decide (0 < x)) = true := by
    rw [List.any_eq_true]; exact ⟨_, getD_mem h0, decide_eq_true (by have := h _ (getD_mem h0); omega)⟩
  rw [wrongE, if_neg (by omega), e1, e2]; simp [fitE_in hi]
/-- Allotted to all, the sum of what each is alone: each gets that. -/
theorem all_self {ws : List Int} (h : ∀ x ∈ ws, 1 ≤ x) (h0 : 0 < ws.length) (hl : ws.length ≤ 64) (hi : inI ws.sum) : allE ws.sum ws = 0 ∧ allL ws.sum ws = ws := by
  have hp := sum_pos h h0
  have ho : outE ws.sum ws = 0 := by rw [outE, if_neg (by rw [wrongE_pos h h0 hl hi]; simp), if_neg (by unfold lowI; omega)]
  exact ⟨by rw [allE, if_neg (by omega), ho], by rw [allL, if_neg (by omega), outL_self ho]⟩
/-- Of one obligation it is the price. -/
theorem all_one {price : Int} (hp : inI price) (h : 0 ≤ price) : allE price [7] = 0 ∧ allL price [7] = [price] := by
  have ho : outE price [7] = 0 := by rw [outE, if_neg (by decide +kernel), if_neg (by unfold lowI; omega)]
  obtain ⟨f1, f2, _, _⟩ := outL_facts hp ho
  refine ⟨by rw [allE, if_neg (by omega), ho], ?_⟩
  rw [allL, if_neg (by omega)]
  obtain ⟨x, hx⟩ := List.length_eq_one_iff.1 f2
  rw [hx] at f1 ⊢
  simp at f1; rw [f1]

theorem oneP_in {n : Nat} {i : Int} (h0 : 0 ≤ i) (h1 : i < n) : oneP n i = true := by unfold oneP; simp; omega
theorem sumQ_all (l : List Int) : ∀ n, n ≤ l.length → sumQ (oneP l.length) (fun i => l.getD i.toNat 0) n = (l.take n).sum
  | 0, _ => by simp [sumQ]
  | n + 1, h => by rw [sumQ, sumQ_all l n (by omega), oneP_in (by omega) (by omega), if_pos rfl, take_sum_snoc l n (by omega)]; rfl
theorem okFrom_take_notin {last most : Int} : ∀ {l : List Int}, okFrom last most l = true → ∀ k, k < l.length → (l.take k).contains (l.getD k 0) = false
  | [], _, k, h => by simp at h
  | a :: l, h, k, hk => by
    simp only [okFrom, Bool.and_eq_true, decide_eq_true_eq] at h
    cases k with
    | zero => simp
    | succ k =>
      have ih := okFrom_take_notin h.2 k (by simpa using hk)
      have := okFrom_mem h.2 _ (getD_mem (k := k) (xs := l) (by simpa using hk))
      rw [List.getD_cons_succ, List.take_succ_cons, List.contains_cons, ih, Bool.or_false, beq_eq_false_iff_ne]
      omega
theorem split_to {alone whose : List Int} (h : okFrom (-1) alone.length whose = true) : ∀ k, k ≤ whose.length →
    sumQ (strikeTo alone.length whose k) (fun i => alone.getD i.toNat 0) alone.length + (ofL alone (whose.take k)).sum = alone.sum
  | 0, _ => by
    have : sumQ (strikeTo alone.length whose 0) (fun i => alone.getD i.toNat 0) alone.length = sumQ (oneP alone.length) (fun i => alone.getD i.toNat 0) alone.length := sumQ_congr _ (fun i _ => ⟨strikeTo_zero _ _ _, rfl⟩)
    rw [this, sumQ_all alone _ (Nat.le_refl _), List.take_length]; simp [ofL]
  | k + 1, hk => by
    have ih := split_to h k (by omega)
    have hm := okFrom_mem h _ (getD_mem (k := k) (xs := whose) (by omega))
    have hn := okFrom_take_notin h k (by omega)
    have hs := sumQ_strike (q := strikeTo alone.length whose k) (f := fun i => alone.getD i.toNat 0) (x := whose.getD k 0) alone.length (by omega) (by omega) (by unfold strikeTo; rw [oneP_in (by omega) (by omega), hn]; rfl)
    have e : sumQ (strikeTo alone.length whose (k + 1)) (fun i => alone.getD i.toNat 0) alone.length = sumQ (fun i => strikeTo alone.length whose k i && !(i == whose.getD k 0)) (fun i => alone.getD i.toNat 0) alone.length := sumQ_congr _ (fun i _ => ⟨(strikeTo_step _ _ _ (by omega) _).symm, rfl⟩)
    rw [e, ofL_take _ _ _ (by omega), List.sum_append]
    have hs1 := hs.1
    simp only [List.sum_cons, List.sum_nil]
    omega
/-- The others and those of whose, together: all. -/
theorem split_sum {alone whose : List Int} (h : okFrom (-1) alone.length whose = true) : othersSum alone whose + (ofL alone whose).sum = alone.sum := by
  have := split_to h whose.length (Nat.le_refl _)
  rw [List.take_length] at this
  rw [← this, othersSum]
  congr 1
  exact sumQ_congr _ (fun i _ => ⟨(strikeTo_all _ _ _).symm, rfl⟩)
theorem ofL_at (alone whose : List Int) (k : Nat) (h : k < whose.length) : (ofL alone whose).getD k 0 = alone.getD (whose.getD k 0).toNat 0 := by
  simp [ofL, List.getD_eq_getElem?_getD, h]
theorem set_same (l : List Int) (i : Nat) : l.set i (l.getD i 0) = l := by
  apply List.ext_getElem
  · simp
  · intro j h1 h2
    rw [List.getElem_set]
    split
    · subst_vars; rw [List.getD_eq_getElem?_getD, List.getElem?_eq_getElem h2]; rfl
    · rfl
theorem putTo_self (alone whose : List Int) : ∀ k, k ≤ whose.length → putTo alone whose (ofL alone whose) k = alone
  | 0, _ => rfl
  | k + 1, h => by rw [putTo, putTo_self alone whose k (by omega), ofL_at _ _ _ (by omega), set_same]
theorem someE_good {price : Int} {alone whose : List Int} (h : someE price alone whose = 0) :
    someBad price alone whose = false ∧ leE price (othersSum alone whose) = 0 ∧ 0 ≤ leV price (othersSum alone whose) ∧ outE (leV price (othersSum alone whose)) (ofL alone whose) = 0 ∧
    someL price alone whose = putTo alone whose (outL (leV price (othersSum alone whose)) (ofL alone whose)) whose.length := by
  have h' := h
  unfold someE at h
  split at h
  · cases h
  · rename_i h1
    split at h
    · rename_i h2; exact absurd h h2
    · rename_i h2
      split at h
      · cases h
      · rename_i h3
        exact ⟨by simpa using h1, by omega, by omega, h, by rw [someL, if_neg (by omega)]⟩
theorem leE_good {t s : Int} (h : leE t s = 0) : inI s ∧ inI (t - s) ∧ leV t s = t - s := by
  unfold leE at h
  split at h
  · rename_i h1
    have h2 : inI (t - s) := fitE_eq (by rw [h]; rfl)
    exact ⟨h1, h2, by rw [leV, if_pos h1, fitV_in h2]⟩
  · cases h
theorem someBad_good {price : Int} {alone whose : List Int} (h : someBad price alone whose = false) : 0 ≤ price ∧ (∀ x ∈ alone, 0 ≤ x) ∧ okFrom (-1) alone.length whose = true ∧ 0 < whose.length := by
  unfold someBad at h
  simp only [Bool.or_eq_false_iff, decide_eq_false_iff_not, Bool.not_eq_false', List.any_eq_false, decide_eq_true_eq] at h
  obtain ⟨⟨h1, h2⟩, h3⟩ := h
  unfold risesB at h3
  simp only [Bool.and_eq_true, decide_eq_true_eq] at h3
  exact ⟨by omega, fun x hx => by have := h2 x hx; omega, h3.1, h3.2⟩
/-- Allotted to some, where there is no discount: each gets what it is alone. -/
theorem some_self {alone whose : List Int} (h : someE alone.sum alone whose = 0) : someL alone.sum alone whose = alone := by
  obtain ⟨h1, h2, h3, h4, h5⟩ := someE_good h
  obtain ⟨_, _, hr, _⟩ := someBad_good h1
  obtain ⟨_, _, h6⟩ := leE_good h2
  have hs := split_sum hr
  have e : leV alone.sum (othersSum alone whose) = (ofL alone whose).sum := by rw [h6]; omega
  rw [h5, e]
  rw [e] at h4
  rw [outL_self h4, putTo_self _ _ _ (Nat.le_refl _)]
end Go.Proofs.Ytophfbnajelknaa

import Derived.RowKit
/- Plain words of the seat: numbers of 64 bits. -/
namespace Go.Proofs.Ytophfbnajelknaa
open Go.RowKit

def lowI : Int := -9223372036854775808
def topI : Int := 9223372036854775807
/-- An amount: a number of 64 bits. -/
def inI (z : Int) : Prop := lowI ≤ z ∧ z ≤ topI
instance (z : Int) : Decidable (inI z) := by unfold inI; infer_instance
def fitV (z : Int) : Int := if inI z then z else 0
def fitE (z : Int) : Int := if inI z then 0 else 3
theorem fitV_in {z : Int} (h : inI z) : fitV z = z := if_pos h
theorem fitE_in {z : Int} (h : inI z) : fitE z = 0 := if_pos h
theorem fitV_out {z : Int} (h : ¬ inI z) : fitV z = 0 := if_neg h
theorem fitE_out {z : Int} (h : ¬ inI z) : fitE z = 3 := if_neg h
theorem inI_fitV (z : Int) : inI (fitV z) := by
  unfold fitV; split
  · assumption
  · unfold inI lowI topI; omega
theorem inI_zero : inI 0 := by unfold inI lowI topI; omega
theorem wrap_in {z : Int} (h : inI z) : wrap64 z = z := by
  unfold inI lowI topI at h; unfold wrap64; omega
theorem add_test {a b : Int} (ha : inI a) (hb : inI b) : ((decide (wrap64 (a + b) < a)) != (decide (b < 0))) = decide (¬ inI (a + b)) := by
  unfold inI lowI topI at *; unfold wrap64
  rw [Bool.eq_iff_iff]; simp only [bne_iff_ne, ne_eq, decide_eq_decide, decide_eq_true_eq]
  omega
theorem less_test {a b : Int} (ha : inI a) (hb : inI b) : ((decide (wrap64 (a - b) > a)) != (decide (b < 0))) = decide (¬ inI (a - b)) := by
  unfold inI lowI topI at *; unfold wrap64
  rw [Bool.eq_iff_iff]; simp only [bne_iff_ne, ne_eq, decide_eq_decide, decide_eq_true_eq]
  omega
theorem add_no {a b : Int} (ha : inI a) (hb : inI b) (h : (!decide (wrap64 (a + b) < a) == decide (b < 0)) = false) : wrap64 (a + b) = fitV (a + b) ∧ (0 : Int) = fitE (a + b) := by
  have ht := add_test ha hb
  by_cases hi : inI (a + b)
  · exact ⟨by rw [wrap_in hi, fitV_in hi], by rw [fitE_in hi]⟩
  · rw [decide_eq_true hi] at ht; cases hx : decide (wrap64 (a + b) < a) <;> cases hy : decide (b < 0) <;> simp [hx, hy] at ht h
theorem add_yes {a b : Int} (ha : inI a) (hb : inI b) (h : (!decide (wrap64 (a + b) < a) == decide (b < 0)) = true) : 0 = fitV (a + b) ∧ (3 : Int) = fitE (a + b) := by
  have ht := add_test ha hb
  by_cases hi : inI (a + b)
  · rw [decide_eq_false (not_not_intro hi)] at ht; cases hx : decide (wrap64 (a + b) < a) <;> cases hy : decide (b < 0) <;> simp [hx, hy] at ht h
  · exact ⟨by rw [fitV_out hi], by rw [fitE_out hi]⟩
theorem less_no {a b : Int} (ha : inI a) (hb : inI b) (h : (!decide (a < wrap64 (a - b)) == decide (b < 0)) = false) : wrap64 (a - b) = fitV (a - b) ∧ (0 : Int) = fitE (a - b) := by
  have ht := less_test ha hb
  by_cases hi : inI (a - b)
  · exact ⟨by rw [wrap_in hi, fitV_in hi], by rw [fitE_in hi]⟩
  · rw [decide_eq_true hi] at ht; cases hx : decide (a < wrap64 (a - b)) <;> cases hy : decide (b < 0) <;> simp [hx, hy] at ht h
theorem less_yes {a b : Int} (ha : inI a) (hb : inI b) (h : (!decide (a < wrap64 (a - b)) == decide (b < 0)) = true) : 0 = fitV (a - b) ∧ (3 : Int) = fitE (a - b) := by
  have ht := less_test ha hb
  by_cases hi : inI (a - b)
  · rw [decide_eq_false (not_not_intro hi)] at ht; cases hx : decide (a < wrap64 (a - b)) <;> cases hy : decide (b < 0) <;> simp [hx, hy] at ht h
  · exact ⟨by rw [fitV_out hi], by rw [fitE_out hi]⟩
theorem dm_unique {Y m Q R : Int} (h0 : 0 ≤ R) (h1 : R < m) (h : Y = m * Q + R) : Y / m = Q ∧ Y % m = R := by
  have hm : 0 < m := by omega
  refine (Int.ediv_emod_unique hm).2 ⟨by rw [h, Int.add_comm], h0, h1⟩
theorem pow_half (p : Int) (t : Nat) : p / 2 ^ t = 2 * (p / 2 ^ (t + 1)) + p / 2 ^ t % 2 := by
  have e : p / 2 ^ (t + 1) = p / 2 ^ t / 2 := by rw [Int.pow_succ, Int.ediv_ediv_of_nonneg (Int.le_of_lt (Int.pow_pos (by omega)))]
  rw [e]; omega
theorem div_step {a p m q r e l : Int} {t : Nat} (hm : 1 ≤ m) (hq : q = a * (p / 2 ^ (t + 1)) / m) (hr : r = a * (p / 2 ^ (t + 1)) % m) (he : e = a / m) (hl : l = a % m) :
    (p / 2 ^ t % 2 = 0 ∧ ((m ≤ 2 * r → a * (p / 2 ^ t) / m = 2 * q + 1 ∧ a * (p / 2 ^ t) % m = 2 * r - m) ∧ (2 * r < m → a * (p / 2 ^ t) / m = 2 * q ∧ a * (p / 2 ^ t) % m = 2 * r))) ∨
    (p / 2 ^ t % 2 = 1 ∧
      (m ≤ 2 * r → (m ≤ 2 * r - m + l → a * (p / 2 ^ t) / m = 2 * q + 1 + e + 1 ∧ a * (p / 2 ^ t) % m = 2 * r - m + l - m) ∧ (2 * r - m + l < m → a * (p / 2 ^ t) / m = 2 * q + 1 + e ∧ a * (p / 2 ^ t) % m = 2 * r - m + l)) ∧
      (2 * r < m → (m ≤ 2 * r + l → a * (p / 2 ^ t) / m = 2 * q + e + 1 ∧ a * (p / 2 ^ t) % m = 2 * r + l - m) ∧ (2 * r + l < m → a * (p / 2 ^ t) / m = 2 * q + e ∧ a * (p / 2 ^ t) % m = 2 * r + l))) := by
  have hp := pow_half p t
  obtain ⟨X, hX⟩ : ∃ X, X = a * (p / 2 ^ (t + 1)) := ⟨_, rfl⟩
  rw [← hX] at hq hr
  have hXm := Int.mul_ediv_add_emod X m
  have ham := Int.mul_ediv_add_emod a m
  rw [← hq, ← hr] at hXm
  rw [← he, ← hl] at ham
  have b1 := Int.emod_nonneg X (show m ≠ 0 by omega)
  have b2 := Int.emod_lt_of_pos X (show 0 < m by omega)
  have b3 := Int.emod_nonneg a (show m ≠ 0 by omega)
  have b4 := Int.emod_lt_of_pos a (show 0 < m by omega)
  rw [← hr] at b1 b2
  rw [← hl] at b3 b4
  have hY0 : p / 2 ^ t % 2 = 0 → a * (p / 2 ^ t) = 2 * X := by
    intro h; rw [hp, h, hX, Int.add_zero, Int.mul_left_comm]
  have hY1 : p / 2 ^ t % 2 = 1 → a * (p / 2 ^ t) = 2 * X + a := by
    intro h; rw [hp, h, hX, Int.mul_add, Int.mul_left_comm, Int.mul_one]
  have key : ∀ Y Q R : Int, 0 ≤ R → R < m → Y = m * Q + R → Y / m = Q ∧ Y % m = R := fun _ _ _ => dm_unique
  have e1 : m * (2 * q + 1) = 2 * (m * q) + m := by rw [Int.mul_add, Int.mul_left_comm]; omega
  have e2 : m * (2 * q) = 2 * (m * q) := Int.mul_left_comm _ _ _
  have e3 : m * (2 * q + 1 + e + 1) = 2 * (m * q) + m + m * e + m := by rw [Int.mul_add, Int.mul_add, e1]; omega
  have e4 : m * (2 * q + 1 + e) = 2 * (m * q) + m + m * e := by rw [Int.mul_add, e1]
  have e5 : m * (2 * q + e + 1) = 2 * (m * q) + m * e + m := by rw [Int.mul_add, Int.mul_add, e2]; omega
  have e6 : m * (2 * q + e) = 2 * (m * q) + m * e := by rw [Int.mul_add, e2]
  rcases (show p / 2 ^ t % 2 = 0 ∨ p / 2 ^ t % 2 = 1 by omega) with h | h
  · refine .inl ⟨h, fun c => key _ _ _ (by omega) (by omega) ?_, fun c => key _ _ _ (by omega) (by omega) ?_⟩
    · rw [hY0 h, e1]; omega
    · rw [hY0 h, e2]; omega
  · refine .inr ⟨h, fun c => ⟨fun c2 => key _ _ _ (by omega) (by omega) ?_, fun c2 => key _ _ _ (by omega) (by omega) ?_⟩, fun c => ⟨fun c2 => key _ _ _ (by omega) (by omega) ?_, fun c2 => key _ _ _ (by omega) (by omega) ?_⟩⟩
    · rw [hY1 h, e3]; omega
    · rw [hY1 h, e4]; omega
    · rw [hY1 h, e5]; omega
    · rw [hY1 h, e6]; omega
theorem div_over {a p m : Int} {t : Nat} (hm : 1 ≤ m) (ha : 0 ≤ a) (hp : 0 ≤ p) : a * (p / 2 ^ t) / m ≤ a * p / m := by
  have h1 : p / 2 ^ t ≤ p := Int.ediv_le_self _ hp
  exact Int.ediv_le_ediv (by omega) (Int.mul_le_mul_of_nonneg_left h1 ha)
end Go.Proofs.Ytophfbnajelknaa

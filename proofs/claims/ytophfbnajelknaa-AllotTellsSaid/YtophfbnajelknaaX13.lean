import Derived.Test.YtophfbnajelknaaX12
/- Reference R01: By, plain part. -/
namespace Go.Proofs.Ytophfbnajelknaa
open Go.RowKit

theorem valD_set : ∀ (l : List Int) (j : Nat) (x : Int), j < l.length → valD (l.set j x) = valD l + 1000 ^ j * (x - l.getD j 0)
  | [], j, x, h => by simp at h
  | d :: l, 0, x, h => by simp [valD]; omega
  | d :: l, j + 1, x, h => by
    have ih := valD_set l j x (by simpa using h)
    rw [List.set_cons_succ, valD, ih, valD, List.getD_cons_succ, Int.pow_succ, Int.mul_comm (1000 ^ j) 1000, Int.mul_assoc]
    omega
theorem digs_set {l : List Int} (h : Digs l) (j : Nat) {x : Int} (h0 : 0 ≤ x) (h1 : x < 1000) : Digs (l.set j x) := by
  intro y hy
  rcases List.mem_or_eq_of_mem_set hy with h2 | h2
  · exact h y h2
  · omega
/-- Digits so far, and what is carried. -/
structure CarryI (N : Nat) (V : Int) (j : Nat) (over : Int) (out : List Int) : Prop where
  digs : Digs out
  len : out.length = N
  over_ : 0 ≤ over ∧ over ≤ 999
  val : valD out + 1000 ^ j * over = V
theorem CarryI.room {N M : Nat} {V over : Int} {j : Nat} {out : List Int} (h : CarryI N V j over out) (hV : V < 1000 ^ M) (h0 : 0 < over) : j < M := by
  have h1 := h.val
  have h2 := valD_nonneg h.digs
  have h3 : (1000 : Int) ^ j * 1 ≤ 1000 ^ j * over := Int.mul_le_mul_of_nonneg_left (by omega) (Int.le_of_lt (pow1000_pos _))
  have h4 : (1000 : Int) ^ j < 1000 ^ M := by omega
  have h5 : (1000 : Nat) ^ j < 1000 ^ M := Int.ofNat_lt.1 (by rw [Int.natCast_pow, Int.natCast_pow]; exact h4)
  exact (Nat.pow_lt_pow_iff_right (by omega : 1 < 1000)).1 h5
theorem CarryI.step {N : Nat} {V over : Int} {j : Nat} {out : List Int} (h : CarryI N V j over out) (hj : j < N) {m : Int} (hm : m = out.getD j 0 + over) :
    CarryI N V (j + 1) (m / 1000) (out.set j (m % 1000)) ∧ 0 ≤ m ∧ m < 2000 := by
  have h1 := h.digs.getD j
  have h2 := h.over_
  refine ⟨⟨digs_set h.digs _ (by omega) (by omega), by rw [List.length_set]; exact h.len, by omega, ?_⟩, by omega, by omega⟩
  rw [valD_set _ _ _ (by rw [h.len]; exact hj), Int.pow_succ, Int.mul_assoc]
  have e : (1000 : Int) ^ j * (m % 1000 - out.getD j 0) + 1000 ^ j * (1000 * (m / 1000)) = 1000 ^ j * over := by rw [← Int.mul_add]; congr 1; omega
  have := h.val
  omega
/-- Of so many digits of a, and so many of b at the next one, the product. -/
def prodTo (a b : List Int) (i k : Nat) : Int := valD (a.take i) * valD b + 1000 ^ i * (a.getD i 0 * valD (b.take k))
theorem prodTo_zero (a b : List Int) : prodTo a b 0 0 = 0 := by simp [prodTo, valD]
theorem prodTo_k {a b : List Int} (i k : Nat) : prodTo a b i (k + 1) = prodTo a b i k + 1000 ^ (i + k) * (a.getD i 0 * b.getD k 0) := by
  rw [prodTo, prodTo, valD_pad, Int.mul_add, Int.mul_add, Int.pow_add]
  have : (1000 : Int) ^ i * (a.getD i 0 * (1000 ^ k * b.getD k 0)) = 1000 ^ i * 1000 ^ k * (a.getD i 0 * b.getD k 0) := by
    rw [Int.mul_left_comm (a.getD i 0), Int.mul_assoc]
  omega
theorem prodTo_i {a b : List Int} (i : Nat) : prodTo a b i b.length = prodTo a b (i + 1) 0 := by
  rw [prodTo, prodTo, List.take_length, valD_pad, List.take_zero, Int.add_mul, Int.mul_assoc]
  simp [valD]
theorem prodTo_done (a b : List Int) : prodTo a b a.length 0 = valD a * valD b := by
  rw [prodTo, List.take_length, List.take_zero]; simp [valD]
theorem valD_take_le {l : List Int} (h : Digs l) (k : Nat) : valD (l.take k) ≤ valD l := by
  have e : valD (l.take k ++ l.drop k) = valD (l.take k) + 1000 ^ (l.take k).length * valD (l.drop k) := valD_append _ _
  rw [List.take_append_drop] at e
  have h1 := valD_nonneg (h.drop k)
  have h2 : 0 ≤ (1000 : Int) ^ (l.take k).length * valD (l.drop k) := Int.mul_nonneg (Int.le_of_lt (pow1000_pos _)) h1
  omega
theorem prodTo_lt {a b : List Int} (ha : Digs a) (hb : Digs b) (i k : Nat) : prodTo a b i k < 1000 ^ (a.length + b.length) := by
  have h1 : prodTo a b i k ≤ valD (a.take (i + 1)) * valD b := by
    rw [prodTo, valD_pad, Int.add_mul, Int.mul_assoc]
    have h2 : a.getD i 0 * valD (b.take k) ≤ a.getD i 0 * valD b := Int.mul_le_mul_of_nonneg_left (valD_take_le hb k) (ha.getD i).1
    have h3 : (1000 : Int) ^ i * (a.getD i 0 * valD (b.take k)) ≤ 1000 ^ i * (a.getD i 0 * valD b) := Int.mul_le_mul_of_nonneg_left h2 (Int.le_of_lt (pow1000_pos _))
    omega
  have h4 : valD (a.take (i + 1)) * valD b ≤ valD a * valD b := Int.mul_le_mul_of_nonneg_right (valD_take_le ha _) (valD_nonneg hb)
  have h5 := valD_lt ha
  have h6 := valD_lt hb
  have h7 : valD a * valD b ≤ (1000 ^ a.length - 1) * valD b := Int.mul_le_mul_of_nonneg_right (by omega) (valD_nonneg hb)
  have h8 : (1000 ^ a.length - 1) * valD b ≤ (1000 ^ a.length - 1) * (1000 ^ b.length - 1) := Int.mul_le_mul_of_nonneg_left (by omega) (by have := pow1000_pos a.length; omega)
  have h9 : ((1000 : Int) ^ a.length - 1) * (1000 ^ b.length - 1) < 1000 ^ (a.length + b.length) := by
    rw [Int.pow_add, Int.sub_mul, Int.mul_sub, Int.one_mul, Int.mul_one]
    have := pow1000_pos a.length
    have := pow1000_pos b.length
    omega
  omega
/-- One more pair of digits. -/
theorem CarryI.begin_ {a b out : List Int} (ha : Digs a) (hb : Digs b) {i k N : Nat} (hd : Digs out) (hl : out.length = N) (hv : valD out = prodTo a b i k) (hik : i + k < N) {n : Int} (hn : n = out.getD (i + k) 0 + a.getD i 0 * b.getD k 0) :
    CarryI N (prodTo a b i (k + 1)) (i + k + 1) (n / 1000) (out.set (i + k) (n % 1000)) ∧ 0 ≤ n ∧ n ≤ 999000 := by
  have h1 := hd.getD (i + k)
  have h2 := ha.getD i
  have h3 := hb.getD k
  have h4 : a.getD i 0 * b.getD k 0 ≤ 999 * b.getD k 0 := Int.mul_le_mul_of_nonneg_right (by omega) h3.1
  have h5 : 0 ≤ a.getD i 0 * b.getD k 0 := Int.mul_nonneg h2.1 h3.1
  refine ⟨⟨digs_set hd _ (by omega) (by omega), by rw [List.length_set]; exact hl, by omega, ?_⟩, by omega, by omega⟩
  rw [valD_set _ _ _ (by rw [hl]; exact hik), prodTo_k, ← hv, Int.pow_succ, Int.mul_assoc]
  have e : (1000 : Int) ^ (i + k) * (n % 1000 - out.getD (i + k) 0) + 1000 ^ (i + k) * (1000 * (n / 1000)) = 1000 ^ (i + k) * (a.getD i 0 * b.getD k 0) := by rw [← Int.mul_add]; congr 1; omega
  omega
theorem CarryI.end_ {N : Nat} {V : Int} {j : Nat} {out : List Int} (h : CarryI N V j 0 out) : Digs out ∧ out.length = N ∧ valD out = V := ⟨h.digs, h.len, by have := h.val; rw [Int.mul_zero] at this; omega⟩
theorem valD_zeros : ∀ n, valD (List.replicate n 0) = 0
  | 0 => rfl
  | n + 1 => by rw [List.replicate_succ, valD, valD_zeros n]; rfl
theorem digs_zeros (n : Nat) : Digs (List.replicate n 0) := fun x hx => by rw [List.eq_of_mem_replicate hx]; omega
end Go.Proofs.Ytophfbnajelknaa

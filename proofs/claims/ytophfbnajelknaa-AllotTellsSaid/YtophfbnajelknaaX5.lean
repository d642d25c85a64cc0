import Derived.Test.YtophfbnajelknaaX4
/- Reference R01: Plus. -/
namespace Go.Proofs.Ytophfbnajelknaa
open Go.RowKit

/-- Digits so far, and what is over. -/
structure AddI (a b : List Int) (k : Nat) (over : Int) (out : List Int) : Prop where
  digs : Digs out
  len : out.length = k
  over_ : 0 ≤ over ∧ over ≤ 1
  val : valD out + 1000 ^ k * over = valD (a.take k) + valD (b.take k)
theorem AddI.start (a b : List Int) : AddI a b 0 0 [] := ⟨fun x hx => (by cases hx), rfl, by omega, by simp [valD]⟩
theorem digs_snoc {l : List Int} {x : Int} (h : Digs l) (h0 : 0 ≤ x) (h1 : x < 1000) : Digs (l ++ [x]) := by
  intro y hy
  rcases List.mem_append.1 hy with h2 | h2
  · exact h y h2
  · rw [List.mem_singleton] at h2; omega
theorem AddI.step {a b : List Int} (ha : Digs a) (hb : Digs b) {k : Nat} {over : Int} {out : List Int} (h : AddI a b k over out) {n : Int} (hn : n = a.getD k 0 + b.getD k 0 + over) : AddI a b (k + 1) (n / 1000) (out ++ [n % 1000]) ∧ 0 ≤ n ∧ n < 2000 := by
  have h1 := ha.getD k
  have h2 := hb.getD k
  have h3 := h.over_
  refine ⟨⟨digs_snoc h.digs (by omega) (by omega), by rw [List.length_append, h.len]; rfl, by omega, ?_⟩, by omega, by omega⟩
  rw [valD_snoc, h.len, valD_pad, valD_pad, Int.pow_succ, Int.mul_assoc]
  have e : (1000 : Int) ^ k * n = 1000 ^ k * (n % 1000) + 1000 ^ k * (1000 * (n / 1000)) := by rw [← Int.mul_add]; congr 1; omega
  have e2 : (1000 : Int) ^ k * n = 1000 ^ k * a.getD k 0 + 1000 ^ k * b.getD k 0 + 1000 ^ k * over := by rw [hn, Int.mul_add, Int.mul_add]
  have := h.val
  omega
/-- The same, of the less taken from the more. -/
structure SubI (a b : List Int) (k : Nat) (borrow : Int) (out : List Int) : Prop where
  digs : Digs out
  len : out.length = k
  borrow_ : 0 ≤ borrow ∧ borrow ≤ 1
  val : valD out - 1000 ^ k * borrow = valD (a.take k) - valD (b.take k)
theorem SubI.start (a b : List Int) : SubI a b 0 0 [] := ⟨fun x hx => (by cases hx), rfl, by omega, by simp [valD]⟩
theorem SubI.step {a b : List Int} (ha : Digs a) (hb : Digs b) {k : Nat} {borrow : Int} {out : List Int} (h : SubI a b k borrow out) {n : Int} (hn : n = 1000 + a.getD k 0 - b.getD k 0 - borrow) : SubI a b (k + 1) (1 - n / 1000) (out ++ [n % 1000]) ∧ 0 ≤ n ∧ n < 2000 := by
  have h1 := ha.getD k
  have h2 := hb.getD k
  have h3 := h.borrow_
  refine ⟨⟨digs_snoc h.digs (by omega) (by omega), by rw [List.length_append, h.len]; rfl, by omega, ?_⟩, by omega, by omega⟩
  rw [valD_snoc, h.len, valD_pad, valD_pad, Int.pow_succ, Int.mul_assoc]
  have e : (1000 : Int) ^ k * n = 1000 ^ k * (n % 1000) + 1000 ^ k * (1000 * (n / 1000)) := by rw [← Int.mul_add]; congr 1; omega
  have e2 : (1000 : Int) ^ k * n = 1000 ^ k * 1000 + 1000 ^ k * a.getD k 0 - 1000 ^ k * b.getD k 0 - 1000 ^ k * borrow := by rw [hn, Int.mul_sub, Int.mul_sub, Int.mul_add]
  have e3 : (1000 : Int) ^ k * (1000 * (1 - n / 1000)) = 1000 ^ k * 1000 - 1000 ^ k * (1000 * (n / 1000)) := by rw [← Int.mul_sub]; congr 1; omega
  have := h.val
  omega
/-- All is borrowed back. -/
theorem SubI.done {a b : List Int} {borrow : Int} {out : List Int} (h : SubI a b a.length borrow out) (hle : valD b ≤ valD a) (hbl : b.length ≤ a.length) : valD out = valD a - valD b := by
  have h1 := h.val
  rw [List.take_length, List.take_of_length_le hbl] at h1
  have h2 := h.borrow_
  have h3 := valD_lt h.digs
  rw [h.len] at h3
  have h4 : borrow = 0 ∨ borrow = 1 := by omega
  rcases h4 with rfl | rfl
  · omega
  · omega
end Go.Proofs.Ytophfbnajelknaa

import Derived.Test.YtophfbnajelknaaX20
/- Reference R13: All, Discount, Again. -/
namespace Go.Proofs.Ytophfbnajelknaa
open Go.RowKit
attribute [local go_sem ↓] Go.wp_at_zero Go.wp_at_succ

set_option maxHeartbeats 4000000 in
theorem rall_any (price : Int) (A : Option Addr) (c : Nat) (ws : List Int) (w : World) (hr : Reads w w.heap.size 1 A ws.length (ints ws)) (hl : ws.length ≤ 1000000) (hx : ∀ x ∈ ws, inI x) (ht : inI price) :
    Calls Try.prog 37 #[.int .i64 price, .slice A ws.length c] w fun e w' => ∃ v, e = .returned (.tuple #[v, .int .i64 (allE price ws)]) ∧ w'.ownsRow w.heap.size 2 1 v (allL price ws).length (ints (allL price ws)) ∧ Below w.heap.size w w' := by
  by_cases hp : price < 0
  · rw [allE, allL, if_pos hp, if_pos hp]
    go_enter Try.func37, Try.ntmps37
    go_wp2
    go_ret2
    exact ⟨_, rfl, World.ownsRow_nil _ _ _ _, Below.refl _ _⟩
  · rw [allE, allL, if_neg hp, if_neg hp]
    have HO := Lib.hid (r2_any price A c ws w hr hl hx ht)
    obtain ⟨E, hE⟩ : ∃ E, E = outE price ws := ⟨_, rfl⟩
    obtain ⟨L, hL⟩ : ∃ L, L = outL price ws := ⟨_, rfl⟩
    rw [← hE, ← hL] at HO ⊢
    clear hE hL hr hx ht
    go_enter Try.func37, Try.ntmps37
    go_wp2_with (go_at_call 70; go_must (refine HO.out.mono ?_); rintro e w1 ⟨v, rfl, ho, hb⟩)
    go_ret2
    exact ⟨_, rfl, ho, hb⟩

theorem small_diff {a b : Int} (ha : Small 20 a) (hb : Small 20 b) : Small 100 (a - b) := by
  have : Small 21 (a - b) := by unfold Small at *; rw [Int.pow_succ]; omega
  exact this.mono (by omega)
theorem small_total {xs : List Int} (hx : ∀ x ∈ xs, inI x) (hl : xs.length ≤ 1000000) : Small 20 xs.sum := by
  have h : ∀ l : List Int, (∀ x ∈ l, inI x) → -(9223372036854775808 * (l.length : Int)) ≤ l.sum ∧ l.sum ≤ 9223372036854775808 * l.length := by
    intro l
    induction l with
    | nil => intro _; simp
    | cons a l ih =>
      intro hm
      have := ih (fun x hx => hm x (by simp [hx]))
      have ha : inI a := hm a (by simp)
      unfold inI lowI topI at ha
      rw [List.sum_cons, List.length_cons]
      omega
  have h1 := h xs hx
  have h3 : Small 10 xs.sum := by unfold Small; omega
  exact h3.mono (by omega)

set_option maxHeartbeats 4000000 in
theorem rdiscount_any (price : Int) (A : Option Addr) (c : Nat) (xs : List Int) (w : World) (hr : Reads w w.heap.size 1 A xs.length (ints xs)) (hl : xs.length ≤ 1000000) (hx : ∀ x ∈ xs, inI x) (ht : inI price) :
    Calls Try.prog 41 #[.int .i64 price, .slice A xs.length c] w fun e w' => e = .returned (.tuple #[.int .i64 (fitV (xs.sum - price)), .int .i64 (fitE (xs.sum - price))]) ∧ Below w.heap.size w w' := by
  have s1 := small_total hx hl
  have s2 := (small_of_in ht).mono (show 7 ≤ 20 by omega)
  have s3 := small_diff s1 s2
  obtain ⟨S, hS⟩ : ∃ S, S = xs.sum := ⟨_, rfl⟩
  rw [← hS] at s1 s3 ⊢
  obtain ⟨d, hd⟩ : ∃ d, d = S - price := ⟨_, rfl⟩
  rw [← hd] at s3 ⊢
  have C1 : Hid (Calls Try.prog 77 #[.slice A xs.length c] w fun e w' => ∃ v, e = .returned v ∧ Ex w' v S ∧ Below w.heap.size w w') := by rw [hS]; exact total_any A c xs w hr hx hl
  have C2 : Hid (∀ W, Calls Try.prog 61 #[.int .i64 price] W fun e w' => ∃ v, e = .returned v ∧ Ex w' v price ∧ Below W.heap.size W w') := fun W => of_any price W ht
  have C3 : Hid (∀ W v u, Ex W v S → Ex W u price → Calls Try.prog 76 #[v, u] W fun e w' => ∃ v, e = .returned v ∧ Ex w' v d ∧ Below W.heap.size W w') := fun W v u h1 h2 => by rw [hd]; exact less2_any v u S price W h1 h2 (s1.mono (by omega)) (s2.mono (by omega))
  have C4 : Hid (∀ W v, Ex W v d → Calls Try.prog 58 #[v] W fun e w' => e = .returned (.tuple #[.int .i64 (fitV d), .int .i64 (fitE d)]) ∧ Below W.heap.size W w') := fun W v h1 => fit_any v d W h1 s3
  clear s1 s2 s3 hS hd hr hx ht
  go_enter Try.func41, Try.ntmps41
  go_wp2_with (first | (go_at_call 77; go_must (refine C1.out.mono ?_); rintro e w1 ⟨v1, rfl, h1, b1⟩) | (go_at_call 61; go_must (refine (C2.out _).mono ?_); rintro e w2 ⟨v2, rfl, h2, b2⟩) | (go_at_call 76; go_must (refine (C3.out _ _ _ (h1.below b2) h2).mono ?_); rintro e w3 ⟨v3, rfl, h3, b3⟩) | (go_at_call 58; go_must (refine (C4.out _ _ h3).mono ?_); rintro e w4 ⟨rfl, b4⟩))
  go_ret2
  exact ⟨rfl, belT (belT (belT b1 b2) b3) b4⟩

end Go.Proofs.Ytophfbnajelknaa

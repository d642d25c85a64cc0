import Derived.Test.YtophfbnajelknaaDiv
/- Package cents: size, Part, Rest, of amounts not below 0. -/
namespace Go.Proofs.Ytophfbnajelknaa
open Go.RowKit

theorem size_any (a : Int) (h0 : 0 ≤ a) (h1 : a ≤ 9223372036854775807) (w : World) :
    Calls Try.prog 112 #[.int .i64 a] w fun e w' => e = .returned (.int .u64 a) ∧ w = w' := by
  go_enter Try.func112, Try.ntmps112
  go_wp2
  go_ret
  exact ⟨rfl, rfl⟩

theorem part_fits (a p m T : Int) (w : World) (hm : 1 ≤ m) (hmx : m ≤ 9223372036854775807) (ha0 : 0 ≤ a) (ha : a ≤ 9223372036854775807) (hp0 : 0 ≤ p) (hp : p ≤ 9223372036854775807)
    (hT : T = a * p / m) (hT1 : T ≤ 9223372036854775807) :
    Calls Try.prog 90 #[.int .i64 a, .int .i64 p, .int .i64 m] w fun e w' => e = .returned (.tuple #[.int .i64 T, .int .i64 0]) ∧ ∃ n, w' = w.drewN n := by
  have hT0 : 0 ≤ T := by rw [hT]; exact Int.ediv_nonneg (Int.mul_nonneg ha0 hp0) (by omega)
  obtain ⟨R, hR⟩ : ∃ R, R = divR a p m := ⟨_, rfl⟩
  have hd : ∀ W, Calls Try.prog 111 #[.int .u64 a, .int .u64 p, .int .u64 m] W fun e w' => e = .returned (.tuple #[.int .u64 T, .int .u64 R, .bool true]) ∧ ∃ n, w' = W.drewN n := by
    intro W
    have := divided_any a p m W hm hmx ha0 (by omega) hp0 (by omega)
    rw [divV, divB, if_pos (by omega), decide_eq_true (by omega), ← hT, ← hR] at this
    exact this
  have HD := Lib.hid hd
  clear hd hT hR
  go_enter Try.func90, Try.ntmps90
  go_wp2_with (first | (go_at_call 112; go_must (refine (size_any a ha0 ha _).mono ?_); rintro e w1 ⟨rfl, rfl⟩) | (go_at_call 111; go_must (refine (HD.out _).mono ?_); rintro e w1 ⟨rfl, n, rfl⟩))
  go_ret2
  exact ⟨rfl, _, rfl⟩

theorem part_over (a p m : Int) (w : World) (hm : 1 ≤ m) (hmx : m ≤ 9223372036854775807) (ha0 : 0 ≤ a) (ha : a ≤ 9223372036854775807) (hp0 : 0 ≤ p) (hp : p ≤ 9223372036854775807)
    (hT1 : 9223372036854775807 < a * p / m) :
    Calls Try.prog 90 #[.int .i64 a, .int .i64 p, .int .i64 m] w fun e w' => e = .returned (.tuple #[.int .i64 0, .int .i64 3]) ∧ ∃ n, w' = w.drewN n := by
  obtain ⟨R, hR⟩ : ∃ R, R = divR a p m := ⟨_, rfl⟩
  obtain ⟨T, hT⟩ : ∃ T, T = divV a p m := ⟨_, rfl⟩
  by_cases hb : a * p / m < 18446744073709551616
  · have hT2 : 9223372036854775807 < T := by rw [hT, divV, if_pos hb]; exact hT1
    have hd : ∀ W, Calls Try.prog 111 #[.int .u64 a, .int .u64 p, .int .u64 m] W fun e w' => e = .returned (.tuple #[.int .u64 T, .int .u64 R, .bool true]) ∧ ∃ n, w' = W.drewN n := by
      intro W
      have := divided_any a p m W hm hmx ha0 (by omega) hp0 (by omega)
      rw [divB, decide_eq_true hb, ← hT, ← hR] at this
      exact this
    have HD := Lib.hid hd
    clear hd hT hR hb hT1
    have ha1 : decide (a < 0) = false := by simp; omega
    go_enter Try.func90, Try.ntmps90
    go_wp2_with (first | (go_at_call 112; go_must (refine (size_any a ha0 ha _).mono ?_); rintro e w1 ⟨rfl, rfl⟩) | (go_at_call 111; go_must (refine (HD.out _).mono ?_); rintro e w1 ⟨rfl, n, rfl⟩))
    go_ret2
    exact ⟨rfl, _, rfl⟩
  · have hd : ∀ W, Calls Try.prog 111 #[.int .u64 a, .int .u64 p, .int .u64 m] W fun e w' => e = .returned (.tuple #[.int .u64 T, .int .u64 R, .bool false]) ∧ ∃ n, w' = W.drewN n := by
      intro W
      have := divided_any a p m W hm hmx ha0 (by omega) hp0 (by omega)
      rw [divB, decide_eq_false hb, ← hT, ← hR] at this
      exact this
    have HD := Lib.hid hd
    clear hd hT hR hb hT1
    go_enter Try.func90, Try.ntmps90
    go_wp2_with (first | (go_at_call 112; go_must (refine (size_any a ha0 ha _).mono ?_); rintro e w1 ⟨rfl, rfl⟩) | (go_at_call 111; go_must (refine (HD.out _).mono ?_); rintro e w1 ⟨rfl, n, rfl⟩))
    go_ret2
    exact ⟨rfl, _, rfl⟩

/-- Part of an amount not below 0, by a whole from 1 on: the greatest whole number that is no more, or ErrOver. -/
theorem part_any (a p m : Int) (w : World) (hm : 1 ≤ m) (hmx : m ≤ 9223372036854775807) (ha0 : 0 ≤ a) (ha : a ≤ 9223372036854775807) (hp0 : 0 ≤ p) (hp : p ≤ 9223372036854775807) :
    Calls Try.prog 90 #[.int .i64 a, .int .i64 p, .int .i64 m] w fun e w' => e = .returned (.tuple #[.int .i64 (fitV (a * p / m)), .int .i64 (fitE (a * p / m))]) ∧ ∃ n, w' = w.drewN n := by
  have h0 : 0 ≤ a * p / m := Int.ediv_nonneg (Int.mul_nonneg ha0 hp0) (by omega)
  by_cases h : a * p / m ≤ 9223372036854775807
  · have hi : inI (a * p / m) := ⟨by unfold lowI; omega, h⟩
    rw [fitV_in hi, fitE_in hi]
    exact part_fits a p m _ w hm hmx ha0 ha hp0 hp rfl h
  · have hi : ¬ inI (a * p / m) := fun x => h x.2
    rw [fitV_out hi, fitE_out hi]
    exact part_over a p m w hm hmx ha0 ha hp0 hp (by omega)

/-- Rest of an amount not below 0. -/
theorem rest_any (a p m : Int) (w : World) (hm : 1 ≤ m) (hmx : m ≤ 9223372036854775807) (ha0 : 0 ≤ a) (ha : a ≤ 9223372036854775807) (hp0 : 0 ≤ p) (hp : p ≤ 9223372036854775807) :
    Calls Try.prog 100 #[.int .i64 a, .int .i64 p, .int .i64 m] w fun e w' => e = .returned (.tuple #[.int .i64 (a * p % m), .int .i64 0]) ∧ ∃ n, w' = w.drewN n := by
  obtain ⟨R, hR⟩ : ∃ R, R = a * p % m := ⟨_, rfl⟩
  obtain ⟨T, hT⟩ : ∃ T, T = divV (a % m) (p % m) m := ⟨_, rfl⟩
  have b1 := Int.emod_nonneg a (show m ≠ 0 by omega)
  have b2 := Int.emod_lt_of_pos a (show 0 < m by omega)
  have b3 := Int.emod_nonneg p (show m ≠ 0 by omega)
  have b4 := Int.emod_lt_of_pos p (show 0 < m by omega)
  have hlt : (a % m) * (p % m) / m < 18446744073709551616 := by
    have h1 : (a % m) * (p % m) ≤ m * (p % m) := Int.mul_le_mul_of_nonneg_right (by omega) b3
    have h2 := Int.ediv_le_ediv (show 0 < m by omega) h1
    rw [Int.mul_ediv_cancel_left _ (show m ≠ 0 by omega)] at h2
    omega
  have hd : ∀ W, Calls Try.prog 111 #[.int .u64 (a % m), .int .u64 (p % m), .int .u64 m] W fun e w' => e = .returned (.tuple #[.int .u64 T, .int .u64 R, .bool true]) ∧ ∃ n, w' = W.drewN n := by
    intro W
    have := divided_any (a % m) (p % m) m W hm hmx b1 (by omega) b3 (by omega)
    rw [divB, divR, decide_eq_true hlt, if_pos hlt, ← hT, ← Int.mul_emod, ← hR] at this
    exact this
  have r0 : 0 ≤ R := by rw [hR]; exact Int.emod_nonneg _ (by omega)
  have r1 : R ≤ 9223372036854775807 := by rw [hR]; have := Int.emod_lt_of_pos (a * p) (show 0 < m by omega); omega
  have HD := Lib.hid hd
  rw [← hR]
  clear hd hT hR b1 b2 b3 b4 hlt
  have ha1 : decide (a < 0) = false := by simp; omega
  go_enter Try.func100, Try.ntmps100
  go_wp2
  go_quiet ((first | (go_at_call 112; exact Calls.quiet_of_same (by have := size_any a ha0 ha; exact (this _).mono (fun _ _ h => ⟨h.1, h.2.symm⟩))) | (go_at_call 111; exact Calls.quiet_of (HD.out _))))
  go_wp2
  go_ret2
  exact ⟨rfl, _, rfl⟩
end Go.Proofs.Ytophfbnajelknaa

import Derived.Test.YtophfbnajelknaaX16
/- Reference R01: Part, Rest, of amounts not below 0. -/
namespace Go.Proofs.Ytophfbnajelknaa
open Go.RowKit
attribute [local go_sem ↓] Go.wp_at_zero Go.wp_at_succ

theorem belT {w w1 w2 : World} (h : Below w.heap.size w w1) (k : Below w1.heap.size w1 w2) : Below w.heap.size w w2 := below_then h k h.size
theorem small_mul {j k : Nat} {x y : Int} (hx : Small j x) (hy : Small k y) (hx0 : 0 ≤ x) (hy0 : 0 ≤ y) : Small (j + k) (x * y) := by
  have h1 : x * y ≤ x * 1000 ^ k := Int.mul_le_mul_of_nonneg_left (by have := hy.2; omega) hx0
  have h2 : x * 1000 ^ k ≤ (1000 ^ j - 1) * 1000 ^ k := Int.mul_le_mul_of_nonneg_right (by have := hx.2; omega) (Int.le_of_lt (pow1000_pos k))
  have h3 : 0 ≤ x * y := Int.mul_nonneg hx0 hy0
  rw [Int.sub_mul, Int.one_mul, ← Int.pow_add] at h2
  have h4 := pow1000_pos k
  have h5 := pow1000_pos (j + k)
  unfold Small
  omega
theorem ediv_le_nonneg {x m : Int} (hx : 0 ≤ x) (hm : 1 ≤ m) : 0 ≤ x / m ∧ x / m ≤ x := ⟨Int.ediv_nonneg hx (by omega), Int.ediv_le_self _ hx⟩

set_option maxHeartbeats 8000000 in
set_option maxRecDepth 100000 in
theorem rpart_any (a p m : Int) (w : World) (ha : inI a) (hp : inI p) (hm : inI m) (ha0 : 0 ≤ a) (hp0 : 0 ≤ p) (hm1 : 1 ≤ m) :
    Calls Try.prog 102 #[.int .i64 a, .int .i64 p, .int .i64 m] w fun e w' => e = .returned (.tuple #[.int .i64 (fitV (a * p / m)), .int .i64 (fitE (a * p / m))]) ∧ Below w.heap.size w w' := by
  have sa := small_of_in ha
  have sp := small_of_in hp
  have sm := small_of_in hm
  have sap := small_mul sa sp ha0 hp0
  have hap0 : 0 ≤ a * p := Int.mul_nonneg ha0 hp0
  have hq := ediv_le_nonneg hap0 hm1
  obtain ⟨x, hx⟩ : ∃ x, x = a * p := ⟨_, rfl⟩
  rw [← hx] at sap hap0 hq ⊢
  obtain ⟨q, hqq⟩ : ∃ q, q = x / m := ⟨_, rfl⟩
  rw [← hqq] at hq ⊢
  have C1 : Hid (∀ W, Calls Try.prog 61 #[.int .i64 a] W fun e w' => ∃ v, e = .returned v ∧ Ex w' v a ∧ Below W.heap.size W w') := fun W => of_any a W ha
  have C2 : Hid (∀ W, Calls Try.prog 61 #[.int .i64 p] W fun e w' => ∃ v, e = .returned v ∧ Ex w' v p ∧ Below W.heap.size W w') := fun W => of_any p W hp
  have C3 : Hid (∀ W v u, Ex W v a → Ex W u p → Calls Try.prog 109 #[v, u] W fun e w' => ∃ v, e = .returned v ∧ Ex w' v x ∧ Below W.heap.size W w') := fun W v u h1 h2 => by rw [hx]; exact by_any v u a p W h1 h2 (sa.mono (by omega)) (sp.mono (by omega))
  have C4 : Hid (∀ W, Calls Try.prog 61 #[.int .i64 m] W fun e w' => ∃ v, e = .returned v ∧ Ex w' v m ∧ Below W.heap.size W w') := fun W => of_any m W hm
  have C5 : Hid (∀ W v u, Ex W v x → Ex W u m → Calls Try.prog 114 #[v, u] W fun e w' => ∃ v, e = .returned v ∧ Ex w' v q ∧ Below W.heap.size W w') := fun W v u h1 h2 => by rw [hqq]; exact over_pos v u x m W h1 h2 hap0 (by omega) (sap.mono (by omega)) (sm.mono (by omega))
  have C6 : Hid (∀ W v, Ex W v q → Calls Try.prog 58 #[v] W fun e w' => e = .returned (.tuple #[.int .i64 (fitV q), .int .i64 (fitE q)]) ∧ Below W.heap.size W w') := fun W v h1 => fit_any v q W h1 ((small_le sap hq.1 hq.2).mono (by omega))
  clear sa sp sm sap hap0 hq hx hqq ha hp hm ha0
  go_enter Try.func102, Try.ntmps102
  go_wp2_with (first | (go_at_call_of 61 (Value.int .i64 a); go_must (refine (C1.out _).mono ?_); rintro e w1 ⟨v1, rfl, h1, b1⟩) | (go_at_call_of 61 (Value.int .i64 p); go_must (refine (C2.out _).mono ?_); rintro e w2 ⟨v2, rfl, h2, b2⟩) | (go_at_call 109; go_must (refine (C3.out _ _ _ (h1.below b2) h2).mono ?_); rintro e w3 ⟨v3, rfl, h3, b3⟩) | (go_at_call_of 61 (Value.int .i64 m); go_must (refine (C4.out _).mono ?_); rintro e w4 ⟨v4, rfl, h4, b4⟩) | (go_at_call 114; go_must (refine (C5.out _ _ _ (h3.below b4) h4).mono ?_); rintro e w5 ⟨v5, rfl, h5, b5⟩) | (go_at_call 58; go_must (refine (C6.out _ _ h5).mono ?_); rintro e w6 ⟨rfl, b6⟩))
  go_ret2
  exact ⟨rfl, belT (belT (belT (belT (belT b1 b2) b3) b4) b5) b6⟩

set_option maxHeartbeats 8000000 in
set_option maxRecDepth 100000 in
theorem rrest_any (a p m : Int) (w : World) (ha : inI a) (hp : inI p) (hm : inI m) (ha0 : 0 ≤ a) (hp0 : 0 ≤ p) (hm1 : 1 ≤ m) :
    Calls Try.prog 103 #[.int .i64 a, .int .i64 p, .int .i64 m] w fun e w' => e = .returned (.tuple #[.int .i64 (a * p % m), .int .i64 0]) ∧ Below w.heap.size w w' := by
  have sa := small_of_in ha
  have sp := small_of_in hp
  have sm := small_of_in hm
  have sap := small_mul sa sp ha0 hp0
  have hap0 : 0 ≤ a * p := Int.mul_nonneg ha0 hp0
  have hq := ediv_le_nonneg hap0 hm1
  obtain ⟨x, hx⟩ : ∃ x, x = a * p := ⟨_, rfl⟩
  rw [← hx] at sap hap0 hq ⊢
  obtain ⟨q, hqq⟩ : ∃ q, q = x / m := ⟨_, rfl⟩
  rw [← hqq] at hq
  obtain ⟨t, ht⟩ : ∃ t, t = q * m := ⟨_, rfl⟩
  obtain ⟨r, hr⟩ : ∃ r, r = x % m := ⟨_, rfl⟩
  have hsum := Int.mul_ediv_add_emod x m
  rw [← hqq, Int.mul_comm, ← ht, ← hr] at hsum
  have hr0 : 0 ≤ r := by rw [hr]; exact Int.emod_nonneg _ (by omega)
  have hr1 : r < m := by rw [hr]; exact Int.emod_lt_of_pos _ (by omega)
  have ht0 : 0 ≤ t := by rw [ht]; exact Int.mul_nonneg hq.1 (by omega)
  have hri : inI r := by unfold inI lowI topI at *; omega
  rw [← hr]
  have hxt : x - t = r := by omega
  have C1 : Hid (∀ W, Calls Try.prog 61 #[.int .i64 a] W fun e w' => ∃ v, e = .returned v ∧ Ex w' v a ∧ Below W.heap.size W w') := fun W => of_any a W ha
  have C2 : Hid (∀ W, Calls Try.prog 61 #[.int .i64 p] W fun e w' => ∃ v, e = .returned v ∧ Ex w' v p ∧ Below W.heap.size W w') := fun W => of_any p W hp
  have C3 : Hid (∀ W v u, Ex W v a → Ex W u p → Calls Try.prog 109 #[v, u] W fun e w' => ∃ v, e = .returned v ∧ Ex w' v x ∧ Below W.heap.size W w') := fun W v u h1 h2 => by rw [hx]; exact by_any v u a p W h1 h2 (sa.mono (by omega)) (sp.mono (by omega))
  have C4 : Hid (∀ W, Calls Try.prog 61 #[.int .i64 m] W fun e w' => ∃ v, e = .returned v ∧ Ex w' v m ∧ Below W.heap.size W w') := fun W => of_any m W hm
  have C5 : Hid (∀ W v u, Ex W v x → Ex W u m → Calls Try.prog 114 #[v, u] W fun e w' => ∃ v, e = .returned v ∧ Ex w' v q ∧ Below W.heap.size W w') := fun W v u h1 h2 => by rw [hqq]; exact over_pos v u x m W h1 h2 hap0 (by omega) (sap.mono (by omega)) (sm.mono (by omega))
  have C6 : Hid (∀ W v u, Ex W v q → Ex W u m → Calls Try.prog 109 #[v, u] W fun e w' => ∃ v, e = .returned v ∧ Ex w' v t ∧ Below W.heap.size W w') := fun W v u h1 h2 => by rw [ht]; exact by_any v u q m W h1 h2 ((small_le sap hq.1 hq.2).mono (by omega)) (sm.mono (by omega))
  have C7 : Hid (∀ W v u, Ex W v x → Ex W u t → Calls Try.prog 76 #[v, u] W fun e w' => ∃ v, e = .returned v ∧ Ex w' v r ∧ Below W.heap.size W w') := fun W v u h1 h2 => by rw [← hxt]; exact less2_any v u x t W h1 h2 (sap.mono (by omega)) ((small_le sap ht0 (by omega)).mono (by omega))
  have C8 : Hid (∀ W v, Ex W v r → Calls Try.prog 58 #[v] W fun e w' => e = .returned (.tuple #[.int .i64 r, .int .i64 0]) ∧ Below W.heap.size W w') := fun W v h1 => fit_in v r W h1 hri
  clear sa sp sm sap hap0 hq hx hqq ha hp hm ha0 ht hr hsum hr0 hr1 ht0 hri hxt
  go_enter Try.func103, Try.ntmps103
  go_upto_region 4 with (first | (go_at_call_of 61 (Value.int .i64 a); go_must (refine (C1.out _).mono ?_); rintro e w1 ⟨v1, rfl, h1, b1⟩) | (go_at_call_of 61 (Value.int .i64 p); go_must (refine (C2.out _).mono ?_); rintro e w2 ⟨v2, rfl, h2, b2⟩) | (go_at_call 109; go_must (refine (C3.out _ _ _ (h1.below b2) h2).mono ?_); rintro e w3 ⟨v3, rfl, ⟨s3, A3, c3, ds3, rfl, R3, N3⟩, b3⟩))
  have HK : Hold (w3.alloc (.cells #[.int .i64 s3, .slice A3 ds3.length c3] 102)) w3.heap.size x s3 A3 c3 ds3 := ⟨Blk.new _ _ _, R3.alloc _, N3⟩
  have hB := belT (belT (belT b1 b2) b3) ((Below.refl _ _).alloc (Nat.le_refl _) (.cells #[.int .i64 s3, .slice A3 ds3.length c3] 102))
  generalize w3.alloc (.cells #[.int .i64 s3, .slice A3 ds3.length c3] 102) = W0 at HK hB ⊢
  generalize w3.heap.size = G at HK ⊢
  have k0 := HK.b.cells2.1
  have k1 := HK.b.cells2.2
  have HKK := Lib.hid HK
  have HBB := Lib.hid hB
  clear HK hB b1 b2 b3 h1 h2 R3
  go_region_held3 (fun w' => w'.cell? ⟨G, 0, none⟩ = some (.int .i64 s3) ∧ w'.cell? ⟨G, 1, none⟩ = some (.slice A3 ds3.length c3)) (first | go_keep | exact K9.b.cells2 | exact K8.b.cells2 | exact K7.b.cells2 | exact K6.b.cells2 | exact K5.b.cells2 | exact K4.b.cells2) (first | (go_at_call 58; go_must (refine (C8.out _ _ h8).mono ?_); rintro e w9 ⟨rfl, b9⟩; have K9 := K8.below b9) | (go_at_call 76; go_must (refine (C7.out _ _ _ K7.ex h7).mono ?_); rintro e w8 ⟨v8, rfl, h8, b8⟩; have K8 := K7.below b8) | (go_at_call 109; go_must (refine (C6.out _ _ _ (h5.below b6) h6).mono ?_); rintro e w7 ⟨v7, rfl, h7, b7⟩; have K7 := K6.below b7) | (go_at_call 61; have _t := h5; go_must (refine (C4.out _).mono ?_); rintro e w6 ⟨v6, rfl, h6, b6⟩; have K6 := K5.below b6) | (go_at_call 114; go_must (refine (C5.out _ _ _ K4.ex h4).mono ?_); rintro e w5 ⟨v5, rfl, h5, b5⟩; have K5 := K4.below b5) | (go_at_call 61; go_must (refine (C4.out _).mono ?_); rintro e w4 ⟨v4, rfl, h4, b4⟩; have K4 := HKK.out.drew.below b4))
  all_goals
    go_wp2
    go_ret2
    exact ⟨rfl, belT (belT (belT (belT (belT (belT HBB.out.drew b4) b5) b6) b7) b8) b9⟩
end Go.Proofs.Ytophfbnajelknaa

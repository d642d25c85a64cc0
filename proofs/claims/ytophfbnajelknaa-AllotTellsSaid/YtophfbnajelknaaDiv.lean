import Derived.Test.YtophfbnajelknaaCents
import Derived.WalkMore
import Derived.ScopeJumps
import Derived.WalkSmall
import Derived.Laws.Bits64
import Derived.Deep.Light
/- Package cents: size, divided. -/
namespace Go.Proofs.Ytophfbnajelknaa
open Go.RowKit

def Exit.jumps (J : Nat → Act → World → Prop) (Q : Exit → Act → World → Prop) : Exit → Act → World → Prop
  | .goto l, a, w => J l a w
  | e, a, w => Q e a w
/-- A scope in which the run jumps to several labels: J n l holds where it jumps to l, and n falls with each jump. -/
theorem wp_scope_multi {P : Program} {a : Act} {w : World} {Q : Exit → Act → World → Prop} {c : Code} (J : Nat → Nat → Act → World → Prop)
    (first : c.wp P (Exit.jumps (fun l a w => ∃ n, J n l a w) Q) a w)
    (pass : ∀ n l a w, J n l a w → ∃ rest, findLabel c l = some rest ∧ rest.wp P (Exit.jumps (fun l' a' w' => ∃ n', n' < n ∧ J n' l' a' w') Q) a w) : (Code.scope c).wp P Q a w := by
  intro b k cs
  have key : ∀ n l a w, J n l a w → ∃ rest, findLabel c l = some rest ∧ ∃ e a' w', Q e a' w' ∧ Arrives P (lone (b.at a (.code rest :: .inScope c :: k)) cs w) b k cs e a' w' := by
    intro n
    induction n using Nat.strongRecOn with
    | _ n ih =>
      intro l a w hJ
      obtain ⟨rest, hf, hp⟩ := pass n l a w hJ
      refine ⟨rest, hf, ?_⟩
      obtain ⟨e, a₁, w₁, hq, harr⟩ := hp b (.inScope c :: k) cs
      cases e with
      | normal => exact ⟨.normal, a₁, w₁, hq, Steps.trans harr (.one step_inScope)⟩
      | exit id => exact ⟨.exit id, a₁, w₁, hq, fun k' hk => harr k' (by simp [exitTo, hk])⟩
      | goto l' =>
        obtain ⟨n', hlt, hJ'⟩ := hq
        obtain ⟨rest', hf', e₂, a₂, w₂, hq₂, harr₂⟩ := ih n' hlt l' a₁ w₁ hJ'
        have hg : gotoIn l' (.inScope c :: k) = some (.code rest' :: .inScope c :: k) := by simp [gotoIn, hf']
        exact ⟨e₂, a₂, w₂, hq₂, .of_steps (harr _ hg) harr₂⟩
      | ret => exact ⟨_, a₁, w₁, hq, harr⟩
      | panic ch => exact ⟨_, a₁, w₁, hq, harr⟩
      | outgrown => exact ⟨_, a₁, w₁, hq, harr⟩
  obtain ⟨e, a₁, w₁, hq, harr⟩ := first b (.inScope c :: k) cs
  cases e with
  | normal => exact ⟨.normal, a₁, w₁, hq, .head step_scope (Steps.trans harr (.one step_inScope))⟩
  | exit id => exact ⟨.exit id, a₁, w₁, hq, fun k' hk => .head step_scope (harr k' (by simp [exitTo, hk]))⟩
  | goto l' =>
    obtain ⟨n', hJ'⟩ := hq
    obtain ⟨rest', hf', e₂, a₂, w₂, hq₂, harr₂⟩ := key n' l' a₁ w₁ hJ'
    have hg : gotoIn l' (.inScope c :: k) = some (.code rest' :: .inScope c :: k) := by simp [gotoIn, hf']
    exact ⟨e₂, a₂, w₂, hq₂, .of_steps (.head step_scope (harr _ hg)) harr₂⟩
  | ret => exact ⟨_, a₁, w₁, hq, .of_steps (.one step_scope) harr⟩
  | panic ch => exact ⟨_, a₁, w₁, hq, .of_steps (.one step_scope) harr⟩
  | outgrown => exact ⟨_, a₁, w₁, hq, .of_steps (.one step_scope) harr⟩

theorem wp_scope_two {P : Program} {a : Act} {w : World} {Q : Exit → Act → World → Prop} {c r0 r1 : Code} (J : Nat → Nat → Act → World → Prop)
    (h0 : findLabel c 0 = some (.seq .skip r0)) (h1 : findLabel c 1 = some (.seq .skip r1)) (hJ : ∀ n l a w, J n l a w → l = 0 ∨ l = 1)
    (p0 : ∀ n a w, J n 0 a w → r0.wp P (Exit.jumps (fun l' a' w' => ∃ n', n' < n ∧ J n' l' a' w') Q) a w)
    (p1 : ∀ n a w, J n 1 a w → r1.wp P (Exit.jumps (fun l' a' w' => ∃ n', n' < n ∧ J n' l' a' w') Q) a w)
    (first : (∀ n a w, J n 0 a w → r0.wp P (Exit.jumps (fun l a w => ∃ n, J n l a w) Q) a w) → c.wp P (Exit.jumps (fun l a w => ∃ n, J n l a w) Q) a w) : (Code.scope c).wp P Q a w := by
  refine wp_scope_multi J (first fun n a w h => wp_mono (p0 n a w h) ?_) ?_
  · intro e a' w' hq
    cases e with
    | goto l => obtain ⟨n', _, h⟩ := hq; exact ⟨n', h⟩
    | normal => exact hq
    | exit id => exact hq
    | ret => exact hq
    | panic ch => exact hq
    | outgrown => exact hq
  · intro n l a w h
    rcases hJ n l a w h with rfl | rfl
    · exact ⟨_, h0, wp_seq (wp_skip (p0 n a w h))⟩
    · exact ⟨_, h1, wp_seq (wp_skip (p1 n a w h))⟩

/-- The frame at a label: a, p, m; so far q, r; the bit that is next. -/
def divFrame (a p m e l q r b : Int) (act : Act) : Prop :=
  ∃ (u12 u13 u14 u15 u16 u17 u18 u19 u20 u21 u22 u23 u24 u25 u26 u27 u28 u29 u30 u31 u32 u33 u34 u35 u36 u37 u38 u39 u40 u41 u42 u43 u44 u45 u46 u47 u48 u49 u50 u51 u52 u53 u54 u55 u56 u57 u58 u59 u60 u61 u62 u63 : Value), act = { tmps := #[.int .u64 a, .int .u64 p, .int .u64 m, undef, undef, undef, .int .u64 q, .int .u64 r, .bool false, .int .u64 e, .int .u64 l, .int .i64 b, u12, u13, u14, u15, u16, u17, u18, u19, u20, u21, u22, u23, u24, u25, u26, u27, u28, u29, u30, u31, u32, u33, u34, u35, u36, u37, u38, u39, u40, u41, u42, u43, u44, u45, u46, u47, u48, u49, u50, u51, u52, u53, u54, u55, u56, u57, u58, u59, u60, u61, u62, u63], defers := [] }
/-- What holds where the run jumps: to the loop's head, with t bits to come; or to the end, as it doesn't fit. -/
def DivJ (a p m e l : Int) (w0 : World) (n lb : Nat) (act : Act) (w : World) : Prop :=
  (lb = 0 ∧ ∃ (t : Nat) (b q r : Int), n = t + 1 ∧ divFrame a p m e l q r b act ∧ Hid (b = (t : Int) - 1 ∧ t ≤ 64 ∧ q = a * (p / 2 ^ t) / m ∧ r = a * (p / 2 ^ t) % m ∧ q < 18446744073709551616) ∧ ∃ d, w = w0.drewN d) ∨
  (lb = 1 ∧ n = 0 ∧ ∃ (q r b : Int), divFrame a p m e l q r b act ∧ Hid (18446744073709551616 ≤ a * p / m) ∧ ∃ d, w = w0.drewN d)

def divV (a p m : Int) : Int := if a * p / m < 18446744073709551616 then a * p / m else 0
def divR (a p m : Int) : Int := if a * p / m < 18446744073709551616 then a * p % m else 0
def divB (a p m : Int) : Bool := decide (a * p / m < 18446744073709551616)

set_option maxHeartbeats 4000000 in
set_option maxRecDepth 100000 in
theorem divided_any (a p m : Int) (w : World) (hm : 1 ≤ m) (hmx : m ≤ 9223372036854775807) (ha0 : 0 ≤ a) (ha : a ≤ 18446744073709551615) (hp0 : 0 ≤ p) (hp : p ≤ 18446744073709551615) :
    Calls Try.prog 111 #[.int .u64 a, .int .u64 p, .int .u64 m] w fun e w' => e = .returned (.tuple #[.int .u64 (divV a p m), .int .u64 (divR a p m), .bool (divB a p m)]) ∧ ∃ n, w' = w.drewN n := by
  obtain ⟨e, he⟩ : ∃ e, e = a / m := ⟨_, rfl⟩
  obtain ⟨l, hl⟩ : ∃ l, l = a % m := ⟨_, rfl⟩
  have HE := Lib.hid he
  have HL := Lib.hid hl
  clear he hl
  go_enter Try.func111, Try.ntmps111
  go_wp2
  refine wp_scope_two (DivJ a p m e l w) rfl rfl ?_ ?_ ?_ ?_
  · rintro n lb act w1 (⟨rfl, _⟩ | ⟨rfl, _⟩)
    · exact .inl rfl
    · exact .inr rfl
  · rintro n act w1 (⟨_, t, b, q, r, rfl, hf, hI, d, rfl⟩ | ⟨hx, _⟩)
    · obtain ⟨u12, u13, u14, u15, u16, u17, u18, u19, u20, u21, u22, u23, u24, u25, u26, u27, u28, u29, u30, u31, u32, u33, u34, u35, u36, u37, u38, u39, u40, u41, u42, u43, u44, u45, u46, u47, u48, u49, u50, u51, u52, u53, u54, u55, u56, u57, u58, u59, u60, u61, u62, u63, rfl⟩ := hf
      by_cases ht : t = 0
      · subst ht
        have hb : b < 0 := by have := hI.out.1; omega
        go_wp2
        simp only [Exit.jumps]
        go_ret3
        obtain ⟨_, _, h2, h3, h4⟩ := hI.out
        simp only [Int.pow_zero, Int.ediv_one] at h2 h3
        subst h2 h3
        exact ⟨by rw [divV, divR, divB, if_pos h4, if_pos h4, decide_eq_true h4]; rfl, d, rfl⟩
      · obtain ⟨t, rfl⟩ : ∃ k, t = k + 1 := ⟨t - 1, by omega⟩
        have hb0 : 0 ≤ b := by have := hI.out.1; omega
        have hb1 : b ≤ 63 := by have := hI.out; omega
        obtain ⟨i1, i2, i3, i4, i5⟩ := hI.out
        have q0 : 0 ≤ q := by rw [i3]; exact Int.ediv_nonneg (Int.mul_nonneg ha0 (Int.ediv_nonneg hp0 (Int.le_of_lt (Int.pow_pos (by omega))))) (by omega)
        have q1 : q ≤ 18446744073709551615 := by omega
        have r0 : 0 ≤ r := by rw [i4]; exact Int.emod_nonneg _ (by omega)
        have r1 : r ≤ m - 1 := by rw [i4]; have := Int.emod_lt_of_pos (a * (p / 2 ^ (t + 1))) (show 0 < m by omega); omega
        have l0 : 0 ≤ l := by rw [HL.out]; exact Int.emod_nonneg _ (by omega)
        have l1 : l ≤ m - 1 := by rw [HL.out]; have := Int.emod_lt_of_pos a (show 0 < m by omega); omega
        have e0 : 0 ≤ e := by rw [HE.out]; exact Int.ediv_nonneg ha0 (by omega)
        have e1 : e ≤ 18446744073709551615 := by rw [HE.out]; have := Int.ediv_le_self m ha0; omega
        have F := Lib.hid (div_step hm i3 i4 HE.out HL.out)
        have G := Lib.hid (div_over (t := t) hm ha0 hp0)
        have hbt : b.toNat = t := by omega
        have hpp : 0 ≤ p / 2 ^ t ∧ p / 2 ^ t ≤ 18446744073709551615 := ⟨Int.ediv_nonneg hp0 (Int.le_of_lt (Int.pow_pos (by omega))), by have := Int.ediv_le_self (2 ^ t) hp0; omega⟩
        have HA := Lib.hid (and_one_u64 (p / 2 ^ t) hpp.1 hpp.2)
        have HB := Lib.hid hbt
        have HC : Hid (b = (t : Int) ∧ b ≤ 63) := ⟨by omega, hb1⟩
        clear hbt hpp i1 i2 i3 i4 i5 hI ht
        go_wp2
        all_goals go_step3
        all_goals first
          | (show ∃ n', n' < t + 1 + 1 ∧ DivJ a p m e l w n' 1 _ _
             refine ⟨0, by omega, .inr ⟨rfl, rfl, _, _, _, ⟨_, _, _, _, _, _, _, _, _, _, _, _, _, _, _, _, _, _, _, _, _, _, _, _, _, _, _, _, _, _, _, _, _, _, _, _, _, _, _, _, _, _, _, _, _, _, _, _, _, _, _, _, rfl⟩, ?_, d, rfl⟩⟩
             go_light
             have hB := HB.out
             have hA := HA.out
             have F' := F.out
             have G' := G.out
             clear HA HB F G
             refine (?_ : 18446744073709551616 ≤ a * p / m)
             simp only [hB, hA, IntKind.wrap_u64, beq_iff_eq] at *
             omega)
          | (show ∃ n', n' < t + 1 + 1 ∧ DivJ a p m e l w n' 0 _ _
             refine ⟨t + 1, by omega, .inl ⟨rfl, t, _, _, _, rfl, ⟨_, _, _, _, _, _, _, _, _, _, _, _, _, _, _, _, _, _, _, _, _, _, _, _, _, _, _, _, _, _, _, _, _, _, _, _, _, _, _, _, _, _, _, _, _, _, _, _, _, _, _, _, rfl⟩, ?_, d, rfl⟩⟩
             go_light
             have hB := HB.out
             have hA := HA.out
             have F' := F.out
             clear HA HB F G
             refine (?_ : _ ∧ _ ∧ _ ∧ _ ∧ _)
             simp only [hB, hA, IntKind.wrap_u64, beq_iff_eq, beq_eq_false_iff_ne, ne_eq] at *
             have hC := HC.out
             refine ⟨?_, ?_, ?_, ?_, ?_⟩ <;> omega)
        go_goals
        go_ways
    · cases hx
  · rintro n act w1 (⟨hx, _⟩ | ⟨_, rfl, q, r, b, hf, hI, d, rfl⟩)
    · cases hx
    · obtain ⟨u12, u13, u14, u15, u16, u17, u18, u19, u20, u21, u22, u23, u24, u25, u26, u27, u28, u29, u30, u31, u32, u33, u34, u35, u36, u37, u38, u39, u40, u41, u42, u43, u44, u45, u46, u47, u48, u49, u50, u51, u52, u53, u54, u55, u56, u57, u58, u59, u60, u61, u62, u63, rfl⟩ := hf
      go_wp2
      simp only [Exit.jumps]
      go_ret3
      have h := hI.out
      have h4 : ¬ a * p / m < 18446744073709551616 := by omega
      exact ⟨by rw [divV, divR, divB, if_neg h4, if_neg h4, decide_eq_false h4]; rfl, d, rfl⟩
  · intro hf
    have HF := Lib.hid hf
    clear hf
    have hz : p / 2 ^ 64 = 0 := Int.ediv_eq_zero_of_lt hp0 (by omega)
    have HZ := Lib.hid hz
    clear hz
    go_wp2
    go_quiet (fail)
    go_wp2
    rw [← HE.out, ← HL.out]
    refine wp_label ?_
    simp only [Exit.then]
    apply_assumption
    exact HF.out 65 _ _ (.inl ⟨rfl, 64, 63, 0, 0, rfl, ⟨_, _, _, _, _, _, _, _, _, _, _, _, _, _, _, _, _, _, _, _, _, _, _, _, _, _, _, _, _, _, _, _, _, _, _, _, _, _, _, _, _, _, _, _, _, _, _, _, _, _, _, _, rfl⟩, ⟨by omega, by omega, by rw [HZ.out]; simp, by rw [HZ.out]; simp, by omega⟩, _, rfl⟩)
end Go.Proofs.Ytophfbnajelknaa

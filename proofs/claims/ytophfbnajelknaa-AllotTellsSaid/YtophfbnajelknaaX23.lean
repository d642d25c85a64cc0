import Derived.Test.YtophfbnajelknaaX22
import Derived.Test.YtophfbnajelknaaSome
/- Reference R13: Some, where it may not be. -/
namespace Go.Proofs.Ytophfbnajelknaa
open Go.RowKit
attribute [local go_sem ↓] Go.wp_at_zero Go.wp_at_succ

theorem drew_ex {w : World} {m n : Nat} : ∃ k, (w.drewN m).drewN n = w.drewN k := ⟨_, World.drewN_drewN _ _ _⟩
/-- The place ahead of k. -/
def lastAt (whose : List Int) : Nat → Int
  | 0 => -1
  | k + 1 => whose.getD k 0

set_option maxHeartbeats 8000000 in
set_option maxRecDepth 100000 in
theorem rsome_bad (price : Int) (A : Option Addr) (c : Nat) (alone : List Int) (A' : Option Addr) (c' : Nat) (whose : List Int) (w : World) (ha : Reads w w.heap.size 1 A alone.length (ints alone)) (hl : alone.length ≤ 1000)
    (hw : Reads w w.heap.size 1 A' whose.length (ints whose)) (hl' : whose.length ≤ 1000) (hb : someBad price alone whose = true) :
    Calls Try.prog 39 #[.int .i64 price, .slice A alone.length c, .slice A' whose.length c'] w fun e w' => e = .returned (.tuple #[.slice none 0 0, .int .i64 1]) ∧ ∃ n, w' = w.drewN n := by
  by_cases hp : price < 0
  · have hpd : decide (price < 0) = true := decide_eq_true hp
    clear hb ha hw
    go_enter Try.func39, Try.ntmps39
    go_wp2
    go_ret2
    exact ⟨rfl, 0, rfl⟩
  · have hpd : decide (price < 0) = false := decide_eq_false hp
    have HA := Lib.hid ha
    have HW := Lib.hid hw
    by_cases h0 : whose.length = 0
    · have h0' : ((whose.length : Int) == 0) = true := by rw [h0]; rfl
      have H0 := Lib.hid h0
      clear hb ha hw h0
      go_enter Try.func39, Try.ntmps39
      go_wp2
      go_ret2
      exact ⟨rfl, 0, rfl⟩
    · have h0' : ((whose.length : Int) == 0) = false := by rw [beq_eq_false_iff_ne]; omega
      have hb2 : (alone.any fun x => decide (x < 0)) = true ∨ okFrom (-1) alone.length whose = false := by
        unfold someBad risesB at hb
        rw [decide_eq_false hp, decide_eq_true (show 0 < whose.length by omega)] at hb
        simpa using hb
      have HBB := Lib.hid hb2
      clear hb hb2 ha hw
      go_enter Try.func39, Try.ntmps39
      go_wp2
      go_loopg [8] alone.length (fun kq v8 w' => ∃ k : Nat, k ≤ alone.length ∧ kq = alone.length - k ∧ v8 = .int .i64 k ∧ Aside ((alone.take k).any (fun x => decide (x < 0)) = false) ∧ w = w')
      case atStart => exact ⟨0, by omega, by omega, rfl, by simp [Aside], rfl⟩
      case round =>
        obtain ⟨k, hk, rfl, rfl, HI, rfl⟩ := hrel
        by_cases hlt : k < alone.length
        · obtain ⟨ad, rfl, hbl, hcl⟩ := HA.out.int_at hlt
          obtain ⟨x1, hx1⟩ : ∃ x, x = alone.getD k 0 := ⟨_, rfl⟩
          have HJ0 : Hid ((alone.take (k + 1)).any (fun x => decide (x < 0)) = decide (x1 < 0)) := by
            show _ = _; rw [any_snoc _ alone k hlt, HI.out, hx1]; simp
          rw [← hx1] at hcl
          clear hx1 HI
          by_cases hng : x1 < 0
          · go_wp2
            go_ret2
            exact ⟨rfl, 0, rfl⟩
          · have HJ := HJ0.out
            rw [decide_eq_false hng] at HJ
            have HJ := Lib.hid HJ
            go_wp2
            go_roundg (alone.length - (k + 1))
            case measure => omega
            case rel => exact ⟨k + 1, by omega, rfl, by go_num, HJ.out, rfl⟩
        · obtain rfl : k = alone.length := by omega
          have hok : Hid (okFrom (-1) alone.length whose = false) := by
            have h1 := HI.out
            rw [List.take_length] at h1
            rcases HBB.out with h2 | h2
            · rw [h1] at h2; cases h2
            · exact h2
          clear HI HBB
          go_wp2
          go_loopg [9] whose.length (fun kq v9 w' => ∃ k : Nat, k ≤ whose.length ∧ kq = whose.length - k ∧ v9 = .int .i64 k ∧ Aside (okFrom (lastAt whose k) alone.length (whose.drop k) = false) ∧ ∃ m, w' = w.drewN m)
          case atStart => exact ⟨0, by omega, by omega, rfl, hok.out, 0, rfl⟩
          case round =>
            obtain ⟨k, hk', rfl, rfl, HI, m, rfl⟩ := hrel
            by_cases hlt : k < whose.length
            · obtain ⟨ad, rfl, hbl, hcl⟩ := HW.out.int_at hlt
              obtain ⟨a, ha⟩ : ∃ x, x = whose.getD k 0 := ⟨_, rfl⟩
              have hd := okFrom_drop (last := lastAt whose k) (most := alone.length) hlt
              rw [HI.out, ← ha] at hd
              have hk0 : (0 : Int) ≤ (k : Int) := by omega
              have hk1 : (k : Int) < (whose.length : Int) := by omega
              rw [← ha] at hcl
              by_cases c1 : a < 0
              · clear hd ha HI
                have d1 : decide (a < 0) = true := decide_eq_true c1
                go_wp2
                go_quiet (fail)
                go_wp2
                go_ret2
                exact ⟨rfl, drew_ex⟩
              · have d1 : decide (a < 0) = false := decide_eq_false c1
                by_cases c2 : (alone.length : Int) ≤ a
                · have d2 : decide (a ≥ (alone.length : Int)) = true := decide_eq_true c2
                  clear hd ha HI
                  go_wp2
                  go_quiet (fail)
                  go_wp2
                  go_ret2
                  exact ⟨rfl, drew_ex⟩
                · have d2 : decide (a ≥ (alone.length : Int)) = false := decide_eq_false c2
                  rw [decide_eq_true (show a < (alone.length : Int) by omega), Bool.and_true] at hd
                  have hnx : lastAt whose (k + 1) = a := ha.symm
                  by_cases hk00 : k = 0
                  · have d3 : decide (0 < k) = false := decide_eq_false (by omega)
                    have hla : lastAt whose k < a := by rw [hk00]; show -1 < a; omega
                    rw [decide_eq_true hla, Bool.true_and] at hd
                    have HD : Hid (okFrom (lastAt whose (k + 1)) alone.length (whose.drop (k + 1)) = false) := by show _ = _; rw [hnx]; exact hd.symm
                    clear hd ha HI hk00 hnx hla
                    go_wp2
                    go_quiet (fail)
                    go_wp2
                    go_roundg (whose.length - (k + 1))
                    case measure => omega
                    case rel => exact ⟨k + 1, by omega, rfl, by go_num, HD.out, _, rfl⟩
                  · obtain ⟨p, hp⟩ : ∃ p, k = p + 1 := ⟨k - 1, by omega⟩
                    obtain ⟨_, had, hbl', hcl'⟩ := HW.out.int_at (show p < whose.length by omega)
                    cases had
                    obtain ⟨b, hb⟩ : ∃ x, x = whose.getD p 0 := ⟨_, rfl⟩
                    rw [← hb] at hcl'
                    have hlast : lastAt whose k = b := by rw [hp]; exact hb.symm
                    rw [hlast] at hd
                    have d3 : decide (0 < k) = true := decide_eq_true (by omega)
                    have p0 : (0 : Int) ≤ (p : Int) := by omega
                    have p1 : (p : Int) < (whose.length : Int) := by omega
                    have pw : IntKind.i64.wrap ((k : Int) - 1) = (p : Int) := by rw [IntKind.wrap_i64]; omega
                    by_cases c3 : a ≤ b
                    · have d4 : decide (a ≤ b) = true := decide_eq_true c3
                      clear hd ha hb HI hlast hp hnx hk00
                      go_wp2
                      go_quiet (fail)
                      go_wp2
                      go_ret2
                      exact ⟨rfl, drew_ex⟩
                    · have d4 : decide (a ≤ b) = false := decide_eq_false c3
                      rw [decide_eq_true (show b < a by omega), Bool.true_and] at hd
                      have HD : Hid (okFrom (lastAt whose (k + 1)) alone.length (whose.drop (k + 1)) = false) := by show _ = _; rw [hnx]; exact hd.symm
                      clear hd ha hb HI hlast hp hnx hk00
                      go_wp2
                      go_quiet (fail)
                      clear pw
                      go_wp2
                      go_roundg (whose.length - (k + 1))
                      case measure => omega
                      case rel => exact ⟨k + 1, by omega, rfl, by go_num, HD.out, _, rfl⟩
            · obtain rfl : k = whose.length := by omega
              have := HI.out
              rw [List.drop_length] at this
              cases this
end Go.Proofs.Ytophfbnajelknaa

import Derived.Test.YtophfbnajelknaaX1
/- Reference R01: Neg, least. -/
namespace Go.Proofs.Ytophfbnajelknaa
open Go.RowKit

theorem Blk.newg {W : World} {t : TypeId} {cs : Array Value} {g : Nat} (hg : W.heap.size = g) : Blk (W.alloc (.cells cs t)) g t cs := by subst hg; exact Blk.new _ _ _
/-- s fits: no overflow where its sign turns. -/
theorem Num.sign_small {s : Int} {ds : List Int} {z : Int} (h : Num s ds z) : s = 0 ∨ s = 1 ∨ s = -1 := by
  rcases h.kind with ⟨e, _⟩ | ⟨e, _⟩ <;> omega

set_option maxHeartbeats 4000000 in
set_option maxRecDepth 100000 in
theorem neg_any (v : Value) (z : Int) (w : World) (h : Ex w v z) :
    Calls Try.prog 60 #[v] w fun e w' => ∃ v', e = .returned v' ∧ Ex w' v' (-z) ∧ Below w.heap.size w w' := by
  obtain ⟨s, A, c, ds, rfl, hr, hn⟩ := h
  have HR := Lib.hid hr
  have HN := Lib.hid hn
  have hs := hn.sign_small
  have hs1 : -2 < s ∧ s < 2 := by omega
  obtain ⟨hs2, hs3⟩ := hs1
  clear hr hn hs
  go_enter Try.func60, Try.ntmps60
  go_wp2
  refine ret102 rfl rfl rfl (Blk.newg (by simp)) ⟨_, rfl, ?_, ?_⟩
  · exact ⟨-s, A, c, ds, rfl, (HR.out.alloc _).alloc _, HN.out.neg⟩
  · exact ((Below.refl w.heap.size w).alloc (Nat.le_refl _) _).alloc (by simp) _

theorem valD_pad {l : List Int} (k : Nat) : valD (l.take (k + 1)) = valD (l.take k) + 1000 ^ k * l.getD k 0 := by
  by_cases h : k < l.length
  · exact valD_take h
  · rw [List.take_of_length_le (by omega), List.take_of_length_le (by omega), getD_past (by omega), Int.mul_zero, Int.add_zero]
theorem Digs.getD {l : List Int} (h : Digs l) (k : Nat) : 0 ≤ l.getD k 0 ∧ l.getD k 0 < 1000 := by
  by_cases hk : k < l.length
  · exact h _ (getD_mem hk)
  · rw [getD_past (by omega)]; omega
theorem valD_take_lt {l : List Int} (h : Digs l) : ∀ k, valD (l.take k) < 1000 ^ k
  | 0 => by simp [valD]
  | k + 1 => by
    have := valD_take_lt h k
    have h1 := h.getD k
    have h2 : (1000 : Int) ^ k * l.getD k 0 ≤ 1000 ^ k * 999 := Int.mul_le_mul_of_nonneg_left (by omega) (Int.le_of_lt (pow1000_pos _))
    rw [valD_pad, Int.pow_succ]; omega
/-- The highest digit that differs decides. -/
theorem digit_decides {a b : List Int} (ha : Digs a) (hb : Digs b) (i : Nat) (h : valD a - valD b = valD (a.take (i + 1)) - valD (b.take (i + 1))) :
    (a.getD i 0 < b.getD i 0 → valD a < valD b) ∧ (b.getD i 0 < a.getD i 0 → valD b < valD a) ∧ (a.getD i 0 = b.getD i 0 → valD a - valD b = valD (a.take i) - valD (b.take i)) := by
  rw [valD_pad, valD_pad] at h
  have a1 := valD_take_lt ha i
  have b1 := valD_take_lt hb i
  have a0 := valD_nonneg (ha.take i)
  have b0 := valD_nonneg (hb.take i)
  refine ⟨fun c => ?_, fun c => ?_, fun c => ?_⟩
  · have : (1000 : Int) ^ i * (a.getD i 0 + 1) ≤ 1000 ^ i * b.getD i 0 := Int.mul_le_mul_of_nonneg_left (by omega) (Int.le_of_lt (pow1000_pos _))
    rw [Int.mul_add, Int.mul_one] at this
    omega
  · have : (1000 : Int) ^ i * (b.getD i 0 + 1) ≤ 1000 ^ i * a.getD i 0 := Int.mul_le_mul_of_nonneg_left (by omega) (Int.le_of_lt (pow1000_pos _))
    rw [Int.mul_add, Int.mul_one] at this
    omega
  · rw [c] at h; omega

set_option maxHeartbeats 4000000 in
set_option maxRecDepth 100000 in
theorem least_any (A : Option Addr) (c : Nat) (a : List Int) (B : Option Addr) (d : Nat) (b : List Int) (w : World) (hr : Reads w w.heap.size 1 A a.length (ints a)) (hr' : Reads w w.heap.size 1 B b.length (ints b)) (ha : Digs a) (hb : Digs b) (hl : a.length ≤ 10000) (hl' : b.length ≤ 10000) :
    Calls Try.prog 94 #[.slice A a.length c, .slice B b.length d] w fun e w' => e = .returned (.bool (decide (valD a < valD b))) ∧ ∃ n, w' = w.drewN n := by
  have HA := Lib.hid (fun i m => at_any A c a i (w.drewN m) hr)
  have HB := Lib.hid (fun i m => at_any B d b i (w.drewN m) hr')
  have DA := Lib.hid ha
  have DB := Lib.hid hb
  clear hr hr' ha hb
  obtain ⟨r, hrr⟩ : ∃ r, r = decide (valD a < valD b) := ⟨_, rfl⟩
  rw [← hrr]
  have HRR := Lib.hid hrr
  clear hrr
  go_enter Try.func94, Try.ntmps94
  go_wp2
  all_goals
    go_loopg [5] (max a.length b.length) (fun kq v5 w' => ∃ (k : Nat) (z : Int), k ≤ 10000 ∧ k = kq ∧ z = k - 1 ∧ v5 = .int .i64 z ∧ Aside (valD a - valD b = valD (a.take k) - valD (b.take k)) ∧ ∃ m, w' = w.drewN m)
    case atStart => exact ⟨_, _, by omega, rfl, by omega, rfl, by rw [Aside, List.take_of_length_le (by omega), List.take_of_length_le (by omega)], 0, rfl⟩
    case round =>
      obtain ⟨k, z, hk, rfl, hz, rfl, HI, m, rfl⟩ := hrel
      rcases k with _ | k
      · have hz0 : z < 0 := by omega
        clear hz
        have h1 : (false) = r := by
          rw [HRR.out, eq_comm, decide_eq_false_iff_not]
          have := HI.out
          simp [valD] at this
          omega
        subst h1
        go_wp2
        go_ret
        exact ⟨rfl, _, rfl⟩
      · obtain rfl : z = k := by omega
        clear hz
        obtain ⟨x, hx⟩ : ∃ x, x = a.getD k 0 := ⟨_, rfl⟩
        obtain ⟨y, hy⟩ : ∃ y, y = b.getD k 0 := ⟨_, rfl⟩
        have dd := digit_decides DA.out DB.out k HI.out
        rw [← hx, ← hy] at dd
        have CA : Hid (∀ W, (∃ m, W = w.drewN m) → Calls Try.prog 93 #[.slice A a.length c, .int .i64 k] W fun e w' => e = .returned (.int .i64 x) ∧ W = w') := by
          rintro W ⟨m, rfl⟩; rw [hx]; exact HA.out k m
        have CB : Hid (∀ W, (∃ m, W = w.drewN m) → Calls Try.prog 93 #[.slice B b.length d, .int .i64 k] W fun e w' => e = .returned (.int .i64 y) ∧ W = w') := by
          rintro W ⟨m, rfl⟩; rw [hy]; exact HB.out k m
        clear hx hy
        by_cases hxy : x = y
        · have h1 : (x != y) = false := by rw [hxy]; exact bne_self_eq_false _
          have HJ := Lib.hid (dd.2.2 hxy)
          clear dd hxy
          go_wp2_with (first | (go_at_call_of 93 (Value.slice A a.length c); go_must (refine (CA.out _ ⟨m, rfl⟩).mono ?_); rintro e w1 ⟨rfl, rfl⟩) | (go_at_call_of 93 (Value.slice B b.length d); go_must (refine (CB.out _ ⟨m, rfl⟩).mono ?_); rintro e w1 ⟨rfl, rfl⟩))
          go_roundg k
          case measure => omega
          case rel => exact ⟨k, (k : Int) - 1, by omega, rfl, rfl, rfl, HJ.out, m, rfl⟩
        · have h1 : (x != y) = true := bne_iff_ne.2 hxy
          have h2 : r = decide (x < y) := by
            rw [HRR.out]
            by_cases hlt : x < y
            · rw [decide_eq_true hlt, decide_eq_true (dd.1 hlt)]
            · rw [decide_eq_false hlt, decide_eq_false]
              have := dd.2.1 (by omega); omega
          clear dd hxy
          go_wp2_with (first | (go_at_call_of 93 (Value.slice A a.length c); go_must (refine (CA.out _ ⟨m, rfl⟩).mono ?_); rintro e w1 ⟨rfl, rfl⟩) | (go_at_call_of 93 (Value.slice B b.length d); go_must (refine (CB.out _ ⟨m, rfl⟩).mono ?_); rintro e w1 ⟨rfl, rfl⟩))
          go_ret
          exact ⟨by rw [h2]; rfl, m, rfl⟩
end Go.Proofs.Ytophfbnajelknaa

import Derived.Test.YtophfbnajelknaaX10
/- Reference R01: Fit. -/
namespace Go.Proofs.Ytophfbnajelknaa
open Go.RowKit
attribute [local go_sem ↓] Go.wp_at_zero Go.wp_at_succ

theorem valD_drop {l : List Int} {k : Nat} (h : k < l.length) : valD (l.drop k) = l.getD k 0 + 1000 * valD (l.drop (k + 1)) := by
  rw [List.drop_eq_getElem_cons h, valD, List.getD_eq_getElem?_getD, List.getElem?_eq_getElem h]; rfl
theorem Digs.drop {l : List Int} (h : Digs l) (k : Nat) : Digs (l.drop k) := fun x hx => h x (List.mem_of_mem_drop hx)
theorem valD_drop_le {l : List Int} (h : Digs l) : ∀ k, valD (l.drop k) ≤ valD l
  | 0 => by rw [List.drop_zero]; exact Int.le_refl _
  | k + 1 => by
    have h1 := valD_drop_le h k
    by_cases hk : k < l.length
    · have h2 := valD_drop hk
      have h3 := h.getD k
      have h4 := valD_nonneg (h.drop (k + 1))
      omega
    · rw [List.drop_eq_nil_of_le (by omega)]; exact valD_nonneg h
theorem small_of_in {z : Int} (h : inI z) : Small 7 z := by unfold inI lowI topI at h; unfold Small; omega
theorem small_in {z : Int} (h : inI z) : Small 100 z := (small_of_in h).mono (by omega)

theorem Blk.drew {w : World} {g : Nat} {t : TypeId} {cs : Array Value} (h : Blk w g t cs) : Blk w.drew g t cs := h
theorem Blk.cells2 {w : World} {g : Nat} {t : TypeId} {x y : Value} (h : Blk w g t #[x, y]) : w.cell? ⟨g, 0, none⟩ = some x ∧ w.cell? ⟨g, 1, none⟩ = some y := by
  have c00 := h.cell 0
  have c01 := h.cell 1
  simp at c00 c01
  exact ⟨c00, c01⟩

set_option maxHeartbeats 8000000 in
set_option maxRecDepth 100000 in
theorem fit_in (v : Value) (z : Int) (w : World) (h : Ex w v z) (hz : inI z) :
    Calls Try.prog 58 #[v] w fun e w' => e = .returned (.tuple #[.int .i64 z, .int .i64 0]) ∧ Below w.heap.size w w' := by
  have H1 := Lib.hid h
  have L1 := Lib.hid (small_in hz)
  obtain ⟨s, A, c, ds, rfl, hr, hn⟩ := h
  have hl := hn.size (small_of_in hz)
  have HR := Lib.hid hr
  have HN := Lib.hid hn
  have HZ := Lib.hid hz
  clear hr hn hz
  obtain ⟨w0, hw0⟩ : ∃ w0, w0 = w.alloc (.cells #[.int .i64 s, .slice A ds.length c] 102) := ⟨_, rfl⟩
  have HB0 : Below w.heap.size w w0 := by rw [hw0]; exact (Below.refl w.heap.size w).alloc (Nat.le_refl _) _
  have HK : Blk w0 w.heap.size 102 #[.int .i64 s, .slice A ds.length c] := by rw [hw0]; exact Blk.new _ _ _
  have HB := Lib.hid HB0
  have HK1 := Lib.hid HK
  clear HB0 HK
  have C1 : Hid (∀ W, Below w.heap.size w W → Calls Try.prog 61 #[.int .i64 9223372036854775807] W fun e w' => ∃ v, e = .returned v ∧ Ex w' v 9223372036854775807 ∧ Below W.heap.size W w') := fun W _ => of_any _ W (by unfold inI lowI topI; omega)
  have C2 : Hid (∀ W, Below w.heap.size w W → Calls Try.prog 61 #[.int .i64 (-9223372036854775808)] W fun e w' => ∃ v, e = .returned v ∧ Ex w' v (-9223372036854775808) ∧ Below W.heap.size W w') := fun W _ => of_any _ W (by unfold inI lowI topI; omega)
  obtain ⟨q1, hq1⟩ : ∃ q, q = (z - 9223372036854775807).sign := ⟨_, rfl⟩
  obtain ⟨q2, hq2⟩ : ∃ q, q = (z - -9223372036854775808).sign := ⟨_, rfl⟩
  have g1 : decide (q1 > 0) = false := by
    have := HZ.out; unfold inI lowI topI at this
    rw [hq1, decide_eq_false_iff_not]; rcases Int.lt_or_eq_of_le this.2 with h | h
    · rw [Int.sign_eq_neg_one_of_neg (by omega)]; omega
    · rw [h]; decide
  have g2 : decide (q2 < 0) = false := by
    have := HZ.out; unfold inI lowI topI at this
    rw [hq2, decide_eq_false_iff_not]; rcases Int.lt_or_eq_of_le this.1 with h | h
    · rw [Int.sign_eq_one_of_pos (by omega)]; omega
    · rw [← h]; decide
  have M1 : Hid (∀ W u, Below w.heap.size w W → Ex W u 9223372036854775807 → Calls Try.prog 91 #[.agg #[.int .i64 s, .slice A ds.length c], u] W fun e w' => e = .returned (.int .i64 q1) ∧ Below W.heap.size W w') := by
    intro W u hb hu; rw [hq1]; exact cmp_any _ _ z _ W (H1.out.below hb) hu L1.out (small_in (by unfold inI lowI topI; omega))
  have M2 : Hid (∀ W u, Below w.heap.size w W → Ex W u (-9223372036854775808) → Calls Try.prog 91 #[.agg #[.int .i64 s, .slice A ds.length c], u] W fun e w' => e = .returned (.int .i64 q2) ∧ Below W.heap.size W w') := by
    intro W u hb hu; rw [hq2]; exact cmp_any _ _ z _ W (H1.out.below hb) hu L1.out (small_in (by unfold inI lowI topI; omega))
  clear hq1 hq2
  have k0 := HK1.out.cell 0
  have k1 := HK1.out.cell 1
  simp at k0 k1
  go_enter Try.func58, Try.ntmps58
  go_wp2
  rw [← hw0]
  clear hw0
  go_region_held3 (fun w' => w'.cell? ⟨w.heap.size, 0, none⟩ = some (.int .i64 s) ∧ w'.cell? ⟨w.heap.size, 1, none⟩ = some (.slice A ds.length c)) (first | go_keep | exact K4.cells2 | exact K3.cells2 | exact K2.cells2 | exact K1.cells2) (first | (go_at_call_of 61 (Value.int .i64 9223372036854775807); go_must (refine (C1.out _ ?_).mono ?_); exact HB.out.drew; rintro e w1 ⟨v1, rfl, hv1, hb1⟩; have B1 := below_then HB.out.drew hb1 HB.out.drew.size; have K1 := HK1.out.drew.below hb1 HK1.out.lt) | (go_at_call_of 91 v1; go_must (refine (M1.out _ _ B1 hv1).mono ?_); rintro e w2 ⟨rfl, hb2⟩; have B2 := below_then B1 hb2 B1.size; have K2 := K1.below hb2 K1.lt) | (go_at_call 61; go_must (refine (C2.out _ ?_).mono ?_); exact B2; rintro e w3 ⟨v3, rfl, hv3, hb3⟩; have B3 := below_then B2 hb3 B2.size; have K3 := K2.below hb3 K2.lt) | (go_at_call_of 91 v3; go_must (refine (M2.out _ _ B3 hv3).mono ?_); rintro e w4 ⟨rfl, hb4⟩; have B4 := below_then B3 hb4 B3.size; have K4 := K3.below hb4 K3.lt))
  all_goals
    obtain ⟨wf, hwf⟩ : ∃ wf, wf = w4 := ⟨_, rfl⟩
    rw [← hwf] at B4 K4 ⊢
    clear hwf K1 K2 K3 B1 B2 B3 hb1 hb2 hb3 hb4 hv1 hv3 k0 k1
    have k0 := K4.cells2.1
    have k1 := K4.cells2.2
    have HRd := Lib.hid (HR.out.below B4).r
    clear K4
    go_wp2
    go_loopg [4, 5] ds.length (fun kq v4 v5 w' => ∃ (k : Nat) (i n : Int), k ≤ ds.length ∧ k = kq ∧ v5 = .int .i64 i ∧ i = k - 1 ∧ v4 = .int .i64 n ∧ Aside (n = s * valD (ds.drop k)) ∧ ∃ m, w' = wf.drewN m)
    case atStart => exact ⟨ds.length, _, 0, Nat.le_refl _, rfl, rfl, rfl, rfl, by rw [Aside, List.drop_length, valD, Int.mul_zero], 0, rfl⟩
    case round =>
      obtain ⟨k, i, n, hk, rfl, rfl, hi, rfl, HI, m, rfl⟩ := hrel
      rcases k with _ | k
      · have hi0 : i < 0 := by omega
        clear hi
        have hnz : n = z := by rw [HI.out, List.drop_zero]; exact HN.out.val.symm
        go_wp2
        go_ret2
        exact ⟨by rw [hnz]; rfl, below_drewN B4⟩
      · obtain rfl : i = k := by omega
        clear hi
        obtain ⟨ad, rfl, hbl, hcl⟩ := HRd.out.int_at (show k < ds.length by omega)
        obtain ⟨x1, hx1⟩ : ∃ x, x = ds.getD k 0 := ⟨_, rfl⟩
        have hd := valD_drop (show k < ds.length by omega)
        have hb := HN.out.digs.getD k
        have hle := valD_drop_le HN.out.digs k
        have hp0 := valD_nonneg (HN.out.digs.drop (k + 1))
        rw [← hx1] at hd hb hcl
        obtain ⟨q, hq⟩ : ∃ q, q = s * x1 := ⟨_, rfl⟩
        obtain ⟨n', hn'⟩ : ∃ n', n' = s * valD (ds.drop k) := ⟨_, rfl⟩
        have hzz : -9223372036854775808 ≤ z ∧ z ≤ 9223372036854775807 := HZ.out
        have hv := HN.out.val
        have hs := HN.out.sign_small
        have e : n' = 1000 * n + q ∧ -1000 < q ∧ q < 1000 ∧ -9223372036854775808 ≤ 1000 * n ∧ 1000 * n ≤ 9223372036854775807 ∧ -9223372036854775808 ≤ n' ∧ n' ≤ 9223372036854775807 := by
          rw [HI.out, hn', hq]
          rcases hs with rfl | rfl | rfl <;> omega
        obtain ⟨e1, e2, e3, e4, e5, e6, e7⟩ := e
        have HN' := Lib.hid hn'
        have w1' : IntKind.i64.wrap (s * x1) = q := by rw [← hq, IntKind.wrap_i64]; omega
        have w2' : IntKind.i64.wrap (1000 * n) = 1000 * n := by rw [IntKind.wrap_i64]; omega
        have w3' : IntKind.i64.wrap (1000 * n + q) = n' := by rw [← e1, IntKind.wrap_i64]; omega
        have hk0 : (0 : Int) ≤ (k : Int) := by omega
        have hk1 : (k : Int) < (ds.length : Int) := by omega
        clear hd hb hle hp0 hzz hv hs hq hn' hx1 e1 HI
        go_wp2
        go_quiet (fail)
        clear w1' w2' w3'
        go_wp2
        go_roundg k
        case measure => omega
        case rel => exact ⟨k, (k : Int) - 1, n', by omega, rfl, rfl, rfl, rfl, HN'.out, _, rfl⟩

set_option maxHeartbeats 8000000 in
set_option maxRecDepth 100000 in
theorem fit_over (v : Value) (z : Int) (w : World) (h : Ex w v z) (hz : 9223372036854775807 < z) (hlx : Small 100 z) :
    Calls Try.prog 58 #[v] w fun e w' => e = .returned (.tuple #[.int .i64 0, .int .i64 3]) ∧ Below w.heap.size w w' := by
  have H1 := Lib.hid h
  have L1 := Lib.hid hlx
  obtain ⟨s, A, c, ds, rfl, hr, hn⟩ := h
  have HZ := Lib.hid hz
  clear hr hn hz hlx
  obtain ⟨w0, hw0⟩ : ∃ w0, w0 = w.alloc (.cells #[.int .i64 s, .slice A ds.length c] 102) := ⟨_, rfl⟩
  have HB0 : Below w.heap.size w w0 := by rw [hw0]; exact (Below.refl w.heap.size w).alloc (Nat.le_refl _) _
  have HK : Blk w0 w.heap.size 102 #[.int .i64 s, .slice A ds.length c] := by rw [hw0]; exact Blk.new _ _ _
  have HB := Lib.hid HB0
  have HK1 := Lib.hid HK
  clear HB0 HK
  have C1 : Hid (∀ W, Below w.heap.size w W → Calls Try.prog 61 #[.int .i64 9223372036854775807] W fun e w' => ∃ v, e = .returned v ∧ Ex w' v 9223372036854775807 ∧ Below W.heap.size W w') := fun W _ => of_any _ W (by unfold inI lowI topI; omega)
  have C2 : Hid (∀ W, Below w.heap.size w W → Calls Try.prog 61 #[.int .i64 (-9223372036854775808)] W fun e w' => ∃ v, e = .returned v ∧ Ex w' v (-9223372036854775808) ∧ Below W.heap.size W w') := fun W _ => of_any _ W (by unfold inI lowI topI; omega)
  obtain ⟨q1, hq1⟩ : ∃ q, q = (z - 9223372036854775807).sign := ⟨_, rfl⟩
  obtain ⟨q2, hq2⟩ : ∃ q, q = (z - -9223372036854775808).sign := ⟨_, rfl⟩
  have g1 : decide (q1 > 0) = true := by
    have := HZ.out
    rw [hq1, decide_eq_true_iff, Int.sign_eq_one_of_pos (by omega)]; omega
  have M1 : Hid (∀ W u, Below w.heap.size w W → Ex W u 9223372036854775807 → Calls Try.prog 91 #[.agg #[.int .i64 s, .slice A ds.length c], u] W fun e w' => e = .returned (.int .i64 q1) ∧ Below W.heap.size W w') := by
    intro W u hb hu; rw [hq1]; exact cmp_any _ _ z _ W (H1.out.below hb) hu L1.out (small_in (by unfold inI lowI topI; omega))
  have M2 : Hid (∀ W u, Below w.heap.size w W → Ex W u (-9223372036854775808) → Calls Try.prog 91 #[.agg #[.int .i64 s, .slice A ds.length c], u] W fun e w' => e = .returned (.int .i64 q2) ∧ Below W.heap.size W w') := by
    intro W u hb hu; rw [hq2]; exact cmp_any _ _ z _ W (H1.out.below hb) hu L1.out (small_in (by unfold inI lowI topI; omega))
  clear hq1 hq2
  have k0 := HK1.out.cell 0
  have k1 := HK1.out.cell 1
  simp at k0 k1
  go_enter Try.func58, Try.ntmps58
  go_wp2
  rw [← hw0]
  clear hw0
  go_region_with (first | (go_at_call 61; go_must (refine (C1.out _ ?_).mono ?_); exact HB.out.drew; rintro e w1 ⟨v1, rfl, hv1, hb1⟩; have B1 := below_then HB.out.drew hb1 HB.out.drew.size; have K1 := HK1.out.drew.below hb1 HK1.out.lt; have k10 := K1.cells2.1; have k11 := K1.cells2.2) | (go_at_call 91; go_must (refine (M1.out _ _ B1 hv1).mono ?_); rintro e w2 ⟨rfl, hb2⟩; have B2 := below_then B1 hb2 B1.size; have K2 := K1.below hb2 K1.lt))
  all_goals
    go_wp2
    go_ret2
    exact ⟨rfl, by assumption⟩

set_option maxHeartbeats 8000000 in
set_option maxRecDepth 100000 in
theorem fit_under (v : Value) (z : Int) (w : World) (h : Ex w v z) (hz : z < -9223372036854775808) (hlx : Small 100 z) :
    Calls Try.prog 58 #[v] w fun e w' => e = .returned (.tuple #[.int .i64 0, .int .i64 3]) ∧ Below w.heap.size w w' := by
  have H1 := Lib.hid h
  have L1 := Lib.hid hlx
  obtain ⟨s, A, c, ds, rfl, hr, hn⟩ := h
  have HZ := Lib.hid hz
  clear hr hn hz hlx
  obtain ⟨w0, hw0⟩ : ∃ w0, w0 = w.alloc (.cells #[.int .i64 s, .slice A ds.length c] 102) := ⟨_, rfl⟩
  have HB0 : Below w.heap.size w w0 := by rw [hw0]; exact (Below.refl w.heap.size w).alloc (Nat.le_refl _) _
  have HK : Blk w0 w.heap.size 102 #[.int .i64 s, .slice A ds.length c] := by rw [hw0]; exact Blk.new _ _ _
  have HB := Lib.hid HB0
  have HK1 := Lib.hid HK
  clear HB0 HK
  have C1 : Hid (∀ W, Below w.heap.size w W → Calls Try.prog 61 #[.int .i64 9223372036854775807] W fun e w' => ∃ v, e = .returned v ∧ Ex w' v 9223372036854775807 ∧ Below W.heap.size W w') := fun W _ => of_any _ W (by unfold inI lowI topI; omega)
  have C2 : Hid (∀ W, Below w.heap.size w W → Calls Try.prog 61 #[.int .i64 (-9223372036854775808)] W fun e w' => ∃ v, e = .returned v ∧ Ex w' v (-9223372036854775808) ∧ Below W.heap.size W w') := fun W _ => of_any _ W (by unfold inI lowI topI; omega)
  obtain ⟨q1, hq1⟩ : ∃ q, q = (z - 9223372036854775807).sign := ⟨_, rfl⟩
  obtain ⟨q2, hq2⟩ : ∃ q, q = (z - -9223372036854775808).sign := ⟨_, rfl⟩
  have g1 : decide (q1 > 0) = false := by
    have := HZ.out
    rw [hq1, decide_eq_false_iff_not, Int.sign_eq_neg_one_of_neg (by omega)]; omega
  have g2 : decide (q2 < 0) = true := by
    have := HZ.out
    rw [hq2, decide_eq_true_iff, Int.sign_eq_neg_one_of_neg (by omega)]; omega
  have M1 : Hid (∀ W u, Below w.heap.size w W → Ex W u 9223372036854775807 → Calls Try.prog 91 #[.agg #[.int .i64 s, .slice A ds.length c], u] W fun e w' => e = .returned (.int .i64 q1) ∧ Below W.heap.size W w') := by
    intro W u hb hu; rw [hq1]; exact cmp_any _ _ z _ W (H1.out.below hb) hu L1.out (small_in (by unfold inI lowI topI; omega))
  have M2 : Hid (∀ W u, Below w.heap.size w W → Ex W u (-9223372036854775808) → Calls Try.prog 91 #[.agg #[.int .i64 s, .slice A ds.length c], u] W fun e w' => e = .returned (.int .i64 q2) ∧ Below W.heap.size W w') := by
    intro W u hb hu; rw [hq2]; exact cmp_any _ _ z _ W (H1.out.below hb) hu L1.out (small_in (by unfold inI lowI topI; omega))
  clear hq1 hq2
  have k0 := HK1.out.cell 0
  have k1 := HK1.out.cell 1
  simp at k0 k1
  go_enter Try.func58, Try.ntmps58
  go_wp2
  rw [← hw0]
  clear hw0
  go_region_held3 (fun w' => w'.cell? ⟨w.heap.size, 0, none⟩ = some (.int .i64 s) ∧ w'.cell? ⟨w.heap.size, 1, none⟩ = some (.slice A ds.length c)) (first | go_keep | exact K4.cells2 | exact K3.cells2 | exact K2.cells2 | exact K1.cells2) (first | (go_at_call_of 61 (Value.int .i64 9223372036854775807); go_must (refine (C1.out _ ?_).mono ?_); exact HB.out.drew; rintro e w1 ⟨v1, rfl, hv1, hb1⟩; have B1 := below_then HB.out.drew hb1 HB.out.drew.size; have K1 := HK1.out.drew.below hb1 HK1.out.lt) | (go_at_call_of 91 v1; go_must (refine (M1.out _ _ B1 hv1).mono ?_); rintro e w2 ⟨rfl, hb2⟩; have B2 := below_then B1 hb2 B1.size; have K2 := K1.below hb2 K1.lt) | (go_at_call 61; go_must (refine (C2.out _ ?_).mono ?_); exact B2; rintro e w3 ⟨v3, rfl, hv3, hb3⟩; have B3 := below_then B2 hb3 B2.size; have K3 := K2.below hb3 K2.lt) | (go_at_call_of 91 v3; go_must (refine (M2.out _ _ B3 hv3).mono ?_); rintro e w4 ⟨rfl, hb4⟩; have B4 := below_then B3 hb4 B3.size; have K4 := K3.below hb4 K3.lt))
  all_goals
    go_wp2
    go_ret2
    exact ⟨rfl, by assumption⟩

/-- Fit: an amount, or ErrOver. -/
theorem fit_any (v : Value) (z : Int) (w : World) (h : Ex w v z) (hlx : Small 100 z) :
    Calls Try.prog 58 #[v] w fun e w' => e = .returned (.tuple #[.int .i64 (fitV z), .int .i64 (fitE z)]) ∧ Below w.heap.size w w' := by
  by_cases hz : inI z
  · rw [fitV_in hz, fitE_in hz]; exact fit_in v z w h hz
  · rw [fitV_out hz, fitE_out hz]
    by_cases h1 : 9223372036854775807 < z
    · exact fit_over v z w h h1 hlx
    · exact fit_under v z w h (by unfold inI lowI topI at hz; omega) hlx
end Go.Proofs.Ytophfbnajelknaa

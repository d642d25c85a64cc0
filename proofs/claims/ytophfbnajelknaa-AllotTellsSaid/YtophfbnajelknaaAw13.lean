import Derived.Test.YtophfbnajelknaaSome
/- Layer 13: Same, awake. -/
namespace Go.Proofs.Ytophfbnajelknaa
open Go.RowKit

theorem list_eq_take {xs ys : List Int} {k : Nat} (h : k < xs.length) (h' : k < ys.length) (e : xs.take k = ys.take k) (x : xs.getD k 0 = ys.getD k 0) : xs.take (k + 1) = ys.take (k + 1) := by
  rw [List.take_succ_eq_append_getElem h, List.take_succ_eq_append_getElem h', e]
  simp only [List.getD_eq_getElem?_getD, List.getElem?_eq_getElem h, List.getElem?_eq_getElem h', Option.getD_some] at x
  rw [x]

set_option maxHeartbeats 4000000 in
set_option maxRecDepth 100000 in
theorem same_any (A : Option Addr) (c : Nat) (xs : List Int) (A' : Option Addr) (c' : Nat) (ys : List Int) (w : World) (hr : Reads w w.heap.size 1 A xs.length (ints xs)) (hr' : Reads w w.heap.size 1 A' ys.length (ints ys)) (hl : xs.length * 8 ≤ 140737488351232) :
    Calls Try.prog 44 #[.slice A xs.length c, .slice A' ys.length c'] w fun e w' => e = .returned (.bool (decide (xs = ys))) ∧ ∃ n, w' = w.drewN n := by
  have HR := Lib.hid hr
  have HS := Lib.hid hr'
  clear hr hr'
  by_cases hn : xs.length = ys.length
  · have h1 : ((xs.length : Int) != (ys.length : Int)) = false := by rw [hn]; simp
    have h2 : xs.length ≤ ys.length ∧ ys.length ≤ xs.length := by omega
    obtain ⟨h3, h4⟩ := h2
    have HN := Lib.hid hn
    clear hn
    go_enter Try.func44, Try.ntmps44
    go_wp2
    go_loopg [5] xs.length (fun kq v5 w' => ∃ k : Nat, k ≤ xs.length ∧ kq = xs.length - k ∧ v5 = .int .i64 k ∧ Aside (xs.take k = ys.take k) ∧ ∃ m, w' = w.drewN m)
    case atStart => exact ⟨0, by omega, by omega, by go_num, rfl, 0, rfl⟩
    case round =>
      obtain ⟨k, hk, rfl, rfl, HI, m, rfl⟩ := hrel
      by_cases hlt : k < xs.length
      · obtain ⟨ad, rfl, hb, hc⟩ := HR.out.int_at hlt
        obtain ⟨ad', rfl, hb', hc'⟩ := HS.out.int_at (show k < ys.length by omega)
        obtain ⟨x, hx⟩ : ∃ x, x = xs.getD k 0 := ⟨_, rfl⟩
        obtain ⟨y, hy⟩ : ∃ y, y = ys.getD k 0 := ⟨_, rfl⟩
        rw [← hx] at hc
        rw [← hy] at hc'
        have HX := Lib.hid hx
        have HY := Lib.hid hy
        clear hx hy
        have i1 : (0 : Int) ≤ (k : Int) := by omega
        have i2 : (k : Int) < (xs.length : Int) := by omega
        have i3 : (k : Int) < (ys.length : Int) := by omega
        by_cases e : x = y
        · have E := Lib.hid e
          have e1 : (x != y) = false := by simpa using e
          clear e
          go_wp2
          go_quiet (fail)
          go_wp2
          go_roundg (xs.length - (k + 1))
          case measure => omega
          case rel => exact ⟨k + 1, by omega, rfl, by go_num, list_eq_take hlt (by omega) HI.out (by rw [← HX.out, ← HY.out, E.out]), _, rfl⟩
        · have E := Lib.hid e
          have e1 : (x != y) = true := by simpa using e
          clear e
          go_wp2
          go_quiet (fail)
          go_wp2
          go_ret
          refine ⟨?_, _, World.drewN_drewN _ _ _⟩
          rw [decide_eq_false (fun h => E.out (by rw [HX.out, HY.out, h]))]
          rfl
      · obtain rfl : k = xs.length := by omega
        have hI := HI.out
        rw [HN.out, List.take_length, ← HN.out, List.take_length] at hI
        have HJ := Lib.hid hI
        clear hI HI
        go_wp2
        go_ret
        refine ⟨?_, _, rfl⟩
        rw [decide_eq_true HJ.out]
        rfl
  · have h1 : ((xs.length : Int) != (ys.length : Int)) = true := by rw [bne_iff_ne]; omega
    have HN := Lib.hid hn
    clear hn
    go_enter Try.func44, Try.ntmps44
    go_wp2
    go_ret
    refine ⟨?_, 0, rfl⟩
    rw [decide_eq_false (fun h => HN.out (by rw [h]))]
    rfl

theorem reads_new (W : World) (e : TypeId) (xs : List Int) : Reads (W.alloc (.cells (row xs) e)) (W.alloc (.cells (row xs) e)).heap.size 1 (some ⟨W.heap.size, 0, none⟩) xs.length (ints xs) :=
  ⟨by rw [ints_length, Nat.mul_one], fun _ => ⟨_, rfl, by simp, fun j u hu => by
    rw [add_at, Nat.zero_add]
    exact (cell_of_row _ W.heap.size j (row xs) e (0, 0) (heap_alloc_new W _)).trans (by rw [row, List.getElem?_toArray]; exact hu)⟩⟩

theorem reads_newg (W : World) (e : TypeId) (xs : List Int) (g : Nat) (hg : W.heap.size = g) : Reads (W.alloc (.cells (row xs) e)) (W.alloc (.cells (row xs) e)).heap.size 1 (some ⟨g, 0, none⟩) xs.length (ints xs) := by
  subst hg; exact reads_new W e xs
theorem reads_alloc {W : World} {A : Option Addr} {n : Nat} {xs : List Value} (h : Reads W W.heap.size 1 A n xs) (o : Obj) : Reads (W.alloc o) (W.alloc o).heap.size 1 A n xs := (h.alloc (Nat.le_refl _) o).more (by simp)
theorem reads_below {W W' : World} {A : Option Addr} {n : Nat} {xs : List Value} (h : Reads W W.heap.size 1 A n xs) (hb : Below W.heap.size W W') : Reads W' W'.heap.size 1 A n xs := (h.below hb).more hb.size
theorem below_alloc_then {B : Nat} {W W' : World} {o : Obj} (h : Below (W.alloc o).heap.size (W.alloc o) W') (hB : B ≤ W.heap.size) : Below B W W' := below_then ((Below.refl B W).alloc hB o) h (by simp; omega)
theorem below_alloc_then2 {B : Nat} {W W' : World} {o o' : Obj} (h : Below ((W.alloc o).alloc o').heap.size ((W.alloc o).alloc o') W') (hB : B ≤ W.heap.size) : Below B W W' := below_then (((Below.refl B W).alloc hB o).alloc (by simp; omega) o') h (by simp; omega)
theorem same_true (A : Option Addr) (c : Nat) (xs : List Int) (A' : Option Addr) (c' : Nat) (w : World) (hr : Reads w w.heap.size 1 A xs.length (ints xs)) (hr' : Reads w w.heap.size 1 A' xs.length (ints xs)) (hl : xs.length * 8 ≤ 140737488351232) :
    Calls Try.prog 44 #[.slice A xs.length c, .slice A' xs.length c'] w fun e w' => e = .returned (.bool true) ∧ ∃ n, w' = w.drewN n := by
  have := same_any A c xs A' c' xs w hr hr' hl
  rw [decide_eq_true rfl] at this
  exact this
theorem reads_drewN {W : World} {A : Option Addr} {n m : Nat} {xs : List Value} (h : Reads W W.heap.size 1 A n xs) : Reads (W.drewN m) (W.drewN m).heap.size 1 A n xs := h
theorem below_drewN {B : Nat} {W W' : World} {m : Nat} (h : Below B W W') : Below B W (W'.drewN m) := ⟨h.os, h.tape, h.output, h.size, h.block⟩
theorem in_small {x : Int} (h : -1000 ≤ x ∧ x ≤ 1000) : inI x := by unfold inI lowI topI; omega
theorem aw1 (W : World) (A : Option Addr) (h : Reads W W.heap.size 1 A 2 (ints [60, 60])) :
    Calls Try.prog 36 #[.int .i64 100, .slice A 2 2] W fun e w' => ∃ v, e = .returned (.tuple #[v, .int .i64 0]) ∧ w'.ownsRow W.heap.size 2 1 v 2 (ints [50, 50]) ∧ Below W.heap.size W w' := by
  have := all_any 100 A 2 [60, 60] W h (by decide) (by intro x hx; simp at hx; subst hx; exact in_small (by omega)) (in_small (by omega))
  rw [show allE 100 [60, 60] = 0 by decide +kernel, show allL 100 [60, 60] = [50, 50] by decide +kernel] at this
  exact this
theorem aw6 (W : World) (A : Option Addr) (h : Reads W W.heap.size 1 A 1 (ints [1])) :
    Calls Try.prog 36 #[.int .i64 (-1), .slice A 1 1] W fun e w' => ∃ v, e = .returned (.tuple #[v, .int .i64 1]) ∧ w'.ownsRow W.heap.size 2 1 v 0 (ints []) ∧ Below W.heap.size W w' := by
  have := all_any (-1) A 1 [1] W h (by decide) (by intro x hx; simp at hx; subst hx; exact in_small (by omega)) (in_small (by omega))
  rw [show allE (-1) [1] = 1 by decide +kernel, show allL (-1) [1] = [] by decide +kernel] at this
  exact this
theorem aw2 (W : World) (A A' : Option Addr) (h : Reads W W.heap.size 1 A 2 (ints [60, 60])) (h' : Reads W W.heap.size 1 A' 1 (ints [0])) :
    Calls Try.prog 38 #[.int .i64 100, .slice A 2 2, .slice A' 1 1] W fun e w' => ∃ v, e = .returned (.tuple #[v, .int .i64 0]) ∧ w'.ownsRow W.heap.size 2 1 v 2 (ints [40, 60]) ∧ Below W.heap.size W w' := by
  have := some_any 100 A 2 [60, 60] A' 1 [0] W h (by decide) h' (by decide) (by intro x hx; simp at hx; subst hx; exact in_small (by omega)) (in_small (by omega))
  rw [show someE 100 [60, 60] [0] = 0 by decide +kernel, show someL 100 [60, 60] [0] = [40, 60] by decide +kernel] at this
  exact this
theorem aw5 (W : World) (A A' : Option Addr) (h : Reads W W.heap.size 1 A 2 (ints [60, 60])) (h' : Reads W W.heap.size 1 A' 1 (ints [0])) :
    Calls Try.prog 38 #[.int .i64 50, .slice A 2 2, .slice A' 1 1] W fun e w' => ∃ v, e = .returned (.tuple #[v, .int .i64 1]) ∧ w'.ownsRow W.heap.size 2 1 v 0 (ints []) ∧ Below W.heap.size W w' := by
  have := some_any 50 A 2 [60, 60] A' 1 [0] W h (by decide) h' (by decide) (by intro x hx; simp at hx; subst hx; exact in_small (by omega)) (in_small (by omega))
  rw [show someE 50 [60, 60] [0] = 1 by decide +kernel, show someL 50 [60, 60] [0] = [] by decide +kernel] at this
  exact this
theorem aw3 (W : World) (A : Option Addr) (h : Reads W W.heap.size 1 A 2 (ints [60, 60])) :
    Calls Try.prog 40 #[.int .i64 100, .slice A 2 2] W fun e w' => e = .returned (.tuple #[.int .i64 20, .int .i64 0]) ∧ Below W.heap.size W w' := by
  have := discount_any 100 A 2 [60, 60] W h (by decide) (by intro x hx; simp at hx; subst hx; exact in_small (by omega)) (in_small (by omega))
  rw [show fitV ([60, 60].sum - 100) = 20 by decide +kernel, show fitE ([60, 60].sum - 100) = 0 by decide +kernel] at this
  exact this
theorem aw4 (W : World) (A A' : Option Addr) (h : Reads W W.heap.size 1 A 2 (ints [30, 10])) (h' : Reads W W.heap.size 1 A' 2 (ints [1, 2])) :
    Calls Try.prog 42 #[.int .i64 100, .slice A 2 2, .slice A' 2 2] W fun e w' => ∃ v, e = .returned (.tuple #[v, .int .i64 0]) ∧ w'.ownsRow W.heap.size 2 1 v 2 (ints [50, 50]) ∧ Below W.heap.size W w' := by
  have := again_any 100 A 2 [30, 10] A' 2 [1, 2] W h (by intro x hx; simp at hx; rcases hx with rfl | rfl <;> exact in_small (by omega)) (by decide) h' (by decide) (by intro x hx; simp at hx; rcases hx with rfl | rfl <;> exact in_small (by omega)) (in_small (by omega))
  rw [show againE 100 [30, 10] [1, 2] = 0 by decide +kernel, show againL 100 [30, 10] [1, 2] = [50, 50] by decide +kernel] at this
  exact this

set_option maxHeartbeats 8000000 in
set_option maxRecDepth 100000 in
theorem awake13 (w : World) : Calls Try.prog 35 #[] w fun e w' => e = .returned (.bool true) ∧ Below w.heap.size w w' := by
  go_enter Try.func35, Try.ntmps35
  go_upto_region 2 with (go_at_call 36; go_must (refine (aw1 _ _ (reads_new w 2 [60, 60])).mono ?_); rintro e w1 ⟨v1, rfl, ho1, hb1⟩; obtain ⟨g1, c1, rfl, _, _⟩ := ho1.form (by decide))
  have r1 := Lib.hid (Reads.of_own ho1)
  have b1 := Lib.hid (below_alloc_then (B := w.heap.size) hb1 (Nat.le_refl _))
  clear ho1 hb1
  go_upto_region 3 with (go_at_call 38; go_must (refine (aw2 _ _ _ (reads_alloc (reads_new w1 2 [60, 60]) _) (reads_newg (w1.alloc (.cells (row [60, 60]) 2)) 3 [0] (w1.heap.size + 1) (by simp))).mono ?_); rintro e w2 ⟨v2, rfl, ho2, hb2⟩; obtain ⟨g2, c2, rfl, _, _⟩ := ho2.form (by decide))
  have b2 := Lib.hid (below_alloc_then2 (B := w1.heap.size) hb2 (Nat.le_refl _))
  have r2 := Lib.hid (Reads.of_own ho2)
  clear ho2 hb2
  go_upto_region 4 with (go_at_call 40; go_must (refine (aw3 _ _ (reads_new w2 2 [60, 60])).mono ?_); rintro e w3 ⟨rfl, hb3⟩)
  have b3 := Lib.hid (below_alloc_then (B := w2.heap.size) hb3 (Nat.le_refl _))
  clear hb3
  go_upto_region 5 with (go_at_call 42; go_must (refine (aw4 _ _ _ (reads_alloc (reads_new w3 2 [30, 10]) _) (reads_newg (w3.alloc (.cells (row [30, 10]) 2)) 2 [1, 2] (w3.heap.size + 1) (by simp))).mono ?_); rintro e w4 ⟨v4, rfl, ho4, hb4⟩; obtain ⟨g4, c4, rfl, _, _⟩ := ho4.form (by decide))
  have b4 := Lib.hid (below_alloc_then2 (B := w3.heap.size) hb4 (Nat.le_refl _))
  have r4 := Lib.hid (Reads.of_own ho4)
  clear ho4 hb4
  go_upto_region 6 with (go_at_call 38; go_must (refine (aw5 _ _ _ (reads_alloc (reads_new w4 2 [60, 60]) _) (reads_newg (w4.alloc (.cells (row [60, 60]) 2)) 3 [0] (w4.heap.size + 1) (by simp))).mono ?_); rintro e w5 ⟨v5, rfl, ho5, hb5⟩; clear ho5)
  have b5 := Lib.hid (below_alloc_then2 (B := w4.heap.size) hb5 (Nat.le_refl _))
  clear hb5
  go_upto_region 7 with (go_at_call 36; go_must (refine (aw6 _ _ (reads_new w5 2 [1])).mono ?_); rintro e w6 ⟨v6, rfl, ho6, hb6⟩; clear ho6)
  have b6 := Lib.hid (below_alloc_then (B := w5.heap.size) hb6 (Nat.le_refl _))
  clear hb6
  have q1 := Lib.hid (reads_below (reads_below (reads_below (reads_below (reads_below r1.out b2.out) b3.out) b4.out) b5.out) b6.out)
  have q2 := Lib.hid (reads_below (reads_below (reads_below (reads_below r2.out b3.out) b4.out) b5.out) b6.out)
  have q4 := Lib.hid (reads_below (reads_below r4.out b5.out) b6.out)
  have B6 := Lib.hid (below_then (below_then (below_then (below_then (below_then b1.out b2.out b1.out.size) b3.out (Nat.le_trans b1.out.size b2.out.size)) b4.out (Nat.le_trans (Nat.le_trans b1.out.size b2.out.size) b3.out.size)) b5.out (Nat.le_trans (Nat.le_trans (Nat.le_trans b1.out.size b2.out.size) b3.out.size) b4.out.size)) b6.out (Nat.le_trans (Nat.le_trans (Nat.le_trans (Nat.le_trans b1.out.size b2.out.size) b3.out.size) b4.out.size) b5.out.size))
  clear r1 r2 r4 b1 b2 b3 b4 b5 b6
  go_wp2_with (first
    | (go_at_call_of 44 (Value.slice (some ⟨g1, 0, none⟩) 2 c1); go_must (refine (same_true _ c1 [50, 50] _ 2 _ (reads_alloc q1.out _) (reads_new w6 2 [50, 50]) (by decide)).mono ?_); rintro e w7 ⟨rfl, n7, rfl⟩)
    | (go_at_call_of 44 (Value.slice (some ⟨g2, 0, none⟩) 2 c2); go_must (refine (same_true _ c2 [40, 60] _ 2 _ (reads_alloc (reads_drewN (reads_alloc q2.out _)) _) (reads_newg _ 2 [40, 60] (w6.heap.size + 1) (by simp)) (by decide)).mono ?_); rintro e w8 ⟨rfl, n8, rfl⟩)
    | (go_at_call_of 44 (Value.slice (some ⟨g4, 0, none⟩) 2 c4); go_must (refine (same_true _ c4 [50, 50] _ 2 _ (reads_alloc (reads_drewN (reads_alloc (reads_drewN (reads_alloc q4.out _)) _)) _) (reads_newg _ 2 [50, 50] (w6.heap.size + 2) (by simp)) (by decide)).mono ?_); rintro e w9 ⟨rfl, n9, rfl⟩))
  go_ret
  have hs := B6.out.size
  exact ⟨rfl, below_drewN ((below_drewN ((below_drewN (B6.out.alloc hs _)).alloc (by simp; omega) _)).alloc (by simp; omega) _)⟩
end Go.Proofs.Ytophfbnajelknaa

import Derived.Test.YtophfbnajelknaaAw13
import Derived.Test.YtophfbnajelknaaP13w
import Derived.Test.YtophfbnajelknaaMapB
/- Layer 13: the walk of AllotWhole. -/
namespace Go.Proofs.Ytophfbnajelknaa
open Go.RowKit Go.Maps

theorem cell_new_below {W W' : World} {cs : Array Value} {e : TypeId} {v : Value} (h : Below (W.alloc (.cells cs e)).heap.size (W.alloc (.cells cs e)) W') (hv : cs[0]? = some v) : W'.cell? ⟨W.heap.size, 0, none⟩ = some v := by
  rw [h.cell (p := ⟨W.heap.size, 0, none⟩) (by simp)]
  exact (cell_of_row _ W.heap.size 0 cs e (0, 0) (heap_alloc_new W _)).trans hv
theorem contains_snoc {xs : List Int} {k : Nat} (h : k < xs.length) (i : Int) : (xs.take (k + 1)).contains i = ((xs.take k).contains i || i == xs.getD k 0) := by
  rw [List.take_succ_eq_append_getElem h, List.getD_eq_getElem?_getD, List.getElem?_eq_getElem h, Option.getD_some, Bool.eq_iff_iff]
  simp only [List.contains_eq_mem, Bool.or_eq_true, decide_eq_true_eq, beq_iff_eq, List.mem_append, List.mem_singleton]
theorem zero4 (w : World) : (zeroValue 4).run Try.prog w = .ok (.bool false) w := by kernel_rfl
theorem idx0 (a b c d e f : Value) (w : World) : (Instr.index 69 (.agg #[a, b, c, d, e, f]) (.int .i64 0)).run Try.prog w = .ok (.agg #[a, b]) w := by
  have h := Try.underlying69
  simp [Instr.index, run_underlying h, asIntOf, go_sem]
theorem idx1 (a b c d e f : Value) (w : World) : (Instr.index 69 (.agg #[a, b, c, d, e, f]) (.int .i64 1)).run Try.prog w = .ok (.agg #[c, d]) w := by
  have h := Try.underlying69
  simp [Instr.index, run_underlying h, asIntOf, go_sem]
theorem idx2 (a b c d e f : Value) (w : World) : (Instr.index 69 (.agg #[a, b, c, d, e, f]) (.int .i64 2)).run Try.prog w = .ok (.agg #[e, f]) w := by
  have h := Try.underlying69
  simp [Instr.index, run_underlying h, asIntOf, go_sem]

set_option maxHeartbeats 8000000 in
set_option maxRecDepth 100000 in
theorem allotWhole_walk (price : Int) (A : Option Addr) (c : Nat) (alone : List Int) (B : Option Addr) (d : Nat) (done : List Int) (A' : Option Addr) (c' : Nat) (whose : List Int) (w : World) (hp : inI price) (ha : Reads w w.heap.size 1 A alone.length (ints alone)) (hl : alone.length * 8 ≤ 140737488351232) (hx : ∀ x ∈ alone, inI x)
    (hd : Reads w w.heap.size 1 B done.length (ints done)) (hdl : done.length * 8 ≤ 140737488351232) (hdx : ∀ x ∈ done, inI x)
    (hw : Reads w w.heap.size 1 A' whose.length (ints whose)) (hwl : whose.length * 8 ≤ 140737488351232) (hwx : ∀ x ∈ whose, inI x) :
    Calls Try.prog 8 #[.int .i64 price, .slice A alone.length c, .slice B done.length d, .slice A' whose.length c'] w fun e w' => e = .returned (.bool true) ∧ Below w.heap.size w w' := by
  have HA := Lib.hid ha
  have HW := Lib.hid hw
  have HD := Lib.hid hd
  have HX := Lib.hid hx
  have HDX := Lib.hid hdx
  have HP := Lib.hid hp
  have HWX := Lib.hid hwx
  clear ha hx hp hw hd hdx hwx
  by_cases h64 : 70 < alone.length
  · go_enter Try.func8, Try.ntmps8
    go_wp2_with (go_at_call 35; go_must (refine (awake13 _).mono ?_); rintro e w1 ⟨rfl, hb1⟩)
    go_ret
    exact ⟨rfl, ‹_›⟩
  · by_cases h71 : 70 < done.length
    · go_enter Try.func8, Try.ntmps8
      go_wp2_with (go_at_call 35; go_must (refine (awake13 _).mono ?_); rintro e w1 ⟨rfl, hb1⟩)
      go_ret
      exact ⟨rfl, ‹_›⟩
    · by_cases h70 : 70 < whose.length
      · go_enter Try.func8, Try.ntmps8
        go_wp2_with (go_at_call 35; go_must (refine (awake13 _).mono ?_); rintro e w1 ⟨rfl, hb1⟩)
        go_ret
        exact ⟨rfl, ‹_›⟩
      · obtain ⟨E0, hE0⟩ : ∃ E, E = allE price alone := ⟨_, rfl⟩
        obtain ⟨L0, hL0⟩ : ∃ E, E = allL price alone := ⟨_, rfl⟩
        obtain ⟨E1, hE1⟩ : ∃ E, E = someE price alone whose := ⟨_, rfl⟩
        obtain ⟨L1, hL1⟩ : ∃ E, E = someL price alone whose := ⟨_, rfl⟩
        obtain ⟨E2, hE2⟩ : ∃ E, E = againE price done alone := ⟨_, rfl⟩
        obtain ⟨L2, hL2⟩ : ∃ E, E = againL price done alone := ⟨_, rfl⟩
        have W0 : Hid (Whole price alone.length E0 L0) := by rw [hE0, hL0]; exact all_whole HP.out
        have W1 : Hid (Whole price alone.length E1 L1) := by rw [hE1, hL1]; exact some_whole HX.out
        have W2 : Hid (Whole price alone.length E2 L2) := by rw [hE2, hL2]; exact again_whole
        have HO : Hid (E1 = 0 → ∀ i : Nat, 0 ≤ L1.getD i 0 ∧ (whose.contains (i : Int) = false → L1.getD i 0 = alone.getD i 0)) := by
          intro h i; rw [hL1]; exact some_others (by rw [← hE1]; exact h)
        have C0 : Hid (∀ W, Below w.heap.size w W → Calls Try.prog 36 #[.int .i64 price, .slice A alone.length c] W fun e w' => ∃ v, e = .returned (.tuple #[v, .int .i64 E0]) ∧ w'.ownsRow W.heap.size 2 1 v L0.length (ints L0) ∧ Below W.heap.size W w') := by
          intro W hb; rw [hE0, hL0]; exact all_any price A c alone W (reads_below HA.out hb) hl HX.out HP.out
        have C1 : Hid (∀ W, Below w.heap.size w W → Calls Try.prog 38 #[.int .i64 price, .slice A alone.length c, .slice A' whose.length c'] W fun e w' => ∃ v, e = .returned (.tuple #[v, .int .i64 E1]) ∧ w'.ownsRow W.heap.size 2 1 v L1.length (ints L1) ∧ Below W.heap.size W w') := by
          intro W hb; rw [hE1, hL1]; exact some_any price A c alone A' c' whose W (reads_below HA.out hb) (by omega) (reads_below HW.out hb) (by omega) HX.out HP.out
        have C2 : Hid (∀ W, Below w.heap.size w W → Calls Try.prog 42 #[.int .i64 price, .slice B done.length d, .slice A alone.length c] W fun e w' => ∃ v, e = .returned (.tuple #[v, .int .i64 E2]) ∧ w'.ownsRow W.heap.size 2 1 v L2.length (ints L2) ∧ Below W.heap.size W w') := by
          intro W hb; rw [hE2, hL2]; exact again_any price B d done A c alone W (reads_below HD.out hb) HDX.out hdl (reads_below HA.out hb) hl HX.out HP.out
        clear hE0 hL0 hE1 hL1 hE2 hL2
        go_enter Try.func8, Try.ntmps8
        go_upto_region 8 with (first | (go_at_call 35; go_must (refine (awake13 _).mono ?_); rintro e w1 ⟨rfl, hb1⟩) | (go_at_call 36; go_must (refine (C0.out _ hb1).mono ?_); rintro e w2 ⟨v2, rfl, ho2, hb2⟩; obtain ⟨A0, c0, rfl, _, _⟩ := own_ints ho2; have b2 := Lib.hid (below_then hb1 hb2 hb1.size); have R2 := Reads.of_own ho2) | (go_at_call 38; go_must (refine (C1.out _ b2.out).mono ?_); rintro e w3 ⟨v3, rfl, ho3, hb3⟩; obtain ⟨A1, c1, rfl, _, _⟩ := own_ints ho3; have b3 := Lib.hid (below_then b2.out hb3 b2.out.size); have R3 := Reads.of_own ho3) | (go_at_call 42; go_must (refine (C2.out _ b3.out).mono ?_); rintro e w4 ⟨v4, rfl, ho4, hb4⟩; obtain ⟨A2, c2, rfl, _, _⟩ := own_ints ho4; have b4 := Lib.hid (below_then b3.out hb4 b3.out.size); have R4 := Reads.of_own ho4))
        have Q0 := Lib.hid (reads_below (reads_below R2 hb3) hb4)
        have Q1 := Lib.hid (reads_below R3 hb4)
        have Q2 := Lib.hid R4
        clear R2 R3 R4 hb1 hb2 hb3 hb4 b2 b3 ho2 ho3 ho4 C0 C1 C2
        go_wp2
        go_wp2
        go_wp2
        go_wp2
        go_wp2
        go_wp2
        go_wp2
        go_wp2
        go_wp2
        go_loopg [69] 3 (fun kq v69 w' => ∃ (k : Nat) (z : Int), k ≤ 3 ∧ kq = 3 - k ∧ z = k ∧ v69 = .int .i64 z ∧ Below w4.heap.size w4 w')
        case atStart => exact ⟨0, 0, by omega, by omega, rfl, rfl, Below.refl _ _⟩
        case round =>
          obtain ⟨k, z, hk, rfl, hz, rfl, hb⟩ := hrel
          have HB := Lib.hid hb
          clear hb
          have hk4 : k = 0 ∨ k = 1 ∨ k = 2 ∨ k = 3 := by omega
          rcases hk4 with rfl | rfl | rfl | rfl
          · obtain rfl : z = 0 := by omega
            clear hz hk
            have hidx := idx0 (.slice A0 L0.length c0) (.int .i64 E0) (.slice A1 L1.length c1) (.int .i64 E1) (.slice A2 L2.length c2) (.int .i64 E2)
            by_cases he : E0 = 0
            · obtain ⟨f1, f2⟩ := W0.out.2.1 he
              have hsum : Hid (∀ W, Below w4.heap.size w4 W → Calls Try.prog 32 #[.slice A0 L0.length c0] W fun e w' => e = .returned (.tuple #[.int .i64 price, .int .i64 0]) ∧ Below W.heap.size W w') := by
                intro W hb
                have := sum_any A0 c0 L0 W (reads_below Q0.out hb) (by omega) W0.out.2.2
                rw [f1, fitV_in HP.out, fitE_in HP.out] at this
                exact this
              have hn1 : (E0 != 0) = false := by simpa using he
              have hn2 : ((L0.length : Int) != (alone.length : Int)) = false := by rw [f2]; simp
              have hn3 : (price != price) = false := by simp
              clear he f1 f2
              go_wp2_with (go_at_call 32; go_must (refine (hsum.out _ (HB.out.alloc HB.out.size _)).mono ?_); rintro e w6 ⟨rfl, hb6⟩; have hc6 := cell_new_below (v := .slice A0 L0.length c0) hb6 rfl)
              go_roundg (3 - (0 + 1))
              case measure => omega
              case rel => exact ⟨0 + 1, 0 + 1, by omega, rfl, rfl, by go_num, below_then HB.out (below_alloc_then hb6 (Nat.le_refl _)) HB.out.size⟩
            · have f1 := W0.out.1 he
              have hn1 : (E0 != 0) = true := by simpa using he
              have hn2 : ((L0.length : Int) != 0) = false := by rw [f1]; rfl
              clear he f1
              go_wp2
              go_roundg (3 - (0 + 1))
              case measure => omega
              case rel => exact ⟨0 + 1, 0 + 1, by omega, rfl, rfl, by go_num, HB.out.alloc HB.out.size _⟩
          · obtain rfl : z = 1 := by omega
            clear hz hk
            have hidx := idx1 (.slice A0 L0.length c0) (.int .i64 E0) (.slice A1 L1.length c1) (.int .i64 E1) (.slice A2 L2.length c2) (.int .i64 E2)
            by_cases he : E1 = 0
            · obtain ⟨f1, f2⟩ := W1.out.2.1 he
              have hsum : Hid (∀ W, Below w4.heap.size w4 W → Calls Try.prog 32 #[.slice A1 L1.length c1] W fun e w' => e = .returned (.tuple #[.int .i64 price, .int .i64 0]) ∧ Below W.heap.size W w') := by
                intro W hb
                have := sum_any A1 c1 L1 W (reads_below Q1.out hb) (by omega) W1.out.2.2
                rw [f1, fitV_in HP.out, fitE_in HP.out] at this
                exact this
              have hn1 : (E1 != 0) = false := by simpa using he
              have hn2 : ((L1.length : Int) != (alone.length : Int)) = false := by rw [f2]; simp
              have hn3 : (price != price) = false := by simp
              clear he f1 f2
              go_wp2_with (go_at_call 32; go_must (refine (hsum.out _ (HB.out.alloc HB.out.size _)).mono ?_); rintro e w6 ⟨rfl, hb6⟩; have hc6 := cell_new_below (v := .slice A1 L1.length c1) hb6 rfl)
              go_roundg (3 - (1 + 1))
              case measure => omega
              case rel => exact ⟨1 + 1, 1 + 1, by omega, rfl, rfl, by go_num, below_then HB.out (below_alloc_then hb6 (Nat.le_refl _)) HB.out.size⟩
            · have f1 := W1.out.1 he
              have hn1 : (E1 != 0) = true := by simpa using he
              have hn2 : ((L1.length : Int) != 0) = false := by rw [f1]; rfl
              clear he f1
              go_wp2
              go_roundg (3 - (1 + 1))
              case measure => omega
              case rel => exact ⟨1 + 1, 1 + 1, by omega, rfl, rfl, by go_num, HB.out.alloc HB.out.size _⟩
          · obtain rfl : z = 2 := by omega
            clear hz hk
            have hidx := idx2 (.slice A0 L0.length c0) (.int .i64 E0) (.slice A1 L1.length c1) (.int .i64 E1) (.slice A2 L2.length c2) (.int .i64 E2)
            by_cases he : E2 = 0
            · obtain ⟨f1, f2⟩ := W2.out.2.1 he
              have hsum : Hid (∀ W, Below w4.heap.size w4 W → Calls Try.prog 32 #[.slice A2 L2.length c2] W fun e w' => e = .returned (.tuple #[.int .i64 price, .int .i64 0]) ∧ Below W.heap.size W w') := by
                intro W hb
                have := sum_any A2 c2 L2 W (reads_below Q2.out hb) (by omega) W2.out.2.2
                rw [f1, fitV_in HP.out, fitE_in HP.out] at this
                exact this
              have hn1 : (E2 != 0) = false := by simpa using he
              have hn2 : ((L2.length : Int) != (alone.length : Int)) = false := by rw [f2]; simp
              have hn3 : (price != price) = false := by simp
              clear he f1 f2
              go_wp2_with (go_at_call 32; go_must (refine (hsum.out _ (HB.out.alloc HB.out.size _)).mono ?_); rintro e w6 ⟨rfl, hb6⟩; have hc6 := cell_new_below (v := .slice A2 L2.length c2) hb6 rfl)
              go_roundg (3 - (2 + 1))
              case measure => omega
              case rel => exact ⟨2 + 1, 2 + 1, by omega, rfl, rfl, by go_num, below_then HB.out (below_alloc_then hb6 (Nat.le_refl _)) HB.out.size⟩
            · have f1 := W2.out.1 he
              have hn1 : (E2 != 0) = true := by simpa using he
              have hn2 : ((L2.length : Int) != 0) = false := by rw [f1]; rfl
              clear he f1
              go_wp2
              go_roundg (3 - (2 + 1))
              case measure => omega
              case rel => exact ⟨2 + 1, 2 + 1, by omega, rfl, rfl, by go_num, HB.out.alloc HB.out.size _⟩
          · obtain rfl : z = 3 := by omega
            clear hz hk
            by_cases he : E1 = 0
            · have hn1 : (E1 != 0) = false := by simpa using he
              have HOO := Lib.hid (HO.out he)
              have HLL : Hid (L1.length = alone.length) := (W1.out.2.1 he).2
              have B1 := Lib.hid (below_then b4.out HB.out b4.out.size)
              have RW := Lib.hid (reads_below HW.out B1.out)
              clear he
              have hmm := @run_makeMap Try.prog
              go_wp2
              go_loopg [106] whose.length (fun kq v106 w' => ∃ k : Nat, k ≤ whose.length ∧ kq = whose.length - k ∧ v106 = .int .i64 k ∧ (∃ D : DataW Unit, w'.ownsMap Try.prog 3 (plainElem Try.prog 4) wr.heap.size k D ∧ MapB D (fun i => (whose.take k).contains i)) ∧ Below w4.heap.size w4 w')
              case atStart => exact ⟨0, by omega, by omega, by go_num, ⟨_, World.ownsMap_made _ _ _ _, (MapB.empty).congr (fun i => by simp)⟩, HB.out.alloc HB.out.size _⟩
              case round =>
                obtain ⟨k, hk, rfl, rfl, ⟨D, hown, hD⟩, hb⟩ := hrel
                by_cases hlt : k < whose.length
                · obtain ⟨ad, rfl, hab, hc⟩ := HW.out.int_at hlt
                  have hc' := ((below_then b4.out hb b4.out.size).cell (p := ad.add k) (by rw [block_of_add]; exact hab)).trans hc
                  obtain ⟨x, hx⟩ : ∃ x, x = whose.getD k 0 := ⟨_, rfl⟩
                  rw [← hx] at hc'
                  have hxi : inI x := by rw [hx]; exact HWX.out _ (getD_mem hlt)
                  have HXE := Lib.hid hx
                  have HXI := Lib.hid hxi
                  clear hx hxi hc
                  go_wp2_with (at_mapUpdate; go_must (refine wpList_mapUpdate_own _ rfl _ _ _ 70 rfl 3 4 law3 Try.underlying70 _ _ k D rfl hown (by unfold maxLen; omega) _ _ _ rfl rfl (keyOf_int_mk Try.underlying3 (i64_wf HXI.out)) _ [] (plainElem_bool Try.underlying4 true) ?_); intro w7 hown1 hg1)
                  have hD1 := (hD.put x).congr (q := fun i => (whose.take (k + 1)).contains i) (fun i => by rw [HXE.out]; exact (contains_snoc hlt i).symm)
                  go_roundg (whose.length - (k + 1))
                  case measure => omega
                  case rel => exact ⟨k + 1, by omega, rfl, by go_num, ⟨_, hown1, hD1⟩, hb.grown hg1 hb.size (fun j hj => by cases hj; exact HB.out.size)⟩
                · obtain rfl : k = whose.length := by omega
                  rw [List.take_length] at hD
                  go_wp2
                  go_loopg [115] L1.length (fun kq v115 w' => ∃ k : Nat, k ≤ L1.length ∧ kq = L1.length - k ∧ v115 = .int .i64 k ∧ ∃ m, w' = wr.drewN m)
                  case atStart => exact ⟨0, by omega, by omega, by go_num, 0, rfl⟩
                  case round =>
                    obtain ⟨k, hk, rfl, rfl, m, rfl⟩ := hrel
                    by_cases hlt : k < L1.length
                    · have hlen := HLL.out
                      have hbw := below_then b4.out hb b4.out.size
                      obtain ⟨ad, rfl, hab, hc⟩ := (Q1.out.below hb).int_at hlt
                      obtain ⟨ad', rfl, hab', hc'⟩ := (HA.out.below hbw).int_at (show k < alone.length by omega)
                      obtain ⟨x, hx⟩ : ∃ x, x = L1.getD k 0 := ⟨_, rfl⟩
                      obtain ⟨y, hy⟩ : ∃ y, y = alone.getD k 0 := ⟨_, rfl⟩
                      have ho := HOO.out k
                      rw [← hx, ← hy] at ho
                      rw [← hx] at hc
                      rw [← hy] at hc'
                      clear hx hy hbw
                      have i1 : (0 : Int) ≤ (k : Int) := by omega
                      have i2 : (k : Int) < (L1.length : Int) := by omega
                      have i3 : (k : Int) < (alone.length : Int) := by omega
                      have hd0 : decide (x < 0) = false := decide_eq_false (by omega)
                      by_cases hcn : whose.contains (k : Int) = true
                      · clear ho hlen
                        go_wp2_with (at_lookup; go_must (refine wpList_lookup_own_bool _ rfl _ _ 70 rfl 3 4 law3 Try.underlying70 Try.underlying4 (zero4 _) _ _ D rfl hown _ _ rfl (keyOf_int_mk Try.underlying3 (WalkArith.wf_i64 (by omega))) ?_); intro cb hat; have hcb := Lit.bool.inj (DataW.lit.inj (hat.symm.trans ((hD.at_ _).trans (congrArg (fun x => DataW.lit (Lit.bool x)) hcn)))); subst hcb; clear hat)
                        go_roundg (L1.length - (k + 1))
                        case measure => omega
                        case rel => exact ⟨k + 1, by omega, rfl, by go_num, _, rfl⟩
                      · have hcf : whose.contains (k : Int) = false := by simpa using hcn
                        obtain rfl : x = y := ho.2 hcf
                        have hxx : (x != x) = false := by simp
                        clear ho hlen hcn
                        go_wp2_with (at_lookup; go_must (refine wpList_lookup_own_bool _ rfl _ _ 70 rfl 3 4 law3 Try.underlying70 Try.underlying4 (zero4 _) _ _ D rfl hown _ _ rfl (keyOf_int_mk Try.underlying3 (WalkArith.wf_i64 (by omega))) ?_); intro cb hat; have hcb := Lit.bool.inj (DataW.lit.inj (hat.symm.trans ((hD.at_ _).trans (congrArg (fun x => DataW.lit (Lit.bool x)) hcf)))); subst hcb; clear hat)
                        go_roundg (L1.length - (k + 1))
                        case measure => omega
                        case rel => exact ⟨k + 1, by omega, rfl, by go_num, _, rfl⟩
                    · go_wp2
                      go_ret
                      exact ⟨rfl, below_drewN (below_then b4.out hb b4.out.size)⟩
            · have hn1 : (E1 != 0) = true := by simpa using he
              clear he
              go_wp2
              go_ret
              exact ⟨rfl, below_then b4.out HB.out b4.out.size⟩
end Go.Proofs.Ytophfbnajelknaa

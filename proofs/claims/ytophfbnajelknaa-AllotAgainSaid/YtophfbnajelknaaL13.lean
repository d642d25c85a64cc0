import Derived.Test.YtophfbnajelknaaAw13
import Derived.Test.YtophfbnajelknaaP13
/- Layer 13: the laws' walks. -/
namespace Go.Proofs.Ytophfbnajelknaa
open Go.RowKit

set_option maxHeartbeats 8000000 in
set_option maxRecDepth 100000 in
theorem allotAgain_walk (price more : Int) (A : Option Addr) (c : Nat) (alone : List Int) (w : World) (hp : inI price) (hm : inI more) (ha : Reads w w.heap.size 1 A alone.length (ints alone)) (hl : alone.length * 8 ≤ 140737488351232) (hx : ∀ x ∈ alone, inI x) :
    Calls Try.prog 10 #[.int .i64 price, .int .i64 more, .slice A alone.length c] w fun e w' => e = .returned (.bool true) ∧ Below w.heap.size w w' := by
  have HA := Lib.hid ha
  have HX := Lib.hid hx
  have HP := Lib.hid hp
  have HM := Lib.hid hm
  clear ha hx hp hm
  by_cases h70 : 70 < alone.length
  · go_enter Try.func10, Try.ntmps10
    go_wp2_with (go_at_call 35; go_must (refine (awake13 _).mono ?_); rintro e w1 ⟨rfl, hb1⟩)
    go_ret
    exact ⟨rfl, ‹_›⟩
  · by_cases hm0 : more < 0
    · go_enter Try.func10, Try.ntmps10
      go_wp2_with (go_at_call 35; go_must (refine (awake13 _).mono ?_); rintro e w1 ⟨rfl, hb1⟩)
      go_ret
      exact ⟨rfl, ‹_›⟩
    · have hd0 : decide (more < 0) = false := decide_eq_false hm0
      obtain ⟨E1, hE1⟩ : ∃ E, E = allE price alone := ⟨_, rfl⟩
      obtain ⟨a, hA⟩ : ∃ a, a = allL price alone := ⟨_, rfl⟩
      have HAll : Hid (∀ W, Below w.heap.size w W → Calls Try.prog 36 #[.int .i64 price, .slice A alone.length c] W fun e w' => ∃ v, e = .returned (.tuple #[v, .int .i64 E1]) ∧ w'.ownsRow W.heap.size 2 1 v a.length (ints a) ∧ Below W.heap.size W w') := by
        intro W hb
        rw [hE1, hA]
        exact all_any price A c alone W ((HA.out.below hb).more hb.size) hl HX.out HP.out
      by_cases he1 : E1 = 0
      · have hn1 : (E1 != 0) = false := by simpa using he1
        have hok : allE price alone = 0 := by rw [← hE1]; exact he1
        obtain ⟨hst1, hst2⟩ := again_stays HP.out hok
        obtain ⟨p0, hoo, hll⟩ := allE_good hok
        obtain ⟨f1, f2, f3, f4⟩ := outL_facts HP.out hoo
        have ha1 : a.length = alone.length := by rw [hA, hll]; exact f2
        have ha2 : ∀ x ∈ a, inI x := by rw [hA, hll]; exact f4
        obtain ⟨s, hs⟩ : ∃ s, s = fitV (price + more) := ⟨_, rfl⟩
        obtain ⟨g, hg⟩ : ∃ g, g = fitE (price + more) := ⟨_, rfl⟩
        obtain ⟨E2, hE2⟩ : ∃ E, E = againE s a alone := ⟨_, rfl⟩
        obtain ⟨cl, hcl⟩ : ∃ l, l = againL s a alone := ⟨_, rfl⟩
        have hsI : inI s := by rw [hs]; exact inI_fitV _
        have G1 : Hid (∀ W Aa ca, Below w.heap.size w W → Reads W W.heap.size 1 Aa a.length (ints a) → Calls Try.prog 42 #[.int .i64 price, .slice Aa a.length ca, .slice A alone.length c] W fun e w' => ∃ v, e = .returned (.tuple #[v, .int .i64 0]) ∧ w'.ownsRow W.heap.size 2 1 v a.length (ints a) ∧ Below W.heap.size W w') := by
          intro W Aa ca hb hR
          have := again_any price Aa ca a A c alone W hR ha2 (by omega) ((HA.out.below hb).more hb.size) hl HX.out HP.out
          rw [hA, hst1, hst2, ← hA] at this
          exact this
        have G2 : Hid (∀ W Aa ca, Below w.heap.size w W → Reads W W.heap.size 1 Aa a.length (ints a) → Calls Try.prog 42 #[.int .i64 s, .slice Aa a.length ca, .slice A alone.length c] W fun e w' => ∃ v, e = .returned (.tuple #[v, .int .i64 E2]) ∧ w'.ownsRow W.heap.size 2 1 v cl.length (ints cl) ∧ Below W.heap.size W w') := by
          intro W Aa ca hb hR
          rw [hE2, hcl]
          exact again_any s Aa ca a A c alone W hR ha2 (by omega) ((HA.out.below hb).more hb.size) hl HX.out hsI
        have G3 : Hid (∀ W, Calls Try.prog 45 #[.int .i64 price, .int .i64 more] W fun e w' => e = .returned (.tuple #[.int .i64 s, .int .i64 g]) ∧ W = w') := by
          intro W; rw [hs, hg]; exact add_any price more HP.out HM.out W
        have HC : Hid (g = 0 → E2 = 0 → cl.length = a.length ∧ ∀ i, i < a.length → a.getD i 0 ≤ cl.getD i 0) := by
          intro h1 h2
          have hin : inI (price + more) := fitE_eq (by rw [← hg, h1]; rfl)
          have hs' : s = price + more := by rw [hs, fitV_in hin]
          have := again_more HP.out (by omega) HM.out hok (by rw [← hs', ← hA, ← hE2]; exact h2)
          rw [← hs', ← hA, ← hcl] at this
          exact this
        have hal : a.length ≤ 70 := by omega
        clear hE1 hA he1 hok hst1 hst2 p0 hoo hll f1 f2 f3 f4 ha1 ha2 hs hg hE2 hcl hsI
        by_cases hg0 : g = 0
        · by_cases he0 : E2 = 0
          · have hc := HC.out hg0 he0
            have hg1 : (g != 0) = false := by simpa using hg0
            have he1 : (E2 != 0) = false := by simpa using he0
            clear hg0 he0
            obtain ⟨hc1, hc2⟩ := hc
            have HC2 := Lib.hid hc2
            have hc3 : cl.length ≤ a.length ∧ a.length ≤ cl.length := by omega
            obtain ⟨hc4, hc5⟩ := hc3
            clear hc1 hc2
            go_enter Try.func10, Try.ntmps10
            go_wp2_with (first | (go_at_call 35; go_must (refine (awake13 _).mono ?_); rintro e w1 ⟨rfl, hb1⟩) | (go_at_call 36; go_must (refine (HAll.out _ hb1).mono ?_); rintro e w2 ⟨v, rfl, ho, hb2⟩; obtain ⟨Aa, ca, rfl, _, _⟩ := own_ints ho; have hb3 := below_then hb1 hb2 hb1.size; have R2 := Reads.of_own ho) | (go_at_call_of 42 (Value.int IntKind.i64 price); go_must (refine (G1.out _ Aa ca hb3 R2).mono ?_); rintro e w3 ⟨v3, rfl, ho3, hb4⟩; obtain ⟨Ab, cb, rfl, _, _⟩ := own_ints ho3; have hb5 := below_then hb3 hb4 hb3.size; have R3 := Reads.of_own ho3) | (go_at_call 44; go_must (refine (same_true Aa ca a Ab cb _ (reads_below R2 hb4) R3 (by omega)).mono ?_); rintro e w4 ⟨rfl, nd, rfl⟩) | (go_at_call 45; go_must (refine (G3.out _).mono ?_); rintro e w5 ⟨rfl, rfl⟩) | (go_at_call_of 42 (Value.int IntKind.i64 s); go_must (refine (G2.out _ Aa ca (below_drewN hb5) (reads_drewN (reads_below R2 hb4))).mono ?_); rintro e w6 ⟨v6, rfl, ho6, hb6⟩; obtain ⟨Ac, cc, rfl, _, _⟩ := own_ints ho6; have R6 := Reads.of_own ho6))
            have RA := Lib.hid (reads_below (reads_drewN (m := nd) (reads_below R2 hb4)) hb6)
            have RC := Lib.hid R6
            have HB := Lib.hid (below_then (below_drewN hb5) hb6 hb5.size)
            clear R2 R3 R6 hb1 hb2 hb3 hb4 hb5 hb6 ho ho3 ho6
            go_loopg [69] cl.length (fun kq v69 w' => ∃ k : Nat, k ≤ cl.length ∧ kq = cl.length - k ∧ v69 = .int .i64 k ∧ ∃ m, w' = w6.drewN m)
            case atStart => exact ⟨0, by omega, by omega, by go_num, 0, rfl⟩
            case round =>
              obtain ⟨k, hk, rfl, rfl, m, rfl⟩ := hrel
              by_cases hlt : k < cl.length
              · obtain ⟨ad, rfl, hb, hc⟩ := RC.out.int_at hlt
                obtain ⟨ad', rfl, hb', hc'⟩ := RA.out.int_at (show k < a.length by omega)
                have hle := HC2.out k (by omega)
                obtain ⟨x, hx⟩ : ∃ x, x = cl.getD k 0 := ⟨_, rfl⟩
                obtain ⟨y, hy⟩ : ∃ y, y = a.getD k 0 := ⟨_, rfl⟩
                rw [← hx] at hc hle
                rw [← hy] at hc' hle
                clear hx hy
                have i1 : (0 : Int) ≤ (k : Int) := by omega
                have i2 : (k : Int) < (cl.length : Int) := by omega
                have i3 : (k : Int) < (a.length : Int) := by omega
                have hd : decide (x < y) = false := decide_eq_false (by omega)
                go_wp2
                go_quiet (fail)
                go_wp2
                go_roundg (cl.length - (k + 1))
                case measure => omega
                case rel => exact ⟨k + 1, by omega, rfl, by go_num, _, rfl⟩
              · go_wp2
                go_ret
                exact ⟨rfl, below_drewN HB.out⟩
          · have hg1 : (g != 0) = false := by simpa using hg0
            have he1 : (E2 != 0) = true := by simpa using he0
            clear hg0 he0
            go_enter Try.func10, Try.ntmps10
            go_wp2_with (first | (go_at_call 35; go_must (refine (awake13 _).mono ?_); rintro e w1 ⟨rfl, hb1⟩) | (go_at_call 36; go_must (refine (HAll.out _ hb1).mono ?_); rintro e w2 ⟨v, rfl, ho, hb2⟩; obtain ⟨Aa, ca, rfl, _, _⟩ := own_ints ho; have hb3 := below_then hb1 hb2 hb1.size; have R2 := Reads.of_own ho) | (go_at_call_of 42 (Value.int IntKind.i64 price); go_must (refine (G1.out _ Aa ca hb3 R2).mono ?_); rintro e w3 ⟨v3, rfl, ho3, hb4⟩; obtain ⟨Ab, cb, rfl, _, _⟩ := own_ints ho3; have hb5 := below_then hb3 hb4 hb3.size; have R3 := Reads.of_own ho3) | (go_at_call 44; go_must (refine (same_true Aa ca a Ab cb _ (reads_below R2 hb4) R3 (by omega)).mono ?_); rintro e w4 ⟨rfl, nd, rfl⟩) | (go_at_call 45; go_must (refine (G3.out _).mono ?_); rintro e w5 ⟨rfl, rfl⟩) | (go_at_call_of 42 (Value.int IntKind.i64 s); go_must (refine (G2.out _ Aa ca (below_drewN hb5) (reads_drewN (reads_below R2 hb4))).mono ?_); rintro e w6 ⟨v6, rfl, ho6, hb6⟩))
            go_ret
            exact ⟨rfl, below_then (below_drewN hb5) hb6 hb5.size⟩
        · have hg1 : (g != 0) = true := by simpa using hg0
          clear hg0
          go_enter Try.func10, Try.ntmps10
          go_wp2_with (first | (go_at_call 35; go_must (refine (awake13 _).mono ?_); rintro e w1 ⟨rfl, hb1⟩) | (go_at_call 36; go_must (refine (HAll.out _ hb1).mono ?_); rintro e w2 ⟨v, rfl, ho, hb2⟩; obtain ⟨Aa, ca, rfl, _, _⟩ := own_ints ho; have hb3 := below_then hb1 hb2 hb1.size; have R2 := Reads.of_own ho) | (go_at_call_of 42 (Value.int IntKind.i64 price); go_must (refine (G1.out _ Aa ca hb3 R2).mono ?_); rintro e w3 ⟨v3, rfl, ho3, hb4⟩; obtain ⟨Ab, cb, rfl, _, _⟩ := own_ints ho3; have hb5 := below_then hb3 hb4 hb3.size; have R3 := Reads.of_own ho3) | (go_at_call 44; go_must (refine (same_true Aa ca a Ab cb _ (reads_below R2 hb4) R3 (by omega)).mono ?_); rintro e w4 ⟨rfl, nd, rfl⟩) | (go_at_call 45; go_must (refine (G3.out _).mono ?_); rintro e w5 ⟨rfl, rfl⟩) | (go_at_call_of 42 (Value.int IntKind.i64 s); go_must (refine (G2.out _ Aa ca (below_drewN hb5) (reads_drewN (reads_below R2 hb4))).mono ?_); rintro e w6 ⟨v6, rfl, ho6, hb6⟩))
          go_ret
          exact ⟨rfl, below_then (below_drewN hb5) hb6 hb5.size⟩
      · have hn1 : (E1 != 0) = true := by simpa using he1
        clear hE1 hA he1
        go_enter Try.func10, Try.ntmps10
        go_wp2_with (first | (go_at_call 35; go_must (refine (awake13 _).mono ?_); rintro e w1 ⟨rfl, hb1⟩) | (go_at_call 36; go_must (refine (HAll.out _ hb1).mono ?_); rintro e w2 ⟨v, rfl, ho, hb2⟩))
        go_ret
        exact ⟨rfl, below_then hb1 hb2 hb1.size⟩
end Go.Proofs.Ytophfbnajelknaa

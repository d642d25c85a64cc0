import Derived.Test.YtophfbnajelknaaAw13
import Derived.Test.YtophfbnajelknaaP13n
/- Layer 13: the walk of AllotNone. -/
namespace Go.Proofs.Ytophfbnajelknaa
open Go.RowKit

theorem all_one_call (price : Int) (hp : inI price) (h0 : 0 ≤ price) (W : World) (A : Option Addr) (h : Reads W W.heap.size 1 A 1 (ints [7])) :
    Calls Try.prog 36 #[.int .i64 price, .slice A 1 1] W fun e w' => ∃ v, e = .returned (.tuple #[v, .int .i64 0]) ∧ w'.ownsRow W.heap.size 2 1 v 1 (ints [price]) ∧ Below W.heap.size W w' := by
  have := all_any price A 1 [7] W h (by decide) (by intro x hx; simp at hx; subst hx; exact in_small (by omega)) hp
  rw [(all_one hp h0).1, (all_one hp h0).2] at this
  exact this
theorem all_seven_call (price : Int) (hp : inI price) (W : World) (A : Option Addr) (h : Reads W W.heap.size 1 A 1 (ints [7])) :
    Calls Try.prog 36 #[.int .i64 price, .slice A 1 1] W fun e w' => ∃ (v : Value) (E : Int), e = .returned (.tuple #[v, .int .i64 E]) ∧ Below W.heap.size W w' := by
  have := all_any price A 1 [7] W h (by decide) (by intro x hx; simp at hx; subst hx; exact in_small (by omega)) hp
  exact this.mono (fun e w' ⟨v, he, _, hb⟩ => ⟨v, _, he, hb⟩)

set_option maxHeartbeats 8000000 in
set_option maxRecDepth 100000 in
theorem allotNone_walk (A : Option Addr) (c : Nat) (alone : List Int) (A' : Option Addr) (c' : Nat) (whose : List Int) (price : Int) (w : World) (ha : Reads w w.heap.size 1 A alone.length (ints alone)) (hl : alone.length * 8 ≤ 140737488351232) (hx : ∀ x ∈ alone, inI x)
    (hw : Reads w w.heap.size 1 A' whose.length (ints whose)) (hwl : whose.length * 8 ≤ 140737488351232) (_hwx : ∀ x ∈ whose, inI x) (hp : inI price) :
    Calls Try.prog 9 #[.slice A alone.length c, .slice A' whose.length c', .int .i64 price] w fun e w' => e = .returned (.bool true) ∧ Below w.heap.size w w' := by
  have HA := Lib.hid ha
  have HW := Lib.hid hw
  have HX := Lib.hid hx
  have HP := Lib.hid hp
  clear ha hx hp hw
  by_cases h64 : 64 < alone.length
  · go_enter Try.func9, Try.ntmps9
    go_wp2_with (go_at_call 35; go_must (refine (awake13 _).mono ?_); rintro e w1 ⟨rfl, hb1⟩)
    go_ret
    exact ⟨rfl, ‹_›⟩
  · by_cases h70 : 70 < whose.length
    · go_enter Try.func9, Try.ntmps9
      go_wp2_with (go_at_call 35; go_must (refine (awake13 _).mono ?_); rintro e w1 ⟨rfl, hb1⟩)
      go_ret
      exact ⟨rfl, ‹_›⟩
    · go_enter Try.func9, Try.ntmps9
      go_wp2_with (go_at_call 35; go_must (refine (awake13 _).mono ?_); rintro e w1 ⟨rfl, hb1⟩)
      have HB := Lib.hid hb1
      have RA := Lib.hid (reads_below HA.out hb1)
      have RW := Lib.hid (reads_below HW.out hb1)
      clear hb1
      go_loopg [31] alone.length (fun kq v31 w' => ∃ k : Nat, k ≤ alone.length ∧ kq = alone.length - k ∧ v31 = .int .i64 k ∧ Aside (∀ j, j < k → 1 ≤ alone.getD j 0) ∧ w1 = w')
      case atStart => exact ⟨0, by omega, by omega, by go_num, fun j hj => by omega, rfl⟩
      case round =>
        obtain ⟨k, hk, rfl, rfl, HI, rfl⟩ := hrel
        by_cases hlt : k < alone.length
        · obtain ⟨ad, rfl, hb, hc⟩ := RA.out.int_at hlt
          obtain ⟨x, hx⟩ : ∃ x, x = alone.getD k 0 := ⟨_, rfl⟩
          rw [← hx] at hc
          have HXE := Lib.hid hx
          clear hx
          by_cases h1 : x < 1
          · go_wp2
            go_ret
            exact ⟨rfl, HB.out⟩
          · have hj : Hid (∀ j, j < k + 1 → 1 ≤ alone.getD j 0) := by
              intro j hj
              by_cases e : j = k
              · rw [e, ← HXE.out]; omega
              · exact HI.out j (by omega)
            go_wp2
            go_roundg (alone.length - (k + 1))
            case measure => omega
            case rel => exact ⟨k + 1, by omega, rfl, by go_num, hj.out, rfl⟩
        · obtain rfl : k = alone.length := by omega
          have HPOS : Hid (∀ x ∈ alone, 1 ≤ x) := by
            intro x hx
            obtain ⟨i, hi, rfl⟩ := List.mem_iff_getElem.1 hx
            have := HI.out i hi
            simpa [List.getD_eq_getElem?_getD, List.getElem?_eq_getElem hi] using this
          clear HI
          obtain ⟨S, hS⟩ : ∃ S, S = alone.sum := ⟨_, rfl⟩
          obtain ⟨s, hs⟩ : ∃ s, s = fitV alone.sum := ⟨_, rfl⟩
          obtain ⟨g, hg⟩ : ∃ g, g = fitE alone.sum := ⟨_, rfl⟩
          have HSUM : Hid (∀ W, Below w.heap.size w W → Calls Try.prog 32 #[.slice A alone.length c] W fun e w' => e = .returned (.tuple #[.int .i64 s, .int .i64 g]) ∧ Below W.heap.size W w') := by
            intro W hb; rw [hs, hg]; exact sum_any A c alone W (reads_below HA.out hb) hl HX.out
          have HG := Lib.hid hg
          have HS := Lib.hid hs
          clear hS hs hg
          have hK : (g = 0 → 0 < alone.length → s = alone.sum ∧ allE s alone = 0 ∧ allL s alone = alone ∧ fitV (alone.sum - s) = 0 ∧ fitE (alone.sum - s) = 0) := by
            intro h1 h2
            have hi : inI alone.sum := fitE_eq (by rw [← HG.out, h1]; rfl)
            have e : s = alone.sum := by rw [HS.out, fitV_in hi]
            rw [e, Int.sub_self]
            exact ⟨rfl, (all_self HPOS.out h2 (by omega) hi).1, (all_self HPOS.out h2 (by omega) hi).2, fitV_in inI_zero, fitE_in inI_zero⟩
          have HK := Lib.hid hK
          have hsI : inI s := by rw [HS.out]; exact inI_fitV _
          have HSI := Lib.hid hsI
          clear hK hsI HG HS
          by_cases hpr : 0 ≤ price
          case' pos =>
            go_upto_region 14 with (first | (go_at_call 36; go_must (refine (all_one_call price HP.out hpr _ _ (reads_new w1 2 [7])).mono ?_); rintro e w2 ⟨v2, rfl, ho2, hb2⟩; obtain ⟨g2, c2, rfl, _, _⟩ := ho2.form (by decide)) | (go_at_call 44; go_must (refine (same_true _ c2 [price] _ 1 _ (reads_alloc (Reads.of_own ho2) _) (reads_new w2 2 [price]) (by simp)).mono ?_); rintro e w3 ⟨rfl, n3, rfl⟩))
            have b2 := below_then HB.out (below_alloc_then (B := w1.heap.size) hb2 (Nat.le_refl _)) HB.out.size
            have HBB := Lib.hid (below_drewN (m := n3) (b2.alloc b2.size (.cells (row [price]) 2)))
            clear b2 hb2 ho2
          case' neg =>
            go_upto_region 14 with (go_at_call 36; go_must (refine (all_seven_call price HP.out _ _ (reads_new w1 2 [7])).mono ?_); rintro e w2 ⟨v2, E2, rfl, hb2⟩)
            have HBB := Lib.hid (below_then HB.out (below_alloc_then (B := w1.heap.size) hb2 (Nat.le_refl _)) HB.out.size)
            clear hb2
          all_goals
            by_cases hg0 : ¬ g = 0
            case' pos =>
              have hg1 : (g != 0) = true := by simpa using hg0
              clear hg0
              go_wp2_with (go_at_call 32; go_must (refine (HSUM.out _ HBB.out).mono ?_); rintro e w4 ⟨rfl, hb4⟩)
              go_ret
              exact ⟨rfl, below_then HBB.out hb4 HBB.out.size⟩
            have hg0 : g = 0 := by omega
            have hg1 : (g != 0) = false := by simpa using hg0
            by_cases hn0 : alone.length = 0
            case' pos =>
              have hn1 : ((alone.length : Int) == 0) = true := by rw [hn0]; rfl
              clear hg0 hn0
              go_wp2_with (go_at_call 32; go_must (refine (HSUM.out _ HBB.out).mono ?_); rintro e w4 ⟨rfl, hb4⟩)
              go_ret
              exact ⟨rfl, below_then HBB.out hb4 HBB.out.size⟩
            have hn1 : ((alone.length : Int) == 0) = false := by rw [beq_eq_false_iff_ne]; omega
            have HF := Lib.hid (HK.out hg0 (by omega))
            have HALL : Hid (∀ W, Below w.heap.size w W → Calls Try.prog 36 #[.int .i64 s, .slice A alone.length c] W fun e w' => ∃ v, e = .returned (.tuple #[v, .int .i64 0]) ∧ w'.ownsRow W.heap.size 2 1 v alone.length (ints alone) ∧ Below W.heap.size W w') := by
              intro W hb
              have := all_any s A c alone W (reads_below HA.out hb) hl HX.out HSI.out
              rw [HF.out.2.1, HF.out.2.2.1] at this
              exact this
            have HDIS : Hid (∀ W, Below w.heap.size w W → Calls Try.prog 40 #[.int .i64 s, .slice A alone.length c] W fun e w' => e = .returned (.tuple #[.int .i64 0, .int .i64 0]) ∧ Below W.heap.size W w') := by
              intro W hb
              have := discount_any s A c alone W (reads_below HA.out hb) (by omega) HX.out HSI.out
              rw [HF.out.2.2.2.1, HF.out.2.2.2.2] at this
              exact this
            obtain ⟨h, hh⟩ : ∃ h, h = someE s alone whose := ⟨_, rfl⟩
            obtain ⟨b, hbl⟩ : ∃ b, b = someL s alone whose := ⟨_, rfl⟩
            have HSOME : Hid (∀ W, Below w.heap.size w W → Calls Try.prog 38 #[.int .i64 s, .slice A alone.length c, .slice A' whose.length c'] W fun e w' => ∃ v, e = .returned (.tuple #[v, .int .i64 h]) ∧ w'.ownsRow W.heap.size 2 1 v b.length (ints b) ∧ Below W.heap.size W w') := by
              intro W hb
              rw [hh, hbl]
              exact some_any s A c alone A' c' whose W (reads_below HA.out hb) (by omega) (reads_below HW.out hb) (by omega) HX.out HSI.out
            have HSELF : Hid (h = 0 → b = alone) := by
              intro h0
              have e := HF.out.1
              rw [hbl, e]
              exact some_self (by rw [← e, ← hh]; exact h0)
            clear hh hbl
            have hln : alone.length ≤ 64 := by omega
            clear hg0 hn0 HK
            by_cases hh0 : h = 0
            · have hb0 : Hid (b = alone) := Lib.hid (HSELF.out hh0)
              have hh1 : (h != 0) = false := by simpa using hh0
              clear hh0
              go_wp2_with (first | (go_at_call 32; go_must (refine (HSUM.out _ HBB.out).mono ?_); rintro e w4 ⟨rfl, hb4⟩; have b4 := Lib.hid (below_then HBB.out hb4 HBB.out.size)) | (go_at_call 36; go_must (refine (HALL.out _ b4.out).mono ?_); rintro e w5 ⟨v5, rfl, ho5, hb5⟩; obtain ⟨Aa, ca, rfl, _, _⟩ := own_ints ho5; have b5 := Lib.hid (below_then b4.out hb5 b4.out.size); have R5 := Reads.of_own ho5) | (go_at_call 40; go_must (refine (HDIS.out _ b5.out).mono ?_); rintro e w6 ⟨rfl, hb6⟩; have b6 := Lib.hid (below_then b5.out hb6 b5.out.size)) | (go_at_call 38; go_must (refine (HSOME.out _ b6.out).mono ?_); rintro e w7 ⟨v7, rfl, ho7, hb7⟩; rw [hb0.out] at ho7; obtain ⟨Ab, cb, rfl, _, _⟩ := own_ints ho7; have b7 := Lib.hid (below_then b6.out hb7 b6.out.size); have R7 := Reads.of_own ho7) | (go_at_call_of 44 (Value.slice Aa alone.length ca); go_must (refine (same_true Aa ca alone A c _ (reads_below (reads_below R5 hb6) hb7) (reads_below HA.out b7.out) hl).mono ?_); rintro e w8 ⟨rfl, n8, rfl⟩) | (go_at_call_of 44 (Value.slice Ab alone.length cb); go_must (refine (same_true Ab cb alone A c _ (reads_drewN R7) (reads_drewN (reads_below HA.out b7.out)) hl).mono ?_); rintro e w9 ⟨rfl, n9, rfl⟩))
              go_ret
              exact ⟨rfl, below_drewN b7.out⟩
            · have hh1 : (h != 0) = true := by simpa using hh0
              clear hh0
              go_wp2_with (first | (go_at_call 32; go_must (refine (HSUM.out _ HBB.out).mono ?_); rintro e w4 ⟨rfl, hb4⟩; have b4 := Lib.hid (below_then HBB.out hb4 HBB.out.size)) | (go_at_call 36; go_must (refine (HALL.out _ b4.out).mono ?_); rintro e w5 ⟨v5, rfl, ho5, hb5⟩; obtain ⟨Aa, ca, rfl, _, _⟩ := own_ints ho5; have b5 := Lib.hid (below_then b4.out hb5 b4.out.size); have R5 := Reads.of_own ho5) | (go_at_call 40; go_must (refine (HDIS.out _ b5.out).mono ?_); rintro e w6 ⟨rfl, hb6⟩; have b6 := Lib.hid (below_then b5.out hb6 b5.out.size)) | (go_at_call 38; go_must (refine (HSOME.out _ b6.out).mono ?_); rintro e w7 ⟨v7, rfl, ho7, hb7⟩; have b7 := Lib.hid (below_then b6.out hb7 b6.out.size)) | (go_at_call_of 44 (Value.slice Aa alone.length ca); go_must (refine (same_true Aa ca alone A c _ (reads_below (reads_below R5 hb6) hb7) (reads_below HA.out b7.out) hl).mono ?_); rintro e w8 ⟨rfl, n8, rfl⟩))
              go_ret
              exact ⟨rfl, below_drewN b7.out⟩
end Go.Proofs.Ytophfbnajelknaa

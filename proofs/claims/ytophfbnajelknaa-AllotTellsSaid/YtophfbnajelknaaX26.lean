import Derived.Test.YtophfbnajelknaaX25
import Derived.Test.YtophfbnajelknaaAw13
/- Layer 13: the walk of AllotTells. -/
namespace Go.Proofs.Ytophfbnajelknaa
open Go.RowKit

theorem rsome_any (price : Int) (A : Option Addr) (c : Nat) (alone : List Int) (A' : Option Addr) (c' : Nat) (whose : List Int) (w : World) (ha : Reads w w.heap.size 1 A alone.length (ints alone)) (hl : alone.length ≤ 1000)
    (hw : Reads w w.heap.size 1 A' whose.length (ints whose)) (hl' : whose.length ≤ 1000) (hax : ∀ x ∈ alone, inI x) (hpi : inI price) :
    Calls Try.prog 39 #[.int .i64 price, .slice A alone.length c, .slice A' whose.length c'] w fun e w' => ∃ v, e = .returned (.tuple #[v, .int .i64 (someE price alone whose)]) ∧ w'.ownsRow w.heap.size 2 1 v (someL price alone whose).length (ints (someL price alone whose)) ∧ Below w.heap.size w w' := by
  by_cases hb : someBad price alone whose = true
  · have e1 : someE price alone whose = 1 := by rw [someE, if_pos hb]
    have e2 : someL price alone whose = [] := by rw [someL, e1, if_pos (by omega)]
    rw [e1, e2]
    refine (rsome_bad price A c alone A' c' whose w ha hl hw hl' hb).mono ?_
    rintro e w' ⟨rfl, n, rfl⟩
    exact ⟨_, rfl, World.ownsRow_nil _ _ _ _, below_drewN (Below.refl _ _)⟩
  · have hb' : someBad price alone whose = false := by simpa using hb
    unfold someBad at hb
    simp only [Bool.or_eq_true, Bool.not_eq_true', not_or, decide_eq_true_eq, Bool.not_eq_true, Bool.not_eq_false] at hb
    have hr := hb.2
    unfold risesB at hr
    simp only [Bool.and_eq_true, decide_eq_true_eq] at hr
    have hnn : ∀ x ∈ alone, 0 ≤ x := by
      intro x hx
      refine Int.not_lt.1 fun hlt => ?_
      have := hb.1.2
      rw [List.any_eq_false] at this
      exact this x hx (decide_eq_true hlt)
    have hle3 : ∀ t s, leE t s ≠ 0 → leE t s = 3 := by
      intro t s h
      unfold leE at *
      split
      · rename_i hi
        rw [if_pos hi] at h
        rw [fitE_out (fun h1 => h (fitE_in h1))]
      · rfl
    have hlv : ∀ t s, leE t s = 0 → leV t s = t - s := by
      intro t s h
      unfold leE at h
      unfold leV
      by_cases hi : inI s
      · rw [if_pos hi] at h ⊢
        by_cases hj : inI (t - s)
        · exact fitV_in hj
        · rw [fitE_out hj] at h; cases h
      · rw [if_neg hi] at h; cases h
    refine rsome_good price A c alone A' c' whose w ha hl hw hl' hax hpi (by omega) hnn hr.1 hr.2 (othersSum alone whose) _ _ rfl ?_ ?_ ?_ ?_
    · intro h
      have e1 : someE price alone whose = 3 := by rw [someE, if_neg (by rw [hb']; decide), if_pos h, hle3 _ _ h]
      exact ⟨e1, by rw [someL, e1, if_pos (by omega)]⟩
    · intro h h2
      have e1 : someE price alone whose = 1 := by rw [someE, if_neg (by rw [hb']; decide), if_neg (by omega), hlv _ _ h, if_pos h2]
      exact ⟨e1, by rw [someL, e1, if_pos (by omega)]⟩
    · intro h h2 h3
      have e1 : someE price alone whose = outE (price - othersSum alone whose) (ofL alone whose) := by rw [someE, if_neg (by rw [hb']; decide), if_neg (by omega), hlv _ _ h, if_neg (by omega)]
      exact ⟨e1, by rw [someL, e1, if_pos h3]⟩
    · intro h h2 h3
      have e1 : someE price alone whose = 0 := by rw [someE, if_neg (by rw [hb']; decide), if_neg (by omega), hlv _ _ h, if_neg (by omega), h3]
      exact ⟨e1, by rw [someL, e1, if_neg (by omega), hlv _ _ h]⟩
theorem same_here (A : Option Addr) (c : Nat) (A' : Option Addr) (c' : Nat) (xs : List Int) (w : World) (hr : Reads w w.heap.size 1 A xs.length (ints xs)) (hr' : Reads w w.heap.size 1 A' xs.length (ints xs)) (hl : xs.length ≤ 1000000) :
    Calls Try.prog 44 #[.slice A xs.length c, .slice A' xs.length c'] w fun e w' => e = .returned (.bool true) ∧ ∃ n, w' = w.drewN n := by
  have := same_any A c xs A' c' xs w hr hr' (by omega)
  rw [decide_eq_true rfl] at this
  exact this
theorem someL_length (price : Int) (alone whose : List Int) : (someL price alone whose).length ≤ alone.length := by
  unfold someL
  split
  · simp
  · rw [putTo_length]; exact Nat.le_refl _
theorem allL_length {price : Int} (hp : inI price) (ws : List Int) : (allL price ws).length ≤ ws.length := by
  unfold allL
  split
  · simp
  · by_cases h : outE price ws = 0
    · rw [(outL_facts hp h).2.1]; exact Nat.le_refl _
    · rw [outL_bad h]; simp
theorem againL_length (t : Int) (done alone : List Int) : (againL t done alone).length ≤ alone.length := by
  unfold againL
  split
  · simp
  · rename_i h
    rw [addL, List.length_map, List.length_range]
    by_cases h2 : outE (leftV t done) alone = 0
    · rw [(outL_facts (leftV_in t done) h2).2.1]; exact Nat.le_refl _
    · rw [outL_bad h2]; simp

set_option maxHeartbeats 16000000 in
set_option maxRecDepth 100000 in
theorem allotTells_walk (price : Int) (A : Option Addr) (c : Nat) (alone : List Int) (B : Option Addr) (d : Nat) (done : List Int) (A' : Option Addr) (c' : Nat) (whose : List Int) (w : World) (hp : inI price) (ha : Reads w w.heap.size 1 A alone.length (ints alone)) (hl : alone.length * 8 ≤ 140737488351232) (hx : ∀ x ∈ alone, inI x)
    (hd : Reads w w.heap.size 1 B done.length (ints done)) (hdl : done.length * 8 ≤ 140737488351232) (hdx : ∀ x ∈ done, inI x)
    (hw : Reads w w.heap.size 1 A' whose.length (ints whose)) (hwl : whose.length * 8 ≤ 140737488351232) (hwx : ∀ x ∈ whose, inI x) :
    Calls Try.prog 7 #[.int .i64 price, .slice A alone.length c, .slice B done.length d, .slice A' whose.length c'] w fun e w' => e = .returned (.bool true) ∧ Below w.heap.size w w' := by
  have HA := Lib.hid ha
  have HW := Lib.hid hw
  have HD := Lib.hid hd
  have HX := Lib.hid hx
  have HDX := Lib.hid hdx
  have HP := Lib.hid hp
  have HWX := Lib.hid hwx
  clear ha hx hp hw hd hdx hwx
  by_cases h64 : 70 < alone.length
  · go_enter Try.func7, Try.ntmps7
    go_wp2_with (go_at_call 35; go_must (refine (awake13 _).mono ?_); rintro e w1 ⟨rfl, hb1⟩)
    go_ret
    exact ⟨rfl, ‹_›⟩
  · by_cases h71 : 70 < done.length
    · go_enter Try.func7, Try.ntmps7
      go_wp2_with (go_at_call 35; go_must (refine (awake13 _).mono ?_); rintro e w1 ⟨rfl, hb1⟩)
      go_ret
      exact ⟨rfl, ‹_›⟩
    · by_cases h70 : 70 < whose.length
      · go_enter Try.func7, Try.ntmps7
        go_wp2_with (go_at_call 35; go_must (refine (awake13 _).mono ?_); rintro e w1 ⟨rfl, hb1⟩)
        go_ret
        exact ⟨rfl, ‹_›⟩
      · obtain ⟨E0, hE0⟩ : ∃ E, E = allE price alone := ⟨_, rfl⟩
        obtain ⟨L0, hL0⟩ : ∃ E, E = allL price alone := ⟨_, rfl⟩
        obtain ⟨E1, hE1⟩ : ∃ E, E = someE price alone whose := ⟨_, rfl⟩
        obtain ⟨L1, hL1⟩ : ∃ E, E = someL price alone whose := ⟨_, rfl⟩
        obtain ⟨E2, hE2⟩ : ∃ E, E = againE price done alone := ⟨_, rfl⟩
        obtain ⟨L2, hL2⟩ : ∃ E, E = againL price done alone := ⟨_, rfl⟩
        obtain ⟨V3, hV3⟩ : ∃ E, E = fitV (alone.sum - price) := ⟨_, rfl⟩
        obtain ⟨E3, hE3⟩ : ∃ E, E = fitE (alone.sum - price) := ⟨_, rfl⟩
        have l0 : L0.length ≤ 70 := by rw [hL0]; have := allL_length HP.out alone; omega
        have l1 : L1.length ≤ 70 := by rw [hL1]; have := someL_length price alone whose; omega
        have l2 : L2.length ≤ 70 := by rw [hL2]; have := againL_length price done alone; omega
        have C0 : Hid (∀ W, Below w.heap.size w W → Calls Try.prog 36 #[.int .i64 price, .slice A alone.length c] W fun e w' => ∃ v, e = .returned (.tuple #[v, .int .i64 E0]) ∧ w'.ownsRow W.heap.size 2 1 v L0.length (ints L0) ∧ Below W.heap.size W w') := by
          intro W hb; rw [hE0, hL0]; exact all_any price A c alone W (reads_below HA.out hb) hl HX.out HP.out
        have R0 : Hid (∀ W, Below w.heap.size w W → Calls Try.prog 37 #[.int .i64 price, .slice A alone.length c] W fun e w' => ∃ v, e = .returned (.tuple #[v, .int .i64 E0]) ∧ w'.ownsRow W.heap.size 2 1 v L0.length (ints L0) ∧ Below W.heap.size W w') := by
          intro W hb; rw [hE0, hL0]; exact rall_any price A c alone W (reads_below HA.out hb) (by omega) HX.out HP.out
        have C1 : Hid (∀ W, Below w.heap.size w W → Calls Try.prog 38 #[.int .i64 price, .slice A alone.length c, .slice A' whose.length c'] W fun e w' => ∃ v, e = .returned (.tuple #[v, .int .i64 E1]) ∧ w'.ownsRow W.heap.size 2 1 v L1.length (ints L1) ∧ Below W.heap.size W w') := by
          intro W hb; rw [hE1, hL1]; exact some_any price A c alone A' c' whose W (reads_below HA.out hb) (by omega) (reads_below HW.out hb) (by omega) HX.out HP.out
        have R1 : Hid (∀ W, Below w.heap.size w W → Calls Try.prog 39 #[.int .i64 price, .slice A alone.length c, .slice A' whose.length c'] W fun e w' => ∃ v, e = .returned (.tuple #[v, .int .i64 E1]) ∧ w'.ownsRow W.heap.size 2 1 v L1.length (ints L1) ∧ Below W.heap.size W w') := by
          intro W hb; rw [hE1, hL1]; exact rsome_any price A c alone A' c' whose W (reads_below HA.out hb) (by omega) (reads_below HW.out hb) (by omega) HX.out HP.out
        have C2 : Hid (∀ W, Below w.heap.size w W → Calls Try.prog 42 #[.int .i64 price, .slice B done.length d, .slice A alone.length c] W fun e w' => ∃ v, e = .returned (.tuple #[v, .int .i64 E2]) ∧ w'.ownsRow W.heap.size 2 1 v L2.length (ints L2) ∧ Below W.heap.size W w') := by
          intro W hb; rw [hE2, hL2]; exact again_any price B d done A c alone W (reads_below HD.out hb) HDX.out hdl (reads_below HA.out hb) hl HX.out HP.out
        have R2 : Hid (∀ W, Below w.heap.size w W → Calls Try.prog 43 #[.int .i64 price, .slice B done.length d, .slice A alone.length c] W fun e w' => ∃ v, e = .returned (.tuple #[v, .int .i64 E2]) ∧ w'.ownsRow W.heap.size 2 1 v L2.length (ints L2) ∧ Below W.heap.size W w') := by
          intro W hb; rw [hE2, hL2]; exact ragain_any price B d done A c alone W (reads_below HD.out hb) HDX.out (by omega) (reads_below HA.out hb) (by omega) HX.out HP.out
        have C3 : Hid (∀ W, Below w.heap.size w W → Calls Try.prog 40 #[.int .i64 price, .slice A alone.length c] W fun e w' => e = .returned (.tuple #[.int .i64 V3, .int .i64 E3]) ∧ Below W.heap.size W w') := by
          intro W hb; rw [hV3, hE3]; exact discount_any price A c alone W (reads_below HA.out hb) (by omega) HX.out HP.out
        have R3 : Hid (∀ W, Below w.heap.size w W → Calls Try.prog 41 #[.int .i64 price, .slice A alone.length c] W fun e w' => e = .returned (.tuple #[.int .i64 V3, .int .i64 E3]) ∧ Below W.heap.size W w') := by
          intro W hb; rw [hV3, hE3]; exact rdiscount_any price A c alone W (reads_below HA.out hb) (by omega) HX.out HP.out
        clear hE0 hL0 hE1 hL1 hE2 hL2 hV3 hE3
        go_enter Try.func7, Try.ntmps7
        go_upto_region 13 with (first | (go_at_call 35; go_must (refine (awake13 _).mono ?_); rintro e w1 ⟨rfl, b1⟩) | (go_at_call 36; go_must (refine (C0.out _ b1).mono ?_); rintro e w2 ⟨v2, rfl, ho2, b2⟩; obtain ⟨A0, c0, rfl, _, _⟩ := own_ints ho2; have q2 := Reads.of_own ho2; have b2 := belT b1 b2) | (go_at_call 37; go_must (refine (R0.out _ b2).mono ?_); rintro e w3 ⟨v3, rfl, ho3, k3⟩; obtain ⟨A0', c0', rfl, _, _⟩ := own_ints ho3; have q3 := Reads.of_own ho3; have b3 := belT b2 k3) | (go_at_call 38; go_must (refine (C1.out _ b3).mono ?_); rintro e w4 ⟨v4, rfl, ho4, k4⟩; obtain ⟨A1, c1, rfl, _, _⟩ := own_ints ho4; have q4 := Reads.of_own ho4; have b4 := belT b3 k4) | (go_at_call 39; go_must (refine (R1.out _ b4).mono ?_); rintro e w5 ⟨v5, rfl, ho5, k5⟩; obtain ⟨A1', c1', rfl, _, _⟩ := own_ints ho5; have q5 := Reads.of_own ho5; have b5 := belT b4 k5) | (go_at_call 40; go_must (refine (C3.out _ b5).mono ?_); rintro e w6 ⟨rfl, k6⟩; have b6 := belT b5 k6) | (go_at_call 41; go_must (refine (R3.out _ b6).mono ?_); rintro e w7 ⟨rfl, k7⟩; have b7 := belT b6 k7) | (go_at_call 42; go_must (refine (C2.out _ b7).mono ?_); rintro e w8 ⟨v8, rfl, ho8, k8⟩; obtain ⟨A2, c2, rfl, _, _⟩ := own_ints ho8; have q8 := Reads.of_own ho8; have b8 := belT b7 k8) | (go_at_call 43; go_must (refine (R2.out _ b8).mono ?_); rintro e w9 ⟨v9, rfl, ho9, k9⟩; obtain ⟨A2', c2', rfl, _, _⟩ := own_ints ho9; have q9 := Reads.of_own ho9; have b9 := belT b8 k9))
        have Q2 := Lib.hid (reads_below (reads_below (reads_below (reads_below (reads_below (reads_below (reads_below q2 k3) k4) k5) k6) k7) k8) k9)
        have Q3 := Lib.hid (reads_below (reads_below (reads_below (reads_below (reads_below (reads_below q3 k4) k5) k6) k7) k8) k9)
        have Q4 := Lib.hid (reads_below (reads_below (reads_below (reads_below (reads_below q4 k5) k6) k7) k8) k9)
        have Q5 := Lib.hid (reads_below (reads_below (reads_below (reads_below q5 k6) k7) k8) k9)
        have Q8 := Lib.hid (reads_below q8 k9)
        have Q9 := Lib.hid q9
        have B9 := Lib.hid b9
        clear q2 q3 q4 q5 q8 q9 k3 k4 k5 k6 k7 k8 k9 b1 b2 b3 b4 b5 b6 b7 b8 b9 ho2 ho3 ho4 ho5 ho8 ho9 C0 C1 C2 C3 R0 R1 R2 R3
        have e0 : (E0 == E0) = true := beq_self_eq_true _
        have e1 : (E1 == E1) = true := beq_self_eq_true _
        have e2 : (E2 == E2) = true := beq_self_eq_true _
        have e3 : (E3 == E3) = true := beq_self_eq_true _
        have e4 : (V3 == V3) = true := beq_self_eq_true _
        go_wp2_with (first | (go_at_call_of 44 (Value.slice A0 L0.length c0); go_must (refine (same_here A0 c0 A0' c0' L0 _ Q2.out Q3.out (by omega)).mono ?_); rintro r u1 ⟨rfl, m1, rfl⟩) | (go_at_call_of 44 (Value.slice A1 L1.length c1); go_must (refine (same_here A1 c1 A1' c1' L1 _ (reads_drewN (m := m1) Q4.out) (reads_drewN (m := m1) Q5.out) (by omega)).mono ?_); rintro r u2 ⟨rfl, m2, rfl⟩) | (go_at_call_of 44 (Value.slice A2 L2.length c2); go_must (refine (same_here A2 c2 A2' c2' L2 _ (reads_drewN (m := m1 + m2) Q8.out) (reads_drewN (m := m1 + m2) Q9.out) (by omega)).mono ?_); rintro r u3 ⟨rfl, m3, rfl⟩))
        go_ret
        exact ⟨rfl, below_drewN B9.out⟩
end Go.Proofs.Ytophfbnajelknaa

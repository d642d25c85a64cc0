import Derived.Test.YtophfbnajelknaaX19
/- Reference R02: Out. -/
namespace Go.Proofs.Ytophfbnajelknaa
open Go.RowKit
attribute [local go_sem ↓] Go.wp_at_zero Go.wp_at_succ

set_option maxHeartbeats 8000000 in
set_option maxRecDepth 100000 in
theorem r2_many (total : Int) (A : Option Addr) (c : Nat) (ws : List Int) (w : World) (h : 64 < ws.length) (hl : ws.length ≤ 1000000) :
    Calls Try.prog 70 #[.int .i64 total, .slice A ws.length c] w fun e w' => e = .returned (.tuple #[.slice none 0 0, .int .i64 4]) ∧ w = w' := by
  go_enter Try.func70, Try.ntmps70
  go_wp2
  go_ret2
  exact ⟨rfl, rfl⟩

set_option maxHeartbeats 8000000 in
set_option maxRecDepth 100000 in
theorem r2_arg (total : Int) (A : Option Addr) (c : Nat) (ws : List Int) (w : World) (hr : Reads w w.heap.size 1 A ws.length (ints ws)) (h64 : ws.length ≤ 64) (hE : ((ws.any fun x => decide (x < 0)) || !(ws.any fun x => decide (0 < x))) = true) :
    Calls Try.prog 70 #[.int .i64 total, .slice A ws.length c] w fun e w' => e = .returned (.tuple #[.slice none 0 0, .int .i64 1]) ∧ w = w' := by
  have HR := Lib.hid hr
  have HE := Lib.hid hE
  clear hr hE
  go_enter Try.func70, Try.ntmps70
  go_wp2
  go_loopg [6, 7] ws.length (fun kq v6 v7 w' => ∃ (k : Nat) (b : Bool), k ≤ ws.length ∧ kq = ws.length - k ∧ v7 = .int .i64 k ∧ v6 = .bool b ∧ Aside ((ws.take k).any (fun x => decide (0 < x)) = b ∧ (ws.take k).any (fun x => decide (x < 0)) = false) ∧ w = w')
  case atStart => exact ⟨0, false, by omega, by omega, rfl, rfl, by simp [Aside], rfl⟩
  case round =>
    obtain ⟨k, b, hk, rfl, rfl, rfl, HI, rfl⟩ := hrel
    by_cases hlt : k < ws.length
    · obtain ⟨ad, rfl, hbl, hcl⟩ := HR.out.int_at hlt
      obtain ⟨x1, hx1⟩ : ∃ x, x = ws.getD k 0 := ⟨_, rfl⟩
      have HJ : Hid ((ws.take (k + 1)).any (fun x => decide (0 < x)) = (b || decide (0 < x1))) := by
        show _ = _; rw [any_pos_take hlt, HI.out.1, hx1]
      have HJ0 : Hid ((ws.take (k + 1)).any (fun x => decide (x < 0)) = decide (x1 < 0)) := by
        show _ = _; rw [any_snoc _ ws k hlt, HI.out.2, hx1]; simp
      rw [← hx1] at hcl
      clear hx1 HI
      by_cases hng : x1 < 0
      · cases b
        all_goals
          go_wp2
          go_ret2
          exact ⟨rfl, rfl⟩
      · have HJ0' := HJ0.out
        rw [decide_eq_false hng] at HJ0'
        have HJ0' := Lib.hid HJ0'
        cases b
        · by_cases hp : 0 < x1
          · have HJ2 := HJ.out
            rw [decide_eq_true hp] at HJ2
            have HJ2 := Lib.hid HJ2
            go_wp2
            go_roundg (ws.length - (k + 1))
            case measure => omega
            case rel => exact ⟨k + 1, true, by omega, rfl, by go_num, rfl, ⟨HJ2.out, HJ0'.out⟩, rfl⟩
          · have HJ2 := HJ.out
            rw [decide_eq_false hp] at HJ2
            have HJ2 := Lib.hid HJ2
            go_wp2
            go_roundg (ws.length - (k + 1))
            case measure => omega
            case rel => exact ⟨k + 1, false, by omega, rfl, by go_num, rfl, ⟨HJ2.out, HJ0'.out⟩, rfl⟩
        · go_wp2
          go_roundg (ws.length - (k + 1))
          case measure => omega
          case rel => exact ⟨k + 1, true, by omega, rfl, by go_num, rfl, ⟨HJ.out, HJ0'.out⟩, rfl⟩
    · obtain rfl : k = ws.length := by omega
      have hb : b = false := by
        have h1 := HI.out
        rw [List.take_length] at h1
        have h2 := HE.out
        rw [h1.2, h1.1] at h2
        simpa using h2
      subst hb
      clear HI HE
      go_wp2
      go_ret2
      exact ⟨rfl, rfl⟩

set_option maxHeartbeats 8000000 in
set_option maxRecDepth 100000 in
theorem r2_sum (total : Int) (A : Option Addr) (c : Nat) (ws : List Int) (w : World) (hr : Reads w w.heap.size 1 A ws.length (ints ws)) (hx : ∀ x ∈ ws, inI x) (hsi : ¬ inI ws.sum) (h64 : ws.length ≤ 64) (hnn : ∀ x ∈ ws, 0 ≤ x) (hany : ws.any (fun x => decide (0 < x)) = true) :
    Calls Try.prog 70 #[.int .i64 total, .slice A ws.length c] w fun e w' => e = .returned (.tuple #[.slice none 0 0, .int .i64 3]) ∧ Below w.heap.size w w' := by
  have HAN := Lib.hid hany
  have HR := Lib.hid hr
  have HX := Lib.hid hx
  have HN := Lib.hid hnn
  obtain ⟨S, hS⟩ : ∃ S, S = ws.sum := ⟨_, rfl⟩
  have hss : Small 100 S := by
    have := small_sum hx (by omega) ws.length
    rw [List.take_length, ← hS] at this
    exact this
  have HSS := Lib.hid hss
  have C1 : Hid (∀ W, Below w.heap.size w W → Calls Try.prog 77 #[.slice A ws.length c] W fun e w' => ∃ v, e = .returned v ∧ Ex w' v S ∧ Below W.heap.size W w') := fun W hb => by rw [hS]; exact total_any A c ws W (reads_below HR.out hb) HX.out (by omega)
  have C2 : Hid (∀ W v, Ex W v S → Calls Try.prog 58 #[v] W fun e w' => e = .returned (.tuple #[.int .i64 0, .int .i64 3]) ∧ Below W.heap.size W w') := fun W v h => by
    have := fit_any v S W h HSS.out
    rw [fitV_out (by rw [hS]; exact hsi), fitE_out (by rw [hS]; exact hsi)] at this
    exact this
  clear hr hx hnn hS hss hany hsi
  go_enter Try.func70, Try.ntmps70
  go_wp2
  go_loopg [6, 7] ws.length (fun kq v6 v7 w' => ∃ (k : Nat) (b : Bool), k ≤ ws.length ∧ kq = ws.length - k ∧ v7 = .int .i64 k ∧ v6 = .bool b ∧ Aside ((ws.take k).any (fun x => decide (0 < x)) = b) ∧ w = w')
  case atStart => exact ⟨0, false, by omega, by omega, rfl, rfl, by simp [Aside], rfl⟩
  case round =>
    obtain ⟨k, b, hk, rfl, rfl, rfl, HI, rfl⟩ := hrel
    by_cases hlt : k < ws.length
    · obtain ⟨ad, rfl, hbl, hcl⟩ := HR.out.int_at hlt
      obtain ⟨x1, hx1⟩ : ∃ x, x = ws.getD k 0 := ⟨_, rfl⟩
      have hx0 : 0 ≤ x1 := by rw [hx1]; exact HN.out _ (getD_mem hlt)
      have HJ : Hid ((ws.take (k + 1)).any (fun x => decide (0 < x)) = (b || decide (0 < x1))) := by
        show _ = _; rw [any_pos_take hlt, HI.out, hx1]
      rw [← hx1] at hcl
      clear hx1 HI
      cases b
      · by_cases hp : 0 < x1
        · have HJ2 := HJ.out
          rw [decide_eq_true hp] at HJ2
          have HJ2 := Lib.hid HJ2
          go_wp2
          go_roundg (ws.length - (k + 1))
          case measure => omega
          case rel => exact ⟨k + 1, true, by omega, rfl, by go_num, rfl, HJ2.out, rfl⟩
        · have HJ2 := HJ.out
          rw [decide_eq_false hp] at HJ2
          have HJ2 := Lib.hid HJ2
          go_wp2
          go_roundg (ws.length - (k + 1))
          case measure => omega
          case rel => exact ⟨k + 1, false, by omega, rfl, by go_num, rfl, HJ2.out, rfl⟩
      · go_wp2
        go_roundg (ws.length - (k + 1))
        case measure => omega
        case rel => exact ⟨k + 1, true, by omega, rfl, by go_num, rfl, HJ.out, rfl⟩
    · obtain rfl : k = ws.length := by omega
      have hb : b = true := by rw [← HI.out, List.take_length]; exact HAN.out
      subst hb
      clear HI HAN
      go_wp2_with (first | (go_at_call 77; go_must (refine (C1.out _ (Below.refl _ _)).mono ?_); rintro e w1 ⟨v1, rfl, h1, b1⟩) | (go_at_call 58; go_must (refine (C2.out _ _ h1).mono ?_); rintro e w2 ⟨rfl, b2⟩))
      go_ret2
      exact ⟨rfl, belT b1 b2⟩

set_option maxHeartbeats 8000000 in
set_option maxRecDepth 100000 in
theorem r2_min (total : Int) (A : Option Addr) (c : Nat) (ws : List Int) (w : World) (hr : Reads w w.heap.size 1 A ws.length (ints ws)) (hx : ∀ x ∈ ws, inI x) (hsi : inI ws.sum) (hmin : (total == -9223372036854775808) = true) (h64 : ws.length ≤ 64) (hnn : ∀ x ∈ ws, 0 ≤ x) (hany : ws.any (fun x => decide (0 < x)) = true) :
    Calls Try.prog 70 #[.int .i64 total, .slice A ws.length c] w fun e w' => e = .returned (.tuple #[.slice none 0 0, .int .i64 3]) ∧ Below w.heap.size w w' := by
  have HAN := Lib.hid hany
  have HR := Lib.hid hr
  have HX := Lib.hid hx
  have HN := Lib.hid hnn
  obtain ⟨S, hS⟩ : ∃ S, S = ws.sum := ⟨_, rfl⟩
  have hss : Small 100 S := by
    have := small_sum hx (by omega) ws.length
    rw [List.take_length, ← hS] at this
    exact this
  have HSS := Lib.hid hss
  have C1 : Hid (∀ W, Below w.heap.size w W → Calls Try.prog 77 #[.slice A ws.length c] W fun e w' => ∃ v, e = .returned v ∧ Ex w' v S ∧ Below W.heap.size W w') := fun W hb => by rw [hS]; exact total_any A c ws W (reads_below HR.out hb) HX.out (by omega)
  have C2 : Hid (∀ W v, Ex W v S → Calls Try.prog 58 #[v] W fun e w' => e = .returned (.tuple #[.int .i64 S, .int .i64 0]) ∧ Below W.heap.size W w') := fun W v h => fit_in v S W h (by rw [hS]; exact hsi)
  clear hr hx hnn hS hss hany hsi
  go_enter Try.func70, Try.ntmps70
  go_wp2
  go_loopg [6, 7] ws.length (fun kq v6 v7 w' => ∃ (k : Nat) (b : Bool), k ≤ ws.length ∧ kq = ws.length - k ∧ v7 = .int .i64 k ∧ v6 = .bool b ∧ Aside ((ws.take k).any (fun x => decide (0 < x)) = b) ∧ w = w')
  case atStart => exact ⟨0, false, by omega, by omega, rfl, rfl, by simp [Aside], rfl⟩
  case round =>
    obtain ⟨k, b, hk, rfl, rfl, rfl, HI, rfl⟩ := hrel
    by_cases hlt : k < ws.length
    · obtain ⟨ad, rfl, hbl, hcl⟩ := HR.out.int_at hlt
      obtain ⟨x1, hx1⟩ : ∃ x, x = ws.getD k 0 := ⟨_, rfl⟩
      have hx0 : 0 ≤ x1 := by rw [hx1]; exact HN.out _ (getD_mem hlt)
      have HJ : Hid ((ws.take (k + 1)).any (fun x => decide (0 < x)) = (b || decide (0 < x1))) := by
        show _ = _; rw [any_pos_take hlt, HI.out, hx1]
      rw [← hx1] at hcl
      clear hx1 HI
      cases b
      · by_cases hp : 0 < x1
        · have HJ2 := HJ.out
          rw [decide_eq_true hp] at HJ2
          have HJ2 := Lib.hid HJ2
          go_wp2
          go_roundg (ws.length - (k + 1))
          case measure => omega
          case rel => exact ⟨k + 1, true, by omega, rfl, by go_num, rfl, HJ2.out, rfl⟩
        · have HJ2 := HJ.out
          rw [decide_eq_false hp] at HJ2
          have HJ2 := Lib.hid HJ2
          go_wp2
          go_roundg (ws.length - (k + 1))
          case measure => omega
          case rel => exact ⟨k + 1, false, by omega, rfl, by go_num, rfl, HJ2.out, rfl⟩
      · go_wp2
        go_roundg (ws.length - (k + 1))
        case measure => omega
        case rel => exact ⟨k + 1, true, by omega, rfl, by go_num, rfl, HJ.out, rfl⟩
    · obtain rfl : k = ws.length := by omega
      have hb : b = true := by rw [← HI.out, List.take_length]; exact HAN.out
      subst hb
      clear HI HAN
      go_wp2_with (first | (go_at_call 77; go_must (refine (C1.out _ (Below.refl _ _)).mono ?_); rintro e w1 ⟨v1, rfl, h1, b1⟩) | (go_at_call 58; go_must (refine (C2.out _ _ h1).mono ?_); rintro e w2 ⟨rfl, b2⟩))
      go_ret2
      exact ⟨rfl, belT b1 b2⟩

set_option maxHeartbeats 8000000 in
set_option maxRecDepth 100000 in
theorem r2_neg (total : Int) (A : Option Addr) (c : Nat) (ws : List Int) (w : World) (hr : Reads w w.heap.size 1 A ws.length (ints ws)) (hx : ∀ x ∈ ws, inI x) (hE : wrongE ws = 0) (hsi : inI ws.sum) (ht0 : -9223372036854775807 ≤ total) (ht1 : total < 0) (h64 : ws.length ≤ 64) (hnn : ∀ x ∈ ws, 0 ≤ x) (hany : ws.any (fun x => decide (0 < x)) = true) :
    Calls Try.prog 70 #[.int .i64 total, .slice A ws.length c] w fun e w' => ∃ v, e = .returned (.tuple #[v, .int .i64 0]) ∧ w'.ownsRow w.heap.size 2 1 v ws.length (ints ((outSize (-total) ws).map (fun x => -x))) ∧ Below w.heap.size w w' := by
  have HAN := Lib.hid hany
  have HR := Lib.hid hr
  have HX := Lib.hid hx
  have HN := Lib.hid hnn
  obtain ⟨S, hS⟩ : ∃ S, S = ws.sum := ⟨_, rfl⟩
  have hss : Small 100 S := by
    have := small_sum hx (by omega) ws.length
    rw [List.take_length, ← hS] at this
    exact this
  have HSS := Lib.hid hss
  have C1 : Hid (∀ W, Below w.heap.size w W → Calls Try.prog 77 #[.slice A ws.length c] W fun e w' => ∃ v, e = .returned v ∧ Ex w' v S ∧ Below W.heap.size W w') := fun W hb => by rw [hS]; exact total_any A c ws W (reads_below HR.out hb) HX.out (by omega)
  have C2 : Hid (∀ W v, Ex W v S → Calls Try.prog 58 #[v] W fun e w' => e = .returned (.tuple #[.int .i64 S, .int .i64 0]) ∧ Below W.heap.size W w') := fun W v h => fit_in v S W h (by rw [hS]; exact hsi)
  have hmin : (total == -9223372036854775808) = false := by rw [beq_eq_false_iff_ne]; omega
  have hof := outSize_facts (size := -total) hE (by omega)
  obtain ⟨O, hO⟩ : ∃ O, O = outSize (-total) ws := ⟨_, rfl⟩
  have C3 : Hid (∀ W, Below w.heap.size w W → Calls Try.prog 70 #[.int .i64 (-total), .slice A ws.length c] W fun e w' => ∃ v, e = .returned (.tuple #[v, .int .i64 0]) ∧ w'.ownsRow W.heap.size 2 1 v ws.length (ints O) ∧ Below W.heap.size W w') := fun W hb => by
    rw [hO]; exact r2_pos (-total) A c ws W (reads_below HR.out hb) HX.out (by unfold inI lowI topI; omega) (by omega) hE
  rw [← hO] at hof ⊢
  have HOF := Lib.hid hof
  have hn0 : 0 < ws.length := (wrongE_good hE).2.1
  clear hr hx hnn hS hss hany hsi hO hof hE
  go_enter Try.func70, Try.ntmps70
  go_wp2
  go_loopg [6, 7] ws.length (fun kq v6 v7 w' => ∃ (k : Nat) (b : Bool), k ≤ ws.length ∧ kq = ws.length - k ∧ v7 = .int .i64 k ∧ v6 = .bool b ∧ Aside ((ws.take k).any (fun x => decide (0 < x)) = b) ∧ w = w')
  case atStart => exact ⟨0, false, by omega, by omega, rfl, rfl, by simp [Aside], rfl⟩
  case round =>
    obtain ⟨k, b, hk, rfl, rfl, rfl, HI, rfl⟩ := hrel
    by_cases hlt : k < ws.length
    · obtain ⟨ad, rfl, hbl, hcl⟩ := HR.out.int_at hlt
      obtain ⟨x1, hx1⟩ : ∃ x, x = ws.getD k 0 := ⟨_, rfl⟩
      have hx0 : 0 ≤ x1 := by rw [hx1]; exact HN.out _ (getD_mem hlt)
      have HJ : Hid ((ws.take (k + 1)).any (fun x => decide (0 < x)) = (b || decide (0 < x1))) := by
        show _ = _; rw [any_pos_take hlt, HI.out, hx1]
      rw [← hx1] at hcl
      clear hx1 HI
      cases b
      · by_cases hp : 0 < x1
        · have HJ2 := HJ.out
          rw [decide_eq_true hp] at HJ2
          have HJ2 := Lib.hid HJ2
          go_wp2
          go_roundg (ws.length - (k + 1))
          case measure => omega
          case rel => exact ⟨k + 1, true, by omega, rfl, by go_num, rfl, HJ2.out, rfl⟩
        · have HJ2 := HJ.out
          rw [decide_eq_false hp] at HJ2
          have HJ2 := Lib.hid HJ2
          go_wp2
          go_roundg (ws.length - (k + 1))
          case measure => omega
          case rel => exact ⟨k + 1, false, by omega, rfl, by go_num, rfl, HJ2.out, rfl⟩
      · go_wp2
        go_roundg (ws.length - (k + 1))
        case measure => omega
        case rel => exact ⟨k + 1, true, by omega, rfl, by go_num, rfl, HJ.out, rfl⟩
    · obtain rfl : k = ws.length := by omega
      have hb : b = true := by rw [← HI.out, List.take_length]; exact HAN.out
      subst hb
      clear HI HAN
      go_wp2_with (first | (go_at_call 77; go_must (refine (C1.out _ (Below.refl _ _)).mono ?_); rintro e w1 ⟨v1, rfl, h1, b1⟩) | (go_at_call 58; go_must (refine (C2.out _ _ h1).mono ?_); rintro e w2 ⟨rfl, b2⟩) | (go_at_call 70; go_must (refine (C3.out _ (belT b1 b2)).mono ?_); rintro e w3 ⟨v3, rfl, ho3, b3⟩; obtain ⟨g, cap, rfl, hgb, hgl⟩ := ho3.form hn0))
      have hP0 : R2O w w3 g cap ws.length (negTo total O 0) := ⟨own_base (by rw [negTo_zero]; exact ho3) (belT b1 b2).size, belT (belT b1 b2) b3, by rw [negTo_length]; exact HOF.out.2.2⟩
      have HP0 := Lib.hid hP0
      clear hP0 ho3 b1 b2 b3 h1 C1 C2 C3 hgb hgl
      go_loopg [12] ws.length (fun kq v12 w' => ∃ i : Nat, i ≤ ws.length ∧ kq = ws.length - i ∧ v12 = .int .i64 i ∧ R2O w w' g cap ws.length (negTo total O i))
      case atStart => exact ⟨0, by omega, by omega, rfl, HP0.out⟩
      case round =>
        clear HP0
        obtain ⟨i, hi', rfl, rfl, hP⟩ := hrel
        by_cases hlt2 : i < ws.length
        · obtain ⟨x1, hx1⟩ : ∃ x, x = O.getD i 0 := ⟨_, rfl⟩
          have hx10 : 0 ≤ x1 := by rw [hx1]; exact getD_nonneg HOF.out.1 i
          have hx11 : x1 ≤ 9223372036854775807 := by rw [hx1]; have := getD_le_sum HOF.out.1 i; rw [HOF.out.2.1] at this; omega
          have hc1 := hP.own.cellAt i (by omega)
          rw [ints_at (by rw [hP.len]; exact hlt2), negTo_at _ _ _ (by rw [HOF.out.2.2]; exact hlt2), ← hx1] at hc1
          have fz := hP.own.frozenAt i
          have hii : (i : Int) < (ws.length : Int) := by omega
          have hi0 : (0 : Int) ≤ (i : Int) := by omega
          have HP := Lib.hid hP
          have hns := negTo_set ht1 O i
          rw [← hx1] at hns
          have HNS := Lib.hid hns
          clear hP hns hx1
          go_wp2
          have HP8 := HP.out.set_ i (-x1)
          rw [HNS.out] at HP8
          go_roundg (ws.length - (i + 1))
          case measure => omega
          case rel => exact ⟨i + 1, by omega, rfl, by go_num, HP8⟩
        · obtain rfl : i = ws.length := by omega
          have hown := hP.own
          rw [← HOF.out.2.2, negTo_all ht1, HOF.out.2.2] at hown
          have HOW := Lib.hid hown
          have HB := Lib.hid hP.bel
          clear hP hown
          go_wp2
          go_ret2
          exact ⟨_, rfl, HOW.out, HB.out⟩

/-- Out, as the program's. -/
theorem r2_any (total : Int) (A : Option Addr) (c : Nat) (ws : List Int) (w : World) (hr : Reads w w.heap.size 1 A ws.length (ints ws)) (hl : ws.length ≤ 1000000) (hx : ∀ x ∈ ws, inI x) (ht : inI total) :
    Calls Try.prog 70 #[.int .i64 total, .slice A ws.length c] w fun e w' => ∃ v, e = .returned (.tuple #[v, .int .i64 (outE total ws)]) ∧ w'.ownsRow w.heap.size 2 1 v (outL total ws).length (ints (outL total ws)) ∧ Below w.heap.size w w' := by
  by_cases h64 : 64 < ws.length
  · have e1 : wrongE ws = 4 := by rw [wrongE, if_pos h64]
    have e2 : outE total ws = 4 := by rw [outE, e1, if_pos (by omega)]
    rw [outL_bad (by rw [e2]; omega), e2]
    exact (r2_many total A c ws w h64 hl).mono fun e w' ⟨h1, h2⟩ => ⟨_, h1, World.ownsRow_nil _ _ _ _, by rw [← h2]; exact Below.refl _ _⟩
  · by_cases hE : ((ws.any fun x => decide (x < 0)) || !(ws.any fun x => decide (0 < x))) = true
    · have e1 : wrongE ws = 1 := by rw [wrongE, if_neg h64, if_pos hE]
      have e2 : outE total ws = 1 := by rw [outE, e1, if_pos (by omega)]
      rw [outL_bad (by rw [e2]; omega), e2]
      exact (r2_arg total A c ws w hr (by omega) hE).mono fun e w' ⟨h1, h2⟩ => ⟨_, h1, World.ownsRow_nil _ _ _ _, by rw [← h2]; exact Below.refl _ _⟩
    · have e0 : wrongE ws = fitE ws.sum := by rw [wrongE, if_neg h64, if_neg hE]
      have hE' := hE
      simp only [Bool.or_eq_true, Bool.not_eq_true', not_or, List.any_eq_true, decide_eq_true_eq, Bool.not_eq_false] at hE'
      have hnn : ∀ x ∈ ws, 0 ≤ x := fun x hx => Int.not_lt.1 (fun hlt => hE'.1 ⟨x, hx, hlt⟩)
      have hany : ws.any (fun x => decide (0 < x)) = true := by
        have := hE'.2
        rw [List.any_eq_true]
        simpa using this
      by_cases hsi : inI ws.sum
      · have e1 : wrongE ws = 0 := by rw [e0, fitE_in hsi]
        by_cases hmin : total = lowI
        · have e2 : outE total ws = 3 := by rw [outE, if_neg (by omega), if_pos hmin]
          rw [outL_bad (by rw [e2]; omega), e2]
          exact (r2_min total A c ws w hr hx hsi (by rw [hmin]; rfl) (by omega) hnn hany).mono fun e w' ⟨h1, h2⟩ => ⟨_, h1, World.ownsRow_nil _ _ _ _, h2⟩
        · have e2 : outE total ws = 0 := by rw [outE, if_neg (by omega), if_neg hmin]
          have hlen := (outL_facts ht e2).2.1
          rw [e2, hlen, outL, e2, if_neg (by omega)]
          by_cases hs : total < 0
          · rw [if_pos hs]
            exact r2_neg total A c ws w hr hx e1 hsi (by unfold inI lowI topI at ht; unfold lowI at hmin; omega) hs (by omega) hnn hany
          · rw [if_neg hs]
            exact r2_pos total A c ws w hr hx ht (by omega) e1
      · have e1 : wrongE ws = 3 := by rw [e0, fitE_out hsi]
        have e2 : outE total ws = 3 := by rw [outE, e1, if_pos (by omega)]
        rw [outL_bad (by rw [e2]; omega), e2]
        exact (r2_sum total A c ws w hr hx hsi (by omega) hnn hany).mono fun e w' ⟨h1, h2⟩ => ⟨_, h1, World.ownsRow_nil _ _ _ _, h2⟩
end Go.Proofs.Ytophfbnajelknaa

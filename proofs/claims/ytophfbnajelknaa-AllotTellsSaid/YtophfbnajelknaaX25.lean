import Derived.Test.YtophfbnajelknaaX24
/- Reference R13: Some. -/
namespace Go.Proofs.Ytophfbnajelknaa
open Go.RowKit
attribute [local go_sem ↓] Go.wp_at_zero Go.wp_at_succ

theorem R2O.drew {w w' : World} {g cap n : Nat} {out : List Int} (h : R2O w w' g cap n out) : R2O w w'.drew g cap n out := ⟨h.own, h.bel.drew, h.len⟩
set_option maxHeartbeats 16000000 in
set_option maxRecDepth 100000 in
theorem rsome_good (price : Int) (A : Option Addr) (c : Nat) (alone : List Int) (A' : Option Addr) (c' : Nat) (whose : List Int) (w : World) (ha : Reads w w.heap.size 1 A alone.length (ints alone)) (hl : alone.length ≤ 1000)
    (hw : Reads w w.heap.size 1 A' whose.length (ints whose)) (hl' : whose.length ≤ 1000) (hax : ∀ x ∈ alone, inI x) (hpi : inI price) (hp : 0 ≤ price) (hnn : ∀ x ∈ alone, 0 ≤ x) (hok : okFrom (-1) alone.length whose = true) (h0 : 0 < whose.length)
    (S E : Int) (L : List Int) (hS : S = othersSum alone whose) (hE3 : leE price S ≠ 0 → E = 3 ∧ L = []) (hE1 : leE price S = 0 → price - S < 0 → E = 1 ∧ L = []) (hEO : leE price S = 0 → 0 ≤ price - S → outE (price - S) (ofL alone whose) ≠ 0 → E = outE (price - S) (ofL alone whose) ∧ L = [])
    (hEG : leE price S = 0 → 0 ≤ price - S → outE (price - S) (ofL alone whose) = 0 → E = 0 ∧ L = putTo alone whose (outL (price - S) (ofL alone whose)) whose.length) :
    Calls Try.prog 39 #[.int .i64 price, .slice A alone.length c, .slice A' whose.length c'] w fun e w' => ∃ v, e = .returned (.tuple #[v, .int .i64 E]) ∧ w'.ownsRow w.heap.size 2 1 v L.length (ints L) ∧ Below w.heap.size w w' := by
  obtain ⟨i0, hi, hz0, hz1, hz2⟩ := info_parts Try.info2
  have HA := Lib.hid ha
  have HW := Lib.hid hw
  have HX := Lib.hid hax
  have HNN := Lib.hid hnn
  have HOK := Lib.hid hok
  have HS := Lib.hid hS
  have HE3 := Lib.hid hE3
  have HE1 := Lib.hid hE1
  have HEO := Lib.hid hEO
  have HEG := Lib.hid hEG
  have HPI := Lib.hid hpi
  have hpd : decide (price < 0) = false := decide_eq_false (by omega)
  have h0' : ((whose.length : Int) == 0) = false := by rw [beq_eq_false_iff_ne]; omega
  clear ha hw hax hnn hok hS hE3 hE1 hEO hEG hpi
  go_enter Try.func39, Try.ntmps39
  go_wp2
  go_loopg [8] alone.length (fun kq v8 w' => ∃ k : Nat, k ≤ alone.length ∧ kq = alone.length - k ∧ v8 = .int .i64 k ∧ w = w')
  case atStart => exact ⟨0, by omega, by omega, rfl, rfl⟩
  case round =>
    obtain ⟨k, hk, rfl, rfl, rfl⟩ := hrel
    by_cases hlt : k < alone.length
    · obtain ⟨ad, rfl, hbl, hcl⟩ := HA.out.int_at hlt
      obtain ⟨x1, hx1⟩ : ∃ x, x = alone.getD k 0 := ⟨_, rfl⟩
      have hx0 : 0 ≤ x1 := by rw [hx1]; exact HNN.out _ (getD_mem hlt)
      rw [← hx1] at hcl
      clear hx1
      go_wp2
      go_roundg (alone.length - (k + 1))
      case measure => omega
      case rel => exact ⟨k + 1, by omega, rfl, by go_num, rfl⟩
    · obtain rfl : k = alone.length := by omega
      go_wp2
      go_loopg [9] whose.length (fun kq v9 w' => ∃ k : Nat, k ≤ whose.length ∧ kq = whose.length - k ∧ v9 = .int .i64 k ∧ ∃ m, w' = w.drewN m)
      case atStart => exact ⟨0, by omega, by omega, rfl, 0, rfl⟩
      case round =>
        obtain ⟨k, hk', rfl, rfl, m, rfl⟩ := hrel
        by_cases hlt : k < whose.length
        · obtain ⟨ad, rfl, hbl, hcl⟩ := HW.out.int_at hlt
          obtain ⟨a, ha⟩ : ∃ x, x = whose.getD k 0 := ⟨_, rfl⟩
          have hab := okFrom_mem HOK.out _ (getD_mem hlt)
          have hk0 : (0 : Int) ≤ (k : Int) := by omega
          have hk1 : (k : Int) < (whose.length : Int) := by omega
          rw [← ha] at hcl hab
          have d1 : decide (a < 0) = false := decide_eq_false (by omega)
          have d2 : decide (a ≥ (alone.length : Int)) = false := decide_eq_false (by omega)
          by_cases hk00 : k = 0
          · have d3 : decide (0 < k) = false := decide_eq_false (by omega)
            clear ha hk00 hab
            go_wp2
            go_quiet (fail)
            go_wp2
            go_roundg (whose.length - (k + 1))
            case measure => omega
            case rel => exact ⟨k + 1, by omega, rfl, by go_num, _, rfl⟩
          · obtain ⟨p, hp'⟩ : ∃ p, k = p + 1 := ⟨k - 1, by omega⟩
            obtain ⟨_, had, hbl', hcl'⟩ := HW.out.int_at (show p < whose.length by omega)
            cases had
            obtain ⟨b, hb⟩ : ∃ x, x = whose.getD p 0 := ⟨_, rfl⟩
            rw [← hb] at hcl'
            have d3 : decide (0 < k) = true := decide_eq_true (by omega)
            have p0 : (0 : Int) ≤ (p : Int) := by omega
            have p1 : (p : Int) < (whose.length : Int) := by omega
            have pw : IntKind.i64.wrap ((k : Int) - 1) = (p : Int) := by rw [IntKind.wrap_i64]; omega
            have d4 : decide (a ≤ b) = false := by
              rw [decide_eq_false_iff_not, ha, hb]
              have := ok_lt HOK.out p k (by omega) hlt
              omega
            clear ha hb hp' hk00 hab
            go_wp2
            go_quiet (fail)
            clear pw
            go_wp2
            go_roundg (whose.length - (k + 1))
            case measure => omega
            case rel => exact ⟨k + 1, by omega, rfl, by go_num, _, rfl⟩
        · obtain rfl : k = whose.length := by omega
          have HA0 := HA
          have HW1 := HW
          have HB0 : Below w.heap.size w (w.drewN m) := below_drewN (Below.refl _ _)
          have hsz : w.heap.size = (w.drewN m).heap.size := rfl
          generalize w.drewN m = W at HB0 hsz ⊢
          go_wp2
          have hW0 : R2W w ((W.alloc (.cells #[.int .i64 0, .slice none 0 0] 102)).alloc (.cells #[] 2)) (.slice (some ⟨W.heap.size + 1, 0, none⟩) 0 0) (ofL alone (whose.take 0)) W.heap.size 0 0 none 0 [] :=
            ⟨own_base (by have := own_new (W := W.alloc (.cells #[.int .i64 0, .slice none 0 0] 102)) (e := 2) (size := 1) #[] 0 (by simp) (by unfold maxLen; omega); simpa [ofL, ints] using this) (by have := HB0.size; simp; omega),
             ⟨(Blk.new _ _ _).alloc _, RI.nil _ _, Num.zero⟩, (HB0.alloc HB0.size _).alloc (by have := HB0.size; simp; omega) _, HB0.size⟩
          have HW0 := Lib.hid hW0
          have hGG := HB0.size
          clear hW0 HB0 hsz
          generalize W.heap.size = G at HW0 hGG ⊢
          go_loopg [11, 12, 13] alone.length (fun kq v11 v12 v13 w' => ∃ (i k : Nat) (z s : Int) (A1 : Option Addr) (c1 : Nat) (ds : List Int) (vo : Value), i ≤ alone.length ∧ kq = alone.length - i ∧ v13 = .int .i64 i ∧ v12 = .int .i64 k ∧ vo = v11 ∧ Aside (MergeI whose i k ∧ z = otherTo alone whose i) ∧ k ≤ whose.length ∧ R2W w w' vo (ofL alone (whose.take k)) G z s A1 c1 ds)
          case atStart => exact ⟨0, 0, 0, 0, none, 0, [], _, by omega, by omega, rfl, rfl, rfl, ⟨MergeI.start (Int.le_refl _) HOK.out, rfl⟩, by omega, HW0.out⟩
          case round =>
            clear HW0
            obtain ⟨i, k, z, s, A1, c1, ds, vo, hi', rfl, rfl, rfl, rfl, HI, hk2, hP⟩ := hrel
            by_cases hlt : i < alone.length
            · obtain ⟨ad, rfl, hbl, hcl⟩ := (reads_below HA0.out hP.bel).int_at hlt
              obtain ⟨x1, hx1⟩ : ∃ x, x = alone.getD i 0 := ⟨_, rfl⟩
              have hxi : inI x1 := by rw [hx1]; exact HX.out _ (getD_mem hlt)
              rw [← hx1] at hcl
              have hzb := otherTo_small (whose := whose) HX.out HNN.out hl i (by omega)
              rw [← HI.out.2] at hzb
              have hzs : Small 100 z := by
                have : Small 9 z := by unfold Small; omega
                exact this.mono (by omega)
              have CO : Hid (∀ W, Calls Try.prog 61 #[.int .i64 x1] W fun e w' => ∃ v, e = .returned v ∧ Ex w' v x1 ∧ Below W.heap.size W w') := fun W => of_any x1 W hxi
              have CP : Hid (∀ W v u, Ex W v z → Ex W u x1 → Calls Try.prog 63 #[v, u] W fun e w' => ∃ v, e = .returned v ∧ Ex w' v (z + x1) ∧ Below W.heap.size W w') := fun W v u h1 h2 => plus_any v u z x1 W h1 h2 hzs (small_in hxi)
              have HX1 := Lib.hid hx1
              have hi0 : (0 : Int) ≤ (i : Int) := by omega
              have hi1 : (i : Int) < (alone.length : Int) := by omega
              clear hxi hzb hzs hx1
              by_cases hkl : k < whose.length
              · obtain ⟨bd, hbd, hbl2, hcl2⟩ := (reads_below HW1.out hP.bel).int_at hkl
                obtain ⟨a, hda⟩ : ∃ x, x = whose.getD k 0 := ⟨_, rfl⟩
                rw [← hda] at hcl2
                by_cases hai : a = i
                · have hhit := HI.out.1.hit HOK.out hkl (by rw [← hda]; exact hai)
                  have hz := otherTo_no (other_no (n := alone.length) hhit.2)
                  rw [← HI.out.2] at hz
                  have HM : Hid (MergeI whose (i + 1) (k + 1) ∧ z = otherTo alone whose (i + 1)) := ⟨hhit.1, hz.symm⟩
                  have hof := ofL_take alone whose k hkl
                  rw [← hda, hai, Int.toNat_natCast, ← HX1.out] at hof
                  have HOF := Lib.hid hof
                  rw [hai] at hcl2
                  have hlen : (ofL alone (whose.take k)).length = k := by rw [ofL, List.length_map, List.length_take]; omega
                  have HLEN := Lib.hid hlen
                  have HP := Lib.hid hP
                  have hsz := hP.bel.size
                  have hkk : (k : Int) < (whose.length : Int) := by omega
                  subst hbd
                  clear hhit hz hof hai hda hlen hP
                  go_wp2_with (at_builtin; go_must (refine wpl_append1 rfl _ _ 55 rfl w.heap.size 2 i0 (.int .i64 0) 1 8 Try.underlying55 hi hz0 hz1 hz2 rfl (by decide) _ _ _ (by rfl) HP.out.own #[.int .i64 x1] (by rfl) (by rfl) (by simp [Value.oneCell']) (by rw [HLEN.out]; unfold maxLen; omega) (by rw [HLEN.out]; omega) hsz ?_); intro g' cap' w4 hown4 hg4 hgg)
                  have HP4 : R2W w w4 _ (ofL alone (whose.take (k + 1))) G z s A1 c1 ds := HP.out.grown hg4 (out1 := ofL alone (whose.take (k + 1))) (by rw [HOF.out, List.length_append, ints_append]; exact hown4)
                  go_roundg (alone.length - (i + 1))
                  case measure => omega
                  case rel => exact ⟨i + 1, k + 1, _, _, _, _, _, _, by omega, rfl, by go_num, by go_num, rfl, ⟨HM.out.1, HM.out.2⟩, by omega, HP4⟩
                · have hmiss := HI.out.1.miss HOK.out (fun _ => by rw [← hda]; exact hai)
                  have hz := otherTo_yes (other_yes (n := alone.length) hlt hmiss.2)
                  rw [← HI.out.2, ← HX1.out] at hz
                  have HM : Hid (MergeI whose (i + 1) k ∧ z + x1 = otherTo alone whose (i + 1)) := ⟨hmiss.1, hz.symm⟩
                  have hab : (a == (i : Int)) = false := by rw [beq_eq_false_iff_ne]; exact hai
                  have hkk : (k : Int) < (whose.length : Int) := by omega
                  subst hbd
                  clear hmiss hz hda hai
                  have HP := Lib.hid hP
                  have k0 := hP.hl.b.cells2.1
                  have k1 := hP.hl.b.cells2.2
                  clear hP
                  go_wp2
                  go_region_with (first | (go_at_call 61; go_must (refine (CO.out _).mono ?_); rintro e w5 ⟨v5, rfl, h5, b5⟩; have HP5 := HP.out.drew.below b5; have l0 := HP5.hl.b.cells2.1; have l1 := HP5.hl.b.cells2.2) | (go_at_call 63; go_must (refine (CP.out _ _ _ HP5.hl.ex h5).mono ?_); rintro e w6 ⟨v6, rfl, ⟨s6, A6, c6, ds6, rfl, R6, N6⟩, b6⟩; have HP6 := HP5.below b6; have m0 := HP6.hl.b.cells2.1; have m1 := HP6.hl.b.cells2.2; have f0 := HP6.hl.b.frozen 0; have f1 := HP6.hl.b.frozen 1))
                  all_goals
                    go_wp2
                    have HP7 := HP6.set_ (c' := c6) R6 N6
                    go_roundg (alone.length - (i + 1))
                    case measure => omega
                    case rel => exact ⟨i + 1, k, _, _, _, _, _, _, by omega, rfl, by go_num, rfl, rfl, ⟨HM.out.1, HM.out.2⟩, hk2, HP7⟩
              · have hmiss := HI.out.1.miss HOK.out (fun h => absurd h hkl)
                have hz := otherTo_yes (other_yes (n := alone.length) hlt hmiss.2)
                rw [← HI.out.2, ← HX1.out] at hz
                have HM : Hid (MergeI whose (i + 1) k ∧ z + x1 = otherTo alone whose (i + 1)) := ⟨hmiss.1, hz.symm⟩
                clear hmiss hz
                have HP := Lib.hid hP
                have k0 := hP.hl.b.cells2.1
                have k1 := hP.hl.b.cells2.2
                clear hP
                go_wp2
                go_region_with (first | (go_at_call 61; go_must (refine (CO.out _).mono ?_); rintro e w5 ⟨v5, rfl, h5, b5⟩; have HP5 := HP.out.drew.below b5; have l0 := HP5.hl.b.cells2.1; have l1 := HP5.hl.b.cells2.2) | (go_at_call 63; go_must (refine (CP.out _ _ _ HP5.hl.ex h5).mono ?_); rintro e w6 ⟨v6, rfl, ⟨s6, A6, c6, ds6, rfl, R6, N6⟩, b6⟩; have HP6 := HP5.below b6; have m0 := HP6.hl.b.cells2.1; have m1 := HP6.hl.b.cells2.2; have f0 := HP6.hl.b.frozen 0; have f1 := HP6.hl.b.frozen 1))
                all_goals
                  go_wp2
                  have HP7 := HP6.set_ (c' := c6) R6 N6
                  go_roundg (alone.length - (i + 1))
                  case measure => omega
                  case rel => exact ⟨i + 1, k, _, _, _, _, _, _, by omega, rfl, by go_num, rfl, rfl, ⟨HM.out.1, HM.out.2⟩, hk2, HP7⟩
            · obtain rfl : i = alone.length := by omega
              obtain rfl : k = whose.length := HI.out.1.all HOK.out
              have hzS : z = S := by rw [HI.out.2, HS.out]; rfl
              have hzb := otherTo_small (whose := whose) HX.out HNN.out hl alone.length (Nat.le_refl _)
              rw [← HI.out.2, hzS] at hzb
              have hS20 : Small 20 S := by
                have : Small 9 S := by unfold Small; omega
                exact this.mono (by omega)
              rw [List.take_length, hzS] at hP
              obtain ⟨d, hd⟩ : ∃ d, d = price - S := ⟨_, rfl⟩
              have hds := small_diff ((small_of_in HPI.out).mono (show 7 ≤ 20 by omega)) hS20
              rw [← hd] at hds
              obtain ⟨V1, hV1⟩ : ∃ V, V = fitV S := ⟨_, rfl⟩
              obtain ⟨E1, hE1⟩ : ∃ V, V = fitE S := ⟨_, rfl⟩
              obtain ⟨V2, hV2⟩ : ∃ V, V = fitV d := ⟨_, rfl⟩
              obtain ⟨E2, hE2⟩ : ∃ V, V = fitE d := ⟨_, rfl⟩
              have D1 : Hid (∀ W v, Ex W v S → Calls Try.prog 58 #[v] W fun e w' => e = .returned (.tuple #[.int .i64 V1, .int .i64 E1]) ∧ Below W.heap.size W w') := fun W v h1 => by rw [hV1, hE1]; exact fit_any v S W h1 (hS20.mono (by omega))
              have D2 : Hid (∀ W, Calls Try.prog 61 #[.int .i64 price] W fun e w' => ∃ v, e = .returned v ∧ Ex w' v price ∧ Below W.heap.size W w') := fun W => of_any price W HPI.out
              have D3 : Hid (∀ W v u, Ex W v price → Ex W u S → Calls Try.prog 76 #[v, u] W fun e w' => ∃ v, e = .returned v ∧ Ex w' v d ∧ Below W.heap.size W w') := fun W v u h1 h2 => by rw [hd]; exact less2_any v u price S W h1 h2 (small_in HPI.out) (hS20.mono (by omega))
              have D4 : Hid (∀ W v, Ex W v d → Calls Try.prog 58 #[v] W fun e w' => e = .returned (.tuple #[.int .i64 V2, .int .i64 E2]) ∧ Below W.heap.size W w') := fun W v h1 => by rw [hV2, hE2]; exact fit_any v d W h1 hds
              have HV1 := Lib.hid hV1
              have HE1' := Lib.hid hE1
              have HV2 := Lib.hid hV2
              have HE2' := Lib.hid hE2
              have HD := Lib.hid hd
              have HP := Lib.hid hP
              have k0 := hP.hl.b.cells2.1
              have k1 := hP.hl.b.cells2.2
              clear hV1 hE1 hV2 hE2 hd hP HI hzS hzb hS20 hds
              go_upto_region 24 with (go_at_call 58; go_must (refine (D1.out _ _ HP.out.hl.ex).mono ?_); rintro r w3 ⟨rfl, b3⟩)
              have HP3 := Lib.hid (HP.out.below b3)
              clear HP b3 k0 k1
              have k0 := HP3.out.hl.b.cells2.1
              have k1 := HP3.out.hl.b.cells2.2
              go_region_held3 (fun w' => w'.cell? ⟨G, 0, none⟩ = some (.int .i64 s) ∧ w'.cell? ⟨G, 1, none⟩ = some (.slice A1 ds.length c1)) (first | go_keep | exact HP6.hl.b.cells2 | exact HP5.hl.b.cells2 | exact HP4.hl.b.cells2) (first | (go_at_call 58; go_must (refine (D4.out _ _ e2).mono ?_); rintro r w6 ⟨rfl, b6⟩; have HP6 := HP5.below b6) | (go_at_call 76; go_must (refine (D3.out _ _ _ e1 HP4.hl.ex).mono ?_); rintro r w5 ⟨v5, rfl, e2, b5⟩; have HP5 := HP4.below b5) | (go_at_call 61; go_must (refine (D2.out _).mono ?_); rintro r w4 ⟨v4, rfl, e1, b4⟩; have HP4 := HP3.out.drew.below b4))
              have HP7 := Lib.hid HP6
              clear HP6 HP5 HP4 HP3 b4 b5 b6 e1 e2 k0 k1
              by_cases hSi : inI S
              · have hle : leE price S = E2 := by rw [HE2'.out, HD.out]; exact if_pos hSi
                have he1 : (E1 != 0) = false := by rw [HE1'.out, fitE_in hSi]; rfl
                by_cases hdi : inI d
                · have he2z : E2 = 0 := by rw [HE2'.out, fitE_in hdi]
                  have he2 : (E2 != 0) = false := by rw [he2z]; rfl
                  have hv2 : V2 = d := by rw [HV2.out, fitV_in hdi]
                  rw [he2z] at hle
                  by_cases hdn : d < 0
                  · have hres := HE1.out hle (by rw [← HD.out]; exact hdn)
                    have HRES := Lib.hid hres
                    have hd1 : decide (V2 < 0) = true := by rw [hv2]; exact decide_eq_true hdn
                    clear hres hle hSi hdi hdn he2z hv2
                    go_wp2
                    go_ret2
                    exact ⟨_, by rw [HRES.out.1]; rfl, by rw [HRES.out.2]; exact World.ownsRow_nil _ _ _ _, HP7.out.bel⟩
                  · have hd1 : decide (V2 < 0) = false := by rw [hv2]; exact decide_eq_false hdn
                    obtain ⟨ws, hws⟩ : ∃ ws, ws = ofL alone whose := ⟨_, rfl⟩
                    have hwl : ws.length = whose.length := by rw [hws, ofL, List.length_map]
                    have hwx : ∀ x ∈ ws, inI x := by
                      rw [hws]
                      intro x hx
                      obtain ⟨a, ha, rfl⟩ := List.mem_map.1 hx
                      have := okFrom_mem HOK.out a ha
                      exact HX.out _ (getD_mem (by omega))
                    rw [← hws] at HP7 HEO HEG
                    rw [← HD.out] at HEO HEG
                    obtain ⟨v0, hv0⟩ : ∃ v, v = vo := ⟨vo, rfl⟩
                    obtain ⟨A2, c2, hvo, _, _⟩ := own_ints HP7.out.own
                    have HRW := Lib.hid (show Reads w6 w6.heap.size 1 A2 ws.length (ints ws) from Reads.of_own (by have := HP7.out.own; rw [hvo] at this; exact this))
                    have HO : Hid (∀ W, Below w6.heap.size w6 W → Calls Try.prog 70 #[.int .i64 V2, .slice A2 ws.length c2] W fun e w' => ∃ v, e = .returned (.tuple #[v, .int .i64 (outE d ws)]) ∧ w'.ownsRow W.heap.size 2 1 v (outL d ws).length (ints (outL d ws)) ∧ Below W.heap.size W w') := fun W hb => by
                      rw [hv2]; exact r2_any d A2 c2 ws W (reads_below HRW.out hb) (by omega) hwx hdi
                    have HB6 := Lib.hid HP7.out.bel
                    rw [hvo]
                    have hdn' : 0 ≤ d := by omega
                    by_cases hOE : outE d ws = 0
                    · have hres := HEG.out hle hdn' hOE
                      obtain ⟨f1, f2, f3, f4⟩ := outL_facts hdi hOE
                      obtain ⟨L0, hL0⟩ : ∃ L0, L0 = outL d ws := ⟨_, rfl⟩
                      rw [← hL0] at f2 f4 hres HO
                      rw [hOE] at HO
                      have HRES := Lib.hid hres
                      have HF2 := Lib.hid (f2.trans hwl)
                      have HF4 := Lib.hid f4
                      have hal : 0 < alone.length := by
                        have := okFrom_mem HOK.out _ (getD_mem h0)
                        omega
                      clear hres hle hSi hdi hdn he2z hv2 f1 f2 f3 f4 hOE hdn' hws hwl hwx hv0 hvo hL0 HEG HEO HE1 HE3 D1 D2 D3 D4
                      go_wp2_with (first | (go_at_call 70; go_must (refine (HO.out _ (Below.refl _ _)).mono ?_); rintro r w7 ⟨v7, rfl, ho7, b7⟩; obtain ⟨A3, c3, rfl, _, _⟩ := own_ints ho7; have R3 := Reads.of_own ho7; have B7 := belT HB6.out b7) | (at_builtin; go_must (refine wpl_append_src rfl _ _ 55 rfl w7.heap.size 2 i0 (.int .i64 0) 1 8 Try.underlying55 hi hz0 hz1 hz2 rfl (by decide) (.slice (some ⟨w7.heap.size, 0, none⟩) 0 0) 0 [] (by rfl) (own_new #[] 0 rfl (by decide)) (w7.alloc (.cells #[] 2)).heap.size A alone.length c (ints alone) (by rfl) (reads_alloc (reads_below HA0.out B7) _) (ints_oneCell .i64 alone) (by omega) (by unfold maxLen; omega) (by omega) (by simp) ?_); intro g cap w8 hown8 hg8 hl8))
                      rw [Nat.zero_add, List.nil_append] at hown8
                      have hb8 : Below w7.heap.size w7 w8 := ((Below.refl w7.heap.size w7).alloc (Nat.le_refl _) (.cells #[] 2)).grown hg8 (by simp) (fun j hj => by simp [Value.ownBlock] at hj; omega)
                      have hgg : w7.heap.size ≤ g := own_ge hown8 (j := g) rfl
                      have H8 : R2O w w8 g cap alone.length (putTo alone whose L0 0) := ⟨own_base hown8 B7.size, belT B7 hb8, rfl⟩
                      have H8 := Lib.hid H8
                      have R3 := Lib.hid R3
                      have hb8 := Lib.hid hb8
                      clear hown8 hg8 hl8 ho7 b7 B7 HO HRW HB6
                      go_loopg [21] whose.length (fun kq v21 w' => ∃ i : Nat, i ≤ whose.length ∧ kq = whose.length - i ∧ v21 = .int .i64 i ∧ R2O w w' g cap alone.length (putTo alone whose L0 i) ∧ Below w7.heap.size w7 w')
                      case atStart => exact ⟨0, by omega, by omega, rfl, H8.out, hb8.out⟩
                      case round =>
                        clear H8 hb8
                        obtain ⟨i, hi2, rfl, rfl, hQ, hbq⟩ := hrel
                        by_cases hlt2 : i < whose.length
                        · obtain ⟨bd, hbd, hbl2, hcl2⟩ := (reads_below HW1.out hQ.bel).int_at hlt2
                          obtain ⟨ld, hld, hbl3, hcl3⟩ := (reads_below R3.out hbq).int_at (show i < L0.length by rw [HF2.out]; exact hlt2)
                          have hm := okFrom_mem HOK.out _ (getD_mem hlt2)
                          obtain ⟨p, hp2⟩ : ∃ p : Nat, whose.getD i 0 = (p : Int) := ⟨(whose.getD i 0).toNat, by omega⟩
                          rw [hp2] at hcl2 hm
                          obtain ⟨y1, hy1⟩ : ∃ y, y = L0.getD i 0 := ⟨_, rfl⟩
                          rw [← hy1] at hcl3
                          have hpa : p < alone.length := by omega
                          have hc1 := hQ.own.cellAt p (by omega)
                          rw [ints_at (by rw [hQ.len]; exact hpa)] at hc1
                          have fz := hQ.own.frozenAt p
                          have hput : putTo alone whose L0 (i + 1) = (putTo alone whose L0 i).set p y1 := by rw [putTo, hp2, Int.toNat_natCast, ← hy1]
                          have HPUT := Lib.hid hput
                          have hi0 : (0 : Int) ≤ (i : Int) := by omega
                          have hi1 : (i : Int) < (whose.length : Int) := by omega
                          have hi3 : (i : Int) < (L0.length : Int) := by rw [HF2.out]; exact hi1
                          have hp0 : (0 : Int) ≤ (p : Int) := by omega
                          have hp1 : (p : Int) < (alone.length : Int) := by omega
                          have HQ := Lib.hid hQ
                          have HBQ := Lib.hid hbq
                          subst hbd
                          subst hld
                          clear hp2 hm hy1 hput hQ hbq
                          go_wp2
                          go_region
                          all_goals
                            go_wp2
                            have HQ2 := HQ.out.drew.set_ p y1
                            rw [← HPUT.out] at HQ2
                            go_roundg (whose.length - (i + 1))
                            case measure => omega
                            case rel => exact ⟨i + 1, by omega, rfl, by go_num, HQ2, HBQ.out.drew.setCell (p := ⟨g, p, none⟩) hgg _⟩
                        · obtain rfl : i = whose.length := by omega
                          have hQQ := Lib.hid hQ
                          clear hQ hbq
                          go_wp2
                          go_ret2
                          refine ⟨_, by rw [HRES.out.1]; rfl, ?_, hQQ.out.bel⟩
                          rw [HRES.out.2, putTo_length]
                          exact hQQ.out.own
                    · have hres := HEO.out hle hdn' hOE
                      have HRES := Lib.hid hres
                      obtain ⟨OE, hOE2⟩ : ∃ O, O = outE d ws := ⟨_, rfl⟩
                      rw [← hOE2] at hOE HO HRES
                      have hoe : (OE != 0) = true := by simpa using hOE
                      clear hres hle hSi hdi hdn he2z hv2 hOE hOE2 hdn' hws hwl hwx hv0 hvo
                      go_wp2_with (go_at_call 70; go_must (refine (HO.out _ (Below.refl _ _)).mono ?_); rintro r w7 ⟨v7, rfl, ho7, b7⟩)
                      go_ret2
                      exact ⟨_, by rw [HRES.out.1]; rfl, by rw [HRES.out.2]; exact World.ownsRow_nil _ _ _ _, belT HB6.out b7⟩
                · have he2z : E2 = 3 := by rw [HE2'.out, fitE_out hdi]
                  have he2 : (E2 != 0) = true := by rw [he2z]; rfl
                  have hres := HE3.out (by rw [hle, he2z]; omega)
                  have HRES := Lib.hid hres
                  clear hres hle hSi hdi he2z
                  go_wp2
                  go_ret2
                  exact ⟨_, by rw [HRES.out.1]; rfl, by rw [HRES.out.2]; exact World.ownsRow_nil _ _ _ _, HP7.out.bel⟩
              · have he1 : (E1 != 0) = true := by rw [HE1'.out, fitE_out hSi]; rfl
                have hres := HE3.out (by rw [leE, if_neg hSi]; omega)
                have HRES := Lib.hid hres
                clear hres hSi
                go_wp2
                go_ret2
                exact ⟨_, by rw [HRES.out.1]; rfl, by rw [HRES.out.2]; exact World.ownsRow_nil _ _ _ _, HP7.out.bel⟩
end Go.Proofs.Ytophfbnajelknaa

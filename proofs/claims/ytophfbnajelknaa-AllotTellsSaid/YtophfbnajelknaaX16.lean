import Derived.Test.YtophfbnajelknaaX15
/- Reference R01: Over, of amounts not below 0. -/
namespace Go.Proofs.Ytophfbnajelknaa
open Go.RowKit
attribute [local go_sem ↓] Go.wp_at_zero Go.wp_at_succ

theorem Num.valD_pos {s : Int} {ds : List Int} {z : Int} (h : Num s ds z) (hz : 0 ≤ z) : valD ds = z ∧ 0 ≤ s := by
  by_cases h0 : z = 0
  · subst h0
    have := h.zero_iff.2 rfl
    subst this
    rcases h.kind with ⟨_, e⟩ | ⟨e, _⟩
    · rw [e]; exact ⟨rfl, Int.le_refl _⟩
    · omega
  · have := (h.cases h0)
    omega

set_option maxHeartbeats 8000000 in
set_option maxRecDepth 100000 in
theorem over_pos (v u : Value) (x y : Int) (w : World) (h : Ex w v x) (h' : Ex w u y) (hx : 0 ≤ x) (hy : 0 < y) (hlx : Small 40 x) (hly : Small 40 y) :
    Calls Try.prog 114 #[v, u] w fun e w' => ∃ v', e = .returned v' ∧ Ex w' v' (x / y) ∧ Below w.heap.size w w' := by
  obtain ⟨s, A, c, ds, rfl, hr, hn⟩ := h
  obtain ⟨t, B, d, es, rfl, hr', hn'⟩ := h'
  have hs := (hn.valD_pos hx).2
  have HVX := Lib.hid (hn.valD_pos hx).1
  have hsd : decide (s < 0) = false := decide_eq_false (by omega)
  have L1 := Lib.hid hlx
  have L2 := Lib.hid hly
  have HA := Lib.hid hr
  have HNA := Lib.hid hn
  have hl1 := hn.size hlx
  have HP0 := Lib.hid (OvW.start w #[.int .i64 s, .slice A ds.length c] #[.int .i64 t, .slice B es.length d] (e := ⟨t, B, d, es⟩) hr' hn')
  obtain ⟨i0, hi, hz0, hz1, hz2⟩ := info_parts (show (Try.prog.info? 102).map (fun i => (i.zero, i.size, i.bytes)) = some (some (.agg #[.int .i64 0, .slice none 0 0]), 2, 32) by kernel_rfl)
  clear hr hr' hn hn' hlx hly hs
  go_enter Try.func114, Try.ntmps114
  go_wp2
  go_loopg [5] 401 (fun kq v5 w' => ∃ (m : Nat) (l : List El) (vo : Value), l.length = m + 1 ∧ kq = 401 - m ∧ m ≤ 400 ∧ vo = v5 ∧ Aside (∀ k, m = k + 1 → 2 ^ k * y ≤ x) ∧ OvW w w' #[.int .i64 s, .slice A ds.length c] #[.int .i64 t, .slice B es.length d] vo l y)
  case atStart => exact ⟨0, _, _, rfl, by omega, by omega, rfl, fun k hk => by omega, HP0.out⟩
  case round =>
    obtain ⟨m, l, vo, hl, rfl, hm, rfl, HI, hP⟩ := hrel
    clear HP0
    obtain ⟨e, he⟩ : ∃ e, l[m]? = some e := ⟨l[m], List.getElem?_eq_getElem (by omega)⟩
    obtain ⟨hre, hne⟩ := hP.dbl m e he
    obtain ⟨g, cap, rfl, hgo, hg⟩ := hP.own.form (by omega)
    have hc0 := hP.own.cells (g := g) rfl (m * 2) _ (elCells_at he).1
    have hc1 := hP.own.cells (g := g) rfl (m * 2 + 1) _ (elCells_at he).2
    rw [add_at, Nat.zero_add] at hc0 hc1
    obtain ⟨c00, c01, c10, c11⟩ := hP.bx.cells
    have hm0 : (0 : Int) ≤ (m : Int) := by omega
    rw [hl] at hP ⊢
    obtain ⟨Y, hY⟩ : ∃ Y, Y = 2 ^ m * y := ⟨_, rfl⟩
    have hY0 : 0 < Y := by rw [hY]; exact Int.mul_pos (two_pow_pos m) hy
    rw [← hY] at hne
    have hvY := (hne.valD_pos (Int.le_of_lt hY0)).1
    have HY := Lib.hid hY
    have HP := Lib.hid hP
    have HL := Lib.hid hl
    have HE := Lib.hid he
    have HRE := Lib.hid hre
    have HNE := Lib.hid hne
    have hle2 : e.ds.length ≤ 10000 ∧ Small 100 Y := by
      have hsm : Small 100 Y := by
        rcases Nat.eq_zero_or_pos m with h0 | h0
        · subst h0; rw [HY.out, Int.pow_zero, Int.one_mul]; exact L2.out.mono (by omega)
        · obtain ⟨k, rfl⟩ : ∃ k, m = k + 1 := ⟨m - 1, by omega⟩
          have h1 := HI.out k rfl
          have h2 := small_dbl L1.out (Int.le_of_lt (Int.mul_pos (two_pow_pos k) hy)) h1
          rw [HY.out, Int.pow_succ, Int.mul_comm (2 ^ k) 2, Int.mul_assoc, Int.two_mul]
          exact h2
      have := hne.size hsm
      exact ⟨by omega, hsm⟩
    obtain ⟨hle2, HSY_⟩ := hle2
    have HSY := Lib.hid HSY_
    have hLE : ∀ W, Below wr.heap.size wr W → Calls Try.prog 94 #[.slice A ds.length c, .slice e.A e.ds.length e.c] W fun r w' => r = .returned (.bool (decide (x < Y))) ∧ ∃ n, w' = W.drewN n := by
      intro W hb
      have := least_any A c ds e.A e.c e.ds W ((HA.out.below hP.bx.bel).below hb).r (HRE.out.below hb).r HNA.out.digs HNE.out.digs (by omega) hle2
      rw [HVX.out, hvY] at this
      exact this
    clear hl he hre hne hY hle2 hvY hP
    have w1' : IntKind.i64.wrap (m : Int) = m := by rw [IntKind.wrap_i64]; omega
    have hm1 : (m : Int) < (m : Int) + 1 := by omega
    have hLE' := Lib.hid hLE
    clear hLE
    by_cases hxY : x < Y
    · have HLE := hLE'.out
      rw [decide_eq_true hxY] at HLE
      have HLE := Lib.hid HLE
      clear hLE'
      go_wp2
      go_quiet ((go_at_call 94; exact Calls.quiet_of (HLE.out _ (below_drewN (Below.refl _ _)))))
      have HP := Lib.hid (HP.out.drewN nq)
      clear hc0 hc1 c00 c01 c10 c11
      generalize wr.drewN nq = wq at HP ⊢
      obtain ⟨cur, hcurb, hcur⟩ := own_block HP.out.own
      have H2 := Lib.hid (Ov2.start HP.out.bx hcurb HP.out.dbl (HA.out.below HP.out.bx.bel) HNA.out hgo)
      have HCUR := Lib.hid hcur
      have HST := Lib.hid (OvI.start (m := m) hx (by rw [← HY.out]; exact hxY) hy)
      clear hcurb hcur hgo HP HE HRE HNE HI HLE hxY hg HSY_
      go_wp2
      go_loopg [8] (m + 1) (fun kq v8 w' => ∃ (k : Nat) (i a q : Int) (ea eq : El), k = kq ∧ k ≤ m + 1 ∧ v8 = .int .i64 i ∧ i = k - 1 ∧ Aside (OvI x y k q a) ∧ Ov2 w w' g wq.heap.size cur l y a q ea eq)
      case atStart => exact ⟨m + 1, m, x, 0, _, _, rfl, Nat.le_refl _, rfl, by omega, HST.out, H2.out⟩
      case round =>
        clear H2 HST
        obtain ⟨k, i, a, q, ea, eq, rfl, hk, rfl, hi', HI, hP⟩ := hrel
        have ha0 := hP.ha.b.cells2.1
        have ha1 := hP.ha.b.cells2.2
        have hq0 := hP.hq.b.cells2.1
        have hq1 := hP.hq.b.cells2.2
        have hb0 := hP.b2.cells2.1
        have hb1 := hP.b2.cells2.2
        have fz0 := hP.b2.frozen 0
        have fz1 := hP.b2.frozen 1
        have fq0 := hP.hq.b.frozen 0
        have fq1 := hP.hq.b.frozen 1
        rcases k with _ | k
        · have hi0 : i < 0 := by omega
          have hq := HI.out.done hy
          go_wp2
          rw [← hq]
          exact ret102 rfl rfl rfl (hP.b2.set2 _ _) ⟨_, rfl, hP.hq.ex.setBlk hP.b2 (p := ⟨w.heap.size + 2, 0, none⟩) rfl rfl _ _, (hP.bel.setCell (p := ⟨w.heap.size + 2, 0, none⟩) (by simp) _).setCell (p := ⟨w.heap.size + 2, 1, none⟩) (by simp) _⟩
        · obtain rfl : i = k := by omega
          clear hi' hb0 hb1 fz0 fz1
          have hqa := HI.out.le hy
          have hq0' := HI.out.q0
          have hsq := small_le L1.out hq0' hqa.1
          have hsa := small_le L1.out HI.out.a0 hqa.2
          have HSQ := Lib.hid (hsq.mono (show 40 ≤ 100 by omega))
          have HSA := Lib.hid (hsa.mono (show 40 ≤ 100 by omega))
          have HSQ2 := Lib.hid (small_dbl L1.out hq0' hqa.1)
          have HPH := Lib.hid hP
          obtain ⟨e, he⟩ : ∃ e, l[k]? = some e := ⟨l[k]'(by have := HL.out; omega), List.getElem?_eq_getElem _⟩
          obtain ⟨hcu0, hcu1⟩ := HCUR.out k e he
          have HE := Lib.hid he
          have hsd' : 0 ≤ 2 ^ k * y := Int.le_of_lt (Int.mul_pos (two_pow_pos k) hy)
          obtain ⟨Y2, hY2⟩ : ∃ Y2, Y2 = 2 ^ k * y := ⟨_, rfl⟩
          clear hqa hq0' hsq hsa hP he
          go_upto_region 12 with (go_at_call 63; go_must (refine (plus_any _ _ q q _ HPH.out.hq.ex HPH.out.hq.ex HSQ.out HSQ.out).mono ?_); rintro r w2 ⟨v2, rfl, ⟨s', A', c', ds', rfl, R', N'⟩, hb2⟩; have HP2 := HPH.out.below hb2; have hq0_ := HP2.hq.b.cells2.1; have hq1_ := HP2.hq.b.cells2.2; have fq0_ := HP2.hq.b.frozen 0; have fq1_ := HP2.hq.b.frozen 1)
          have HP3 := HP2.setQ (c := c') R' N'
          clear HP2 hq0_ hq1_ fq0_ fq1_ hb2 HPH R' N' ha0 ha1 hq0 hq1 fq0 fq1
          generalize (w2.setCell ⟨wq.heap.size, 0, none⟩ (.int .i64 s')).setCell ⟨wq.heap.size, 1, none⟩ (.slice A' ds'.length c') = wk at HP3 ⊢
          generalize (⟨s', A', c', ds'⟩ : El) = eq2 at HP3
          obtain ⟨hre, hne⟩ := HP3.dbl k e HE.out
          rw [← hY2] at hne
          have ha0 := HP3.ha.b.cells2.1
          have ha1 := HP3.ha.b.cells2.2
          have hd0 := HP3.hd.cell (k * 2)
          have hd1 := HP3.hd.cell (k * 2 + 1)
          rw [hcu0] at hd0
          rw [hcu1] at hd1
          have hmY : Small 100 Y2 := by
            have h1 := dbl_le (k := k) (m := m) (by omega) hy
            rw [← hY2, ← HY.out] at h1
            exact small_le HSY.out (by omega) h1
          have HMY := Lib.hid hmY
          have hm2 : (k : Int) < (m : Int) + 1 := by omega
          have hk0 : (0 : Int) ≤ (k : Int) := by omega
          have HH := Lib.hid HP3
          have HRE := Lib.hid hre
          have HNE := Lib.hid hne
          obtain ⟨q1, hq1⟩ : ∃ q, q = (a - Y2).sign := ⟨_, rfl⟩
          have CM : Hid (∀ W, Below wk.heap.size wk W → Calls Try.prog 91 #[.agg #[.int .i64 ea.s, .slice ea.A ea.ds.length ea.c], .agg #[.int .i64 e.s, .slice e.A e.ds.length e.c]] W fun r w' => r = .returned (.int .i64 q1) ∧ Below W.heap.size W w') := by
            intro W hb; rw [hq1]; exact cmp_any _ _ a Y2 W (HH.out.below hb).ha.ex ⟨_, _, _, _, rfl, HRE.out.below hb, HNE.out⟩ HSA.out HMY.out
          have HY2 := Lib.hid hY2
          clear HP3 hre hne hmY hY2 hcu0 hcu1
          by_cases hYa : Y2 ≤ a
          · have hqs : decide (q1 ≥ 0) = true := by
              rw [hq1, decide_eq_true_iff]
              rcases Int.lt_or_eq_of_le hYa with h | h
              · rw [Int.sign_eq_one_of_pos (by omega)]; omega
              · rw [h, Int.sub_self]; decide
            have HI2 := Lib.hid (HI.out.yes (by rw [← HY2.out]; exact hYa))
            clear hq1 HI
            go_region_held3 (fun w' => w'.cell? ⟨w.heap.size, 0, none⟩ = some (.int .i64 ea.s) ∧ w'.cell? ⟨w.heap.size, 1, none⟩ = some (.slice ea.A ea.ds.length ea.c) ∧ w'.cell? ⟨g, k * 2, none⟩ = some (.int .i64 e.s) ∧ w'.cell? ⟨g, k * 2 + 1, none⟩ = some (.slice e.A e.ds.length e.c)) (first | go_keep | exact SS) (first | (go_at_call 91; go_must (refine (CM.out _ ?_).mono ?_); exact (Below.refl _ _).drew; rintro r w3 ⟨rfl, hb3⟩; have SS := (HH.out.drew.below hb3).sees HCUR.out HE.out))
            all_goals
              have HH3 := HH.out.drew.below hb3
              have HRE3 := HRE.out.below (Below.trans' (Below.refl _ _).drew hb3)
              have HH4 := Lib.hid HH3
              have HRE4 := Lib.hid HRE3
              clear HH HRE hb3 CM ha0 ha1 hd0 hd1
              obtain ⟨a0', a1', d0', d1'⟩ := SS
              have fa0 := HH3.ha.b.frozen 0
              have fa1 := HH3.ha.b.frozen 1
              clear HH3 HRE3
              go_upto_region 13 with (fail)
              go_cut [] (fun wc => ∃ ea', Ov2 w wc g wq.heap.size cur l y (a - Y2) (q + q) ea' eq2)
              case first =>
                go_region_with (go_at_call 76; go_must (refine (less2_any _ _ a Y2 _ ?_ ?_ HSA.out HMY.out).mono ?_); exact HH4.out.drew.ha.ex; exact ⟨_, _, _, _, rfl, HRE4.out.drew, HNE.out⟩; rintro r w4 ⟨v4, rfl, ⟨s4, A4, c4, ds4, rfl, R4, N4⟩, hb4⟩; have HH5 := HH4.out.drew.below hb4; have fb0 := HH5.ha.b.frozen 0; have fb1 := HH5.ha.b.frozen 1; have g0 := HH5.ha.b.cells2.1; have g1 := HH5.ha.b.cells2.2)
                all_goals go_wp2
                all_goals go_meet
                all_goals exact ⟨_, HH5.setA (c := c4) R4 N4⟩
              case rest =>
                obtain ⟨ea', hP5⟩ := hcut
                clear a0' a1' d0' d1' fa0 fa1 HH4 HRE4
                go_upto_region 14 with (fail)
                have b0 := hP5.hq.b.cells2.1
                have b1 := hP5.hq.b.cells2.2
                have fz0 := hP5.hq.b.frozen 0
                have fz1 := hP5.hq.b.frozen 1
                have HP5 := Lib.hid hP5
                clear hP5
                have one_small : Small 100 1 := small_in (by unfold inI lowI topI; omega)
                have OS := Lib.hid one_small
                clear one_small
                go_region_with (first | (go_at_call 61; go_must (refine (of_any 1 _ (by unfold inI lowI topI; omega)).mono ?_); rintro r w5 ⟨v5, rfl, hv5, hb5⟩; have HP6 := HP5.out.drew.below hb5; have c0 := HP6.hq.b.cells2.1; have c1 := HP6.hq.b.cells2.2) | (go_at_call 63; go_must (refine (plus_any _ _ (q + q) 1 _ HP6.hq.ex hv5 HSQ2.out OS.out).mono ?_); rintro r w6 ⟨v6, rfl, ⟨s6, A6, c6, ds6, rfl, R6, N6⟩, hb6⟩; have HP7 := HP6.below hb6; have d0 := HP7.hq.b.cells2.1; have d1 := HP7.hq.b.cells2.2; have fd0 := HP7.hq.b.frozen 0; have fd1 := HP7.hq.b.frozen 1))
                all_goals
                  go_wp2
                  have HP8 := HP7.setQ (c := c6) R6 N6
                  go_roundg k
                  case measure => omega
                  case rel => exact ⟨k, (k : Int) - 1, _, _, _, _, rfl, by omega, rfl, rfl, by rw [Aside, ← HY2.out] at *; exact HI2.out, HP8⟩
          · have hqs : decide (q1 ≥ 0) = false := by
              rw [hq1, decide_eq_false_iff_not, Int.sign_eq_neg_one_of_neg (by omega)]; omega
            have HI2 := Lib.hid (HI.out.no (by rw [← HY2.out]; omega))
            clear hq1 HI
            go_region_held3 (fun w' => w'.cell? ⟨w.heap.size, 0, none⟩ = some (.int .i64 ea.s) ∧ w'.cell? ⟨w.heap.size, 1, none⟩ = some (.slice ea.A ea.ds.length ea.c) ∧ w'.cell? ⟨g, k * 2, none⟩ = some (.int .i64 e.s) ∧ w'.cell? ⟨g, k * 2 + 1, none⟩ = some (.slice e.A e.ds.length e.c)) (first | go_keep | exact SS) (first | (go_at_call 91; go_must (refine (CM.out _ ?_).mono ?_); exact (Below.refl _ _).drew; rintro r w3 ⟨rfl, hb3⟩; have SS := (HH.out.drew.below hb3).sees HCUR.out HE.out))
            all_goals
              have HH3 := HH.out.drew.below hb3
              clear HH HRE hb3 CM ha0 ha1 hd0 hd1
              go_wp2
              go_roundg k
              case measure => omega
              case rel => exact ⟨k, (k : Int) - 1, _, _, _, _, rfl, by omega, rfl, rfl, HI2.out, HH3⟩
    · have HLE := hLE'.out
      rw [decide_eq_false hxY] at HLE
      have HLE := Lib.hid HLE
      clear hLE'
      go_wp2
      go_quiet ((go_at_call 94; exact Calls.quiet_of (HLE.out _ (below_drewN (Below.refl _ _)))))
      have HP := Lib.hid (HP.out.drewN nq)
      have hc0' : (wr.drewN nq).cell? ⟨g, m * 2, none⟩ = _ := hc0
      have hc1' : (wr.drewN nq).cell? ⟨g, m * 2 + 1, none⟩ = _ := hc1
      clear hc0 hc1 c00 c01 c10 c11
      generalize wr.drewN nq = wq at HP hc0' hc1' ⊢
      have HRE' := Lib.hid (HP.out.dbl m e HE.out).1
      have CP : Hid (∀ W, Below wq.heap.size wq W → Calls Try.prog 63 #[.agg #[.int .i64 e.s, .slice e.A e.ds.length e.c], .agg #[.int .i64 e.s, .slice e.A e.ds.length e.c]] W fun r w' => ∃ v', r = .returned v' ∧ Ex w' v' (Y + Y) ∧ Below W.heap.size W w') :=
        fun W hb => plus_any _ _ Y Y W ⟨_, _, _, _, rfl, HRE'.out.below hb, HNE.out⟩ ⟨_, _, _, _, rfl, HRE'.out.below hb, HNE.out⟩ HSY.out HSY.out
      have HP1 := Lib.hid (HP.out.below ((Below.refl wq.heap.size wq).alloc (Nat.le_refl _) (.cells #[.int .i64 e.s, .slice e.A e.ds.length e.c] 102)))
      go_wp2_with (first | (go_at_call 63; go_must (refine (CP.out _ ((Below.refl _ _).alloc (Nat.le_refl _) _)).mono ?_); rintro r w2 ⟨v2, rfl, ⟨s', A', c', ds', rfl, R', N'⟩, hb2⟩; have HP2 := HP1.out.below hb2; have hsz := HP2.bx.b2.lt) | (at_builtin; go_must (refine wpl_append1 rfl _ _ 171 rfl (w.heap.size + 3) 102 i0 (.agg #[.int .i64 0, .slice none 0 0]) 2 32 Try.underlying171 hi hz0 hz1 hz2 rfl (by decide) _ l.length (elCells l) (by rfl) HP2.own #[.int .i64 s', .slice A' ds'.length c'] (by rfl) (by rfl) (by simp [Value.oneCell']) (by have := HL.out; unfold maxLen; omega) (by have := HL.out; omega) hsz ?_); intro g' cap' w3 hown3 hg3 hgg))
      have hn' : Num s' ds' (2 ^ l.length * y) := by
        rw [HL.out, Int.pow_succ, Int.mul_comm (2 ^ m) 2, Int.mul_assoc, Int.two_mul, ← HY.out]; exact N'
      have HP3 := HP2.grown (e := ⟨s', A', c', ds'⟩) hg3 hown3 R' hn'
      go_roundg (401 - (m + 1))
      case measure => have := dbl_bound L1.out hy (m := m) (by rw [← HY.out]; omega); omega
      case rel => exact ⟨m + 1, _, _, by rw [List.length_append, HL.out]; rfl, rfl, by have := dbl_bound L1.out hy (m := m) (by rw [← HY.out]; omega); omega, rfl, fun k hk => by (obtain rfl : m = k := by omega); rw [← HY.out]; omega, HP3⟩
end Go.Proofs.Ytophfbnajelknaa

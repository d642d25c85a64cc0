import Derived.Test.YtophfbnajelknaaX21
/- Reference R13: Again. -/
namespace Go.Proofs.Ytophfbnajelknaa
open Go.RowKit
attribute [local go_sem ↓] Go.wp_at_zero Go.wp_at_succ

theorem two_keep {w w' : World} {p q : Addr} {x y : Value} (h : w.cell? p = some x ∧ w.cell? q = some y) (hb : Below w.heap.size w w') (hp : p.block < w.heap.size) (hq : q.block < w.heap.size) : w'.cell? p = some x ∧ w'.cell? q = some y :=
  ⟨(hb.cell hp).trans h.1, (hb.cell hq).trans h.2⟩
theorem leftE_three {t : Int} {l : List Int} (h : leftE t l ≠ 0) : leftE t l = 3 := by
  unfold leftE at *
  split
  · rename_i hi
    rw [if_pos hi] at h
    rw [fitE_out (fun h1 => h (fitE_in h1))]
  · rfl

set_option maxHeartbeats 8000000 in
set_option maxRecDepth 100000 in
theorem ragain_any (t : Int) (A : Option Addr) (c : Nat) (done : List Int) (A' : Option Addr) (c' : Nat) (alone : List Int) (w : World) (hd : Reads w w.heap.size 1 A done.length (ints done)) (hdx : ∀ x ∈ done, inI x) (hdl : done.length ≤ 1000000)
    (ha : Reads w w.heap.size 1 A' alone.length (ints alone)) (hl : alone.length ≤ 1000000) (hax : ∀ x ∈ alone, inI x) (ht : inI t) :
    Calls Try.prog 43 #[.int .i64 t, .slice A done.length c, .slice A' alone.length c'] w fun e w' => ∃ v, e = .returned (.tuple #[v, .int .i64 (againE t done alone)]) ∧ w'.ownsRow w.heap.size 2 1 v (againL t done alone).length (ints (againL t done alone)) ∧ Below w.heap.size w w' := by
  by_cases h1 : done.length = alone.length
  · have s1 := small_total hdx hdl
    have s2 := (small_of_in ht).mono (show 7 ≤ 20 by omega)
    have s3 := small_diff s2 s1
    obtain ⟨S, hS⟩ : ∃ S, S = done.sum := ⟨_, rfl⟩
    have hle : leftE t done = if inI S then fitE (t - S) else 3 := by rw [hS]; rfl
    have hlv : leftV t done = if inI S then fitV (t - S) else 0 := by rw [hS]; rfl
    rw [← hS] at s1 s3
    obtain ⟨d, hdd⟩ : ∃ d, d = t - S := ⟨_, rfl⟩
    rw [← hdd] at s3 hle hlv
    have C1 : Hid (∀ W, Below w.heap.size w W → Calls Try.prog 77 #[.slice A done.length c] W fun e w' => ∃ v, e = .returned v ∧ Ex w' v S ∧ Below W.heap.size W w') := fun W hb => by rw [hS]; exact total_any A c done W (reads_below hd hb) hdx hdl
    have C2 : Hid (∀ W v, Ex W v S → Calls Try.prog 58 #[v] W fun e w' => e = .returned (.tuple #[.int .i64 (fitV S), .int .i64 (fitE S)]) ∧ Below W.heap.size W w') := fun W v h1 => fit_any v S W h1 (s1.mono (by omega))
    have C3 : Hid (∀ W, Calls Try.prog 61 #[.int .i64 t] W fun e w' => ∃ v, e = .returned v ∧ Ex w' v t ∧ Below W.heap.size W w') := fun W => of_any t W ht
    have C4 : Hid (∀ W v u, Ex W v t → Ex W u S → Calls Try.prog 76 #[v, u] W fun e w' => ∃ v, e = .returned v ∧ Ex w' v d ∧ Below W.heap.size W w') := fun W v u h1 h2 => by rw [hdd]; exact less2_any v u t S W h1 h2 (s2.mono (by omega)) (s1.mono (by omega))
    have C5 : Hid (∀ W v, Ex W v d → Calls Try.prog 58 #[v] W fun e w' => e = .returned (.tuple #[.int .i64 (fitV d), .int .i64 (fitE d)]) ∧ Below W.heap.size W w') := fun W v h1 => fit_any v d W h1 s3
    have hne : ((done.length : Int) != (alone.length : Int)) = false := by rw [h1]; simp
    by_cases h2 : leftE t done = 0
    · have hSi : inI S := by
        by_cases hi : inI S
        · exact hi
        · rw [if_neg hi] at hle; omega
      have hdi : inI d := by
        rw [if_pos hSi] at hle
        by_cases hi : inI d
        · exact hi
        · rw [fitE_out hi] at hle; omega
      rw [if_pos hSi, fitV_in hdi] at hlv
      rw [fitV_in hSi, fitE_in hSi] at C2
      rw [fitV_in hdi, fitE_in hdi] at C5
      have HO : Hid (∀ W, Below w.heap.size w W → Calls Try.prog 70 #[.int .i64 d, .slice A' alone.length c'] W fun e w' => ∃ v, e = .returned (.tuple #[v, .int .i64 (outE d alone)]) ∧ w'.ownsRow W.heap.size 2 1 v (outL d alone).length (ints (outL d alone)) ∧ Below W.heap.size W w') := fun W hb => r2_any d A' c' alone W (reads_below ha hb) hl hax hdi
      by_cases h3 : outE d alone = 0
      · have hE : againE t done alone = addE (outL d alone) done := by
          rw [againE, if_neg (by omega), if_neg (by omega), hlv, if_neg (by omega)]
        have hL : againL t done alone = if againE t done alone ≠ 0 then [] else addL (outL d alone) done := by rw [againL, hlv]
        obtain ⟨f1, f2, f3, f4⟩ := outL_facts hdi h3
        rw [h3] at HO
        have hn0 : 0 < alone.length := (wrongE_good (outE_good h3).1).2.1
        rw [hL, hE]
        obtain ⟨O, hO⟩ : ∃ O, O = outL d alone := ⟨_, rfl⟩
        rw [← hO] at HO f1 f2 f3 f4 ⊢
        have hE0 : (∀ k, k < O.length → inI (O.getD k 0 + done.getD k 0)) → addE O done = 0 := addE_good
        have hE3 : ∀ k, k < O.length → ¬ inI (O.getD k 0 + done.getD k 0) → addE O done = 3 := fun k => addE_bad
        obtain ⟨E, hEE⟩ : ∃ E, E = addE O done := ⟨_, rfl⟩
        rw [← hEE] at hE0 hE3 ⊢
        obtain ⟨L, hLL⟩ : ∃ L, L = if E ≠ 0 then [] else addL O done := ⟨_, rfl⟩
        rw [← hLL]
        have HE0 : Hid ((∀ k, k < O.length → inI (O.getD k 0 + done.getD k 0)) → E = 0 ∧ L = addL O done) := fun h => ⟨hE0 h, by rw [hLL, if_neg (by have := hE0 h; omega)]⟩
        have HE3 : Hid (∀ k, k < O.length → ¬ inI (O.getD k 0 + done.getD k 0) → E = 3 ∧ L = []) := fun k h h' => ⟨hE3 k h h', by rw [hLL, if_pos (by have := hE3 k h h'; omega)]⟩
        clear hE0 hE3 hEE hLL
        have HF := Lib.hid f4
        have HD := Lib.hid hd
        have HDX := Lib.hid hdx
        have HL2 := Lib.hid f2
        rw [f2] at HO
        clear hO f1 f3 f4 hE hL hd hdx ha hax hle hlv hS hdd s1 s2 s3 h2 h3 hSi f2
        have HLEN := Lib.hid h1
        clear h1
        go_enter Try.func43, Try.ntmps43
        go_wp2_with (first | (go_at_call 70; go_must (refine (HO.out _ (belT (belT (belT (belT (belT b1 b2) b3) b4) b5) b6)).mono ?_); rintro e w7 ⟨v7, rfl, ho7, b7⟩; obtain ⟨g, cap, rfl, hgb, hgl⟩ := ho7.form hn0) | (go_at_call 58; have _t := h5; go_must (refine (C5.out _ _ h5).mono ?_); rintro e w6 ⟨rfl, b6⟩) | (go_at_call 76; go_must (refine (C4.out _ _ _ (h3.below b4) h4).mono ?_); rintro e w5 ⟨v5, rfl, h5, b5⟩) | (go_at_call 77; have _t := h3; go_must (refine (C1.out _ (belT (belT b1 b2) b3)).mono ?_); rintro e w4 ⟨v4, rfl, h4, b4⟩) | (go_at_call 61; go_must (refine (C3.out _).mono ?_); rintro e w3 ⟨v3, rfl, h3, b3⟩) | (go_at_call 58; go_must (refine (C2.out _ _ h1).mono ?_); rintro e w2 ⟨rfl, b2⟩) | (go_at_call 77; go_must (refine (C1.out _ (Below.refl _ _)).mono ?_); rintro e w1 ⟨v1, rfl, h1, b1⟩))
        have hP0 : R2O w w7 g cap alone.length (addTo O done 0) := ⟨own_base (by rw [addTo_zero]; exact ho7) (belT (belT (belT (belT (belT b1 b2) b3) b4) b5) b6).size, belT (belT (belT (belT (belT (belT b1 b2) b3) b4) b5) b6) b7, by rw [addTo_length]; exact HL2.out⟩
        have HP0 := Lib.hid hP0
        clear hP0 ho7 b1 b2 b3 b4 b5 b6 b7 h1 h3 h4 h5 C1 C2 C3 C4 C5 HO hgb hgl
        go_loopg [14] alone.length (fun kq v14 w' => ∃ i : Nat, i ≤ alone.length ∧ kq = alone.length - i ∧ v14 = .int .i64 i ∧ Aside (∀ j, j < i → inI (O.getD j 0 + done.getD j 0)) ∧ R2O w w' g cap alone.length (addTo O done i))
        case atStart => exact ⟨0, by omega, by omega, rfl, fun j hj => by omega, HP0.out⟩
        case round =>
          clear HP0
          obtain ⟨i, hi', rfl, rfl, HI, hP⟩ := hrel
          by_cases hlt : i < alone.length
          · obtain ⟨x1, hx1⟩ : ∃ x, x = O.getD i 0 := ⟨_, rfl⟩
            obtain ⟨y1, hy1⟩ : ∃ x, x = done.getD i 0 := ⟨_, rfl⟩
            have hxi : inI x1 := by rw [hx1]; exact HF.out _ (getD_mem (by rw [HL2.out]; exact hlt))
            have hyi : inI y1 := by rw [hy1]; exact HDX.out _ (getD_mem (by rw [HLEN.out]; exact hlt))
            have hc1 := hP.own.cellAt i (by omega)
            rw [ints_at (by rw [hP.len]; exact hlt), addTo_at _ _ _ (by rw [HL2.out]; exact hlt), ← hx1] at hc1
            obtain ⟨ad, rfl, hbl, hc2⟩ := (reads_below HD.out hP.bel).int_at (show i < done.length by rw [HLEN.out]; exact hlt)
            rw [← hy1] at hc2
            have hii : (i : Int) < (alone.length : Int) := by omega
            have hij : (i : Int) < (done.length : Int) := by rw [HLEN.out]; exact hii
            have hi0 : (0 : Int) ≤ (i : Int) := by omega
            have q1 := small_of_in hxi
            have q2 := small_of_in hyi
            have q3 : Small 100 (x1 + y1) := by
              have : Small 8 (x1 + y1) := by unfold Small at *; omega
              exact this.mono (by omega)
            obtain ⟨z, hz⟩ : ∃ z, z = x1 + y1 := ⟨_, rfl⟩
            rw [← hz] at q3
            have D1 : Hid (∀ W, Calls Try.prog 61 #[.int .i64 x1] W fun e w' => ∃ v, e = .returned v ∧ Ex w' v x1 ∧ Below W.heap.size W w') := fun W => of_any x1 W hxi
            have D2 : Hid (∀ W, Calls Try.prog 61 #[.int .i64 y1] W fun e w' => ∃ v, e = .returned v ∧ Ex w' v y1 ∧ Below W.heap.size W w') := fun W => of_any y1 W hyi
            have D3 : Hid (∀ W v u, Ex W v x1 → Ex W u y1 → Calls Try.prog 63 #[v, u] W fun e w' => ∃ v, e = .returned v ∧ Ex w' v z ∧ Below W.heap.size W w') := fun W v u h1 h2 => by rw [hz]; exact plus_any v u x1 y1 W h1 h2 (q1.mono (by omega)) (q2.mono (by omega))
            have D4 : Hid (∀ W v, Ex W v z → Calls Try.prog 58 #[v] W fun e w' => e = .returned (.tuple #[.int .i64 (fitV z), .int .i64 (fitE z)]) ∧ Below W.heap.size W w') := fun W v h1 => fit_any v z W h1 q3
            have HZ : Hid (z = O.getD i 0 + done.getD i 0) := by show z = _; rw [hz, hx1, hy1]
            have HP := Lib.hid hP
            clear q1 q2 q3 hz hx1 hy1 hxi hyi hP
            have hgl : g < wr.heap.size := by
              rcases HP.out.own.2 with ⟨h0, _⟩ | ⟨g', cap', cur, hv, _, hh, _⟩
              · cases h0
              · have e1 := (Value.slice.inj hv).1
                simp at e1
                subst e1
                exact Blk.lt (t := 2) hh
            have HS : Hid (∀ W, Below wr.heap.size wr W → W.cell? ⟨g, i, none⟩ = some (.int .i64 x1) ∧ W.cell? (ad.add i) = some (.int .i64 y1)) := fun W hb => two_keep ⟨hc1, hc2⟩ hb hgl (by rw [block_of_add]; exact hbl)
            by_cases hzi : inI z
            · rw [fitV_in hzi, fitE_in hzi] at D4
              have hset := addTo_set O done i
              rw [← HZ.out] at hset
              have HSET := Lib.hid hset
              have HZI := Lib.hid hzi
              clear hset hzi
              go_wp2
              go_region_held3 (fun w' => w'.cell? ⟨g, i, none⟩ = some (.int .i64 x1) ∧ w'.cell? (ad.add i) = some (.int .i64 y1)) (first | go_keep | exact HS.out _ c4 | exact HS.out _ c3 | exact HS.out _ c2 | exact HS.out _ c1) (first | (go_at_call 58; go_must (refine (D4.out _ _ e3).mono ?_); rintro r u4 ⟨rfl, k4⟩; have c4 := belT c3 k4) | (go_at_call 63; go_must (refine (D3.out _ _ _ (e1.below k2) e2).mono ?_); rintro r u3 ⟨v3, rfl, e3, k3⟩; have c3 := belT c2 k3) | (go_at_call_of 61 (Value.int .i64 y1); go_must (refine (D2.out _).mono ?_); rintro r u2 ⟨v2, rfl, e2, k2⟩; have c2 := belT c1 k2) | (go_at_call_of 61 (Value.int .i64 x1); go_must (refine (D1.out _).mono ?_); rintro r u1 ⟨v1, rfl, e1, k1⟩; have c1 := belT (Below.refl _ _).drew k1))
              all_goals
                have HP4 := Lib.hid (HP.out.below c4)
                have fz := HP4.out.own.frozenAt i
                have hc4 := (HS.out _ c4).1
                go_wp2
                have HP5 := HP4.out.set_ i z
                rw [HSET.out] at HP5
                go_roundg (alone.length - (i + 1))
                case measure => omega
                case rel => exact ⟨i + 1, by omega, rfl, by go_num, fun j hj => by (rcases Nat.lt_or_eq_of_le (Nat.le_of_lt_succ hj) with h | h); exact HI.out j h; (rw [h, ← HZ.out]; exact HZI.out), HP5⟩
            · rw [fitV_out hzi, fitE_out hzi] at D4
              have hE := HE3.out i (by rw [HL2.out]; exact hlt) (by rw [← HZ.out]; exact hzi)
              have HE := Lib.hid hE
              clear hzi hE
              go_wp2
              go_region_held3 (fun w' => w'.cell? ⟨g, i, none⟩ = some (.int .i64 x1) ∧ w'.cell? (ad.add i) = some (.int .i64 y1)) (first | go_keep | exact HS.out _ c4 | exact HS.out _ c3 | exact HS.out _ c2 | exact HS.out _ c1) (first | (go_at_call 58; go_must (refine (D4.out _ _ e3).mono ?_); rintro r u4 ⟨rfl, k4⟩; have c4 := belT c3 k4) | (go_at_call 63; go_must (refine (D3.out _ _ _ (e1.below k2) e2).mono ?_); rintro r u3 ⟨v3, rfl, e3, k3⟩; have c3 := belT c2 k3) | (go_at_call_of 61 (Value.int .i64 y1); go_must (refine (D2.out _).mono ?_); rintro r u2 ⟨v2, rfl, e2, k2⟩; have c2 := belT c1 k2) | (go_at_call_of 61 (Value.int .i64 x1); go_must (refine (D1.out _).mono ?_); rintro r u1 ⟨v1, rfl, e1, k1⟩; have c1 := belT (Below.refl _ _).drew k1))
              all_goals
                have HP4 := Lib.hid (HP.out.below c4)
                go_wp2
                go_ret2
                exact ⟨_, by rw [HE.out.1]; rfl, by rw [HE.out.2]; exact World.ownsRow_nil _ _ _ _, HP4.out.bel⟩
          · obtain rfl : i = alone.length := by omega
            have hE := HE0.out (fun k hk => HI.out k (by rw [← HL2.out]; exact hk))
            have hfin := addTo_all O done
            rw [HL2.out] at hfin
            have HE := Lib.hid hE
            have HF2 := Lib.hid hfin
            have HPP := Lib.hid hP
            clear hE hfin hP
            go_wp2
            go_ret2
            refine ⟨_, by rw [HE.out.1]; rfl, ?_, HPP.out.bel⟩
            rw [HE.out.2, ← HF2.out, addTo_length, HL2.out]
            exact HPP.out.own
      · have hE : againE t done alone = outE d alone := by
          rw [againE, if_neg (by omega), if_neg (by omega), hlv, if_pos h3]
        have hL : againL t done alone = [] := by rw [againL, hE, if_pos h3]
        rw [hE, hL]
        have HLEN := Lib.hid h1
        obtain ⟨E, hEE⟩ : ∃ E, E = outE d alone := ⟨_, rfl⟩
        rw [← hEE] at h3 HO ⊢
        have hne2 : (E != 0) = true := by simpa using h3
        clear hE hL hd hdx ha hax hle hlv hS hdd s1 s2 s3 h2 h3 hSi hEE h1
        go_enter Try.func43, Try.ntmps43
        go_wp2_with (first | (go_at_call 70; go_must (refine (HO.out _ (belT (belT (belT (belT (belT b1 b2) b3) b4) b5) b6)).mono ?_); rintro e w7 ⟨v7, rfl, ho7, b7⟩) | (go_at_call 58; have _t := h5; go_must (refine (C5.out _ _ h5).mono ?_); rintro e w6 ⟨rfl, b6⟩) | (go_at_call 76; go_must (refine (C4.out _ _ _ (h3.below b4) h4).mono ?_); rintro e w5 ⟨v5, rfl, h5, b5⟩) | (go_at_call 77; have _t := h3; go_must (refine (C1.out _ (belT (belT b1 b2) b3)).mono ?_); rintro e w4 ⟨v4, rfl, h4, b4⟩) | (go_at_call 61; go_must (refine (C3.out _).mono ?_); rintro e w3 ⟨v3, rfl, h3, b3⟩) | (go_at_call 58; go_must (refine (C2.out _ _ h1).mono ?_); rintro e w2 ⟨rfl, b2⟩) | (go_at_call 77; go_must (refine (C1.out _ (Below.refl _ _)).mono ?_); rintro e w1 ⟨v1, rfl, h1, b1⟩))
        go_ret2
        exact ⟨_, rfl, World.ownsRow_nil _ _ _ _, belT (belT (belT (belT (belT (belT b1 b2) b3) b4) b5) b6) b7⟩
    · have hl3 := leftE_three h2
      have hE : againE t done alone = 3 := by rw [againE, if_neg (by omega), if_pos h2, hl3]
      have hL : againL t done alone = [] := by rw [againL, hE, if_pos (by omega)]
      rw [hE, hL]
      have HLEN := Lib.hid h1
      by_cases hSi : inI S
      · have hdi : ¬ inI d := fun hi => h2 (by rw [hle, if_pos hSi, fitE_in hi])
        rw [fitV_in hSi, fitE_in hSi] at C2
        rw [fitV_out hdi, fitE_out hdi] at C5
        clear hE hL hd hdx ha hax hle hlv hS hdd s1 s2 s3 h2 hl3 hSi hdi h1
        go_enter Try.func43, Try.ntmps43
        go_wp2_with (first | (go_at_call 58; have _t := h5; go_must (refine (C5.out _ _ h5).mono ?_); rintro e w6 ⟨rfl, b6⟩) | (go_at_call 76; go_must (refine (C4.out _ _ _ (h3.below b4) h4).mono ?_); rintro e w5 ⟨v5, rfl, h5, b5⟩) | (go_at_call 77; have _t := h3; go_must (refine (C1.out _ (belT (belT b1 b2) b3)).mono ?_); rintro e w4 ⟨v4, rfl, h4, b4⟩) | (go_at_call 61; go_must (refine (C3.out _).mono ?_); rintro e w3 ⟨v3, rfl, h3, b3⟩) | (go_at_call 58; go_must (refine (C2.out _ _ h1).mono ?_); rintro e w2 ⟨rfl, b2⟩) | (go_at_call 77; go_must (refine (C1.out _ (Below.refl _ _)).mono ?_); rintro e w1 ⟨v1, rfl, h1, b1⟩))
        go_ret2
        exact ⟨_, rfl, World.ownsRow_nil _ _ _ _, belT (belT (belT (belT (belT b1 b2) b3) b4) b5) b6⟩
      · rw [fitV_out hSi, fitE_out hSi] at C2
        obtain ⟨V5, hV5⟩ : ∃ V, V = fitV d := ⟨_, rfl⟩
        obtain ⟨E5, hE5⟩ : ∃ V, V = fitE d := ⟨_, rfl⟩
        rw [← hV5, ← hE5] at C5
        clear hE hL hd hdx ha hax hle hlv hS hdd s1 s2 s3 h2 hl3 hSi h1 hV5 hE5
        go_enter Try.func43, Try.ntmps43
        go_wp2_with (first | (go_at_call 58; have _t := h5; go_must (refine (C5.out _ _ h5).mono ?_); rintro e w6 ⟨rfl, b6⟩) | (go_at_call 76; go_must (refine (C4.out _ _ _ (h3.below b4) h4).mono ?_); rintro e w5 ⟨v5, rfl, h5, b5⟩) | (go_at_call 77; have _t := h3; go_must (refine (C1.out _ (belT (belT b1 b2) b3)).mono ?_); rintro e w4 ⟨v4, rfl, h4, b4⟩) | (go_at_call 61; go_must (refine (C3.out _).mono ?_); rintro e w3 ⟨v3, rfl, h3, b3⟩) | (go_at_call 58; go_must (refine (C2.out _ _ h1).mono ?_); rintro e w2 ⟨rfl, b2⟩) | (go_at_call 77; go_must (refine (C1.out _ (Below.refl _ _)).mono ?_); rintro e w1 ⟨v1, rfl, h1, b1⟩))
        go_ret2
        exact ⟨_, rfl, World.ownsRow_nil _ _ _ _, belT (belT (belT (belT (belT b1 b2) b3) b4) b5) b6⟩
  · have hE : againE t done alone = 1 := by rw [againE, if_pos h1]
    have hL : againL t done alone = [] := by rw [againL, hE, if_pos (by omega)]
    rw [hE, hL]
    have hne : ((done.length : Int) != (alone.length : Int)) = true := by rw [bne_iff_ne]; omega
    clear hE hL h1 hd hdx ha hax ht
    go_enter Try.func43, Try.ntmps43
    go_wp2
    go_ret2
    exact ⟨_, rfl, World.ownsRow_nil _ _ _ _, Below.refl _ _⟩
end Go.Proofs.Ytophfbnajelknaa

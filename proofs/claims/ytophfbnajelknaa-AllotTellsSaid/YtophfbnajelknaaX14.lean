import Derived.Test.YtophfbnajelknaaX13
/- Reference R01: By. -/
namespace Go.Proofs.Ytophfbnajelknaa
open Go.RowKit
attribute [local go_sem ↓] Go.wp_at_zero Go.wp_at_succ

structure ByW (w w' : World) (p q : Array Value) (out : List Int) : Prop where
  bx : Box3 w w' p q #[.int .i64 0, .slice none 0 0]
  b3 : Blk w' (w.heap.size + 3) 3 (row out)
theorem ByW.start (w : World) (p q : Array Value) (n : Nat) : ByW w ((((w.alloc (.cells p 102)).alloc (.cells q 102)).alloc (.cells #[.int .i64 0, .slice none 0 0] 102)).alloc (.cells (madeCells #[.int .i64 0] n) 3)) p q (List.replicate n 0) := by
  have h := Box3.start w p q
  rw [made_zero]
  refine ⟨⟨h.b0.alloc _, h.b1.alloc _, h.b2.alloc _, h.bel.alloc (by simp; omega) _⟩, ?_⟩
  exact Blk.newg (by simp)
theorem ByW.set_ {w w' : World} {p q : Array Value} {out : List Int} (h : ByW w w' p q out) (j : Nat) (x : Int) : ByW w (w'.setCell ⟨w.heap.size + 3, j, none⟩ (.int .i64 x)) p q (out.set j x) :=
  ⟨⟨h.bx.b0.far (p := ⟨w.heap.size + 3, j, none⟩) (by simp) _, h.bx.b1.far (p := ⟨w.heap.size + 3, j, none⟩) (by simp) _, h.bx.b2.far (p := ⟨w.heap.size + 3, j, none⟩) (by simp) _, h.bx.bel.setCell (p := ⟨w.heap.size + 3, j, none⟩) (by simp) _⟩, h.b3.int_set j x⟩
theorem ByW.drewN {w w' : World} {p q : Array Value} {out : List Int} (h : ByW w w' p q out) (n : Nat) : ByW w (w'.drewN n) p q out := ⟨h.bx.drewN n, h.b3⟩

set_option maxHeartbeats 8000000 in
set_option maxRecDepth 100000 in
theorem by_any (v u : Value) (x y : Int) (w : World) (h : Ex w v x) (h' : Ex w u y) (hlx : Small 40 x) (hly : Small 40 y) :
    Calls Try.prog 109 #[v, u] w fun e w' => ∃ v', e = .returned v' ∧ Ex w' v' (x * y) ∧ Below w.heap.size w w' := by
  obtain ⟨s, A, c, ds, rfl, hr, hn⟩ := h
  obtain ⟨t, B, d, es, rfl, hr', hn'⟩ := h'
  have l1 := hn.size hlx
  have l2 := hn'.size hly
  have s1 := hn.sign_small
  have s2 := hn'.sign_small
  obtain ⟨N, hN⟩ : ∃ N, N = ds.length + es.length + 2 := ⟨_, rfl⟩
  have hNi : (ds.length : Int) + (es.length : Int) + 2 = (N : Int) := by omega
  have hN1 : ds.length + es.length < N := by omega
  have hN2 : N ≤ 82 := by omega
  have HX : Hid (s * t * (valD ds * valD es) = x * y) := by
    show _ = _
    rw [hn.val, hn'.val, Int.mul_assoc, Int.mul_assoc, Int.mul_left_comm t]
  have HS : Hid (valD ds * valD es ≠ 0 → s * t = 1 ∨ s * t = -1) := by
    intro hne
    have a1 : s ≠ 0 := fun e => hne (by rcases hn.kind with ⟨_, e'⟩ | ⟨e', _⟩; (rw [e']; simp [valD]); omega)
    have a2 : t ≠ 0 := fun e => hne (by rcases hn'.kind with ⟨_, e'⟩ | ⟨e', _⟩; (rw [e']; simp [valD]); omega)
    rcases s1 with rfl | rfl | rfl <;> rcases s2 with rfl | rfl | rfl <;> simp at a1 a2 ⊢
  have HA := Lib.hid hr
  have HB := Lib.hid hr'
  have DA := Lib.hid hn.digs
  have DB := Lib.hid hn'.digs
  obtain ⟨q, hq⟩ : ∃ q, q = s * t := ⟨_, rfl⟩
  have hq1 : -2 < q ∧ q < 2 := by rcases s1 with rfl | rfl | rfl <;> rcases s2 with rfl | rfl | rfl <;> omega
  have hqw : IntKind.i64.wrap (s * t) = q := by rw [IntKind.wrap_i64, ← hq]; omega
  rw [← hq] at HX HS
  have HQ := Lib.hid hq
  have HNN := Lib.hid hN
  have HP0 := Lib.hid (ByW.start w #[.int .i64 s, .slice A ds.length c] #[.int .i64 t, .slice B es.length d] N)
  have hmk := run_make_row' (P := Try.prog) 60 3 (.int .i64 0) 8 Try.underlying60 (by kernel_rfl) rfl .i64 .i64 N (by omega) (by omega)
  clear hr hr' hn hn' hlx hly s1 s2 hq hN
  go_enter Try.func109, Try.ntmps109
  go_wp2
  clear hmk
  go_loopg [6] ds.length (fun kq v6 w' => ∃ (i : Nat) (out : List Int), i ≤ ds.length ∧ kq = ds.length - i ∧ v6 = .int .i64 i ∧ Aside (valD out = prodTo ds es i 0 ∧ Digs out ∧ out.length = N) ∧ ByW w w' #[.int .i64 s, .slice A ds.length c] #[.int .i64 t, .slice B es.length d] out)
  case atStart => exact ⟨0, List.replicate N 0, by omega, by omega, rfl, ⟨by rw [valD_zeros, prodTo_zero], digs_zeros N, List.length_replicate⟩, HP0.out⟩
  case round =>
    obtain ⟨i, out, hi, rfl, rfl, HI, hP⟩ := hrel
    clear HP0
    have cc := hP.bx.cells
    obtain ⟨c00, c01, c10, c11⟩ := cc
    by_cases hlt : i < ds.length
    · obtain ⟨x1, hx1⟩ : ∃ x, x = ds.getD i 0 := ⟨_, rfl⟩
      have HX1 := Lib.hid hx1
      have hxb := DA.out.getD i
      rw [← hx1] at hxb
      obtain ⟨hxb0, hxb1⟩ := hxb
      have hi0 : (0 : Int) ≤ (i : Int) := by omega
      have hi1 : (i : Int) < (ds.length : Int) := by omega
      clear hx1
      go_wp2
      obtain ⟨wo, rfl⟩ : ∃ wo : World, wo = wr := ⟨_, rfl⟩
      go_loopg [7] es.length (fun kq v7 w' => ∃ (k : Nat) (out : List Int), k ≤ es.length ∧ kq = es.length - k ∧ v7 = .int .i64 k ∧ Aside (valD out = prodTo ds es i k ∧ Digs out ∧ out.length = N) ∧ ByW w w' #[.int .i64 s, .slice A ds.length c] #[.int .i64 t, .slice B es.length d] out)
      case atStart => exact ⟨0, out, by omega, by omega, rfl, HI.out, hP⟩
      case round =>
        clear HI hP c00 c01 c10 c11
        obtain ⟨k, out, hk, rfl, rfl, HI, hP⟩ := hrel
        have cc := hP.bx.cells
        obtain ⟨c00, c01, c10, c11⟩ := cc
        by_cases hlt2 : k < es.length
        · obtain ⟨y1, hy1⟩ : ∃ x, x = es.getD k 0 := ⟨_, rfl⟩
          have hyb := DB.out.getD k
          rw [← hy1] at hyb
          obtain ⟨hyb0, hyb1⟩ := hyb
          obtain ⟨p, hp⟩ : ∃ p, p = i + k := ⟨_, rfl⟩
          have hpN : p + 1 < N := by omega
          have hpi : (i : Int) + (k : Int) = (p : Int) := by omega
          obtain ⟨o1, ho1⟩ : ∃ o, o = out.getD p 0 := ⟨_, rfl⟩
          obtain ⟨q1, hq1'⟩ : ∃ q, q = x1 * y1 := ⟨_, rfl⟩
          obtain ⟨n, hn⟩ : ∃ n, n = o1 + q1 := ⟨_, rfl⟩
          have hbeg := CarryI.begin_ DA.out DB.out HI.out.2.1 HI.out.2.2 HI.out.1 (show i + k < N by omega) (n := n) (by rw [hn, ho1, hq1', HX1.out, hy1, hp])
          rw [← hp] at hbeg
          obtain ⟨hbeg, n0, n1⟩ := hbeg
          have HBG := Lib.hid hbeg
          have hqb : 0 ≤ q1 ∧ q1 ≤ 998001 := by
            rw [hq1']
            exact ⟨Int.mul_nonneg hxb0 hyb0, by have h1 : x1 * y1 ≤ 999 * y1 := Int.mul_le_mul_of_nonneg_right (by omega) hyb0; omega⟩
          obtain ⟨ad, rfl, hbl, hcl⟩ := ((HA.out.below hP.bx.bel).r).int_at hlt
          obtain ⟨bd, rfl, hbl2, hcl2⟩ := ((HB.out.below hP.bx.bel).r).int_at hlt2
          rw [← HX1.out] at hcl
          rw [← hy1] at hcl2
          have hcl3 := hP.b3.int (k := p) (by rw [HI.out.2.2]; omega)
          rw [← ho1] at hcl3
          have fz3 := hP.b3.frozen p
          have ob := HI.out.2.1.getD p
          rw [← ho1] at ob
          obtain ⟨ob0, ob1⟩ := ob
          have w1' : IntKind.i64.wrap (x1 * y1) = q1 := by rw [← hq1', IntKind.wrap_i64]; omega
          have w2' : IntKind.i64.wrap (p : Int) = p := by rw [IntKind.wrap_i64]; omega
          have w3' : IntKind.i64.wrap (o1 + q1) = n := by rw [← hn, IntKind.wrap_i64]; omega
          have hk0 : (0 : Int) ≤ (k : Int) := by omega
          have hk1 : (k : Int) < (es.length : Int) := by omega
          have hp0 : (0 : Int) ≤ (p : Int) := by omega
          have hp1 : (p : Int) < (N : Int) := by omega
          have HL := Lib.hid HI.out.2.2
          clear hq1' hn ho1 hy1 hp HI hbeg
          go_wp2
          go_quiet (fail)
          clear w1' w3'
          go_wp2
          have hP2 := (hP.drewN nq).set_ p (n % 1000)
          have ov0 : 0 ≤ n / 1000 ∧ n / 1000 ≤ 999 := by omega
          obtain ⟨ov0, ov1⟩ := ov0
          have HP2 := Lib.hid hP2
          clear hP hP2 c00 c01 c10 c11 hcl hcl2 hcl3 fz3
          obtain ⟨wi, rfl⟩ : ∃ wi : World, wi = wr := ⟨_, rfl⟩
          go_loopg [9, 10] (N - p) (fun kq v9 v10 w' => ∃ (j : Nat) (over : Int) (out : List Int), j ≤ N ∧ kq = N + 1 - j ∧ v9 = .int .i64 j ∧ v10 = .int .i64 over ∧ 0 ≤ over ∧ over ≤ 999 ∧ Aside (CarryI N (prodTo ds es i (k + 1)) j over out) ∧ ByW w w' #[.int .i64 s, .slice (some ad) ds.length c] #[.int .i64 t, .slice (some bd) es.length d] out)
          case atStart => exact ⟨p + 1, n / 1000, _, by omega, by omega, by go_num, rfl, ov0, ov1, HBG.out, HP2.out⟩
          case round =>
            clear HP2 HBG HL
            obtain ⟨j, over, out, hj, rfl, rfl, rfl, v0, v1, HI, hP⟩ := hrel
            by_cases hov : 0 < over
            · have hroom := HI.out.room (prodTo_lt DA.out DB.out i (k + 1)) hov
              obtain ⟨o2, ho2⟩ : ∃ o, o = out.getD j 0 := ⟨_, rfl⟩
              obtain ⟨m, hm⟩ : ∃ m, m = o2 + over := ⟨_, rfl⟩
              have hst := HI.out.step (show j < N by omega) (m := m) (by rw [hm, ho2])
              obtain ⟨hst, m0, m1⟩ := hst
              have HST := Lib.hid hst
              have hcl3 := hP.b3.int (k := j) (by rw [HI.out.len]; omega)
              rw [← ho2] at hcl3
              have fz3 := hP.b3.frozen j
              have ob := HI.out.digs.getD j
              rw [← ho2] at ob
              obtain ⟨ob0, ob1⟩ := ob
              have hm' : o2 + over = m := hm.symm
              have hj0 : (0 : Int) ≤ (j : Int) := by omega
              have hj1 : (j : Int) < (N : Int) := by omega
              clear hm ho2 HI hst
              go_wp2
              have hP2 := hP.set_ j (m % 1000)
              go_roundg (N + 1 - (j + 1))
              case measure => omega
              case rel => exact ⟨j + 1, m / 1000, _, by omega, rfl, by go_num, rfl, by omega, by omega, HST.out, hP2⟩
            · obtain rfl : over = 0 := by omega
              have he := HI.out.end_
              go_wp2
              go_roundg (es.length - (k + 1))
              case measure => omega
              case rel => exact ⟨k + 1, out, by omega, rfl, by go_num, ⟨he.2.2, he.1, he.2.1⟩, hP⟩
        · obtain rfl : k = es.length := by omega
          go_wp2
          go_roundg (ds.length - (i + 1))
          case measure => omega
          case rel => exact ⟨i + 1, out, by omega, rfl, by go_num, ⟨by rw [HI.out.1, prodTo_i], HI.out.2⟩, hP⟩
    · obtain rfl : i = ds.length := by omega
      have hv := HI.out.1
      rw [prodTo_done] at hv
      have hd := HI.out.2.1
      have hl := HI.out.2.2
      have hown := hP.b3.own (base := w.heap.size) (by omega) (by unfold maxLen; omega)
      have hmade : Hid (Calls Try.prog 92 #[.int .i64 q, .slice (some ⟨w.heap.size + 3, 0, none⟩) out.length out.length] _ _) := made_all q _ out.length out wr (by rw [hv]; exact HS.out) (RI.of_own hown) hd (Nat.le_refl _) (by omega)
      rw [hv, HX.out, hl] at hmade
      have hb2 := Lib.hid hP.bx.b2
      have hbel := Lib.hid hP.bx.bel
      clear HI hv hd hown
      go_wp2_with (go_at_call 92; go_must (refine hmade.out.mono ?_); rintro e w2 ⟨v, rfl, ⟨s', A', c', ds', rfl, R', N'⟩, hb⟩; have B2 := hb2.out.below hb hb2.out.lt; have fz0 := B2.frozen 0; have fz1 := B2.frozen 1; have cb0 := B2.cells2.1; have cb1 := B2.cells2.2)
      exact ret102 rfl rfl rfl (B2.set2 _ _) ⟨_, rfl, Ex.setBlk ⟨s', A', c', ds', rfl, R', N'⟩ B2 (p := ⟨w.heap.size + 2, 0, none⟩) rfl rfl _ _, ((below_then hbel.out hb hbel.out.size).setCell (p := ⟨w.heap.size + 2, 0, none⟩) (by simp) _).setCell (p := ⟨w.heap.size + 2, 1, none⟩) (by simp) _⟩
end Go.Proofs.Ytophfbnajelknaa

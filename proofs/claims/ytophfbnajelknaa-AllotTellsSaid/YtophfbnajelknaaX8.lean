import Derived.Test.YtophfbnajelknaaX7
/- Reference R01: Plus, of two signs. -/
namespace Go.Proofs.Ytophfbnajelknaa
open Go.RowKit

/-- Sign and digits, where the number is not 0. -/
theorem Num.cases {s : Int} {ds : List Int} {z : Int} (h : Num s ds z) (hz : z ≠ 0) : (s = 1 ∧ z = valD ds ∨ s = -1 ∧ z = -valD ds) ∧ 0 < valD ds := by
  rcases h.kind with ⟨e, _⟩ | ⟨hs, h0, _⟩
  · exact absurd (h.zero_iff.1 e) hz
  · have hp := h.pos h0
    have hv := h.val
    refine ⟨?_, hp⟩
    rcases hs with rfl | rfl
    · exact .inl ⟨rfl, by omega⟩
    · exact .inr ⟨rfl, by omega⟩
/-- Fewer digits where the number is no greater. -/
theorem Num.len_le {s t : Int} {ds es : List Int} {x y : Int} (h : Num s ds x) (h' : Num t es y) (hy : y ≠ 0) (hle : valD es ≤ valD ds) : es.length ≤ ds.length := by
  have h1 := valD_lt h.digs
  have hp := (h'.cases hy).2
  rcases h'.kind with ⟨_, e⟩ | ⟨_, h0, hl⟩
  · subst e; simp
  · have h2 := valD_ge h'.digs h0 hl
    have h3 : (1000 : Int) ^ (es.length - 1) < 1000 ^ ds.length := by omega
    have h4 : (1000 : Nat) ^ (es.length - 1) < 1000 ^ ds.length := Int.ofNat_lt.1 (by rw [Int.natCast_pow, Int.natCast_pow]; exact h3)
    have := (Nat.pow_lt_pow_iff_right (by omega : 1 < 1000)).1 h4
    omega

set_option maxHeartbeats 8000000 in
set_option maxRecDepth 100000 in
theorem plus_sub (v u : Value) (x y : Int) (w : World) (h : Ex w v x) (h' : Ex w u y) (hx : x ≠ 0) (hy : y ≠ 0) (hxy : x.sign ≠ y.sign) (hle : y.natAbs ≤ x.natAbs) (hlx : Small 100 x) :
    Calls Try.prog 63 #[v, u] w fun e w' => ∃ v', e = .returned v' ∧ Ex w' v' (x + y) ∧ Below w.heap.size w w' := by
  obtain ⟨s, A, c, ds, rfl, hr, hn⟩ := h
  obtain ⟨t, B, d, es, rfl, hr', hn'⟩ := h'
  have hl := hn.size hlx
  have hst : (s == t) = false := by rw [beq_eq_false_iff_ne, hn.sign, hn'.sign]; exact hxy
  have hs1 : (s == 0) = false := by rw [beq_eq_false_iff_ne]; exact fun e => hx (hn.zero_iff.1 e)
  have ht1 : (t == 0) = false := by rw [beq_eq_false_iff_ne]; exact fun e => hy (hn'.zero_iff.1 e)
  obtain ⟨cx, px⟩ := hn.cases hx
  obtain ⟨cy, py⟩ := hn'.cases hy
  have hv : valD es ≤ valD ds := by omega
  have hll := hn.len_le hn' hy hv
  have hs : s = 1 ∨ s = -1 := by omega
  have hsum : x + y = s * (valD ds - valD es) := by
    have : s ≠ t := by rw [beq_eq_false_iff_ne] at hst; exact hst
    rcases cx with ⟨rfl, e1⟩ | ⟨rfl, e1⟩ <;> rcases cy with ⟨rfl, e2⟩ | ⟨rfl, e2⟩ <;> omega
  obtain ⟨z, hz⟩ : ∃ z, z = x + y := ⟨_, rfl⟩
  rw [← hz]
  have HZ : Hid (z = s * (valD ds - valD es)) := hz.trans hsum
  have HS := Lib.hid hs
  have HA := Lib.hid hr
  have HB := Lib.hid hr'
  have DA := Lib.hid hn.digs
  have DB := Lib.hid hn'.digs
  have HV := Lib.hid hv
  clear hr hr' hn hn' hlx hz hx hy hxy hs cx px cy py hv hsum hle
  have HLE : Hid (∀ W, Below w.heap.size w W → Calls Try.prog 94 #[.slice A ds.length c, .slice B es.length d] W fun e w' => e = .returned (.bool false) ∧ ∃ n, w' = W.drewN n) := by
    intro W hb
    have := least_any A c ds B d es W (HA.out.below hb).r (HB.out.below hb).r DA.out DB.out (by omega) (by omega)
    rw [decide_eq_false (by have := HV.out; omega)] at this
    exact this
  obtain ⟨i0, hi, hz0, hz1, hz2⟩ := info_parts Try.info3
  go_enter Try.func63, Try.ntmps63
  have HP0 := Lib.hid (PlusW.start w #[.int .i64 s, .slice A ds.length c] #[.int .i64 t, .slice B es.length d])
  go_wp2_with (go_at_call 94; go_must (refine (HLE.out _ ?_).mono ?_); exact HP0.out.bel; rintro e w1 ⟨rfl, m0, rfl⟩)
  go_loopg [5, 9, 10] ds.length (fun kq v5 v9 v10 w' => ∃ (k : Nat) (bo : Int) (out : List Int) (vo : Value), k ≤ ds.length ∧ kq = ds.length - k ∧ v10 = .int .i64 k ∧ v9 = .int .i64 bo ∧ vo = v5 ∧ Aside (SubI ds es k bo out) ∧ 0 ≤ bo ∧ bo ≤ 1 ∧ out.length = k ∧ PlusW w w' #[.int .i64 s, .slice A ds.length c] #[.int .i64 t, .slice B es.length d] vo out)
  case atStart => exact ⟨0, 0, [], _, by omega, by omega, rfl, rfl, rfl, SubI.start _ _, by omega, by omega, rfl, HP0.out.drewN _⟩
  case round =>
    obtain ⟨k, bo, out, vo, hk, rfl, rfl, rfl, rfl, HI, o0, o1, hlen, hP⟩ := hrel
    have c00 := hP.b0.cell 0
    have c01 := hP.b0.cell 1
    have c10 := hP.b1.cell 0
    have c11 := hP.b1.cell 1
    have c20 := hP.b2.cell 0
    have c21 := hP.b2.cell 1
    have f20 := hP.b2.frozen 0
    have f21 := hP.b2.frozen 1
    simp at c00 c01 c10 c11 c20 c21
    have HL := Lib.hid hlen
    clear hlen
    by_cases hlt : k < ds.length
    · obtain ⟨ad, rfl, hbl, hcl⟩ := (HA.out.below hP.bel).r.int_at hlt
      obtain ⟨x1, hx1⟩ : ∃ x, x = ds.getD k 0 := ⟨_, rfl⟩
      obtain ⟨y1, hy1⟩ : ∃ x, x = es.getD k 0 := ⟨_, rfl⟩
      have hst := HI.step DA.out DB.out (n := 1000 + x1 - y1 - bo) (by rw [hx1, hy1])
      have CB : Hid (∀ W, Below w.heap.size w W → Calls Try.prog 93 #[.slice B es.length d, .int .i64 k] W fun e w' => e = .returned (.int .i64 y1) ∧ W = w') := by
        intro W hb; rw [hy1]; exact at_any B d es k W (HB.out.below hb).r
      have b1 := DA.out.getD k
      have b2 := DB.out.getD k
      rw [← hx1] at b1 hcl
      rw [← hy1] at b2
      obtain ⟨b11, b12⟩ := b1
      obtain ⟨b21, b22⟩ := b2
      have HST := Lib.hid hst
      have hk0 : (0 : Int) ≤ (k : Int) := by omega
      have hk1 : (k : Int) < (ds.length : Int) := by omega
      have hsz : w.heap.size + 3 ≤ wr.heap.size := hP.b2.lt
      clear hx1 hy1 hst HI
      go_wp2
      go_quiet ((go_at_call_of 93 (Value.slice B es.length d); exact quiet_same (CB.out _ (below_drewN hP.bel))))
      go_wp2_with (at_builtin; go_must (refine wpl_append1 rfl _ _ 60 rfl (w.heap.size + 3) 3 i0 (.int .i64 0) 1 8 Try.underlying60 hi hz0 hz1 hz2 rfl (by decide) _ _ _ (by rfl) (hP.drewN nq).own #[.int .i64 ((1000 + x1 - y1 - bo) % 1000)] (by rfl) (by rfl) (by simp [Value.oneCell']) (by have := HL.out; unfold maxLen; omega) (by have := HL.out; omega) hsz ?_); intro g cap w3 hown3 hg3 hgg)
      have hP3 : PlusW w w3 #[.int .i64 s, .slice (some ad) ds.length c] #[.int .i64 t, .slice B es.length d] (.slice (some ⟨g, 0, none⟩) (out.length + 1) cap) (out ++ [(1000 + x1 - y1 - bo) % 1000]) := (hP.drewN nq).grown hg3 (by rw [List.length_append, ints_append]; exact hown3)
      go_roundg (ds.length - (k + 1))
      case measure => omega
      case rel => exact ⟨k + 1, 1 - (1000 + x1 - y1 - bo) / 1000, _, _, by omega, rfl, by go_num, rfl, rfl, HST.out.1, HST.out.1.borrow_.1, HST.out.1.borrow_.2, HST.out.1.len, hP3⟩
    · obtain rfl : k = ds.length := by omega
      have hv := HI.done HV.out hll
      have hdg := HI.digs
      obtain ⟨Aa, ca, rfl, hca, _⟩ := own_ints hP.own
      have hmade : Hid (Calls Try.prog 92 #[.int .i64 s, .slice Aa out.length ca] _ _) := made_any s Aa ca out wr HS.out (RI.of_own hP.own) hdg hca (by have := HL.out; omega)
      have hz2' : s * valD out = z := by rw [hv, ← HZ.out]
      rw [hz2'] at hmade
      clear HI hv hdg hz2'
      have hb2 := Lib.hid hP.b2
      have hbel := Lib.hid hP.bel
      clear hP
      go_wp2_with (go_at_call 92; go_must (refine hmade.out.mono ?_); rintro e w2 ⟨v, rfl, ⟨s', A', c', ds', rfl, R', N'⟩, hb⟩; have B2 := hb2.out.below hb hb2.out.lt; have fz0 := B2.frozen 0; have fz1 := B2.frozen 1; have cb0 := B2.cell 0; have cb1 := B2.cell 1; simp at cb0 cb1)
      refine ret102 rfl rfl rfl ((B2.set_ 0 (.int .i64 s')).set_ 1 (.slice A' ds'.length c')) ⟨_, rfl, ?_, ?_⟩
      · exact Ex.setBlk ⟨s', A', c', ds', rfl, R', N'⟩ B2 rfl rfl _ _
      · exact ((below_then hbel.out hb hbel.out.size).setCell (p := ⟨w.heap.size + 2, 0, none⟩) (by simp) _).setCell (p := ⟨w.heap.size + 2, 1, none⟩) (by simp) _
end Go.Proofs.Ytophfbnajelknaa

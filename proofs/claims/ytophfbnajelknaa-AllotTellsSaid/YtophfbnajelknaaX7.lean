import Derived.Test.YtophfbnajelknaaX6
/- Reference R01: Plus, of the same sign. -/
namespace Go.Proofs.Ytophfbnajelknaa
open Go.RowKit

/-- A number of k digits at most. -/
def Small (k : Nat) (z : Int) : Prop := -(1000 ^ k : Int) < z ∧ z < 1000 ^ k
theorem Num.size {s : Int} {ds : List Int} {z : Int} {k : Nat} (h : Num s ds z) (hz : Small k z) : ds.length ≤ k := h.len hz
theorem AddI.done {a b : List Int} {m : Nat} (ha : Digs a) (hb : Digs b) (h1 : a.length ≤ m) (h2 : b.length ≤ m) {over : Int} {out : List Int} (h : AddI a b (m + 1) over out) : valD out = valD a + valD b := by
  have hv := h.val
  have a1 := valD_take_lt ha m
  have b1 := valD_take_lt hb m
  rw [List.take_of_length_le (by omega)] at hv a1
  rw [List.take_of_length_le (by omega)] at hv b1
  have h3 := h.over_
  have h4 := valD_nonneg h.digs
  have h5 := pow1000_pos m
  rw [Int.pow_succ] at hv
  have h6 : over = 0 ∨ over = 1 := by omega
  rcases h6 with rfl | rfl
  · omega
  · omega

/-- Plus, in between: the boxes of both, the result's variable, the digits so far. -/
structure PlusW (w w' : World) (p q : Array Value) (vo : Value) (out : List Int) : Prop where
  own : w'.ownsRow (w.heap.size + 3) 3 1 vo out.length (ints out)
  b0 : Blk w' w.heap.size 102 p
  b1 : Blk w' (w.heap.size + 1) 102 q
  b2 : Blk w' (w.heap.size + 2) 102 #[.int .i64 0, .slice none 0 0]
  bel : Below w.heap.size w w'
theorem PlusW.start (w : World) (p q : Array Value) : PlusW w ((((w.alloc (.cells p 102)).alloc (.cells q 102)).alloc (.cells #[.int .i64 0, .slice none 0 0] 102)).alloc (.cells #[] 3)) p q (.slice (some ⟨w.heap.size + 1 + 1 + 1, 0, none⟩) 0 0) [] where
  own := by
    have := own_new (W := ((w.alloc (.cells p 102)).alloc (.cells q 102)).alloc (.cells #[.int .i64 0, .slice none 0 0] 102)) (e := 3) (size := 1) #[] 0 (by simp) (by unfold maxLen; omega)
    simp at this
    exact this
  b0 := (((Blk.new w 102 p).alloc _).alloc _).alloc _
  b1 := ((Blk.newg (W := w.alloc (.cells p 102)) (t := 102) (cs := q) (by simp)).alloc _).alloc _
  b2 := (Blk.newg (W := (w.alloc (.cells p 102)).alloc (.cells q 102)) (t := 102) (by simp)).alloc _
  bel := ((((Below.refl w.heap.size w).alloc (Nat.le_refl _) _).alloc (by simp) _).alloc (by simp; omega) _).alloc (by simp; omega) _
theorem PlusW.grown {w w' w1 : World} {p q : Array Value} {vo v1 : Value} {out out1 : List Int} (h : PlusW w w' p q vo out) (hg : w'.grownBy w1 vo.ownBlock) (ho : w1.ownsRow (w.heap.size + 3) 3 1 v1 out1.length (ints out1)) : PlusW w w1 p q v1 out1 where
  own := ho
  b0 := h.b0.grown hg (fun e => own_blk_ne h.own h.b0 (by decide) e.symm)
  b1 := h.b1.grown hg (fun e => own_blk_ne h.own h.b1 (by decide) e.symm)
  b2 := h.b2.grown hg (fun e => own_blk_ne h.own h.b2 (by decide) e.symm)
  bel := h.bel.grown hg h.bel.size (fun j hj => by have := own_ge h.own hj; omega)
theorem PlusW.drewN {w w' : World} {p q : Array Value} {vo : Value} {out : List Int} (h : PlusW w w' p q vo out) (n : Nat) : PlusW w (w'.drewN n) p q vo out := ⟨h.own, h.b0, h.b1, h.b2, below_drewN h.bel⟩

theorem quiet_same {P : Program} {f : FuncId} {args : Array Value} {w : World} {n : Nat} {v : Value} (h : Calls P f args (w.drewN n) fun e w' => e = .returned v ∧ w.drewN n = w') :
    Calls P f args (w.drewN n) fun e w'' => e = .returned v ∧ ∃ m, w'' = w.drewN m := h.mono fun _ _ ⟨he, hm⟩ => ⟨he, n, hm.symm⟩

set_option maxHeartbeats 8000000 in
set_option maxRecDepth 100000 in
theorem plus_add (v u : Value) (x y : Int) (w : World) (h : Ex w v x) (h' : Ex w u y) (hx : x ≠ 0) (hxy : x.sign = y.sign) (hlx : Small 100 x) (hly : Small 100 y) :
    Calls Try.prog 63 #[v, u] w fun e w' => ∃ v', e = .returned v' ∧ Ex w' v' (x + y) ∧ Below w.heap.size w w' := by
  obtain ⟨s, A, c, ds, rfl, hr, hn⟩ := h
  obtain ⟨t, B, d, es, rfl, hr', hn'⟩ := h'
  have hl := hn.size hlx
  have hl' := hn'.size hly
  have hst : s = t := by rw [hn.sign, hn'.sign, hxy]
  subst hst
  have hs1 : (s == 0) = false := by rw [beq_eq_false_iff_ne]; exact fun e => hx (hn.zero_iff.1 e)
  have hs : s = 1 ∨ s = -1 := by
    rcases hn.sign_small with e | e
    · rw [e] at hs1; cases hs1
    · exact e
  obtain ⟨z, hz⟩ : ∃ z, z = x + y := ⟨_, rfl⟩
  rw [← hz]
  have HZ : Hid (z = s * (valD ds + valD es)) := by show z = _; rw [hz, Int.mul_add, hn.val, hn'.val]
  have HS := Lib.hid hs
  have HA := Lib.hid hr
  have HB := Lib.hid hr'
  have DA := Lib.hid hn.digs
  have DB := Lib.hid hn'.digs
  clear hr hr' hn hn' hlx hly hz hx hxy hs
  obtain ⟨i0, hi, hz0, hz1, hz2⟩ := info_parts Try.info3
  rcases Nat.lt_or_ge ds.length es.length with hle | hle
  case' inl => obtain ⟨M, hM⟩ : ∃ M, M = es.length := ⟨_, rfl⟩
  case' inr => obtain ⟨M, hM⟩ : ∃ M, M = ds.length := ⟨_, rfl⟩
  all_goals
    have hM1 : ds.length ≤ M ∧ es.length ≤ M ∧ M ≤ 100 := by omega
    obtain ⟨m1, m2, m3⟩ := hM1
    have HM := Lib.hid hM
    clear hM
    go_enter Try.func63, Try.ntmps63
    go_wp2
    go_loopg [5, 6, 7] (M + 1) (fun kq v5 v6 v7 w' => ∃ (k : Nat) (over : Int) (out : List Int) (vo : Value), k ≤ M + 1 ∧ kq = M + 1 - k ∧ v7 = .int .i64 k ∧ v6 = .int .i64 over ∧ vo = v5 ∧ Aside (AddI ds es k over out) ∧ 0 ≤ over ∧ over ≤ 1 ∧ out.length = k ∧ PlusW w w' #[.int .i64 s, .slice A ds.length c] #[.int .i64 s, .slice B es.length d] vo out)
    case atStart => exact ⟨0, 0, [], _, by omega, by omega, rfl, rfl, rfl, AddI.start _ _, by omega, by omega, rfl, PlusW.start _ _ _⟩
    case round =>
      obtain ⟨k, over, out, vo, hk, rfl, rfl, rfl, rfl, HI, o0, o1, hlen, hP⟩ := hrel
      have c00 := hP.b0.cell 0
      have c01 := hP.b0.cell 1
      have c10 := hP.b1.cell 0
      have c11 := hP.b1.cell 1
      have c20 := hP.b2.cell 0
      have c21 := hP.b2.cell 1
      have f20 := hP.b2.frozen 0
      have f21 := hP.b2.frozen 1
      simp at c00 c01 c10 c11 c20 c21
      have HL := Lib.hid hlen
      clear hlen
      by_cases hlt : k ≤ M
      · obtain ⟨x1, hx1⟩ : ∃ x, x = ds.getD k 0 := ⟨_, rfl⟩
        obtain ⟨y1, hy1⟩ : ∃ x, x = es.getD k 0 := ⟨_, rfl⟩
        have hst := HI.step DA.out DB.out (n := x1 + y1 + over) (by rw [hx1, hy1])
        have CA : Hid (∀ W, Below w.heap.size w W → Calls Try.prog 93 #[.slice A ds.length c, .int .i64 k] W fun e w' => e = .returned (.int .i64 x1) ∧ W = w') := by
          intro W hb; rw [hx1]; exact at_any A c ds k W (HA.out.below hb).r
        have CB : Hid (∀ W, Below w.heap.size w W → Calls Try.prog 93 #[.slice B es.length d, .int .i64 k] W fun e w' => e = .returned (.int .i64 y1) ∧ W = w') := by
          intro W hb; rw [hy1]; exact at_any B d es k W (HB.out.below hb).r
        have b1 := DA.out.getD k
        have b2 := DB.out.getD k
        rw [← hx1] at b1
        rw [← hy1] at b2
        obtain ⟨b11, b12⟩ := b1
        obtain ⟨b21, b22⟩ := b2
        have HST := Lib.hid hst
        first
          | (have hq : k ≤ es.length := by have := HM.out; omega)
          | (have hq : k ≤ ds.length := by have := HM.out; omega)
        have hsz : w.heap.size + 3 ≤ wr.heap.size := hP.b2.lt
        clear hx1 hy1 hst HI
        go_wp2
        go_quiet (first | (go_at_call_of 93 (Value.slice A ds.length c); exact quiet_same (CA.out _ (below_drewN hP.bel))) | (go_at_call_of 93 (Value.slice B es.length d); exact quiet_same (CB.out _ (below_drewN hP.bel))))
        go_wp2_with (at_builtin; go_must (refine wpl_append1 rfl _ _ 60 rfl (w.heap.size + 3) 3 i0 (.int .i64 0) 1 8 Try.underlying60 hi hz0 hz1 hz2 rfl (by decide) _ _ _ (by rfl) (hP.drewN nq).own #[.int .i64 ((x1 + y1 + over) % 1000)] (by rfl) (by rfl) (by simp [Value.oneCell']) (by have := HL.out; unfold maxLen; omega) (by have := HL.out; omega) hsz ?_); intro g cap w3 hown3 hg3 hgg)
        have hP3 : PlusW w w3 #[.int .i64 s, .slice A ds.length c] #[.int .i64 s, .slice B es.length d] (.slice (some ⟨g, 0, none⟩) (out.length + 1) cap) (out ++ [(x1 + y1 + over) % 1000]) := (hP.drewN nq).grown hg3 (by rw [List.length_append, ints_append]; exact hown3)
        go_roundg (M + 1 - (k + 1))
        case measure => omega
        case rel => exact ⟨k + 1, (x1 + y1 + over) / 1000, _, _, by omega, rfl, by go_num, rfl, rfl, HST.out.1, HST.out.1.over_.1, HST.out.1.over_.2, HST.out.1.len, hP3⟩
      · obtain rfl : k = M + 1 := by omega
        have hv := HI.done DA.out DB.out m1 m2
        have hdg := HI.digs
        first
          | (have hq : es.length < M + 1 := by have := HM.out; omega)
          | (have hq : ds.length < M + 1 := by have := HM.out; omega)
        obtain ⟨Aa, ca, rfl, hca, _⟩ := own_ints hP.own
        have hmade : Hid (Calls Try.prog 92 #[.int .i64 s, .slice Aa out.length ca] _ _) := made_any s Aa ca out wr HS.out (RI.of_own hP.own) hdg hca (by have := HL.out; omega)
        have hz2' : s * valD out = z := by rw [hv, ← HZ.out]
        rw [hz2'] at hmade
        clear HI hv hdg hz2'
        have hb2 := Lib.hid hP.b2
        have hbel := Lib.hid hP.bel
        clear hP
        go_wp2_with (go_at_call 92; go_must (refine hmade.out.mono ?_); rintro e w2 ⟨v, rfl, ⟨s', A', c', ds', rfl, R', N'⟩, hb⟩; have B2 := hb2.out.below hb hb2.out.lt; have fz0 := B2.frozen 0; have fz1 := B2.frozen 1; have cb0 := B2.cell 0; have cb1 := B2.cell 1; simp at cb0 cb1)
        refine ret102 rfl rfl rfl ((B2.set_ 0 (.int .i64 s')).set_ 1 (.slice A' ds'.length c')) ⟨_, rfl, ?_, ?_⟩
        · exact Ex.setBlk ⟨s', A', c', ds', rfl, R', N'⟩ B2 rfl rfl _ _
        · exact ((below_then hbel.out hb hbel.out.size).setCell (p := ⟨w.heap.size + 2, 0, none⟩) (by simp) _).setCell (p := ⟨w.heap.size + 2, 1, none⟩) (by simp) _
end Go.Proofs.Ytophfbnajelknaa

import Derived.Test.YtophfbnajelknaaX3
/- Reference R01: Of, below 0. -/
namespace Go.Proofs.Ytophfbnajelknaa
open Go.RowKit

/-- A rest at the operation, whatever the signs. -/
theorem wpl_rem {P : Program} {ops : Array Oper} {rest : List Oper} {o : Oper} {a : Act} {Q : Exit → Act → World → Prop} {W : World} (hg : o.guard = none) (x y : Operand) (t t' : TypeId) (hop : o.op = .binOp .rem t x y t')
    (p q r : Int) (hx : a.eval x = .int .i64 p) (hy : a.eval y = .int .i64 q) (hq : q ≠ 0) (hr : p.tmod q = r) (h : wpList P ops Q rest (a.put o.dst (.int .i64 r)) W) : wpList P ops Q (o :: rest) a W := by
  refine wpList_plain hg fun K hK => ?_
  unfold Oper.wp
  simp only [execOp, hop, hx, hy, binOp_rem, Op.intDiv, if_neg hq, hr, Sem.run_pure, Sem.run_bind]
  exact hK _ _ h
/-- A whole part at the operation. -/
theorem wpl_quo {P : Program} {ops : Array Oper} {rest : List Oper} {o : Oper} {a : Act} {Q : Exit → Act → World → Prop} {W : World} (hg : o.guard = none) (x y : Operand) (t t' : TypeId) (hop : o.op = .binOp .quo t x y t')
    (p q r : Int) (hx : a.eval x = .int .i64 p) (hy : a.eval y = .int .i64 q) (hq : q ≠ 0) (hr : IntKind.i64.wrap (p.tdiv q) = r) (h : wpList P ops Q rest (a.put o.dst (.int .i64 r)) W) : wpList P ops Q (o :: rest) a W := by
  refine wpList_plain hg fun K hK => ?_
  unfold Oper.wp
  simp only [execOp, hop, hx, hy, binOp_quo, Op.intDiv, if_neg hq, hr, Sem.run_pure, Sem.run_bind]
  exact hK _ _ h
set_option maxHeartbeats 4000000 in
set_option maxRecDepth 100000 in
theorem of_neg (n : Int) (w : World) (hn : inI n) (h0 : n < 0) :
    Calls Try.prog 61 #[.int .i64 n] w fun e w' => ∃ v, e = .returned v ∧ Ex w' v n ∧ Below w.heap.size w w' := by
  obtain ⟨i0, hi, hz0, hz1, hz2⟩ := info_parts Try.info3
  unfold inI lowI topI at hn
  obtain ⟨n1, n2⟩ := hn
  have HN : Hid (-n ≤ 10 ^ 19) := by show -n ≤ _; omega
  have hown0 : ((w.alloc (.cells #[.int .i64 0, .slice none 0 0] 102)).alloc (.cells #[] 3)).ownsRow (w.heap.size + 1) 3 1 (.slice (some ⟨w.heap.size + 1, 0, none⟩) 0 0) 0 [] := by
    have := own_new (W := w.alloc (.cells #[.int .i64 0, .slice none 0 0] 102)) (e := 3) (size := 1) #[] 0 (by simp) (by unfold maxLen; omega)
    simpa using this
  have hblk0 : Blk ((w.alloc (.cells #[.int .i64 0, .slice none 0 0] 102)).alloc (.cells #[] 3)) w.heap.size 102 #[.int .i64 0, .slice none 0 0] := (Blk.new w 102 #[.int .i64 0, .slice none 0 0]).alloc _
  have hbel0 : Below w.heap.size w ((w.alloc (.cells #[.int .i64 0, .slice none 0 0] 102)).alloc (.cells #[] 3)) := ((Below.refl w.heap.size w).alloc (Nat.le_refl _) _).alloc (by simp) _
  have H0 := Lib.hid (And.intro hown0 (And.intro hblk0 hbel0))
  clear hown0 hblk0 hbel0
  go_enter Try.func61, Try.ntmps61
  go_wp2
  go_loopg [3, 4, 5] 8 (fun kq v3 v4 v5 w' => ∃ (M s : Int) (ds : List Int) (vo : Value), kq = 8 - ds.length ∧ v5 = .int .i64 (-M) ∧ v3 = .int .i64 s ∧ vo = v4 ∧ Aside (((ds = [] ∧ s = 1) ∨ (ds ≠ [] ∧ s = -1)) ∧ OfI (-n) M ds) ∧ 0 ≤ M ∧ M ≤ -n ∧ w'.ownsRow (w.heap.size + 1) 3 1 vo ds.length (ints ds) ∧ Blk w' w.heap.size 102 #[.int .i64 0, .slice none 0 0] ∧ Below w.heap.size w w')
  case atStart =>
    obtain ⟨hown0, hblk0, hbel0⟩ := H0.out
    exact ⟨-n, 1, [], _, by simp, by rw [Int.neg_neg], rfl, rfl, ⟨.inl ⟨rfl, rfl⟩, OfI.start (by omega)⟩, by omega, by omega, hown0, hblk0, hbel0⟩
  case round =>
    obtain ⟨M, s, ds, vo, rfl, rfl, rfl, rfl, HI, m0, mn, hown, hblk, hbel⟩ := hrel
    by_cases hm : M = 0
    · subst hm
      have hval1 : -n = valD ds := by have := HI.2.val; rw [Int.mul_zero] at this; omega
      have hs : s = -1 := by
        rcases HI.1 with ⟨e, _⟩ | ⟨_, e⟩
        · rw [e] at hval1; simp [valD] at hval1; omega
        · exact e
      have hval : -1 * valD ds = n := by omega
      clear hval1
      have hdg := HI.2.digs
      have hln := HI.2.len
      obtain ⟨Aa, ca, rfl, hca, _⟩ := own_ints hown
      have hmade : Hid (Calls Try.prog 92 #[.int .i64 (-1), .slice Aa ds.length ca] _ _) := made_any (-1) Aa ca ds wr (.inr rfl) (RI.of_own hown) hdg hca (by omega)
      rw [hval] at hmade
      subst hs
      clear HI H0 hdg hval
      go_wp2_with (go_at_call 92; go_must (refine hmade.out.mono ?_); rintro e w2 ⟨v, rfl, ⟨s', A', c', ds', rfl, R', N'⟩, hb⟩; have B2 := hblk.below hb hblk.lt; have fz0 := B2.frozen 0; have fz1 := B2.frozen 1; have cb0 := B2.cell 0; have cb1 := B2.cell 1; simp at cb0 cb1)
      refine ret102 rfl rfl rfl ((B2.set_ 0 (.int .i64 s')).set_ 1 (.slice A' ds'.length c')) ⟨_, rfl, ?_, ?_⟩
      · exact Ex.setBlk ⟨s', A', c', ds', rfl, R', N'⟩ B2 rfl rfl _ _
      · exact ((below_then hbel hb hbel.size).setCell (p := ⟨w.heap.size, 0, none⟩) (Nat.le_refl _) _).setCell (p := ⟨w.heap.size, 1, none⟩) (Nat.le_refl _) _
    · have hl6 := HI.2.more HN.out (by omega)
      have hst := HI.2.step hl6
      have hHI := Lib.hid HI
      have HST := Lib.hid hst
      have hb1 : (-M != 0) = true := bne_iff_ne.2 (by omega)
      have hb3 : decide (-M < 0) = true := decide_eq_true (by omega)
      have hsz : w.heap.size + 1 ≤ wr.heap.size := hblk.lt
      clear HI hst H0
      obtain ⟨q, hq⟩ : ∃ q, q = -(M / 1000) := ⟨_, rfl⟩
      obtain ⟨r, hr⟩ : ∃ r, r = -(M % 1000) := ⟨_, rfl⟩
      have hr1 : Hid ((-M).tmod 1000 = r) := by show _ = _; rw [Int.neg_tmod, Int.tmod_eq_emod_of_nonneg (by omega), hr]
      have hq1 : Hid (IntKind.i64.wrap ((-M).tdiv 1000) = q) := by show _ = _; rw [Int.neg_tdiv, Int.tdiv_eq_ediv_of_nonneg (by omega), ← hq]; rw [IntKind.wrap_i64]; omega
      have r1 : -1000 < r ∧ r ≤ 0 := by omega
      obtain ⟨r1, r2⟩ := r1
      have HR := Lib.hid hr
      have HQ := Lib.hid hq
      clear hr hq
      by_cases hr0 : r < 0
      · have hd : decide (r < 0) = true := decide_eq_true hr0
        go_wp2_with (first | (with_reducible refine wpl_rem rfl _ _ _ _ rfl (-M) 1000 r rfl rfl (by omega) hr1.out ?_) | (with_reducible refine wpl_quo rfl _ _ _ _ rfl (-M) 1000 q rfl rfl (by omega) hq1.out ?_) | (at_builtin; go_must (refine wpl_append1 rfl _ _ 60 rfl (w.heap.size + 1) 3 i0 (.int .i64 0) 1 8 Try.underlying60 hi hz0 hz1 hz2 rfl (by decide) _ _ _ (by rfl) hown #[.int .i64 (-r)] (by rfl) (by rfl) (by simp [Value.oneCell']) (by unfold maxLen; omega) (by omega) hsz ?_); intro g cap w3 hown3 hg3 hgg))
        have hown4 : w3.ownsRow (w.heap.size + 1) 3 1 (.slice (some ⟨g, 0, none⟩) (ds.length + 1) cap) (ds ++ [-r]).length (ints (ds ++ [-r])) := by rw [List.length_append, ints_append]; exact hown3
        have e : -r = M % 1000 := by have := HR.out; omega
        rw [e] at hown4
        have hblk4 := hblk.grown hg3 (fun h => own_blk_ne hown hblk (by decide) h.symm)
        have hbel4 := hbel.grown hg3 hbel.size (fun j hj => by have := own_ge hown hj; omega)
        go_roundg (8 - (ds.length + 1))
        case measure => omega
        case rel => exact ⟨M / 1000, -1, ds ++ [M % 1000], _, by rw [List.length_append]; rfl, by rw [HQ.out], rfl, rfl, ⟨.inr ⟨by simp, rfl⟩, HST.out⟩, by omega, by omega, hown4, hblk4, hbel4⟩
      · have hrz : r = 0 := by omega
        subst hrz
        clear hr0
        go_wp2_with (first | (with_reducible refine wpl_rem rfl _ _ _ _ rfl (-M) 1000 0 rfl rfl (by omega) hr1.out ?_) | (with_reducible refine wpl_quo rfl _ _ _ _ rfl (-M) 1000 q rfl rfl (by omega) hq1.out ?_) | (at_builtin; go_must (refine wpl_append1 rfl _ _ 60 rfl (w.heap.size + 1) 3 i0 (.int .i64 0) 1 8 Try.underlying60 hi hz0 hz1 hz2 rfl (by decide) _ _ _ (by rfl) hown #[.int .i64 (0)] (by rfl) (by rfl) (by simp [Value.oneCell']) (by unfold maxLen; omega) (by omega) hsz ?_); intro g cap w3 hown3 hg3 hgg))
        have hown4 : w3.ownsRow (w.heap.size + 1) 3 1 (.slice (some ⟨g, 0, none⟩) (ds.length + 1) cap) (ds ++ [0]).length (ints (ds ++ [0])) := by rw [List.length_append, ints_append]; exact hown3
        have e : 0 = M % 1000 := by have := HR.out; omega
        rw [e] at hown4
        have hblk4 := hblk.grown hg3 (fun h => own_blk_ne hown hblk (by decide) h.symm)
        have hbel4 := hbel.grown hg3 hbel.size (fun j hj => by have := own_ge hown hj; omega)
        go_roundg (8 - (ds.length + 1))
        case measure => omega
        case rel => exact ⟨M / 1000, -1, ds ++ [M % 1000], _, by rw [List.length_append]; rfl, by rw [HQ.out], rfl, rfl, ⟨.inr ⟨by simp, rfl⟩, HST.out⟩, by omega, by omega, hown4, hblk4, hbel4⟩

/-- Of: an amount. -/
theorem of_any (n : Int) (w : World) (hn : inI n) : Calls Try.prog 61 #[.int .i64 n] w fun e w' => ∃ v, e = .returned v ∧ Ex w' v n ∧ Below w.heap.size w w' := by
  by_cases h : 0 ≤ n
  · exact of_pos n w hn h
  · exact of_neg n w hn (by omega)
end Go.Proofs.Ytophfbnajelknaa

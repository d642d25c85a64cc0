import Derived.Test.YtophfbnajelknaaX9
import Derived.Deep.RegionHeld3
import Derived.Deep.DrawnRows
/- Reference R01: Less, Cmp, Total. -/
namespace Go.Proofs.Ytophfbnajelknaa
open Go.RowKit
attribute [local go_sem ↓] Go.wp_at_zero Go.wp_at_succ

/-- Two boxes and the result's variable. -/
structure Box3 (w w' : World) (p q r : Array Value) : Prop where
  b0 : Blk w' w.heap.size 102 p
  b1 : Blk w' (w.heap.size + 1) 102 q
  b2 : Blk w' (w.heap.size + 2) 102 r
  bel : Below w.heap.size w w'
theorem Box3.start (w : World) (p q : Array Value) : Box3 w (((w.alloc (.cells p 102)).alloc (.cells q 102)).alloc (.cells #[.int .i64 0, .slice none 0 0] 102)) p q #[.int .i64 0, .slice none 0 0] where
  b0 := ((Blk.new w 102 p).alloc _).alloc _
  b1 := (Blk.newg (W := w.alloc (.cells p 102)) (t := 102) (cs := q) (by simp)).alloc _
  b2 := Blk.newg (W := (w.alloc (.cells p 102)).alloc (.cells q 102)) (t := 102) (by simp)
  bel := (((Below.refl w.heap.size w).alloc (Nat.le_refl _) _).alloc (by simp) _).alloc (by simp; omega) _
theorem Box3.drewN {w w' : World} {p q r : Array Value} (h : Box3 w w' p q r) (n : Nat) : Box3 w (w'.drewN n) p q r := ⟨h.b0, h.b1, h.b2, below_drewN h.bel⟩
theorem Box3.drew {w w' : World} {p q r : Array Value} (h : Box3 w w' p q r) : Box3 w w'.drew p q r := ⟨h.b0, h.b1, h.b2, h.bel.drew⟩
theorem Box3.below {w w' w1 : World} {p q r : Array Value} (h : Box3 w w' p q r) (hb : Below w'.heap.size w' w1) : Box3 w w1 p q r :=
  ⟨h.b0.below hb h.b0.lt, h.b1.below hb h.b1.lt, h.b2.below hb h.b2.lt, below_then h.bel hb h.bel.size⟩
theorem Box3.res {w w' : World} {p q : Array Value} {a b : Value} (h : Box3 w w' p q #[a, b]) (x y : Value) : Blk ((w'.setCell ⟨w.heap.size + 2, 0, none⟩ x).setCell ⟨w.heap.size + 2, 1, none⟩ y) (w.heap.size + 2) 102 #[x, y] := by
  have := (h.b2.set_ 0 x).set_ 1 y
  simpa using this
theorem Box3.cells {w w' : World} {p0 p1 q0 q1 r0 r1 : Value} (h : Box3 w w' #[p0, p1] #[q0, q1] #[r0, r1]) :
    w'.cell? ⟨w.heap.size, 0, none⟩ = some p0 ∧ w'.cell? ⟨w.heap.size, 1, none⟩ = some p1 ∧ w'.cell? ⟨w.heap.size + 1, 0, none⟩ = some q0 ∧ w'.cell? ⟨w.heap.size + 1, 1, none⟩ = some q1 := by
  have c00 := h.b0.cell 0
  have c01 := h.b0.cell 1
  have c10 := h.b1.cell 0
  have c11 := h.b1.cell 1
  simp at c00 c01 c10 c11
  exact ⟨c00, c01, c10, c11⟩
theorem Box3.room {w w' : World} {p q : Array Value} {r0 r1 : Value} (h : Box3 w w' p q #[r0, r1]) :
    w'.cell? ⟨w.heap.size + 2, 0, none⟩ = some r0 ∧ w'.cell? ⟨w.heap.size + 2, 1, none⟩ = some r1 ∧ w'.frozen? ⟨w.heap.size + 2, 0, none⟩ = false ∧ w'.frozen? ⟨w.heap.size + 2, 1, none⟩ = false := by
  have c20 := h.b2.cell 0
  have c21 := h.b2.cell 1
  simp at c20 c21
  exact ⟨c20, c21, h.b2.frozen 0, h.b2.frozen 1⟩
theorem Box3.resBelow {w w' : World} {p q r : Array Value} (h : Box3 w w' p q r) (x y : Value) : Below w.heap.size w ((w'.setCell ⟨w.heap.size + 2, 0, none⟩ x).setCell ⟨w.heap.size + 2, 1, none⟩ y) :=
  (h.bel.setCell (p := ⟨w.heap.size + 2, 0, none⟩) (by simp) _).setCell (p := ⟨w.heap.size + 2, 1, none⟩) (by simp) _

set_option maxHeartbeats 8000000 in
set_option maxRecDepth 100000 in
theorem less2_any (v u : Value) (x y : Int) (w : World) (h : Ex w v x) (h' : Ex w u y) (hlx : Small 100 x) (hly : Small 100 y) :
    Calls Try.prog 76 #[v, u] w fun e w' => ∃ v', e = .returned v' ∧ Ex w' v' (x - y) ∧ Below w.heap.size w w' := by
  have H1 := Lib.hid h
  have H2 := Lib.hid h'
  have L1 := Lib.hid hlx
  have L2 := Lib.hid hly
  obtain ⟨s, A, c, ds, rfl, hr, hn⟩ := h
  obtain ⟨t, B, d, es, rfl, hr', hn'⟩ := h'
  clear hr hr' hn hn' hlx hly
  obtain ⟨z, hz⟩ : ∃ z, z = x - y := ⟨_, rfl⟩
  rw [← hz]
  have HZ : Hid (x + -y = z) := by show _ = _; omega
  clear hz
  have HP0 := Lib.hid (Box3.start w #[.int .i64 s, .slice A ds.length c] #[.int .i64 t, .slice B es.length d])
  go_enter Try.func76, Try.ntmps76
  go_wp2
  have ne1 : ¬ (w.heap.size = w.heap.size + 1 + 1) := by omega
  have ne2 : ¬ (w.heap.size + 1 + 1 = w.heap.size) := by omega
  go_region_held3 (fun w' => w'.cell? ⟨w.heap.size, 0, none⟩ = some (.int .i64 s) ∧ w'.cell? ⟨w.heap.size, 1, none⟩ = some (.slice A ds.length c) ∧ w'.cell? ⟨w.heap.size + 1, 0, none⟩ = some (.int .i64 t) ∧ w'.cell? ⟨w.heap.size + 1, 1, none⟩ = some (.slice B es.length d)) (first | exact (HP0.out.drew.below (by assumption)).cells | exact ((HP0.out.drew.below (by assumption)).below (by assumption)).cells | go_keep) (first | (go_at_call 60; go_must (refine (neg_any _ y _ ?_).mono ?_); exact H2.out.below HP0.out.drew.bel; rintro e w1 ⟨v1, rfl, hv1, hb1⟩) | (go_at_call 63; go_must (refine (plus_any _ _ x (-y) _ ?_ ?_ L1.out L2.out.neg).mono ?_); exact H1.out.below (HP0.out.drew.below hb1).bel; exact hv1; rintro e w2 ⟨v2, rfl, ⟨s', A', c', ds', rfl, R', N'⟩, hb2⟩; have B2 := (HP0.out.drew.below hb1).below hb2; have B2c := B2.room; obtain ⟨r1, r2, r3, r4⟩ := B2c))
  all_goals
    go_wp2
    rw [HZ.out] at N'
    exact ret102 rfl rfl rfl (B2.res _ _) ⟨_, rfl, Ex.setBlk ⟨s', A', c', ds', rfl, R', N'⟩ B2.b2 rfl rfl _ _, B2.resBelow _ _⟩

theorem field102_0 (W : World) (p : Int) (A : Option Addr) (n c : Nat) : (Instr.field 102 (Value.agg #[Value.int .i64 p, Value.slice A n c]) 0).run Try.prog W = .ok (.int .i64 p) W := by kernel_rfl

set_option maxHeartbeats 8000000 in
set_option maxRecDepth 100000 in
theorem cmp_any (v u : Value) (x y : Int) (w : World) (h : Ex w v x) (h' : Ex w u y) (hlx : Small 100 x) (hly : Small 100 y) :
    Calls Try.prog 91 #[v, u] w fun e w' => e = .returned (.int .i64 (x - y).sign) ∧ Below w.heap.size w w' := by
  have H1 := Lib.hid h
  have H2 := Lib.hid h'
  have L1 := Lib.hid hlx
  have L2 := Lib.hid hly
  obtain ⟨s, A, c, ds, rfl, hr, hn⟩ := h
  obtain ⟨t, B, d, es, rfl, hr', hn'⟩ := h'
  clear hr hr' hn hn' hlx hly
  obtain ⟨z, hz⟩ : ∃ z, z = (x - y).sign := ⟨_, rfl⟩
  rw [← hz]
  have HZ := Lib.hid hz
  clear hz
  have HB0 : Hid (Below w.heap.size w ((w.alloc (.cells #[.int .i64 s, .slice A ds.length c] 102)).alloc (.cells #[.int .i64 t, .slice B es.length d] 102))) := ((Below.refl w.heap.size w).alloc (Nat.le_refl _) _).alloc (by simp) _
  go_enter Try.func91, Try.ntmps91
  go_wp2_with (go_at_call 76; go_must (refine (less2_any _ _ x y _ (H1.out.below HB0.out) (H2.out.below HB0.out) L1.out L2.out).mono ?_); rintro e w1 ⟨v1, rfl, ⟨s', A', c', ds', rfl, R', N'⟩, hb1⟩; have hfd := field102_0 w1 s' A' ds'.length c'; have HR : Hid (s' = z) := N'.sign.trans HZ.out.symm)
  go_ret
  exact ⟨by rw [HR.out]; rfl, below_then HB0.out hb1 HB0.out.size⟩
end Go.Proofs.Ytophfbnajelknaa

import Derived.Test.YtophfbnajelknaaX8
/- Reference R01: Plus, of any two numbers; Less, Cmp. -/
namespace Go.Proofs.Ytophfbnajelknaa
open Go.RowKit

theorem Ex.alloc {w : World} {v : Value} {z : Int} (h : Ex w v z) (o : Obj) : Ex (w.alloc o) v z := h.below ((Below.refl _ _).alloc (Nat.le_refl _) _)
set_option maxHeartbeats 8000000 in
set_option maxRecDepth 100000 in
theorem plus_swap (v u : Value) (x y : Int) (w : World) (h : Ex w v x) (h' : Ex w u y) (hx : x ≠ 0) (hy : y ≠ 0) (hxy : x.sign ≠ y.sign) (hle : x.natAbs < y.natAbs) (hlx : Small 100 x) (hly : Small 100 y) :
    Calls Try.prog 63 #[v, u] w fun e w' => ∃ v', e = .returned v' ∧ Ex w' v' (x + y) ∧ Below w.heap.size w w' := by
  have H1 := Lib.hid h
  have H2 := Lib.hid h'
  obtain ⟨s, A, c, ds, rfl, hr, hn⟩ := h
  obtain ⟨t, B, d, es, rfl, hr', hn'⟩ := h'
  have hst : (s == t) = false := by rw [beq_eq_false_iff_ne, hn.sign, hn'.sign]; exact hxy
  have hs1 : (s == 0) = false := by rw [beq_eq_false_iff_ne]; exact fun e => hx (hn.zero_iff.1 e)
  have ht1 : (t == 0) = false := by rw [beq_eq_false_iff_ne]; exact fun e => hy (hn'.zero_iff.1 e)
  obtain ⟨cx, px⟩ := hn.cases hx
  obtain ⟨cy, py⟩ := hn'.cases hy
  have hv : valD ds < valD es := by omega
  have hl1 := hn.size hlx
  have hl2 := hn'.size hly
  obtain ⟨z, hz⟩ : ∃ z, z = x + y := ⟨_, rfl⟩
  rw [← hz]
  have HSUB : Hid (∀ W, Below w.heap.size w W → Calls Try.prog 63 #[.agg #[.int .i64 t, .slice B es.length d], .agg #[.int .i64 s, .slice A ds.length c]] W fun e w' => ∃ v', e = .returned v' ∧ Ex w' v' z ∧ Below W.heap.size W w') := by
    intro W hb
    have := plus_sub _ _ y x W (H2.out.below hb) (H1.out.below hb) hy hx (fun e => hxy e.symm) (by omega) hly
    rwa [Int.add_comm, ← hz] at this
  have HLE : Hid (∀ W, Below w.heap.size w W → Calls Try.prog 94 #[.slice A ds.length c, .slice B es.length d] W fun e w' => e = .returned (.bool true) ∧ ∃ n, w' = W.drewN n) := by
    intro W hb
    have := least_any A c ds B d es W (hr.below hb).r (hr'.below hb).r hn.digs hn'.digs (by omega) (by omega)
    rw [decide_eq_true hv] at this
    exact this
  clear hr hr' hn hn' hlx hly hz hx hy hxy cx px cy py hv hle H1 H2 hl1 hl2
  have HP0 := Lib.hid (PlusW.start w #[.int .i64 s, .slice A ds.length c] #[.int .i64 t, .slice B es.length d])
  go_enter Try.func63, Try.ntmps63
  go_wp2_with (first | (go_at_call 94; go_must (refine (HLE.out _ ?_).mono ?_); exact HP0.out.bel; rintro e w1 ⟨rfl, m0, rfl⟩) | (go_at_call 63; go_must (refine (HSUB.out _ ?_).mono ?_); exact below_drewN HP0.out.bel; rintro e w2 ⟨v, rfl, ⟨s', A', c', ds', rfl, R', N'⟩, hb⟩; have B2 := (HP0.out.b2.drewN m0).below hb (HP0.out.b2.drewN m0).lt; have fz0 := B2.frozen 0; have fz1 := B2.frozen 1; have cb0 := B2.cell 0; have cb1 := B2.cell 1; simp at cb0 cb1))
  refine ret102 rfl rfl rfl ((B2.set_ 0 (.int .i64 s')).set_ 1 (.slice A' ds'.length c')) ⟨_, rfl, ?_, ?_⟩
  · exact Ex.setBlk ⟨s', A', c', ds', rfl, R', N'⟩ B2 rfl rfl _ _
  · have hbel := below_drewN (m := m0) HP0.out.bel
    exact ((below_then hbel hb hbel.size).setCell (p := ⟨w.heap.size + 2, 0, none⟩) (by simp) _).setCell (p := ⟨w.heap.size + 2, 1, none⟩) (by simp) _

/-- Plus. -/
theorem plus_any (v u : Value) (x y : Int) (w : World) (h : Ex w v x) (h' : Ex w u y) (hlx : Small 100 x) (hly : Small 100 y) :
    Calls Try.prog 63 #[v, u] w fun e w' => ∃ v', e = .returned v' ∧ Ex w' v' (x + y) ∧ Below w.heap.size w w' := by
  by_cases hx : x = 0
  · subst hx; exact plus_left v u y w h h'
  · by_cases hy : y = 0
    · subst hy; exact plus_right v u x w h h' hx
    · by_cases hxy : x.sign = y.sign
      · exact plus_add v u x y w h h' hx hxy hlx hly
      · by_cases hle : y.natAbs ≤ x.natAbs
        · exact plus_sub v u x y w h h' hx hy hxy hle hlx
        · exact plus_swap v u x y w h h' hx hy hxy (by omega) hlx hly
theorem Small.neg {k : Nat} {z : Int} (h : Small k z) : Small k (-z) := by unfold Small at *; omega
theorem Small.mono {k m : Nat} {z : Int} (h : Small k z) (hkm : k ≤ m) : Small m z := by
  have : (1000 : Int) ^ k ≤ 1000 ^ m := by
    have := Nat.pow_le_pow_right (show 0 < 1000 by omega) hkm
    rw [← Int.ofNat_le, Int.natCast_pow, Int.natCast_pow] at this
    exact this
  unfold Small at *; omega
end Go.Proofs.Ytophfbnajelknaa

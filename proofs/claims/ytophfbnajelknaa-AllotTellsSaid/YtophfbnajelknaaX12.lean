import Derived.Test.YtophfbnajelknaaX11
/- Reference R01: Total. -/
namespace Go.Proofs.Ytophfbnajelknaa
open Go.RowKit
attribute [local go_sem ↓] Go.wp_at_zero Go.wp_at_succ

/-- A variable that holds a number. -/
structure Hold (w : World) (g : Nat) (z : Int) (s : Int) (A : Option Addr) (c : Nat) (ds : List Int) : Prop where
  b : Blk w g 102 #[.int .i64 s, .slice A ds.length c]
  r : RI w A ds
  n : Num s ds z
theorem Hold.ex {w : World} {g : Nat} {z s : Int} {A : Option Addr} {c : Nat} {ds : List Int} (h : Hold w g z s A c ds) : Ex w (.agg #[.int .i64 s, .slice A ds.length c]) z := ⟨s, A, c, ds, rfl, h.r, h.n⟩
theorem Hold.below {w w' : World} {g : Nat} {z s : Int} {A : Option Addr} {c : Nat} {ds : List Int} (h : Hold w g z s A c ds) (hb : Below w.heap.size w w') : Hold w' g z s A c ds := ⟨h.b.below hb h.b.lt, h.r.below hb, h.n⟩
theorem Hold.drew {w : World} {g : Nat} {z s : Int} {A : Option Addr} {c : Nat} {ds : List Int} (h : Hold w g z s A c ds) : Hold w.drew g z s A c ds := ⟨h.b, ⟨h.r.1, h.r.2⟩, h.n⟩
theorem Hold.set_ {w : World} {g : Nat} {x y : Value} {z s' : Int} {A' : Option Addr} {c' : Nat} {ds' : List Int} (h : Blk w g 102 #[x, y]) (R : RI w A' ds') (N : Num s' ds' z) :
    Hold ((w.setCell ⟨g, 0, none⟩ (.int .i64 s')).setCell ⟨g, 1, none⟩ (.slice A' ds'.length c')) g z s' A' c' ds' := by
  have h1 := h.set_ 0 (.int .i64 s')
  have h2 := h1.set_ 1 (.slice A' ds'.length c')
  simp at h2
  exact ⟨h2, (R.setCell h (by decide) (p := ⟨g, 0, none⟩) rfl _).setCell h1 (by decide) (p := ⟨g, 1, none⟩) rfl _, N⟩
theorem small_sum {xs : List Int} (hx : ∀ x ∈ xs, inI x) (hl : xs.length ≤ 1000000) : ∀ k, Small 100 (xs.take k).sum := by
  intro k
  have h : ∀ l : List Int, (∀ x ∈ l, inI x) → -(9223372036854775808 * (l.length : Int)) ≤ l.sum ∧ l.sum ≤ 9223372036854775808 * l.length := by
    intro l
    induction l with
    | nil => intro _; simp
    | cons a l ih =>
      intro hm
      have := ih (fun x hx => hm x (by simp [hx]))
      have ha : inI a := hm a (by simp)
      unfold inI lowI topI at ha
      rw [List.sum_cons, List.length_cons]
      omega
  have h1 := h (xs.take k) (fun x hx' => hx x (List.mem_of_mem_take hx'))
  have h2 : (xs.take k).length ≤ xs.length := by rw [List.length_take]; omega
  have h3 : Small 10 (xs.take k).sum := by unfold Small; omega
  exact h3.mono (by omega)
theorem sum_take_succ {xs : List Int} {k : Nat} (h : k < xs.length) : (xs.take (k + 1)).sum = (xs.take k).sum + xs.getD k 0 := by
  rw [List.take_succ_eq_append_getElem h, List.sum_append, List.getD_eq_getElem?_getD, List.getElem?_eq_getElem h]; simp

theorem Blk.set2 {w : World} {g : Nat} {t : TypeId} {a b : Value} (h : Blk w g t #[a, b]) (x y : Value) : Blk ((w.setCell ⟨g, 0, none⟩ x).setCell ⟨g, 1, none⟩ y) g t #[x, y] := by
  have := (h.set_ 0 x).set_ 1 y
  simpa using this

set_option maxHeartbeats 8000000 in
set_option maxRecDepth 100000 in
theorem total_any (A : Option Addr) (c : Nat) (xs : List Int) (w : World) (hr : Reads w w.heap.size 1 A xs.length (ints xs)) (hx : ∀ x ∈ xs, inI x) (hl : xs.length ≤ 1000000) :
    Calls Try.prog 77 #[.slice A xs.length c] w fun e w' => ∃ v, e = .returned v ∧ Ex w' v xs.sum ∧ Below w.heap.size w w' := by
  have HR := Lib.hid hr
  have HX := Lib.hid hx
  clear hr hx
  obtain ⟨w0, hw0⟩ : ∃ w0, w0 = (w.alloc (.cells #[.int .i64 0, .slice none 0 0] 102)).alloc (.cells #[.int .i64 0, .slice none 0 0] 102) := ⟨_, rfl⟩
  have h0 : Blk w0 w.heap.size 102 #[.int .i64 0, .slice none 0 0] := by rw [hw0]; exact (Blk.new _ _ _).alloc _
  have h1 : Hold w0 (w.heap.size + 1) 0 0 none 0 [] := by rw [hw0]; exact ⟨Blk.newg (by simp), RI.nil _ _, Num.zero⟩
  have hb0 : Below w.heap.size w w0 := by rw [hw0]; exact ((Below.refl _ _).alloc (Nat.le_refl _) _).alloc (by simp) _
  have H0 := Lib.hid h0
  have H1 := Lib.hid h1
  have HB := Lib.hid hb0
  clear h0 h1 hb0
  go_enter Try.func77, Try.ntmps77
  go_wp2
  rw [← hw0]
  clear hw0
  go_loopg [4] xs.length (fun kq v4 w' => ∃ (k : Nat) (s : Int) (A' : Option Addr) (c' : Nat) (ds : List Int), k ≤ xs.length ∧ kq = xs.length - k ∧ v4 = .int .i64 k ∧ Blk w' w.heap.size 102 #[.int .i64 0, .slice none 0 0] ∧ Hold w' (w.heap.size + 1) (xs.take k).sum s A' c' ds ∧ Below w.heap.size w w')
  case atStart => exact ⟨0, _, _, _, _, by omega, by omega, rfl, H0.out, H1.out, HB.out⟩
  case round =>
    obtain ⟨k, s, A', c', ds, hk, rfl, rfl, hb0, hH, hbel⟩ := hrel
    have k0 := hH.b.cells2.1
    have k1 := hH.b.cells2.2
    have HH := Lib.hid hH
    have HB0 := Lib.hid hb0
    have HBE := Lib.hid hbel
    clear hH hb0 hbel
    by_cases hlt : k < xs.length
    · obtain ⟨ad, rfl, hbl, hcl⟩ := (reads_below HR.out HBE.out).int_at hlt
      obtain ⟨x1, hx1⟩ : ∃ x, x = xs.getD k 0 := ⟨_, rfl⟩
      have hxi : inI x1 := by rw [hx1]; exact HX.out _ (getD_mem hlt)
      rw [← hx1] at hcl
      obtain ⟨z, hz⟩ : ∃ z, z = (xs.take k).sum := ⟨_, rfl⟩
      have hzs : Small 100 z := by rw [hz]; exact small_sum HX.out hl k
      have HZ : Hid (z + x1 = (xs.take (k + 1)).sum) := by show _ = _; rw [sum_take_succ hlt, hz, hx1]
      rw [← hz] at HH
      have hk0 : (0 : Int) ≤ (k : Int) := by omega
      have hk1 : (k : Int) < (xs.length : Int) := by omega
      have HXI := Lib.hid hxi
      have HZS := Lib.hid hzs
      clear hx1 hz hxi hzs
      go_wp2
      go_region_with (first | (go_at_call 61; go_must (refine (of_any x1 _ HXI.out).mono ?_); rintro e w1 ⟨v1, rfl, hv1, hb1⟩; have h1 := HH.out.drew.below hb1; have T0 := h1.b.cells2.1; have T1 := h1.b.cells2.2) | (go_at_call 63; go_must (refine (plus_any _ _ z x1 _ h1.ex hv1 HZS.out (small_in HXI.out)).mono ?_); rintro e w2 ⟨v2, rfl, ⟨s2, A2, c2, ds2, rfl, R2, N2⟩, hb2⟩; have h2 := h1.below hb2; have fz0 := h2.b.frozen 0; have fz1 := h2.b.frozen 1; have U0 := h2.b.cells2.1; have U1 := h2.b.cells2.2))
      all_goals
        go_wp2
        have h3 := Hold.set_ (c' := c2) h2.b R2 N2
        rw [HZ.out] at h3
        have hb3 := (HB0.out.drew.below hb1 HB0.out.lt).below hb2 (by have := hb1.size; have := HB0.out.lt; simp at *; omega)
        have hb4 := (hb3.far (p := ⟨w.heap.size + 1, 0, none⟩) (by simp) (.int .i64 s2)).far (p := ⟨w.heap.size + 1, 1, none⟩) (by simp) (.slice A2 ds2.length c2)
        have hbe := ((below_then (below_then HBE.out.drew hb1 HBE.out.drew.size) hb2 (by have := hb1.size; have := HBE.out.size; simp at *; omega)).setCell (p := ⟨w.heap.size + 1, 0, none⟩) (by simp) (.int .i64 s2)).setCell (p := ⟨w.heap.size + 1, 1, none⟩) (by simp) (.slice A2 ds2.length c2)
        go_roundg (xs.length - (k + 1))
        case measure => omega
        case rel => exact ⟨k + 1, s2, A2, c2, ds2, by omega, rfl, by go_num, hb4, h3, hbe⟩
    · obtain rfl : k = xs.length := by omega
      have hH := HH.out
      rw [List.take_length] at hH
      have fz0 := HB0.out.frozen 0
      have fz1 := HB0.out.frozen 1
      have l0 := HB0.out.cells2.1
      have l1 := HB0.out.cells2.2
      have HE := Lib.hid hH.ex
      clear hH HH
      go_wp2
      exact ret102 rfl rfl rfl ((Blk.set2 HB0.out _ _)) ⟨_, rfl, HE.out.setBlk HB0.out (p := ⟨w.heap.size, 0, none⟩) rfl rfl _ _, (HBE.out.setCell (p := ⟨w.heap.size, 0, none⟩) (by simp) _).setCell (p := ⟨w.heap.size, 1, none⟩) (by simp) _⟩
end Go.Proofs.Ytophfbnajelknaa

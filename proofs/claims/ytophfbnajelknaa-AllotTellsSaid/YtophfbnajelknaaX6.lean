import Derived.Test.YtophfbnajelknaaX5
/- Reference R01: Plus, walked. -/
namespace Go.Proofs.Ytophfbnajelknaa
open Go.RowKit

set_option maxHeartbeats 4000000 in
set_option maxRecDepth 100000 in
theorem plus_left (v u : Value) (y : Int) (w : World) (h : Ex w v 0) (h' : Ex w u y) :
    Calls Try.prog 63 #[v, u] w fun e w' => ∃ v', e = .returned v' ∧ Ex w' v' (0 + y) ∧ Below w.heap.size w w' := by
  obtain ⟨s, A, c, ds, rfl, hr, hn⟩ := h
  obtain ⟨t, B, d, es, rfl, hr', hn'⟩ := h'
  have hs : s = 0 := hn.zero_iff.2 rfl
  subst hs
  have HR := Lib.hid hr'
  have HN := Lib.hid hn'
  clear hr hn hr' hn'
  go_enter Try.func63, Try.ntmps63
  go_wp2
  rw [Int.zero_add]
  refine ret102 rfl rfl rfl (Blk.newg (by simp)) ⟨_, rfl, ?_, ?_⟩
  · exact ⟨t, B, d, es, rfl, ((HR.out.alloc _).alloc _).alloc _, HN.out⟩
  · exact (((Below.refl w.heap.size w).alloc (Nat.le_refl _) _).alloc (by simp) _).alloc (by simp; omega) _

set_option maxHeartbeats 4000000 in
set_option maxRecDepth 100000 in
theorem plus_right (v u : Value) (x : Int) (w : World) (h : Ex w v x) (h' : Ex w u 0) (hx : x ≠ 0) :
    Calls Try.prog 63 #[v, u] w fun e w' => ∃ v', e = .returned v' ∧ Ex w' v' (x + 0) ∧ Below w.heap.size w w' := by
  obtain ⟨s, A, c, ds, rfl, hr, hn⟩ := h
  obtain ⟨t, B, d, es, rfl, hr', hn'⟩ := h'
  have hs : t = 0 := hn'.zero_iff.2 rfl
  subst hs
  have hs1 : (s == 0) = false := by rw [beq_eq_false_iff_ne]; exact fun e => hx (hn.zero_iff.1 e)
  have HR := Lib.hid hr
  have HN := Lib.hid hn
  clear hr hn hr' hn'
  go_enter Try.func63, Try.ntmps63
  go_wp2
  rw [Int.add_zero]
  refine ret102 rfl rfl rfl (Blk.newg (by simp)) ⟨_, rfl, ?_, ?_⟩
  · exact ⟨s, A, c, ds, rfl, ((HR.out.alloc _).alloc _).alloc _, HN.out⟩
  · exact (((Below.refl w.heap.size w).alloc (Nat.le_refl _) _).alloc (by simp) _).alloc (by simp; omega) _
end Go.Proofs.Ytophfbnajelknaa

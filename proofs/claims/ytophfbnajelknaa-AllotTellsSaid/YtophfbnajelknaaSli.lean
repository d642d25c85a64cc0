import Derived.Test.YtophfbnajelknaaAgain
import Derived.Test.YtophfbnajelknaaMem2
import Derived.WalkSpells
/- Package slices: Clone, IndexFunc, ContainsFunc, at numbers. -/
namespace Go.Proofs.Ytophfbnajelknaa
open Go.RowKit

set_option maxHeartbeats 4000000 in
set_option maxRecDepth 100000 in
theorem clone_ints (A : Option Addr) (c : Nat) (xs : List Int) (w : World) (hr : Reads w w.heap.size 1 A xs.length (ints xs)) (hl : xs.length * 8 ≤ 140737488351232) :
    Calls Try.prog 75 #[.slice A xs.length c] w fun e w' => ∃ v, e = .returned v ∧ w'.ownsRow w.heap.size 2 1 v xs.length (ints xs) ∧ Below w.heap.size w w' := by
  obtain ⟨i0, hi, hz0, hz1, hz2⟩ := info_parts Try.info2
  have HR := Lib.hid hr
  have heq := fun (W : World) => Lib.run_eql_slice_nil (P := Try.prog) W 55 2 A xs.length c 0 0 Try.underlying55
  cases A with
  | none =>
    have h0 : xs.length = 0 := by
      rcases Nat.eq_zero_or_pos xs.length with h | h
      · exact h
      · obtain ⟨ad, e, _⟩ := hr.2 h; cases e
    obtain rfl := List.eq_nil_of_length_eq_zero h0
    clear hr h0 heq HR
    have heq := fun (W : World) => Lib.run_eql_slice_nil (P := Try.prog) W 55 2 none 0 c 0 0 Try.underlying55
    go_enter Try.func75, Try.ntmps75
    go_wp2
    go_ret
    exact ⟨_, rfl, World.ownsRow_nil _ _ _ _, Below.refl _ _⟩
  | some ad =>
    clear hr
    go_enter Try.func75, Try.ntmps75
    go_wp2_with (at_builtin; go_must (refine wpl_append_src0 rfl _ _ 55 rfl w.heap.size 2 i0 (.int .i64 0) 1 8 Try.underlying55 hi hz0 hz1 hz2 rfl (by decide) (.slice (some ⟨w.heap.size, 0, none⟩) 0 0) 0 [] (by rfl) (own_new #[] 0 rfl (by decide)) w.heap.size (some ad) xs.length c (ints xs) (by rfl) (HR.out.alloc (Nat.le_refl _) _) (ints_oneCell .i64 xs) (by unfold maxLen; omega) (by omega) (by simp) ?_); intro v w1 hown hg hl'; simp only [Nat.zero_add, List.nil_append] at hown)
    go_ret
    exact ⟨_, rfl, ‹_›, ((Below.refl _ _).alloc (Nat.le_refl _) _).grown ‹_› (by simp) (fun k hk => by simp [Value.ownBlock] at hk; omega)⟩

theorem below_zero (x : Int) (w : World) : Calls Try.prog 71 #[.int .i64 x] w fun e w' => e = .returned (.bool (decide (x < 0))) ∧ w = w' := by
  go_enter Try.func71, Try.ntmps71
  go_wp2
  go_ret
  exact ⟨rfl, rfl⟩

/-- Is one below 0 (r not below 0), or none? -/
def negAt (xs : List Int) (r : Int) : Prop := ((∀ x ∈ xs, 0 ≤ x) ∧ r = -1) ∨ ((∃ x ∈ xs, x < 0) ∧ 0 ≤ r)

set_option maxHeartbeats 4000000 in
set_option maxRecDepth 100000 in
theorem index_neg (A : Option Addr) (c : Nat) (xs : List Int) (w : World) (hr : Reads w w.heap.size 1 A xs.length (ints xs)) (hl : xs.length * 8 ≤ 140737488351232) :
    Calls Try.prog 104 #[.slice A xs.length c, .func (.func 71) #[] #[]] w fun e w' => ∃ r, e = .returned (.int .i64 r) ∧ negAt xs r ∧ w = w' := by
  have HR := Lib.hid hr
  clear hr
  go_enter Try.func104, Try.ntmps104
  go_wp2
  go_loopg [8] xs.length (fun kq v8 w' => ∃ k : Nat, k ≤ xs.length ∧ kq = xs.length - k ∧ v8 = .int .i64 k ∧ Aside (∀ x ∈ xs.take k, 0 ≤ x) ∧ w = w')
  case atStart => exact ⟨0, by omega, by omega, by go_num, fun x hx => by simp at hx, rfl⟩
  case round =>
    obtain ⟨k, hk, rfl, rfl, HI, rfl⟩ := hrel
    by_cases hlt : k < xs.length
    · obtain ⟨ad, rfl, hb, hc⟩ := HR.out.int_at hlt
      obtain ⟨x, hx⟩ : ∃ x, x = xs.getD k 0 := ⟨_, rfl⟩
      rw [← hx] at hc
      have HX := Lib.hid hx
      clear hx
      by_cases hn : x < 0
      · have hd : decide (x < 0) = true := decide_eq_true hn
        go_wp2_with (go_at_call 71; go_must (refine (below_zero x _).mono ?_); rintro e w1 ⟨rfl, rfl⟩)
        go_ret
        exact ⟨_, rfl, .inr ⟨⟨x, by rw [HX.out]; exact getD_mem hlt, hn⟩, by omega⟩, rfl⟩
      · have hd : decide (x < 0) = false := decide_eq_false hn
        go_wp2_with (go_at_call 71; go_must (refine (below_zero x _).mono ?_); rintro e w1 ⟨rfl, rfl⟩)
        go_roundg (xs.length - (k + 1))
        case measure => omega
        case rel =>
          refine ⟨k + 1, by omega, rfl, by go_num, ?_, rfl⟩
          intro y hy
          rw [List.take_succ_eq_append_getElem hlt] at hy
          rcases List.mem_append.1 hy with h | h
          · exact HI.out y h
          · simp at h
            have e : x = xs[k] := by rw [HX.out, List.getD_eq_getElem?_getD, List.getElem?_eq_getElem hlt]; rfl
            omega
    · obtain rfl : k = xs.length := by omega
      go_wp2
      go_ret
      exact ⟨_, rfl, .inl ⟨by have := HI.out; rwa [List.take_length] at this, rfl⟩, rfl⟩

set_option maxHeartbeats 4000000 in
set_option maxRecDepth 100000 in
theorem contains_neg (A : Option Addr) (c : Nat) (xs : List Int) (w : World) (hr : Reads w w.heap.size 1 A xs.length (ints xs)) (hl : xs.length * 8 ≤ 140737488351232) :
    Calls Try.prog 72 #[.slice A xs.length c, .func (.func 71) #[] #[]] w fun e w' => e = .returned (.bool (xs.any fun x => decide (x < 0))) ∧ w = w' := by
  have HI := Lib.hid (index_neg A c xs w hr hl)
  clear hr
  go_enter Try.func72, Try.ntmps72
  go_wp2_with (go_at_call 104; go_must (refine HI.out.mono ?_); rintro e w1 ⟨r, rfl, hn, rfl⟩)
  go_ret
  refine ⟨?_, rfl⟩
  have : decide (0 ≤ r) = xs.any fun x => decide (x < 0) := by
    rcases hn with ⟨h1, rfl⟩ | ⟨⟨x, hx, hx0⟩, h2⟩
    · symm; rw [decide_eq_false (by omega), List.any_eq_false]; intro x hx; have := h1 x hx; simpa using this
    · rw [decide_eq_true h2]; symm; rw [List.any_eq_true]; exact ⟨x, hx, by simpa using hx0⟩
  rw [← this]
  rfl
end Go.Proofs.Ytophfbnajelknaa

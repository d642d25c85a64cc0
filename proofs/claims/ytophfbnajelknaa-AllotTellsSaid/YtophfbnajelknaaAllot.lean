import Derived.Test.YtophfbnajelknaaOut
import Derived.Test.YtophfbnajelknaaA
/- Package allot: All, left, rises, Discount. -/
namespace Go.Proofs.Ytophfbnajelknaa
open Go.RowKit

set_option maxHeartbeats 4000000 in
set_option maxRecDepth 100000 in
theorem all_any (price : Int) (A : Option Addr) (c : Nat) (ws : List Int) (w : World) (hr : Reads w w.heap.size 1 A ws.length (ints ws)) (hl : ws.length * 8 ≤ 140737488351232) (hx : ∀ x ∈ ws, inI x) (ht : inI price) :
    Calls Try.prog 36 #[.int .i64 price, .slice A ws.length c] w fun e w' => ∃ v, e = .returned (.tuple #[v, .int .i64 (allE price ws)]) ∧ w'.ownsRow w.heap.size 2 1 v (allL price ws).length (ints (allL price ws)) ∧ Below w.heap.size w w' := by
  have ho := Lib.hid (out_any price A c ws w hr hl hx ht)
  clear hr hx ht
  by_cases hp : price < 0
  · rw [allE, allL, if_pos hp, if_pos hp]
    clear ho
    go_enter Try.func36, Try.ntmps36
    go_wp2
    go_ret2
    exact ⟨_, rfl, World.ownsRow_nil _ _ _ _, Below.refl _ _⟩
  · rw [allE, allL, if_neg hp, if_neg hp]
    go_enter Try.func36, Try.ntmps36
    go_wp2_with (go_at_call 69; go_must (refine ho.out.mono ?_); rintro e w1 ⟨v, rfl, ho1, hb⟩)
    go_ret2
    exact ⟨_, rfl, ‹_›, ‹_›⟩

set_option maxHeartbeats 4000000 in
set_option maxRecDepth 100000 in
theorem left_any (t : Int) (A : Option Addr) (c : Nat) (xs : List Int) (w : World) (hr : Reads w w.heap.size 1 A xs.length (ints xs)) (hl : xs.length * 8 ≤ 140737488351232) (hx : ∀ x ∈ xs, inI x) (ht : inI t) :
    Calls Try.prog 74 #[.int .i64 t, .slice A xs.length c] w fun e w' => e = .returned (.tuple #[.int .i64 (leftV t xs), .int .i64 (leftE t xs)]) ∧ Below w.heap.size w w' := by
  have hs := sum_any A c xs w hr hl hx
  by_cases hi : inI xs.sum
  · rw [leftE, leftV, if_pos hi, if_pos hi]
    rw [fitV_in hi, fitE_in hi] at hs
    obtain ⟨S, hS⟩ : ∃ S, S = xs.sum := ⟨_, rfl⟩
    rw [← hS] at hs hi ⊢
    have HS := Lib.hid hs
    have HI := Lib.hid hi
    have HT := Lib.hid ht
    clear hs hS hi ht hr hx
    go_enter Try.func74, Try.ntmps74
    go_wp2_with (first | (go_at_call 32; go_must (refine HS.out.mono ?_); rintro e w1 ⟨rfl, hb⟩) | (go_at_call 68; go_must (refine (less_any t S HT.out HI.out _).mono ?_); rintro e w1 ⟨rfl, rfl⟩))
    go_ret2
    exact ⟨rfl, ‹_›⟩
  · rw [leftE, leftV, if_neg hi, if_neg hi]
    rw [fitV_out hi, fitE_out hi] at hs
    have HS := Lib.hid hs
    clear hs hi ht hr hx
    go_enter Try.func74, Try.ntmps74
    go_wp2_with (go_at_call 32; go_must (refine HS.out.mono ?_); rintro e w1 ⟨rfl, hb⟩)
    go_ret2
    exact ⟨rfl, ‹_›⟩

set_option maxHeartbeats 4000000 in
set_option maxRecDepth 100000 in
theorem rises_any (m : Int) (A : Option Addr) (c : Nat) (xs : List Int) (w : World) (hr : Reads w w.heap.size 1 A xs.length (ints xs)) (hl : xs.length * 8 ≤ 140737488351232) :
    Calls Try.prog 73 #[.slice A xs.length c, .int .i64 m] w fun e w' => e = .returned (.bool (risesB xs m)) ∧ w = w' := by
  have HR := Lib.hid hr
  clear hr
  go_enter Try.func73, Try.ntmps73
  go_wp2
  go_loopg [5, 10] xs.length (fun kq v5 v10 w' => ∃ (k : Nat) (last : Int), k ≤ xs.length ∧ kq = xs.length - k ∧ v10 = .int .i64 k ∧ v5 = .int .i64 last ∧ Aside (okFrom (-1) m xs = okFrom last m (xs.drop k)) ∧ w = w')
  case atStart => exact ⟨0, -1, by omega, by omega, by go_num, rfl, rfl, rfl⟩
  case round =>
    obtain ⟨k, last, hk, rfl, rfl, rfl, HI, rfl⟩ := hrel
    by_cases hlt : k < xs.length
    · obtain ⟨ad, rfl, hb, hc⟩ := HR.out.int_at hlt
      obtain ⟨x, hx⟩ : ∃ x, x = xs.getD k 0 := ⟨_, rfl⟩
      rw [← hx] at hc
      have hI := HI.out
      rw [okFrom_drop hlt, ← hx] at hI
      have HJ := Lib.hid hI
      clear hI HI hx
      by_cases h1 : last < x
      · by_cases h2 : x < m
        · go_wp2
          go_roundg (xs.length - (k + 1))
          case measure => omega
          case rel => exact ⟨k + 1, x, by omega, rfl, by go_num, rfl, by have h := HJ.out; rw [decide_eq_true h1, decide_eq_true h2] at h; refine (?_ : _ = _); simpa using h, rfl⟩
        · go_wp2
          go_ret
          exact ⟨by rw [risesB, HJ.out, decide_eq_false (show ¬ x < m by omega)]; simp, rfl⟩
      · go_wp2
        go_ret
        exact ⟨by rw [risesB, HJ.out, decide_eq_false (show ¬ last < x by omega)]; simp, rfl⟩
    · obtain rfl : k = xs.length := by omega
      have hI := HI.out
      rw [List.drop_length, okFrom] at hI
      have HJ := Lib.hid hI
      clear hI HI
      go_wp2
      go_ret
      exact ⟨by rw [risesB, HJ.out]; simp, rfl⟩

set_option maxHeartbeats 4000000 in
set_option maxRecDepth 100000 in
theorem discount_any (price : Int) (A : Option Addr) (c : Nat) (xs : List Int) (w : World) (hr : Reads w w.heap.size 1 A xs.length (ints xs)) (hl : xs.length * 8 ≤ 140737488351000) (hx : ∀ x ∈ xs, inI x) (ht : inI price) :
    Calls Try.prog 40 #[.int .i64 price, .slice A xs.length c] w fun e w' => e = .returned (.tuple #[.int .i64 (fitV (xs.sum - price)), .int .i64 (fitE (xs.sum - price))]) ∧ Below w.heap.size w w' := by
  obtain ⟨i0, hi, hz0, hz1, hz2⟩ := info_parts Try.info2
  by_cases hp : price = lowI
  · have HR := Lib.hid hr
    have HX := Lib.hid hx
    have he : (price == -9223372036854775808) = true := beq_iff_eq.2 hp
    have ht0 : -9223372036854775808 ≤ price := by rw [hp]; unfold lowI; omega
    have ht1 : price ≤ -9223372036854775808 := by rw [hp]; unfold lowI; omega
    have hs : ∀ W A' c', Reads W W.heap.size 1 A' (1 + (1 + xs.length)) (ints (-(price + 1) :: 1 :: xs)) → Calls Try.prog 32 #[.slice A' (1 + (1 + xs.length)) c'] W fun e w' => e = .returned (.tuple #[.int .i64 (fitV (xs.sum - price)), .int .i64 (fitE (xs.sum - price))]) ∧ Below W.heap.size W w' := by
      intro W A' c' hR
      have e1 : (-(price + 1) :: 1 :: xs).length = 1 + (1 + xs.length) := by simp; omega
      have e2 : (-(price + 1) :: 1 :: xs).sum = xs.sum - price := by simp; omega
      have := sum_any A' c' (-(price + 1) :: 1 :: xs) W (by rw [e1]; exact hR) (by rw [e1]; omega) (by
        intro x hm
        rcases List.mem_cons.1 hm with rfl | hm
        · unfold inI lowI topI; omega
        rcases List.mem_cons.1 hm with rfl | hm
        · unfold inI lowI topI; omega
        · exact hx x hm)
      rw [e1, e2] at this
      exact this
    have HS := Lib.hid hs
    clear hr hx hs hp ht
    go_enter Try.func40, Try.ntmps40
    go_wp2_with (first | (at_builtin; refine wpl_append_src rfl (.tmp 8) (.tmp 9) 55 rfl w.heap.size 2 i0 (.int .i64 0) 1 8 Try.underlying55 hi hz0 hz1 hz2 rfl (by decide) (.slice (some ⟨w.heap.size, 0, none⟩) 1 1) 1 (ints [1]) (by rfl) (own_new #[.int .i64 1] 1 rfl (by decide)) w.heap.size A xs.length c (ints xs) (by rfl) (HR.out.alloc (Nat.le_refl _) _) (ints_oneCell .i64 xs) (by omega) (by unfold maxLen; omega) (by omega) (by simp) ?_; intro g cap w1 hown hg hl') | (at_builtin; refine wpl_append_src rfl (.tmp 15) (.tmp 16) 55 rfl w1.heap.size 2 i0 (.int .i64 0) 1 8 Try.underlying55 hi hz0 hz1 hz2 rfl (by decide) (.slice (some ⟨w1.heap.size, 0, none⟩) 1 1) 1 (ints [-(price + 1)]) (by rfl) (own_new #[.int .i64 (-(price + 1))] 1 rfl (by decide)) w1.heap.size (some ⟨g, 0, none⟩) (1 + xs.length) cap (ints [1] ++ ints xs) (by rfl) ((Reads.of_own hown).alloc (Nat.le_refl _) _) (by rw [← ints_append]; exact ints_oneCell .i64 _) (by omega) (by unfold maxLen; omega) (by omega) (by simp) ?_; intro g2 cap2 w2 hown2 hg2 hl2) | (go_at_call 32; go_must (refine (HS.out _ _ _ (Reads.of_own hown2)).mono ?_); rintro e w3 ⟨rfl, hb⟩))
    go_ret2
    have hb1 := ((Below.refl w.heap.size w).alloc (Nat.le_refl _) _).grown hg (by simp) (fun k hk => by simp [Value.ownBlock] at hk; omega)
    have hs1 : w.heap.size ≤ w1.heap.size := by have := hg.size; simp at this; omega
    have hb2 := (hb1.alloc hs1 _).grown hg2 (by simp; omega) (fun k hk => by simp [Value.ownBlock] at hk; omega)
    exact ⟨rfl, below_then hb2 ‹_› (by have := hg2.size; simp at this; omega)⟩
  · have HR := Lib.hid hr
    have HX := Lib.hid hx
    unfold inI lowI topI at ht
    unfold lowI at hp
    have hne : (price == -9223372036854775808) = false := beq_eq_false_iff_ne.2 hp
    obtain ⟨ht0, ht1⟩ := ht
    replace ht0 : -9223372036854775807 ≤ price := by omega
    have hs : ∀ W A' c', Reads W W.heap.size 1 A' (1 + xs.length) (ints (-price :: xs)) → Calls Try.prog 32 #[.slice A' (1 + xs.length) c'] W fun e w' => e = .returned (.tuple #[.int .i64 (fitV (xs.sum - price)), .int .i64 (fitE (xs.sum - price))]) ∧ Below W.heap.size W w' := by
      intro W A' c' hR
      have e1 : (-price :: xs).length = 1 + xs.length := by simp; omega
      have e2 : (-price :: xs).sum = xs.sum - price := by simp; omega
      have := sum_any A' c' (-price :: xs) W (by rw [e1]; exact hR) (by rw [e1]; omega) (by
        intro x hm
        rcases List.mem_cons.1 hm with rfl | hm
        · unfold inI lowI topI; omega
        · exact hx x hm)
      rw [e1, e2] at this
      exact this
    have HS := Lib.hid hs
    clear hr hx hs hp
    go_enter Try.func40, Try.ntmps40
    go_wp2_with (first | (at_builtin; go_must (refine wpl_append_src rfl _ _ 55 rfl w.heap.size 2 i0 (.int .i64 0) 1 8 Try.underlying55 hi hz0 hz1 hz2 rfl (by decide) (.slice (some ⟨w.heap.size, 0, none⟩) 1 1) 1 (ints [-price]) (by rfl) (own_new #[.int .i64 (-price)] 1 rfl (by decide)) w.heap.size A xs.length c (ints xs) (by rfl) (HR.out.alloc (Nat.le_refl _) _) (ints_oneCell .i64 xs) (by omega) (by unfold maxLen; omega) (by omega) (by simp) ?_); intro g cap w1 hown hg hl') | (go_at_call 32; go_must (refine (HS.out _ _ _ (Reads.of_own hown)).mono ?_); rintro e w2 ⟨rfl, hb⟩))
    go_ret2
    exact ⟨rfl, below_then (((Below.refl _ _).alloc (Nat.le_refl _) _).grown hg (by simp) (fun k hk => by simp [Value.ownBlock] at hk; omega)) ‹_› (by have := hg.size; simp at this; omega)⟩
end Go.Proofs.Ytophfbnajelknaa

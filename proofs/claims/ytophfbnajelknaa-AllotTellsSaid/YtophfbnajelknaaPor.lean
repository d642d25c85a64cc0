import Derived.Test.YtophfbnajelknaaSum
import Derived.Test.YtophfbnajelknaaO
import Derived.Test.YtophfbnajelknaaPart
import Derived.Deep.DeepCutAuto
/- Package portion: wrong, Out. -/
namespace Go.Proofs.Ytophfbnajelknaa
open Go.RowKit

set_option maxHeartbeats 4000000 in
set_option maxRecDepth 100000 in
theorem wrong_any (A : Option Addr) (c : Nat) (xs : List Int) (w : World) (hr : Reads w w.heap.size 1 A xs.length (ints xs)) (hl : xs.length * 8 ≤ 140737488351232) (hx : ∀ x ∈ xs, inI x) :
    Calls Try.prog 99 #[.slice A xs.length c] w fun e w' => e = .returned (.tuple #[.int .i64 (wrongV xs), .int .i64 (wrongE xs)]) ∧ Below w.heap.size w w' := by
  by_cases h64 : 64 < xs.length
  · rw [wrongV, wrongE, if_pos h64, if_pos h64]
    clear hr hx
    go_enter Try.func99, Try.ntmps99
    go_wp2
    go_ret2
    exact ⟨rfl, Below.refl _ _⟩
  · have HR := Lib.hid hr
    have HX := Lib.hid hx
    have HV : Hid (wrongV xs = if (xs.any fun x => decide (x < 0)) || !(xs.any fun x => decide (0 < x)) then 0 else fitV xs.sum) := if_neg h64
    have HE : Hid (wrongE xs = if (xs.any fun x => decide (x < 0)) || !(xs.any fun x => decide (0 < x)) then 1 else fitE xs.sum) := if_neg h64
    clear hr hx
    go_enter Try.func99, Try.ntmps99
    go_wp2
    go_loopg [4, 12] xs.length (fun kq v4 v12 w' => ∃ (k : Nat) (s : Bool), k ≤ xs.length ∧ kq = xs.length - k ∧ v12 = .int .i64 k ∧ v4 = .bool s ∧ Aside (s = (xs.take k).any (fun x => decide (0 < x)) ∧ (xs.take k).any (fun x => decide (x < 0)) = false) ∧ w' = w)
    case atStart => exact ⟨0, false, by omega, by omega, by go_num, rfl, ⟨by simp, by simp⟩, rfl⟩
    case round =>
      obtain ⟨k, s, hk, rfl, rfl, rfl, HI, rfl⟩ := hrel
      by_cases hlt : k < xs.length
      · obtain ⟨ad, rfl, hb, hc⟩ := HR.out.int_at hlt
        obtain ⟨x, hx⟩ : ∃ x, x = xs.getD k 0 := ⟨_, rfl⟩
        rw [← hx] at hc
        have HG := Lib.hid hx
        clear hx
        by_cases hneg : x < 0
        · go_wp2
          go_ret2
          have hany : xs.any (fun x => decide (x < 0)) = true := any_of_take hlt (by rw [← HG.out]; simpa using hneg)
          rw [HV.out, HE.out, hany]
          exact ⟨rfl, Below.refl _ _⟩
        · have hn : ((xs.take (k + 1)).any fun x => decide (x < 0)) = false := by rw [any_snoc _ _ _ hlt, HI.out.2, ← HG.out]; simpa using hneg
          have hp : ((xs.take (k + 1)).any fun x => decide (0 < x)) = (s || decide (0 < x)) := by rw [any_snoc _ _ _ hlt, ← HI.out.1, ← HG.out]
          have HN := Lib.hid hn
          have HP := Lib.hid hp
          clear hn hp
          cases s
          all_goals
            go_wp2
            go_roundg (xs.length - (k + 1))
            case measure => omega
            case rel => exact ⟨k + 1, _, by omega, rfl, by go_num, rfl, ⟨by rw [HP.out]; first | rfl | simp, HN.out⟩, rfl⟩
      · obtain rfl : k = xs.length := by omega
        obtain ⟨hs, hn⟩ := HI.out
        rw [List.take_length] at hs hn
        have HS := Lib.hid hs
        have HN := Lib.hid hn
        clear hs hn HI
        cases s
        · go_wp2
          go_ret2
          rw [HV.out, HE.out, HN.out, ← HS.out]
          exact ⟨rfl, Below.refl _ _⟩
        · go_wp2_with (go_at_call 32; go_must (refine (sum_any _ _ _ _ HR.out hl HX.out).mono ?_); rintro e w1 ⟨rfl, hb⟩)
          go_ret2
          rw [HV.out, HE.out, HN.out, ← HS.out]
          exact ⟨rfl, ‹_›⟩

/-- Numbers as a block's cells. -/
def row (xs : List Int) : Array Value := (ints xs).toArray
theorem row_at {xs : List Int} {k : Nat} (h : k < xs.length) : (row xs)[k]? = some (.int .i64 (xs.getD k 0)) := by
  rw [row, List.getElem?_toArray]; exact ints_at h
theorem Blk.int {w : World} {g : Nat} {t : TypeId} {xs : List Int} (h : Blk w g t (row xs)) {k : Nat} (hk : k < xs.length) : w.cell? ⟨g, k, none⟩ = some (.int .i64 (xs.getD k 0)) := (h.cell k).trans (row_at hk)

set_option maxHeartbeats 4000000 in
set_option maxRecDepth 100000 in
theorem greatest_any (bv br : Nat) (rs : List Int) (w : World) (hv : Blk w bv 55 #[.slice (some ⟨br, 0, none⟩) rs.length rs.length]) (hr : Blk w br 2 (row rs)) (h0 : 0 < rs.length) (h64 : rs.length ≤ 64) :
    Calls Try.prog 101 #[.pointer (some ⟨bv, 0, none⟩)] w fun e w' => e = .returned (.int .i64 (gr rs)) ∧ w = w' := by
  have c0 := hv.cell 0
  simp at c0
  have HR := Lib.hid hr
  clear hr hv
  go_enter Try.func101, Try.ntmps101
  go_wp2
  go_loopg [2, 7] rs.length (fun kq v2 v7 w' => ∃ (k g : Nat), k ≤ rs.length ∧ kq = rs.length - k ∧ v7 = .int .i64 k ∧ v2 = .int .i64 g ∧ Aside (g = grTo rs k) ∧ g ≤ k ∧ g < rs.length ∧ w = w')
  case atStart => exact ⟨0, 0, by omega, by omega, by go_num, by go_num, rfl, by omega, by omega, rfl⟩
  case round =>
    obtain ⟨k, g, hk, rfl, rfl, rfl, HI, hgk, hg, rfl⟩ := hrel
    by_cases hlt : k < rs.length
    · have hc1 := HR.out.int hlt
      have hc2 := HR.out.int hg
      have HT := Lib.hid (grTo_step hlt hg HI.out)
      go_wp2
      · have hc : rs[g] < rs[k] := by assumption
        go_roundg (rs.length - (k + 1))
        case measure => omega
        case rel => exact ⟨k + 1, k, by omega, rfl, by go_num, rfl, HT.out.1 hc, by omega, hlt, rfl⟩
      · have hc : rs[k] ≤ rs[g] := by assumption
        go_roundg (rs.length - (k + 1))
        case measure => omega
        case rel => exact ⟨k + 1, g, by omega, rfl, by go_num, rfl, HT.out.2 hc, by omega, hg, rfl⟩
    · obtain rfl : k = rs.length := by omega
      go_wp2
      go_ret
      exact ⟨ret1_int (by rw [HI.out, gr]), rfl⟩

theorem row_set (xs : List Int) (k : Nat) (x : Int) : (row xs).setIfInBounds k (.int .i64 x) = row (xs.set k x) := by
  simp [row, ints, List.map_set]
theorem row_size (xs : List Int) : (row xs).size = xs.length := by simp [row, ints]
theorem Blk.int_set {w : World} {g : Nat} {t : TypeId} {xs : List Int} (h : Blk w g t (row xs)) (k : Nat) (x : Int) : Blk (w.setCell ⟨g, k, none⟩ (.int .i64 x)) g t (row (xs.set k x)) := by
  rw [← row_set]; exact h.set_ k _
theorem made_zero (n : Nat) : madeCells #[.int .i64 0] n = row (List.replicate n 0) := by
  apply Array.ext
  · simp [madeCells, row, ints]
  · intro i h1 h2
    simp [madeCells, row, ints, Nat.mod_one]

end Go.Proofs.Ytophfbnajelknaa

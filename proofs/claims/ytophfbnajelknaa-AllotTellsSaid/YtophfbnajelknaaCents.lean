import Derived.Test.YtophfbnajelknaaProg
import Derived.Test.YtophfbnajelknaaMem
import Derived.KernelRfl
/- Package cents: the contracts of Add and Less. -/
namespace Go.Proofs.Ytophfbnajelknaa
open Go.RowKit

theorem add_any (a b : Int) (ha : inI a) (hb : inI b) (w : World) :
    Calls Try.prog 45 #[.int .i64 a, .int .i64 b] w fun e w' => e = .returned (.tuple #[.int .i64 (fitV (a + b)), .int .i64 (fitE (a + b))]) ∧ w = w' := by
  have HA := Lib.hid ha
  have HB := Lib.hid hb
  clear ha hb
  go_enter Try.func45, Try.ntmps45
  go_wp2
  · have h := add_yes HA.out HB.out ‹_›
    go_ret2
    exact ⟨ret2_int h.1 h.2, rfl⟩
  · have h := add_no HA.out HB.out ‹_›
    go_ret2
    exact ⟨ret2_int h.1 h.2, rfl⟩

theorem less_any (a b : Int) (ha : inI a) (hb : inI b) (w : World) :
    Calls Try.prog 68 #[.int .i64 a, .int .i64 b] w fun e w' => e = .returned (.tuple #[.int .i64 (fitV (a - b)), .int .i64 (fitE (a - b))]) ∧ w = w' := by
  have HA := Lib.hid ha
  have HB := Lib.hid hb
  clear ha hb
  go_enter Try.func68, Try.ntmps68
  go_wp2
  · have h := less_yes HA.out HB.out ‹_›
    go_ret2
    exact ⟨ret2_int h.1 h.2, rfl⟩
  · have h := less_no HA.out HB.out ‹_›
    go_ret2
    exact ⟨ret2_int h.1 h.2, rfl⟩
end Go.Proofs.Ytophfbnajelknaa

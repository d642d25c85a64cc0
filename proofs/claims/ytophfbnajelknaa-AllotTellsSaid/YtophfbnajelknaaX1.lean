import Derived.Test.YtophfbnajelknaaX
/- Reference R01: at, made, Neg. -/
namespace Go.Proofs.Ytophfbnajelknaa
open Go.RowKit

theorem getD_past {l : List Int} {i : Nat} (h : l.length ≤ i) : l.getD i 0 = 0 := by rw [List.getD_eq_getElem?_getD, List.getElem?_eq_none h]; rfl

set_option maxRecDepth 100000 in
theorem at_any (A : Option Addr) (c : Nat) (ds : List Int) (i : Nat) (w : World) (hr : Reads w w.heap.size 1 A ds.length (ints ds)) :
    Calls Try.prog 93 #[.slice A ds.length c, .int .i64 i] w fun e w' => e = .returned (.int .i64 (ds.getD i 0)) ∧ w = w' := by
  by_cases h : i < ds.length
  · obtain ⟨ad, rfl, hb, hc⟩ := hr.int_at h
    obtain ⟨x, hx⟩ : ∃ x, x = ds.getD i 0 := ⟨_, rfl⟩
    rw [← hx] at hc ⊢
    clear hx hr
    go_enter Try.func93, Try.ntmps93
    go_wp2
    go_ret
    exact ⟨rfl, rfl⟩
  · rw [getD_past (by omega)]
    go_enter Try.func93, Try.ntmps93
    go_wp2
    go_ret
    exact ⟨rfl, rfl⟩

theorem info102 : (Try.prog.info? 102).map (·.size) = some 2 := by kernel_rfl
/-- A result of type 102 (sign, digits) that lies in a variable. -/
theorem ret102 {fn : Func} {p : Tmp} {R : Ending → World → Prop} {a : Act} {w : World} {g : Nat} {x y : Value} (h : fn.results = #[.cell p 102]) (hp : a.tmps.getD p undef = .pointer (some ⟨g, 0, none⟩)) (hd : a.defers = [])
    (hg : Blk w g 102 #[x, y]) (hR : R (.returned (.agg #[x, y])) w) : bodyPost Try.prog fn R .ret a w := by
  have hp' : a.tmps[p]?.getD undef = .pointer (some ⟨g, 0, none⟩) := by simpa using hp
  refine bodyPost_ret (v := .agg #[x, y]) ?_ hd hR
  simp [results, h, hp', asAddr, run_loadVar_row w g 102 102 #[x, y] (0, 0) _ hg Try.underlying102 rfl info102]
theorem getD_take {l : List Int} {k n : Nat} (h : k < n) : (l.take n).getD k 0 = l.getD k 0 := by
  rw [List.getD_eq_getElem?_getD, List.getElem?_take, if_pos h, ← List.getD_eq_getElem?_getD]
theorem Reads.take {w : World} {B : Nat} {A : Option Addr} {xs : List Int} (h : Reads w B 1 A xs.length (ints xs)) {m : Nat} (hm : m ≤ xs.length) : Reads w B 1 A (xs.take m).length (ints (xs.take m)) := by
  refine ⟨by rw [ints_length, Nat.mul_one], fun h0 => ?_⟩
  rw [List.length_take, Nat.min_eq_left hm] at h0
  obtain ⟨ad, e, hb, hc⟩ := h.2 (by omega)
  refine ⟨ad, e, hb, fun j u hu => ?_⟩
  have hj : j < (xs.take m).length := by
    rcases Nat.lt_or_ge j (xs.take m).length with h | h
    · exact h
    · rw [List.getElem?_eq_none (by rw [ints_length]; exact h)] at hu; cases hu
  rw [ints_at hj] at hu
  cases hu
  rw [List.length_take] at hj
  rw [getD_take (by omega)]
  exact hc j _ (ints_at (by omega))
theorem RI.take {w : World} {A : Option Addr} {xs : List Int} (h : RI w A xs) {m : Nat} (hm : m ≤ xs.length) : RI w A (xs.take m) :=
  ⟨h.r.take hm, fun ad e h0 => h.t ad e (by rw [List.length_take] at h0; omega)⟩
theorem trim_step {ds : List Int} {n : Nat} (h : n < ds.length) (hz : ds.getD n 0 = 0) : valD (ds.take n) = valD (ds.take (n + 1)) := by
  rw [valD_take h, hz]; simp

set_option maxHeartbeats 4000000 in
set_option maxRecDepth 100000 in
theorem made_all (s : Int) (A : Option Addr) (c : Nat) (ds : List Int) (w : World) (hs : valD ds ≠ 0 → s = 1 ∨ s = -1) (hr : RI w A ds) (hd : Digs ds) (hc : ds.length ≤ c) (hl : ds.length ≤ 10000) :
    Calls Try.prog 92 #[.int .i64 s, .slice A ds.length c] w fun e w' => ∃ v, e = .returned v ∧ Ex w' v (s * valD ds) ∧ Below w.heap.size w w' := by
  have HR := Lib.hid hr
  have HD := Lib.hid hd
  have HS := Lib.hid hs
  clear hr hd hs
  go_enter Try.func92, Try.ntmps92
  go_wp2
  go_loopg [1] ds.length (fun kq v1 w' => ∃ n : Nat, n ≤ ds.length ∧ n = kq ∧ v1 = .slice A n c ∧ Aside (valD (ds.take n) = valD ds) ∧ Blk w' w.heap.size 102 #[.int .i64 0, .slice none 0 0] ∧ w'.heap.size = w.heap.size + 1 ∧ Below w.heap.size w w')
  case atStart => exact ⟨ds.length, by omega, rfl, rfl, by rw [Aside, List.take_length], Blk.new _ _ _, by simp, (Below.refl _ _).alloc (Nat.le_refl _) _⟩
  case round =>
    obtain ⟨n, hn, rfl, rfl, HI, hblk, hsz, hbel⟩ := hrel
    have cb0 := hblk.cell 0
    have cb1 := hblk.cell 1
    have fz0 := hblk.frozen 0
    have fz1 := hblk.frozen 1
    simp at cb0 cb1
    rcases n with _ | n
    · go_wp2
      have q := (hblk.set_ 0 (.int .i64 0)).set_ 1 (.slice none 0 0)
      refine ret102 rfl rfl rfl q ⟨_, rfl, ?_, ?_⟩
      · rw [← HI, show valD (ds.take 0) = 0 from rfl, Int.mul_zero]
        exact Ex.nil _
      · exact (hbel.setCell (p := ⟨w.heap.size, 0, none⟩) (Nat.le_refl _) _).setCell (p := ⟨w.heap.size, 1, none⟩) (Nat.le_refl _) _
    · obtain ⟨ad, rfl, hb, hcl⟩ := (HR.out.below hbel).r.int_at (show n < ds.length by omega)
      obtain ⟨x, hx⟩ : ∃ x, x = ds.getD n 0 := ⟨_, rfl⟩
      rw [← hx] at hcl
      have HX := Lib.hid hx
      clear hx
      have e1 : ((n + 1 : Nat) : Int) - 1 = n := by omega
      by_cases hz : x = 0
      · have hz1 : (x == 0) = true := by simpa using hz
        have HI2 : Hid (valD (ds.take n) = valD ds) := (trim_step (by omega) (by rw [← HX.out, hz])).trans HI.out
        go_wp2
        go_roundg n
        case measure => omega
        case rel => exact ⟨n, by omega, rfl, rfl, HI2.out, hblk, hsz, hbel⟩
      · have hz1 : (x == 0) = false := by simpa using hz
        go_wp2
        have q := (hblk.set_ 0 (.int .i64 s)).set_ 1 (.slice (some ad) (n + 1) c)
        have bel := (hbel.setCell (p := ⟨w.heap.size, 0, none⟩) (Nat.le_refl _) (.int .i64 s)).setCell (p := ⟨w.heap.size, 1, none⟩) (Nat.le_refl _) (.slice (some ad) (n + 1) c)
        refine ret102 rfl rfl rfl q ⟨_, rfl, ?_, bel⟩
        have hlast : (ds.take (n + 1)).getD ((ds.take (n + 1)).length - 1) 0 ≠ 0 := by
          rw [List.length_take, Nat.min_eq_left (by omega), Nat.add_sub_cancel, getD_take (by omega), ← HX.out]; exact hz
        have hne : valD ds ≠ 0 := by
          have := valD_ge (HD.out.take (n + 1)) (by rw [List.length_take]; omega) hlast
          have := pow1000_pos ((ds.take (n + 1)).length - 1)
          have := HI.out
          omega
        refine ⟨s, some ad, c, ds.take (n + 1), ?_, ?_, (HD.out).take _, by rw [HI], .inr ⟨HS.out hne, ?_, hlast⟩⟩
        · rw [List.length_take, Nat.min_eq_left (by omega)]
        · exact (HR.out.below bel).take (by omega)
        · rw [List.length_take]; omega
/-- Trimmed. -/
theorem made_any (s : Int) (A : Option Addr) (c : Nat) (ds : List Int) (w : World) (hs : s = 1 ∨ s = -1) (hr : RI w A ds) (hd : Digs ds) (hc : ds.length ≤ c) (hl : ds.length ≤ 10000) :
    Calls Try.prog 92 #[.int .i64 s, .slice A ds.length c] w fun e w' => ∃ v, e = .returned v ∧ Ex w' v (s * valD ds) ∧ Below w.heap.size w w' := made_all s A c ds w (fun _ => hs) hr hd hc hl
end Go.Proofs.Ytophfbnajelknaa

import Derived.Test.YtophfbnajelknaaX2
/- Reference R01: Of. -/
namespace Go.Proofs.Ytophfbnajelknaa
open Go.RowKit

theorem Try.info3 : (Try.prog.info? 3).map (fun i => (i.zero, i.size, i.bytes)) = some (some (.int .i64 0), 1, 8) := by kernel_rfl

theorem own_ge {W : World} {base : Nat} {e : TypeId} {size n : Nat} {v : Value} {xs : List Value} {j : Nat} (h : W.ownsRow base e size v n xs) (hj : v.ownBlock = some j) : base ≤ j := by
  rcases h.2 with ⟨rfl, _⟩ | ⟨g, cap, cur, rfl, hg, _⟩
  · simp [Value.ownBlock] at hj
  · have : g = j := by simpa [Value.ownBlock] using hj
    omega
/-- Of, in between: the digits so far, and what is left of the size. -/
structure OfI (N M : Int) (ds : List Int) : Prop where
  digs : Digs ds
  left : 0 ≤ M
  val : N = valD ds + 1000 ^ ds.length * M
  len : ds.length ≤ 7
theorem OfI.start {n : Int} (h : 0 ≤ n) : OfI n n [] := ⟨fun x hx => (by cases hx), h, (by simp [valD]), (by simp)⟩
theorem OfI.more {N M : Int} {ds : List Int} (h : OfI N M ds) (hN : N ≤ 10 ^ 19) (hM : 1 ≤ M) : ds.length ≤ 6 := by
  have h1 := valD_nonneg h.digs
  have h2 : (1000 : Int) ^ ds.length * 1 ≤ 1000 ^ ds.length * M := Int.mul_le_mul_of_nonneg_left hM (Int.le_of_lt (pow1000_pos _))
  have h3 := h.val
  rcases Nat.lt_or_ge ds.length 7 with h4 | h4
  · omega
  · have h5 : ds.length = 7 := by have := h.len; omega
    rw [h5] at h2 h3
    omega
theorem OfI.step {N M : Int} {ds : List Int} (h : OfI N M ds) (hl : ds.length ≤ 6) : OfI N (M / 1000) (ds ++ [M % 1000]) := by
  refine ⟨fun x hx => ?_, by have := h.left; omega, ?_, by rw [List.length_append, List.length_cons, List.length_nil]; omega⟩
  · rcases List.mem_append.1 hx with h1 | h1
    · exact h.digs x h1
    · rw [List.mem_singleton] at h1; omega
  · have e : M = 1000 * (M / 1000) + M % 1000 := by omega
    have e2 : (1000 : Int) ^ ds.length * M = 1000 ^ ds.length * (1000 * (M / 1000)) + 1000 ^ ds.length * (M % 1000) := by rw [← Int.mul_add, ← e]
    rw [h.val, valD_snoc, List.length_append, List.length_cons, List.length_nil, Int.pow_succ, Int.mul_assoc, e2]
    omega

theorem RI.setCell {w : World} {A : Option Addr} {ds : List Int} (h : RI w A ds) {g : Nat} {t : TypeId} {cs : Array Value} (hb : Blk w g t cs) (ht : 3 ≠ t) {p : Addr} (hp : p.block = g) (x : Value) : RI (w.setCell p x) A ds := by
  refine ⟨⟨h.r.1, fun h0 => ?_⟩, fun ad e h0 => ?_⟩
  · obtain ⟨ad, e, hlt, hc⟩ := h.r.2 h0
    have hne := (h.t ad e h0).ne_ hb ht
    refine ⟨ad, e, by simp; exact hlt, fun j u hu => ?_⟩
    rw [World.cell?_setCell_other _ _ _ _ (fun h => hne (by rw [← hp, h, block_of_add]))]
    exact hc j u hu
  · have hne := (h.t ad e h0).ne_ hb ht
    obtain ⟨cs, m, hh⟩ := h.t ad e h0
    exact ⟨cs, m, (Below.heap_setCell w p x ad.block (by rw [hp]; exact hne)).trans hh⟩
/-- A number in memory stays while a variable of type 102 is written. -/
theorem Ex.setBlk {w : World} {v : Value} {z : Int} (h : Ex w v z) {g : Nat} {cs : Array Value} (hb : Blk w g 102 cs) {p q : Addr} (hp : p = ⟨g, p.off, none⟩) (hq : q.block = g) (x y : Value) : Ex ((w.setCell p x).setCell q y) v z := by
  obtain ⟨s, A, c, ds, rfl, R, N⟩ := h
  have h1 := R.setCell hb (by decide) (p := p) (by rw [hp]) x
  have hb1 : Blk (w.setCell p x) g 102 (cs.setIfInBounds p.off x) := by rw [hp]; exact hb.set_ p.off x
  exact ⟨s, A, c, ds, rfl, h1.setCell hb1 (by decide) hq y, N⟩
set_option maxHeartbeats 4000000 in
set_option maxRecDepth 100000 in
theorem of_pos (n : Int) (w : World) (hn : inI n) (h0 : 0 ≤ n) :
    Calls Try.prog 61 #[.int .i64 n] w fun e w' => ∃ v, e = .returned v ∧ Ex w' v n ∧ Below w.heap.size w w' := by
  obtain ⟨i0, hi, hz0, hz1, hz2⟩ := info_parts Try.info3
  unfold inI lowI topI at hn
  obtain ⟨n1, n2⟩ := hn
  have HN : Hid (n ≤ 10 ^ 19) := by show n ≤ _; omega
  have hown0 : ((w.alloc (.cells #[.int .i64 0, .slice none 0 0] 102)).alloc (.cells #[] 3)).ownsRow (w.heap.size + 1) 3 1 (.slice (some ⟨w.heap.size + 1, 0, none⟩) 0 0) 0 [] := by
    have := own_new (W := w.alloc (.cells #[.int .i64 0, .slice none 0 0] 102)) (e := 3) (size := 1) #[] 0 (by simp) (by unfold maxLen; omega)
    simpa using this
  have hblk0 : Blk ((w.alloc (.cells #[.int .i64 0, .slice none 0 0] 102)).alloc (.cells #[] 3)) w.heap.size 102 #[.int .i64 0, .slice none 0 0] := (Blk.new w 102 #[.int .i64 0, .slice none 0 0]).alloc _
  have hbel0 : Below w.heap.size w ((w.alloc (.cells #[.int .i64 0, .slice none 0 0] 102)).alloc (.cells #[] 3)) := ((Below.refl w.heap.size w).alloc (Nat.le_refl _) _).alloc (by simp) _
  have H0 := Lib.hid (And.intro hown0 (And.intro hblk0 hbel0))
  clear hown0 hblk0 hbel0
  go_enter Try.func61, Try.ntmps61
  go_wp2
  go_loopg [3, 4, 5] 8 (fun kq v3 v4 v5 w' => ∃ (m M s : Int) (ds : List Int) (vo : Value), kq = 8 - ds.length ∧ v5 = .int .i64 m ∧ v3 = .int .i64 s ∧ vo = v4 ∧ Aside (m = M ∧ s = 1 ∧ OfI n M ds) ∧ 0 ≤ m ∧ m ≤ n ∧ w'.ownsRow (w.heap.size + 1) 3 1 vo ds.length (ints ds) ∧ Blk w' w.heap.size 102 #[.int .i64 0, .slice none 0 0] ∧ Below w.heap.size w w')
  case atStart =>
    obtain ⟨hown0, hblk0, hbel0⟩ := H0.out
    exact ⟨n, n, 1, [], _, by simp, rfl, rfl, rfl, ⟨rfl, rfl, OfI.start h0⟩, h0, by omega, hown0, hblk0, hbel0⟩
  case round =>
    obtain ⟨m, M, s, ds, vo, rfl, rfl, rfl, rfl, HI, m0, mn, hown, hblk, hbel⟩ := hrel
    by_cases hm : m = 0
    · subst hm
      have hs : s = 1 := HI.2.1
      have hval : 1 * valD ds = n := by have := HI.2.2.val; rw [← HI.1, Int.mul_zero] at this; omega
      have hdg := HI.2.2.digs
      have hln := HI.2.2.len
      obtain ⟨Aa, ca, rfl, hca, _⟩ := own_ints hown
      have hmade : Hid (Calls Try.prog 92 #[.int .i64 1, .slice Aa ds.length ca] _ _) := made_any 1 Aa ca ds wr (.inl rfl) (RI.of_own hown) hdg hca (by omega)
      rw [hval] at hmade
      subst hs
      clear HI H0 hdg hval
      go_wp2_with (go_at_call 92; go_must (refine hmade.out.mono ?_); rintro e w2 ⟨v, rfl, ⟨s', A', c', ds', rfl, R', N'⟩, hb⟩; have B2 := hblk.below hb hblk.lt; have fz0 := B2.frozen 0; have fz1 := B2.frozen 1; have cb0 := B2.cell 0; have cb1 := B2.cell 1; simp at cb0 cb1)
      refine ret102 rfl rfl rfl ((B2.set_ 0 (.int .i64 s')).set_ 1 (.slice A' ds'.length c')) ⟨_, rfl, ?_, ?_⟩
      · exact Ex.setBlk ⟨s', A', c', ds', rfl, R', N'⟩ B2 rfl rfl _ _
      · exact ((below_then hbel hb hbel.size).setCell (p := ⟨w.heap.size, 0, none⟩) (Nat.le_refl _) _).setCell (p := ⟨w.heap.size, 1, none⟩) (Nat.le_refl _) _
    · have hl6 := HI.2.2.more HN.out (by rw [← HI.1]; omega)
      have hst := HI.2.2.step hl6
      rw [← HI.1] at hst
      have hs : s = 1 := HI.2.1
      subst hs
      have HST := Lib.hid hst
      have hl7 := ds.length
      have hb1 : (m != 0) = true := bne_iff_ne.2 hm
      have hb2 : decide (m % 1000 < 0) = false := decide_eq_false (by omega)
      have hb3 : decide (m < 0) = false := decide_eq_false (by omega)
      have hsz : w.heap.size + 1 ≤ wr.heap.size := hblk.lt
      clear HI hst H0
      go_wp2_with (at_builtin; go_must (refine wpl_append1 rfl _ _ 60 rfl (w.heap.size + 1) 3 i0 (.int .i64 0) 1 8 Try.underlying60 hi hz0 hz1 hz2 rfl (by decide) _ _ _ (by rfl) hown #[.int .i64 (m % 1000)] (by rfl) (by rfl) (by simp [Value.oneCell']) (by unfold maxLen; omega) (by omega) hsz ?_); intro g cap w3 hown3 hg3 hgg)
      have hown4 : w3.ownsRow (w.heap.size + 1) 3 1 (.slice (some ⟨g, 0, none⟩) (ds.length + 1) cap) (ds ++ [m % 1000]).length (ints (ds ++ [m % 1000])) := by rw [List.length_append, ints_append]; exact hown3
      have hblk4 := hblk.grown hg3 (fun h => own_blk_ne hown hblk (by decide) h.symm)
      have hbel4 := hbel.grown hg3 hbel.size (fun j hj => by have := own_ge hown hj; omega)
      go_roundg (8 - (ds.length + 1))
      case measure => omega
      case rel => exact ⟨m / 1000, m / 1000, 1, ds ++ [m % 1000], _, by rw [List.length_append]; rfl, rfl, rfl, rfl, ⟨rfl, rfl, HST.out⟩, by omega, by omega, hown4, hblk4, hbel4⟩
end Go.Proofs.Ytophfbnajelknaa

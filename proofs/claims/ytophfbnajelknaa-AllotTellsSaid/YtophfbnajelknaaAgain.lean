import Derived.Test.YtophfbnajelknaaAllot
import Derived.Test.YtophfbnajelknaaO2
/- Package allot: Again. -/
namespace Go.Proofs.Ytophfbnajelknaa
open Go.RowKit

/-- The shares after k rounds: the first k with what was done. -/
def addTo (s d : List Int) (k : Nat) : List Int := (List.range s.length).map fun i => if i < k then s.getD i 0 + d.getD i 0 else s.getD i 0
theorem addTo_length (s d : List Int) (k : Nat) : (addTo s d k).length = s.length := by simp [addTo]
theorem addTo_zero (s d : List Int) : addTo s d 0 = s := by
  apply List.ext_getElem
  · simp [addTo]
  · intro j h1 h2; simp [addTo, List.getD_eq_getElem?_getD, List.getElem?_eq_getElem h2]
theorem addTo_set (s d : List Int) (k : Nat) : (addTo s d k).set k (s.getD k 0 + d.getD k 0) = addTo s d (k + 1) := by
  apply List.ext_getElem
  · simp [addTo]
  · intro j h1 h2
    simp only [addTo, List.getElem_set, List.getElem_map, List.getElem_range]
    split
    · subst_vars; simp
    · by_cases h : j < k
      · simp [h, show j < k + 1 by omega]
      · simp [h, show ¬ j < k + 1 by omega]
theorem addTo_at (s d : List Int) (k : Nat) (h : k < s.length) : (addTo s d k).getD k 0 = s.getD k 0 := by simp [addTo, List.getD_eq_getElem?_getD, h]
theorem addTo_all (s d : List Int) : addTo s d s.length = addL s d := by
  apply List.ext_getElem
  · simp [addTo, addL]
  · intro j h1 h2
    have h3 : j < s.length := by simpa [addTo] using h1
    simp [addTo, addL, h3]
theorem addE_bad {s d : List Int} {k : Nat} (h : k < s.length) (hi : ¬ inI (s.getD k 0 + d.getD k 0)) : addE s d = 3 := by
  rw [addE, if_neg]
  intro ha
  rw [List.all_eq_true] at ha
  exact hi (by simpa using ha k (List.mem_range.2 h))
theorem addE_good {s d : List Int} (h : ∀ k, k < s.length → inI (s.getD k 0 + d.getD k 0)) : addE s d = 0 := by
  rw [addE, if_pos]
  rw [List.all_eq_true]
  intro k hk
  simpa using h k (List.mem_range.1 hk)

set_option maxHeartbeats 8000000 in
set_option maxRecDepth 100000 in
/-- The last loop of Again, and what stands ahead of it where all goes well. -/
theorem again_good (t : Int) (A : Option Addr) (c : Nat) (done : List Int) (A' : Option Addr) (c' : Nat) (alone : List Int) (w : World) (hd : Reads w w.heap.size 1 A done.length (ints done)) (hdx : ∀ x ∈ done, inI x)
    (ha : Reads w w.heap.size 1 A' alone.length (ints alone)) (hl : alone.length * 8 ≤ 140737488351232) (hax : ∀ x ∈ alone, inI x) (ht : inI t) (hlen : done.length = alone.length)
    (n : Int) (sh : List Int) (hn : inI n) (hle : leftE t done = 0) (hlv : leftV t done = n) (ho : outE n alone = 0) (hsh : outL n alone = sh) (hsl : sh.length = alone.length) (hsx : ∀ x ∈ sh, inI x) (hs0 : 0 < sh.length) (E : Int) (L : List Int) (hE : E = addE sh done) (hL : (E = 0 → L = addL sh done) ∧ (E ≠ 0 → L = [])) :
    Calls Try.prog 42 #[.int .i64 t, .slice A done.length c, .slice A' alone.length c'] w fun e w' => ∃ v, e = .returned (.tuple #[v, .int .i64 E]) ∧ w'.ownsRow w.heap.size 2 1 v L.length (ints L) ∧ Below w.heap.size w w' := by
  have HEE := Lib.hid hE
  have HLL := Lib.hid hL
  clear hE hL
  have HL := Lib.hid (left_any t A c done w hd (by omega) hdx ht)
  rw [hle, hlv] at HL
  have HO : ∀ W, Below w.heap.size w W → Calls Try.prog 69 #[.int .i64 n, .slice A' alone.length c'] W fun e w' => ∃ v, e = .returned (.tuple #[v, .int .i64 0]) ∧ w'.ownsRow W.heap.size 2 1 v sh.length (ints sh) ∧ Below W.heap.size W w' := by
    intro W hb
    have := out_any n A' c' alone W ((ha.below hb).more hb.size) hl hax hn
    rw [ho, hsh] at this
    exact this
  have HOO := Lib.hid HO
  have HD := Lib.hid hd
  have HX := Lib.hid hdx
  have HS := Lib.hid hsx
  have hdl : done.length = sh.length := by omega
  have HE := Lib.hid hlen
  have hsl2 : sh.length ≤ done.length ∧ done.length ≤ sh.length := by omega
  obtain ⟨l1, l2⟩ := hsl2
  have hsb : sh.length ≤ 17592186043904 := by omega
  have hne : ((done.length : Int) != (alone.length : Int)) = false := by rw [hlen]; simp
  clear HO hd hdx hsx hle hlv ho hsh ha hax ht hsl hlen hdl
  go_enter Try.func42, Try.ntmps42
  go_wp2_with (first | (go_at_call 74; go_must (refine HL.out.mono ?_); rintro e w1 ⟨rfl, hb1⟩) | (go_at_call 69; go_must (refine (HOO.out _ hb1).mono ?_); rintro e w2 ⟨v, rfl, hown, hb2⟩; obtain ⟨g, cap, rfl, hg1, hg2⟩ := hown.form hs0))
  have hbl := hb1.size
  have hown0 : w2.ownsRow w.heap.size 2 1 (.slice (some ⟨g, 0, none⟩) sh.length cap) sh.length (ints (addTo sh done 0)) := by
    rw [addTo_zero]
    refine ⟨hown.1, ?_⟩
    rcases hown.2 with h | ⟨g', cap', cur, h1, h2, h3⟩
    · exact .inl h
    · exact .inr ⟨g', cap', cur, h1, Nat.le_trans hbl h2, h3⟩
  have hb0 := below_then hb1 hb2 hbl
  have hgw : w.heap.size ≤ g := by omega
  clear hown hb1 hb2 hbl hg1 hg2
  go_loopg [37] sh.length (fun kq v37 w' => ∃ k : Nat, k ≤ sh.length ∧ kq = sh.length - k ∧ v37 = .int .i64 k ∧ w'.ownsRow w.heap.size 2 1 (.slice (some ⟨g, 0, none⟩) sh.length cap) sh.length (ints (addTo sh done k)) ∧ Hid (∀ i, i < k → inI (sh.getD i 0 + done.getD i 0)) ∧ Below w.heap.size w w')
  case atStart => exact ⟨0, by omega, by omega, by go_num, hown0, fun i hi => absurd hi (by omega), hb0⟩
  case round =>
    clear hown0 hb0
    obtain ⟨k, hk, rfl, rfl, hown, HI, hb⟩ := hrel
    by_cases hlt : k < sh.length
    · obtain ⟨ad, rfl, hab, hc⟩ := HD.out.int_at (k := k) (by omega)
      have hc' := (hb.cell (p := ad.add k) (by rw [block_of_add]; exact hab)).trans hc
      have d1 := hown.cellAt k (by omega)
      rw [ints_at (by rw [addTo_length]; exact hlt), addTo_at _ _ _ hlt] at d1
      have d2 := hown.frozenAt k
      obtain ⟨x, hx⟩ : ∃ x, x = sh.getD k 0 := ⟨_, rfl⟩
      obtain ⟨y, hy⟩ : ∃ y, y = done.getD k 0 := ⟨_, rfl⟩
      rw [← hx] at d1
      rw [← hy] at hc'
      have X := Lib.hid (show inI x by rw [hx]; exact HS.out _ (getD_mem hlt))
      have Y := Lib.hid (show inI y by rw [hy]; exact HX.out _ (getD_mem (by omega)))
      have E1 := Lib.hid hx
      have E2 := Lib.hid hy
      clear hc hx hy
      go_wp2
      go_region_with (go_at_call 45; refine (add_any x y X.out Y.out _).mono ?_; rintro e w3 ⟨rfl, rfl⟩)
      all_goals
        have hh := Lib.hid hown
        have HB := Lib.hid hb
        clear hown hb
        go_wp2
        · have hno := fitE_ne (z := x + y) ‹_›
          rw [E1.out, E2.out] at hno
          have e1 := addE_bad (d := done) hlt hno
          have e2 := fitE_out hno
          rw [← E1.out, ← E2.out] at e2
          go_ret2
          have h3 : E = 3 := by rw [HEE.out, e1]
          exact ⟨_, by rw [h3, ← e2]; rfl, by rw [HLL.out.2 (by omega)]; exact World.ownsRow_nil _ _ _ _, (HB.out.setCell (p := ⟨g, k, none⟩) hgw _).drew⟩
        · have hin := fitE_eq (z := x + y) ‹_›
          have e3 := fitV_in hin
          have hin' := hin
          rw [E1.out, E2.out] at hin'
          have EV := Lib.hid e3
          have HIN := Lib.hid hin'
          clear hin e3 hin'
          go_roundg (sh.length - (k + 1))
          case measure => omega
          case rel =>
            refine ⟨k + 1, by omega, rfl, by go_num, ?_, fun i hi => ?_, ?_⟩
            · rw [EV.out, ← addTo_set, ← E1.out, ← E2.out]
              have := (hh.out.stored k (.int .i64 (x + y))).1
              rw [show (ints (addTo sh done k)).set k (Value.int .i64 (x + y)) = ints ((addTo sh done k).set k (x + y)) from by simp [ints, List.map_set]] at this
              exact this
            · by_cases e : i = k
              · rw [e]; exact HIN.out
              · exact HI.out i (by omega)
            · exact (HB.out.setCell (p := ⟨g, k, none⟩) hgw _).drew
    · obtain rfl : k = sh.length := by omega
      have hh := Lib.hid hown
      have HB := Lib.hid hb
      have h0 : E = 0 := by rw [HEE.out]; exact addE_good HI.out
      have H0 := Lib.hid h0
      clear hown hb h0
      go_wp2
      go_ret2
      have e := HLL.out.1 H0.out
      have el : L.length = sh.length := by rw [e]; simp [addL]
      refine ⟨_, by rw [H0.out]; rfl, ?_, HB.out⟩
      have h := hh.out
      rw [addTo_all, ← e, ← el] at h
      rw [← el]
      exact h

theorem leftV_in (t : Int) (l : List Int) : inI (leftV t l) := by
  unfold leftV; split
  · exact inI_fitV _
  · exact inI_zero

set_option maxHeartbeats 8000000 in
set_option maxRecDepth 100000 in
theorem again_any (t : Int) (A : Option Addr) (c : Nat) (done : List Int) (A' : Option Addr) (c' : Nat) (alone : List Int) (w : World) (hd : Reads w w.heap.size 1 A done.length (ints done)) (hdx : ∀ x ∈ done, inI x) (hdl : done.length * 8 ≤ 140737488351232)
    (ha : Reads w w.heap.size 1 A' alone.length (ints alone)) (hl : alone.length * 8 ≤ 140737488351232) (hax : ∀ x ∈ alone, inI x) (ht : inI t) :
    Calls Try.prog 42 #[.int .i64 t, .slice A done.length c, .slice A' alone.length c'] w fun e w' => ∃ v, e = .returned (.tuple #[v, .int .i64 (againE t done alone)]) ∧ w'.ownsRow w.heap.size 2 1 v (againL t done alone).length (ints (againL t done alone)) ∧ Below w.heap.size w w' := by
  by_cases h1 : done.length = alone.length
  · by_cases h2 : leftE t done = 0
    · by_cases h3 : outE (leftV t done) alone = 0
      · have hE : againE t done alone = addE (outL (leftV t done) alone) done := by
          rw [againE, if_neg (by omega), if_neg (by omega), if_neg (by omega)]
        obtain ⟨f1, f2, f3, f4⟩ := outL_facts (leftV_in t done) h3
        exact again_good t A c done A' c' alone w hd hdx ha hl hax ht h1 _ _ (leftV_in t done) h2 rfl h3 rfl f2 f4 (by rw [f2]; exact (wrongE_good (outE_good h3).1).2.1) _ _ hE
          ⟨fun h => by rw [againL, if_neg (by omega)], fun h => by rw [againL, if_pos h]⟩
      · have hE : againE t done alone = outE (leftV t done) alone := by
          rw [againE, if_neg (by omega), if_neg (by omega), if_pos h3]
        have hL : againL t done alone = [] := by rw [againL, hE, if_pos h3]
        rw [hE, hL]
        obtain ⟨n, hn⟩ : ∃ n, n = leftV t done := ⟨_, rfl⟩
        have HL := Lib.hid (left_any t A c done w hd hdl hdx ht)
        rw [h2, ← hn] at HL
        have hnI : inI n := by rw [hn]; exact leftV_in t done
        rw [← hn] at h3 ⊢
        obtain ⟨E, hEE⟩ : ∃ E, E = outE n alone := ⟨_, rfl⟩
        have HO : Hid (∀ W, Below w.heap.size w W → Calls Try.prog 69 #[.int .i64 n, .slice A' alone.length c'] W fun e w' => ∃ v, e = .returned (.tuple #[v, .int .i64 E]) ∧ w'.ownsRow W.heap.size 2 1 v 0 (ints []) ∧ Below W.heap.size W w') := by
          intro W hb
          have := out_any n A' c' alone W ((ha.below hb).more hb.size) hl hax hnI
          rw [outL_bad h3, ← hEE] at this
          exact this
        rw [← hEE] at h3 ⊢
        have hne : ((done.length : Int) != (alone.length : Int)) = false := by rw [h1]; simp
        have hne2 : (E != 0) = true := by simpa using h3
        clear hE hL hn hnI hEE h3 h2 h1 hd hdx ha hax ht
        go_enter Try.func42, Try.ntmps42
        go_wp2_with (first | (go_at_call 74; go_must (refine HL.out.mono ?_); rintro e w1 ⟨rfl, hb1⟩) | (go_at_call 69; go_must (refine (HO.out _ hb1).mono ?_); rintro e w2 ⟨v, rfl, hown, hb2⟩))
        go_ret2
        exact ⟨_, rfl, World.ownsRow_nil _ _ _ _, below_then hb1 hb2 hb1.size⟩
    · have hE : againE t done alone = leftE t done := by
        rw [againE, if_neg (by omega), if_pos h2]
      have hL : againL t done alone = [] := by rw [againL, hE, if_pos h2]
      rw [hE, hL]
      obtain ⟨n, hn⟩ : ∃ n, n = leftV t done := ⟨_, rfl⟩
      obtain ⟨E, hEE⟩ : ∃ E, E = leftE t done := ⟨_, rfl⟩
      have HL := Lib.hid (left_any t A c done w hd hdl hdx ht)
      rw [← hEE, ← hn] at HL
      rw [← hEE] at h2 ⊢
      have hne : ((done.length : Int) != (alone.length : Int)) = false := by rw [h1]; simp
      have hne2 : (E != 0) = true := by simpa using h2
      clear hE hL hn hEE h2 h1 hd hdx ha hax ht
      go_enter Try.func42, Try.ntmps42
      go_wp2_with (first | (go_at_call 74; go_must (refine HL.out.mono ?_); rintro e w1 ⟨rfl, hb1⟩))
      go_ret2
      exact ⟨_, rfl, World.ownsRow_nil _ _ _ _, ‹_›⟩
  · have hE : againE t done alone = 1 := by rw [againE, if_pos h1]
    have hL : againL t done alone = [] := by rw [againL, hE, if_pos (by omega)]
    rw [hE, hL]
    have hne : ((done.length : Int) != (alone.length : Int)) = true := by rw [bne_iff_ne]; omega
    clear hE hL h1 hd hdx ha hax ht
    go_enter Try.func42, Try.ntmps42
    go_wp2
    go_ret2
    exact ⟨_, rfl, World.ownsRow_nil _ _ _ _, Below.refl _ _⟩
end Go.Proofs.Ytophfbnajelknaa

import Derived.Test.YtophfbnajelknaaSli
import Derived.Test.YtophfbnajelknaaMapI
import Derived.Maps.OwnSet
/- Package allot: Some. -/
namespace Go.Proofs.Ytophfbnajelknaa
open Go.RowKit Go.Maps

theorem law3 : Keyed Try.prog 3 := int_keyed Try.underlying3

set_option maxHeartbeats 8000000 in
set_option maxRecDepth 100000 in
theorem some_bad (price : Int) (A : Option Addr) (c : Nat) (alone : List Int) (A' : Option Addr) (c' : Nat) (whose : List Int) (w : World) (ha : Reads w w.heap.size 1 A alone.length (ints alone)) (hl : alone.length * 8 ≤ 140737488351232)
    (hw : Reads w w.heap.size 1 A' whose.length (ints whose)) (hl' : whose.length * 8 ≤ 140737488351232) (hb : someBad price alone whose = true) :
    Calls Try.prog 38 #[.int .i64 price, .slice A alone.length c, .slice A' whose.length c'] w fun e w' => e = .returned (.tuple #[.slice none 0 0, .int .i64 1]) ∧ w = w' := by
  have HC := Lib.hid (contains_neg A c alone w ha hl)
  have HR := Lib.hid (rises_any alone.length A' c' whose w hw hl')
  unfold someBad at hb
  obtain ⟨b1, hb1⟩ : ∃ b, b = alone.any fun x => decide (x < 0) := ⟨_, rfl⟩
  obtain ⟨b2, hb2⟩ : ∃ b, b = risesB whose alone.length := ⟨_, rfl⟩
  rw [← hb1, ← hb2] at hb
  rw [← hb1] at HC
  rw [← hb2] at HR
  clear hb1 hb2 ha hw
  by_cases hp : price < 0
  · clear hb
    go_enter Try.func38, Try.ntmps38
    go_wp2
    go_ret2
    exact ⟨rfl, rfl⟩
  · rw [decide_eq_false hp] at hb
    cases b1
    · cases b2
      · clear hb
        go_enter Try.func38, Try.ntmps38
        go_wp2_with (first | (go_at_call 72; go_must (refine HC.out.mono ?_); rintro e w1 ⟨rfl, rfl⟩) | (go_at_call 73; go_must (refine HR.out.mono ?_); rintro e w1 ⟨rfl, rfl⟩))
        go_ret2
        exact ⟨rfl, rfl⟩
      · simp at hb
    · clear hb
      go_enter Try.func38, Try.ntmps38
      go_wp2_with (first | (go_at_call 72; go_must (refine HC.out.mono ?_); rintro e w1 ⟨rfl, rfl⟩) | (go_at_call 73; go_must (refine HR.out.mono ?_); rintro e w1 ⟨rfl, rfl⟩))
      go_ret2
      exact ⟨rfl, rfl⟩

def oneP (n : Nat) (i : Int) : Bool := decide (0 ≤ i) && decide (i < n)
theorem oneP_step (n : Nat) (j : Int) : (oneP n j || j == (n : Int)) = oneP (n + 1) j := by
  unfold oneP; rw [Bool.eq_iff_iff]; simp; omega
/-- Those left when the first k of whose are struck. -/
def strikeTo (n : Nat) (whose : List Int) (k : Nat) (i : Int) : Bool := oneP n i && !(whose.take k).contains i
theorem strikeTo_step (n : Nat) (whose : List Int) (k : Nat) (h : k < whose.length) (i : Int) : (strikeTo n whose k i && !(i == whose.getD k 0)) = strikeTo n whose (k + 1) i := by
  unfold strikeTo
  rw [List.take_succ_eq_append_getElem h, List.getD_eq_getElem?_getD, List.getElem?_eq_getElem h, Option.getD_some, Bool.and_assoc]
  congr 1
  rw [Bool.eq_iff_iff]
  simp only [List.contains_eq_mem, Bool.and_eq_true, Bool.not_eq_true', decide_eq_false_iff_not, beq_eq_false_iff_ne, List.mem_append, List.mem_singleton, not_or, ne_eq]
theorem strikeTo_all (n : Nat) (whose : List Int) (i : Int) : strikeTo n whose whose.length i = otherB whose n i := by
  unfold strikeTo otherB oneP; rw [List.take_length]
theorem strikeTo_zero (n : Nat) (whose : List Int) (i : Int) : strikeTo n whose 0 i = oneP n i := by simp [strikeTo]
/-- The weights of the first k of whose. -/
theorem ofL_take (alone whose : List Int) (k : Nat) (h : k < whose.length) : ofL alone (whose.take (k + 1)) = ofL alone (whose.take k) ++ [alone.getD (whose.getD k 0).toNat 0] := by
  rw [List.take_succ_eq_append_getElem h, ofL, List.map_append, List.getD_eq_getElem?_getD (l := whose), List.getElem?_eq_getElem h]; rfl

theorem i64_wf {x : Int} (h : inI x) : (Lit.int .i64 x).wf = true := WalkArith.wf_i64 (by unfold inI lowI topI at h; omega)

set_option maxHeartbeats 8000000 in
set_option maxRecDepth 100000 in
theorem some_good (price : Int) (A : Option Addr) (c : Nat) (alone : List Int) (A' : Option Addr) (c' : Nat) (whose : List Int) (w : World) (ha : Reads w w.heap.size 1 A alone.length (ints alone)) (hl : alone.length ≤ 1000)
    (hw : Reads w w.heap.size 1 A' whose.length (ints whose)) (hl' : whose.length ≤ 1000) (hax : ∀ x ∈ alone, inI x) (hpi : inI price)
    (hp : 0 ≤ price) (hneg : (alone.any fun x => decide (x < 0)) = false) (hris : risesB whose alone.length = true) (E : Int) (L : List Int) (hE : E = someE price alone whose) (hL : L = someL price alone whose) :
    Calls Try.prog 38 #[.int .i64 price, .slice A alone.length c, .slice A' whose.length c'] w fun e w' => ∃ v, e = .returned (.tuple #[v, .int .i64 E]) ∧ w'.ownsRow w.heap.size 2 1 v L.length (ints L) ∧ Below w.heap.size w w' := by
  have hgd : someBad price alone whose = false := by rw [someBad, hneg, hris, decide_eq_false (by omega)]; rfl
  have hE1 : E = if leE price (othersSum alone whose) ≠ 0 then leE price (othersSum alone whose) else if leV price (othersSum alone whose) < 0 then 1 else outE (leV price (othersSum alone whose)) (ofL alone whose) := by
    rw [hE, someE, if_neg (by rw [hgd]; simp)]
  have hL1 : L = if E ≠ 0 then [] else putTo alone whose (outL (leV price (othersSum alone whose)) (ofL alone whose)) whose.length := by rw [hL, someL, hE]
  obtain ⟨n, hn⟩ : ∃ n, n = leV price (othersSum alone whose) := ⟨_, rfl⟩
  obtain ⟨le, hle⟩ : ∃ le, le = leE price (othersSum alone whose) := ⟨_, rfl⟩
  rw [← hn, ← hle] at hE1
  rw [← hn] at hL1
  have hnI : inI n := by rw [hn, leV]; split; exact inI_fitV _; exact inI_zero
  have H1 := Lib.hid hE1
  have H2 := Lib.hid hL1
  have H3 := Lib.hid hnI
  have H4 := Lib.hid hn
  have H5 := Lib.hid hle
  have hw0 : 0 < whose.length := by unfold risesB at hris; simp only [Bool.and_eq_true, decide_eq_true_eq] at hris; exact hris.2
  clear hgd hE hL hE1 hL1 hnI hn hle
  obtain ⟨i0, hi, hz0, hz1, hz2⟩ := info_parts Try.info2
  have hmm := @run_makeMap Try.prog
  have HC := Lib.hid (contains_neg A c alone w ha (by omega))
  have HR := Lib.hid (rises_any alone.length A' c' whose w hw (by omega))
  rw [hneg] at HC
  rw [hris] at HR
  have HA := Lib.hid ha
  have HW := Lib.hid hw
  have HAX := Lib.hid hax
  have HWM : Hid (∀ x ∈ whose, 0 ≤ x ∧ x < alone.length) := by
    intro x hx
    unfold risesB at hris
    simp only [Bool.and_eq_true] at hris
    have := okFrom_mem hris.1 x hx
    omega
  clear ha hw hax hneg hris
  go_enter Try.func38, Try.ntmps38
  go_wp2_with (first | (go_at_call 72; go_must (refine HC.out.mono ?_); rintro e w1 ⟨rfl, rfl⟩) | (go_at_call 73; go_must (refine HR.out.mono ?_); rintro e w1 ⟨rfl, rfl⟩))
  go_loopg [41] alone.length (fun kq v41 w' => ∃ k : Nat, k ≤ alone.length ∧ kq = alone.length - k ∧ v41 = .int .i64 k ∧ (∃ D : DataW Unit, w'.ownsMap Try.prog 3 (plainElem Try.prog 2) w.heap.size k D ∧ MapI D (oneP k) (fun i => alone.getD i.toNat 0)) ∧ Below w.heap.size w w')
  case atStart => exact ⟨0, by omega, by omega, by go_num, ⟨_, World.ownsMap_made _ _ _ _, (MapI.empty _).congr (fun i => by simp [oneP])⟩, (Below.refl _ _).alloc (Nat.le_refl _) _⟩
  case round =>
    obtain ⟨k, hk, rfl, rfl, ⟨D, hown, hD⟩, hb⟩ := hrel
    by_cases hlt : k < alone.length
    · obtain ⟨ad, rfl, hab, hc⟩ := HA.out.int_at hlt
      have hc' := (hb.cell (p := ad.add k) (by rw [block_of_add]; exact hab)).trans hc
      obtain ⟨x, hx⟩ : ∃ x, x = alone.getD k 0 := ⟨_, rfl⟩
      rw [← hx] at hc'
      have hxi : inI x := by rw [hx]; exact HAX.out _ (getD_mem hlt)
      have HX := Lib.hid hx
      have HXI := Lib.hid hxi
      clear hx hxi hc
      go_wp2_with (at_mapUpdate; go_must (refine wpList_mapUpdate_own _ rfl _ _ _ 120 rfl 3 2 law3 Try.underlying120 _ w.heap.size k D rfl hown (by unfold maxLen; omega) _ _ _ rfl rfl (keyOf_int_mk Try.underlying3 (WalkArith.wf_i64 (by omega))) _ [] (plainElem_int Try.underlying2 (i64_wf HXI.out)) ?_); intro w1 hown1 hg1)
      have hD1 := (hD.put k).congr (oneP_step k)
      rw [Int.toNat_natCast, ← HX.out] at hD1
      go_roundg (alone.length - (k + 1))
      case measure => omega
      case rel => exact ⟨k + 1, by omega, rfl, by go_num, ⟨_, hown1, hD1⟩, hb.grown hg1 hb.size (fun j hj => by cases hj; exact Nat.le_refl _)⟩
    · obtain rfl : k = alone.length := by omega
      go_wp2
      go_loopg [12, 52] whose.length (fun kq v12 v52 w' => ∃ (k : Nat) (vo : Value), k ≤ whose.length ∧ kq = whose.length - k ∧ v52 = .int .i64 k ∧ vo = v12 ∧ (∃ D : DataW Unit, w'.ownsMap Try.prog 3 (plainElem Try.prog 2) w.heap.size alone.length D ∧ MapI D (strikeTo alone.length whose k) (fun i => alone.getD i.toNat 0)) ∧ w'.ownsRow (w.heap.size + 1) 2 1 vo k (ints (ofL alone (whose.take k))) ∧ Below w.heap.size w w')
      case atStart => exact ⟨0, _, by omega, by omega, by go_num, rfl, ⟨D, hown, hD.congr (fun i => (strikeTo_zero _ _ i).symm)⟩, World.ownsRow_nil _ _ _ _, hb⟩
      case round =>
        clear hown hD hb
        obtain ⟨k, vo, hk, rfl, rfl, rfl, ⟨D, hown, hD⟩, hrow, hb⟩ := hrel
        by_cases hlt : k < whose.length
        · obtain ⟨ad, rfl, hab, hc⟩ := HW.out.int_at hlt
          have hc' := (hb.cell (p := ad.add k) (by rw [block_of_add]; exact hab)).trans hc
          obtain ⟨x, hx⟩ : ∃ x, x = whose.getD k 0 := ⟨_, rfl⟩
          rw [← hx] at hc'
          have hxm := HWM.out x (by rw [hx]; exact getD_mem hlt)
          obtain ⟨xn, rfl⟩ : ∃ xn : Nat, x = xn := ⟨x.toNat, by omega⟩
          have hxn : xn < alone.length := by omega
          obtain ⟨ad2, rfl, hab2, hc2⟩ := HA.out.int_at hxn
          have hc2' := (hb.cell (p := ad2.add xn) (by rw [block_of_add]; exact hab2)).trans hc2
          obtain ⟨y, hy⟩ : ∃ y, y = alone.getD xn 0 := ⟨_, rfl⟩
          rw [← hy] at hc2'
          have HX := Lib.hid hx
          have HY := Lib.hid hy
          have hsz := hown.lt
          clear hx hc hy hc2 hxm
          have hne : (some w.heap.size : Option Nat) ≠ vo.ownBlock := fun e => by have := (hrow.lt _ e.symm).1; omega
          go_wp2_with (first | (at_builtin; refine wpl_append1 rfl _ _ 55 rfl (w.heap.size + 1) 2 i0 (.int .i64 0) 1 8 Try.underlying55 hi hz0 hz1 hz2 rfl (by decide) _ _ _ (by rfl) hrow #[.int .i64 y] (by rfl) (by rfl) (by simp [Value.oneCell']) (by unfold maxLen; omega) (by omega) (by omega) ?_; intro g cap w1 hrow1 hg1 hl1; have hown1 := hown.kept hg1 hne) | (at_delete; go_must (refine wpList_delete_own _ rfl _ _ 120 3 rfl 2 law3 Try.underlying120 _ w.heap.size alone.length D rfl hown1 _ _ rfl (keyOf_int_mk Try.underlying3 (WalkArith.wf_i64 (by omega))) ?_); intro w2 hown2 hturn))
          have hD1 := (hD.del (xn : Int)).congr (q := strikeTo alone.length whose (k + 1)) (fun i => by rw [HX.out]; exact strikeTo_step alone.length whose k hlt i)
          have hgB := (hrow1.lt g rfl).1
          have hrow2 := hrow1.kept hturn.grown (.inr (by simp [Value.ownBlock]; omega))
          have hb2 := (hb.grown hg1 hb.size (fun j hj => by have := (hrow.lt j hj).1; omega)).grown hturn.grown (by have := hg1.size; omega) (fun j hj => by cases hj; exact Nat.le_refl _)
          go_roundg (whose.length - (k + 1))
          case measure => omega
          case rel =>
            refine ⟨k + 1, _, by omega, rfl, by go_num, rfl, ⟨_, hown2, hD1⟩, ?_, hb2⟩
            rw [ofL_take _ _ _ hlt, ints_append, ← HX.out, Int.toNat_natCast, ← HY.out]
            exact hrow2
        · obtain rfl : k = whose.length := by omega
          rw [List.take_length] at hrow
          have hD := hD.congr (strikeTo_all alone.length whose)
          obtain ⟨ofl, hofl⟩ : ∃ l, l = ofL alone whose := ⟨_, rfl⟩
          have hoflen : whose.length = ofl.length := by rw [hofl]; simp [ofL]
          rw [← hofl, hoflen] at hrow
          obtain ⟨Ao, co, rfl, hco, hof⟩ := own_ints hrow
          have HOF := Lib.hid (Reads.of_own hrow)
          have HFL := Lib.hid hofl
          have HFN := Lib.hid hoflen
          have hoflen' : ofl.length ≤ 1000 := by omega
          have HB2 := Lib.hid hb
          have hbs := hb.size
          obtain ⟨W2, rfl⟩ : ∃ W2 : World, W2 = wr := ⟨_, rfl⟩
          go_wp2_with (at_range; go_must (refine wpList_range_own _ rfl _ 120 rfl 3 2 law3 Try.underlying120 _ w.heap.size alone.length D rfl hown ?_); intro w3 hrg0 hg3 hs3)
          go_frame
          have hlt3 := hown.lt
          have hbr := (Below.refl W2.heap.size W2).grown hg3 (Nat.le_refl _) (fun j hj => by cases hj)
          clear hrow hown hb hoflen hofl hof
          go_loopg [15] (cntQ (otherB whose alone.length) alone.length) (fun kq v15 w' => ∃ (left : Lit → Bool) (cnt : Nat) (q : Int → Bool) (vr : Value) (rest : List Int), vr = v15 ∧ w'.ranges Try.prog 3 (plainElem Try.prog 2) w.heap.size W2.heap.size alone.length D left cnt ∧ Hid ((∀ i, left (.int .i64 i) = q i) ∧ (∀ i, q i = true → otherB whose alone.length i = true) ∧ kq = cntQ q alone.length ∧ rest.sum + sumQ q (fun i => alone.getD i.toNat 0) alone.length = othersSum alone whose ∧ (∀ x ∈ rest, inI x)) ∧ rest.length + kq ≤ alone.length ∧ w'.ownsRow (W2.heap.size + 1) 2 1 vr rest.length (ints rest) ∧ Below W2.heap.size W2 w' ∧ W2.heap.size + 1 ≤ w'.heap.size)
          case atStart => exact ⟨_, _, otherB whose alone.length, _, [], rfl, hrg0, ⟨hD.has_, fun i hi => hi, rfl, by simp [othersSum], fun x hx => by simp at hx⟩, by have := cntQ_le (otherB whose alone.length) alone.length; simpa using this, World.ownsRow_nil _ _ _ _, hbr, by omega⟩
          case round =>
            clear hrg0 hg3 hs3 hbr
            obtain ⟨left, cnt, q, vr, rest, rfl, hrg, HI, hrl, hrow, hbr, hsr⟩ := hrel
            go_wp2_with (at_next; go_must (refine wpList_next_ranges_ii _ rfl _ rfl 3 2 .i64 .i64 law3 Try.underlying3 Try.underlying2 w.heap.size W2.heap.size alone.length D left cnt rfl hrg ?_ ?_))
            · intro hc0 hl0
              obtain ⟨h1, h2, h3, h4, h5⟩ := HI.out
              have hq : ∀ i, q i = false := fun i => by rw [← h1]; exact hl0 _
              have hsum : rest.sum = othersSum alone whose := by rw [← h4, (sumQ_none hq _).1]; omega
              obtain ⟨Ar, cr, rfl, hcr, hrest⟩ := own_ints hrow
              have hlf := left_any price Ar cr rest wr (Reads.of_own hrow) (by omega) h5 hpi
              rw [leftV_sum, leftE_sum, hsum, ← H4.out, ← H5.out] at hlf
              have HLF := Lib.hid hlf
              clear h1 h2 h3 h4 h5 hq hsum hlf hrest hrg hrow hl0 HI
              have HBW := Lib.hid hbr
              by_cases hle0 : le = 0
              · have hle1 : (le != 0) = false := by simpa using hle0
                by_cases hn0 : n < 0
                · have hn1 : decide (n < 0) = true := decide_eq_true hn0
                  go_wp2_with (go_at_call 74; go_must (refine HLF.out.mono ?_); rintro e w5 ⟨rfl, hb5⟩)
                  go_ret2
                  have he : E = 1 := by rw [H1.out, if_neg (by omega), if_pos hn0]
                  exact ⟨_, by rw [he]; rfl, by rw [H2.out, if_pos (by omega)]; exact World.ownsRow_nil _ _ _ _, below_then (below_then HB2.out HBW.out hbs) ‹_› (by omega)⟩
                · have hn1 : decide (n < 0) = false := decide_eq_false hn0
                  obtain ⟨oE, hoE⟩ : ∃ oE, oE = outE n ofl := ⟨_, rfl⟩
                  obtain ⟨sh, hsh⟩ : ∃ sh, sh = outL n ofl := ⟨_, rfl⟩
                  have HO : Hid (∀ W, Below W2.heap.size W2 W → Calls Try.prog 69 #[.int .i64 n, .slice Ao ofl.length co] W fun e w' => ∃ v, e = .returned (.tuple #[v, .int .i64 oE]) ∧ w'.ownsRow W.heap.size 2 1 v sh.length (ints sh) ∧ Below W.heap.size W w') := by
                    intro W hbW
                    rw [hoE, hsh]
                    refine out_any n Ao co ofl W ((HOF.out.below hbW).more hbW.size) (by omega) ?_ H3.out
                    intro x hx
                    rw [HFL.out, ofL] at hx
                    obtain ⟨a, ha, rfl⟩ := List.mem_map.1 hx
                    have := HWM.out a ha
                    exact HAX.out _ (getD_mem (by omega))
                  by_cases ho0 : oE = 0
                  · have ho1 : (oE != 0) = false := by simpa using ho0
                    have hE0 : E = 0 := by rw [H1.out, if_neg (by omega), if_neg hn0, ← HFL.out, ← hoE, ho0]
                    have hLL : L = putTo alone whose sh whose.length := by rw [H2.out, if_neg (by omega), ← HFL.out, ← hsh]
                    have hshl : sh.length = ofl.length := by rw [hsh]; exact (outL_facts H3.out (by rw [← hoE]; exact ho0)).2.1
                    have HE0 := Lib.hid hE0
                    have HLL := Lib.hid hLL
                    have hal0 : 0 < alone.length := by
                      have h := HWM.out _ (getD_mem hw0)
                      omega
                    have hshl1 : whose.length ≤ sh.length ∧ sh.length ≤ 1000 := by have := HFN.out; omega
                    obtain ⟨hs1, hs2⟩ := hshl1
                    clear hoE hsh hE0 hLL hshl
                    go_wp2_with (first | (go_at_call 74; go_must (refine HLF.out.mono ?_); rintro e w5 ⟨rfl, hb5⟩; have hb6 := below_then HBW.out hb5 HBW.out.size) | (go_at_call 69; go_must (refine (HO.out _ hb6).mono ?_); rintro e w6 ⟨v, rfl, hown6, hb7⟩; have hb8 := below_then hb6 hb7 hb6.size; obtain ⟨g6, c6, rfl, hg61, hg62⟩ := hown6.form (by omega)) | (go_at_call 75; go_must (refine (clone_ints A c alone w6 ((HA.out.below (below_then HB2.out hb8 hbs)).more (by have := hb8.size; omega)) (by omega)).mono ?_); rintro e w7 ⟨v7, rfl, hown7, hb9⟩; obtain ⟨g7, c7, rfl, hg71, hg72⟩ := hown7.form hal0))
                    have hsh6 := (Reads.of_own hown6)
                    have HS6 := Lib.hid hsh6
                    have hw6 : w.heap.size ≤ w6.heap.size := by have := hb8.size; omega
                    have HB8 := Lib.hid (below_then HB2.out hb8 hbs)
                    clear hown6 hb5 hb6 hb7 hb8 hsh6 hg61 hg62
                    go_loopg [102] whose.length (fun kq v102 w' => ∃ k : Nat, k ≤ whose.length ∧ kq = whose.length - k ∧ v102 = .int .i64 k ∧ w'.ownsRow w6.heap.size 2 1 (.slice (some ⟨g7, 0, none⟩) alone.length c7) alone.length (ints (putTo alone whose sh k)) ∧ Below w6.heap.size w6 w')
                    case atStart => exact ⟨0, by omega, by omega, by go_num, hown7, hb9⟩
                    case round =>
                      clear hown7 hb9
                      obtain ⟨k, hk, rfl, rfl, hown, hb⟩ := hrel
                      have hb0 := below_then HB8.out hb hw6
                      by_cases hlt : k < whose.length
                      · obtain ⟨ad, rfl, hab, hc⟩ := HW.out.int_at hlt
                        have hc' := (hb0.cell (p := ad.add k) (by rw [block_of_add]; exact hab)).trans hc
                        obtain ⟨x, hx⟩ : ∃ x, x = whose.getD k 0 := ⟨_, rfl⟩
                        rw [← hx] at hc'
                        have hxm := HWM.out x (by rw [hx]; exact getD_mem hlt)
                        obtain ⟨xn, rfl⟩ : ∃ xn : Nat, x = xn := ⟨x.toNat, by omega⟩
                        have hxn : xn < alone.length := by omega
                        have hks : k < sh.length := by omega
                        obtain ⟨ad2, e2, hab2, hc2⟩ := HS6.out.int_at hks
                        have hg6 : ad2 = ⟨g6, 0, none⟩ := by injection e2 with e2; exact e2.symm
                        subst hg6
                        have hc2' := (hb.cell (p := (⟨g6, 0, none⟩ : Addr).add k) (by rw [block_of_add]; exact hab2)).trans hc2
                        rw [add_at, Nat.zero_add] at hc2'
                        obtain ⟨y, hy⟩ : ∃ y, y = sh.getD k 0 := ⟨_, rfl⟩
                        rw [← hy] at hc2'
                        have d1 := hown.cellAt xn (by omega)
                        rw [ints_at (by rw [putTo_length]; exact hxn)] at d1
                        have d2 := hown.frozenAt xn
                        have HX := Lib.hid hx
                        have HY := Lib.hid hy
                        have HH := Lib.hid hown
                        have HBB := Lib.hid hb
                        clear hx hc hy hc2 hxm e2 hab2 hown hb hb0
                        go_wp2
                        go_roundg (whose.length - (k + 1))
                        case measure => omega
                        case rel =>
                          refine ⟨k + 1, by omega, rfl, by go_num, ?_, HBB.out.setCell (p := ⟨g7, xn, none⟩) hg71 _⟩
                          have := (HH.out.stored xn (.int .i64 y)).1
                          rw [show (ints (putTo alone whose sh k)).set xn (Value.int .i64 y) = ints (putTo alone whose sh (k + 1)) from by rw [putTo, ← HX.out, ← HY.out]; simp [ints, List.map_set]] at this
                          exact this
                      · obtain rfl : k = whose.length := by omega
                        have HH := Lib.hid hown
                        have HB0 := Lib.hid hb0
                        clear hown hb hb0
                        go_wp2
                        go_ret2
                        have e := HLL.out
                        have el : L.length = alone.length := by rw [e, putTo_length]
                        refine ⟨_, by rw [HE0.out]; rfl, ?_, HB0.out⟩
                        rw [el, e]
                        refine ⟨HH.out.1, ?_⟩
                        rcases HH.out.2 with h | ⟨g', cap', cur, h1, h2, h3⟩
                        · exact .inl h
                        · exact .inr ⟨g', cap', cur, h1, Nat.le_trans hw6 h2, h3⟩
                  · have ho1 : (oE != 0) = true := by simpa using ho0
                    have he : Hid (E = oE ∧ L = []) := by
                      have h : E = oE := by rw [H1.out, if_neg (by omega), if_neg hn0, ← HFL.out, hoE]
                      exact ⟨h, by rw [H2.out, if_pos (by omega)]⟩
                    clear hoE hsh ho0
                    go_wp2_with (first | (go_at_call 74; go_must (refine HLF.out.mono ?_); rintro e w5 ⟨rfl, hb5⟩; have hb6 := below_then HBW.out hb5 HBW.out.size) | (go_at_call 69; go_must (refine (HO.out _ hb6).mono ?_); rintro e w6 ⟨v, rfl, hown6, hb7⟩))
                    go_ret2
                    exact ⟨_, by rw [he.out.1]; rfl, by rw [he.out.2]; exact World.ownsRow_nil _ _ _ _, below_then (below_then HB2.out hb6 hbs) hb7 (by have := hb6.size; omega)⟩
              · have hle1 : (le != 0) = true := by simpa using hle0
                go_wp2_with (go_at_call 74; go_must (refine HLF.out.mono ?_); rintro e w5 ⟨rfl, hb5⟩)
                go_ret2
                have he : E = le := by rw [H1.out, if_pos hle0]
                exact ⟨_, by rw [he]; rfl, by rw [H2.out, if_pos (by omega)]; exact World.ownsRow_nil _ _ _ _, below_then (below_then HB2.out HBW.out hbs) ‹_› (by omega)⟩
            · intro x y w4 cnt1 hwx hwy hlx hat hrg1 hlt1 hg4 hs4 hen
              obtain ⟨h1, h2, h3, h4, h5⟩ := HI.out
              have hqx : q x = true := by rw [← h1]; exact hlx
              have hox := h2 x hqx
              have hx01 : 0 ≤ x ∧ x < alone.length := by unfold otherB at hox; simp only [Bool.and_eq_true, decide_eq_true_eq] at hox; exact ⟨hox.1.1, hox.1.2⟩
              have hy : y = alone.getD x.toNat 0 := by
                have := (hat .nil).symm.trans (hD.at_ x hox .nil)
                injection this with this
                injection this
              have hyi : inI y := by rw [hy]; exact HAX.out _ (getD_mem (by omega))
              have hst := sumQ_strike (q := q) (f := fun i => alone.getD i.toNat 0) alone.length hx01.1 hx01.2 hqx
              have HN : Hid ((∀ i, (fun z : Lit => left z && !z.sameKey (.int .i64 x)) (.int .i64 i) = (q i && !(i == x))) ∧ (∀ i, (q i && !(i == x)) = true → otherB whose alone.length i = true) ∧ gk - 1 = cntQ (fun i => q i && !(i == x)) alone.length ∧ (rest ++ [y]).sum + sumQ (fun i => q i && !(i == x)) (fun i => alone.getD i.toNat 0) alone.length = othersSum alone whose ∧ (∀ z ∈ rest ++ [y], inI z)) := by
                refine ⟨fun i => ?_, fun i hi => h2 i (by simp at hi; exact hi.1), by omega, ?_, fun z hz => ?_⟩
                · show (left (.int .i64 i) && !(Lit.int .i64 i).sameKey (.int .i64 x)) = _
                  rw [h1, sameKey_int]
                · rw [List.sum_append, ← h4, ← hst.1]; simp only [List.sum_cons, List.sum_nil]; rw [hy]; omega
                · rcases List.mem_append.1 hz with hz | hz
                  · exact h5 z hz
                  · simp at hz; rw [hz]; exact hyi
              have hkq : 0 < gk := by omega
              have hrow4 := hrow.kept hg4 (.inr (fun e => by have := (hrow.lt _ e).1; omega))
              have hbr4 := hbr.grown hg4 hbr.size (fun j hj => by cases hj; exact Nat.le_refl _)
              have hvb := hrow.lt
              have hs4' := hg4.size
              clear hs4 h1 h2 h3 h4 h5 hqx hox hx01 hy hyi hst hat hlx HI hwx hwy hrow
              go_wp2_with (at_builtin; go_must (refine wpl_append1 rfl _ _ 55 rfl (W2.heap.size + 1) 2 i0 (.int .i64 0) 1 8 Try.underlying55 hi hz0 hz1 hz2 rfl (by decide) _ _ _ (by rfl) hrow4 #[.int .i64 y] (by rfl) (by rfl) (by simp [Value.oneCell']) (by unfold maxLen; omega) (by omega) (by omega) ?_); intro g cap w5 hrow5 hg5 hl5)
              have hne1 : (some w.heap.size : Option Nat) ≠ vr.ownBlock := fun e => by have := (hvb _ e.symm).1; omega
              have hne2 : (some W2.heap.size : Option Nat) ≠ vr.ownBlock := fun e => by have := (hvb _ e.symm).1; omega
              have hrg2 := hrg1.kept hg5 hne1 hne2
              go_roundg (gk - 1)
              case measure => omega
              case rel =>
                refine ⟨_, cnt1, _, _, rest ++ [y], rfl, hrg2, HN.out, by simp; omega, ?_, hbr4.grown hg5 (by omega) (fun j hj => by have := (hvb j hj).1; omega), by have := hg5.size; omega⟩
                rw [List.length_append, ints_append]
                exact hrow5

theorem some_any (price : Int) (A : Option Addr) (c : Nat) (alone : List Int) (A' : Option Addr) (c' : Nat) (whose : List Int) (w : World) (ha : Reads w w.heap.size 1 A alone.length (ints alone)) (hl : alone.length ≤ 1000)
    (hw : Reads w w.heap.size 1 A' whose.length (ints whose)) (hl' : whose.length ≤ 1000) (hax : ∀ x ∈ alone, inI x) (hpi : inI price) :
    Calls Try.prog 38 #[.int .i64 price, .slice A alone.length c, .slice A' whose.length c'] w fun e w' => ∃ v, e = .returned (.tuple #[v, .int .i64 (someE price alone whose)]) ∧ w'.ownsRow w.heap.size 2 1 v (someL price alone whose).length (ints (someL price alone whose)) ∧ Below w.heap.size w w' := by
  by_cases hb : someBad price alone whose = true
  · have e1 : someE price alone whose = 1 := by rw [someE, if_pos hb]
    have e2 : someL price alone whose = [] := by rw [someL, e1, if_pos (by omega)]
    rw [e1, e2]
    refine (some_bad price A c alone A' c' whose w ha (by omega) hw (by omega) hb).mono ?_
    rintro e w' ⟨rfl, rfl⟩
    exact ⟨_, rfl, World.ownsRow_nil _ _ _ _, Below.refl _ _⟩
  · unfold someBad at hb
    simp only [Bool.or_eq_true, Bool.not_eq_true', not_or, decide_eq_true_eq, Bool.not_eq_true, Bool.not_eq_false] at hb
    exact some_good price A c alone A' c' whose w ha hl hw hl' hax hpi (by omega) hb.1.2 hb.2 _ _ rfl rfl
end Go.Proofs.Ytophfbnajelknaa

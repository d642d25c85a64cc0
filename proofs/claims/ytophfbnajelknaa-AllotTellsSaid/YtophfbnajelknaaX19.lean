import Derived.Test.YtophfbnajelknaaX17
import Derived.Test.YtophfbnajelknaaX18
/- Reference R02: Out, of a total not below 0. -/
namespace Go.Proofs.Ytophfbnajelknaa
open Go.RowKit
attribute [local go_sem ↓] Go.wp_at_zero Go.wp_at_succ

/-- Out, in between: the portions so far, and a number that is left. -/
structure R2W (w w' : World) (vo : Value) (out : List Int) (G : Nat) (z s : Int) (A : Option Addr) (c : Nat) (ds : List Int) : Prop where
  own : w'.ownsRow w.heap.size 2 1 vo out.length (ints out)
  hl : Hold w' G z s A c ds
  bel : Below w.heap.size w w'
  hG : w.heap.size ≤ G
section
variable {w w' w1 : World} {vo : Value} {out : List Int} {G : Nat} {z s : Int} {A : Option Addr} {c : Nat} {ds : List Int}
theorem R2W.below (h : R2W w w' vo out G z s A c ds) (hb : Below w'.heap.size w' w1) : R2W w w1 vo out G z s A c ds := ⟨own_below h.own hb, h.hl.below hb, below_then h.bel hb h.bel.size, h.hG⟩
theorem R2W.drew (h : R2W w w' vo out G z s A c ds) : R2W w w'.drew vo out G z s A c ds := ⟨h.own, h.hl.drew, h.bel.drew, h.hG⟩
theorem R2W.grown (h : R2W w w' vo out G z s A c ds) {v1 : Value} {out1 : List Int} (hg : w'.grownBy w1 vo.ownBlock) (ho : w1.ownsRow w.heap.size 2 1 v1 out1.length (ints out1)) : R2W w w1 v1 out1 G z s A c ds :=
  ⟨ho, ⟨h.hl.b.grown hg (fun e => own_blk_ne h.own h.hl.b (by decide) e.symm), h.hl.r.grown h.own (by decide) hg, h.hl.n⟩, h.bel.grown hg h.bel.size (fun j hj => own_ge h.own hj), h.hG⟩
theorem own_set2 {x0 x1 : Value} (h : w'.ownsRow w.heap.size 2 1 vo out.length (ints out)) (hb : Blk w' G 102 #[x0, x1]) (x y : Value) : ((w'.setCell ⟨G, 0, none⟩ x).setCell ⟨G, 1, none⟩ y).ownsRow w.heap.size 2 1 vo out.length (ints out) := by
  have h1 := own_blk_ne h hb (by decide)
  refine h.kept (row := some G) ⟨rfl, rfl, rfl, by simp, fun j hj hne => ?_⟩ (.inr h1)
  have hne' : j ≠ G := fun e => hne (by rw [e])
  exact ((Below.heap_setCell _ ⟨G, 1, none⟩ y j hne').trans (Below.heap_setCell _ ⟨G, 0, none⟩ x j hne'))
theorem R2W.set_ (h : R2W w w' vo out G z s A c ds) {z' s' : Int} {A' : Option Addr} {c' : Nat} {ds' : List Int} (R : RI w' A' ds') (N : Num s' ds' z') :
    R2W w ((w'.setCell ⟨G, 0, none⟩ (.int .i64 s')).setCell ⟨G, 1, none⟩ (.slice A' ds'.length c')) vo out G z' s' A' c' ds' :=
  ⟨own_set2 h.own h.hl.b _ _, Hold.set_ h.hl.b R N, (h.bel.setCell (p := ⟨G, 0, none⟩) h.hG _).setCell (p := ⟨G, 1, none⟩) h.hG _, h.hG⟩
end
theorem own_base {w : World} {base base' : Nat} {e : TypeId} {size n : Nat} {v : Value} {xs : List Value} (h : w.ownsRow base e size v n xs) (hb : base' ≤ base) : w.ownsRow base' e size v n xs := by
  refine ⟨h.1, ?_⟩
  rcases h.2 with h1 | ⟨g, cap, cur, h1, h2, h3⟩
  · exact .inl h1
  · exact .inr ⟨g, cap, cur, h1, Nat.le_trans hb h2, h3⟩
/-- The first k values. -/
def pre (f : Nat → Int) (k : Nat) : List Int := (List.range k).map f
theorem pre_length (f : Nat → Int) (k : Nat) : (pre f k).length = k := by simp [pre]
theorem pre_succ (f : Nat → Int) (k : Nat) : pre f (k + 1) = pre f k ++ [f k] := by simp [pre, List.range_succ]
theorem pre_fill (f : Nat → Int) (n : Nat) : pre f n = fillTo f n n := by
  apply ext_getD (by rw [pre_length, fillTo_length])
  intro i hi
  rw [pre_length] at hi
  rw [fillTo_at _ _ _ _ hi, if_pos hi]
  simp [pre, List.getD_eq_getElem?_getD, hi]
/-- The portions' row, and nothing else of note. -/
structure R2O (w w' : World) (g cap n : Nat) (out : List Int) : Prop where
  own : w'.ownsRow w.heap.size 2 1 (.slice (some ⟨g, 0, none⟩) n cap) n (ints out)
  bel : Below w.heap.size w w'
  len : out.length = n
theorem R2O.below {w w' w1 : World} {g cap n : Nat} {out : List Int} (h : R2O w w' g cap n out) (hb : Below w'.heap.size w' w1) : R2O w w1 g cap n out := ⟨own_below h.own hb, below_then h.bel hb h.bel.size, h.len⟩
theorem R2O.set_ {w w' : World} {g cap n : Nat} {out : List Int} (h : R2O w w' g cap n out) (i : Nat) (x : Int) : R2O w (w'.setCell ⟨g, i, none⟩ (.int .i64 x)) g cap n (out.set i x) := by
  have h1 := h.own.stored i (.int .i64 x)
  refine ⟨?_, h.bel.setCell (p := ⟨g, i, none⟩) (own_ge h.own (j := g) rfl) _, by rw [List.length_set]; exact h.len⟩
  have e : (ints out).set i (.int .i64 x) = ints (out.set i x) := by simp [ints, List.map_set]
  rw [← e]
  exact h1.1
theorem any_pos_take {ws : List Int} {k : Nat} (hk : k < ws.length) : (ws.take (k + 1)).any (fun x => decide (0 < x)) = ((ws.take k).any (fun x => decide (0 < x)) || decide (0 < ws.getD k 0)) := any_snoc _ ws k hk

set_option maxHeartbeats 8000000 in
set_option maxRecDepth 100000 in
theorem r2_pos (total : Int) (A : Option Addr) (c : Nat) (ws : List Int) (w : World) (hr : Reads w w.heap.size 1 A ws.length (ints ws)) (hx : ∀ x ∈ ws, inI x) (ht : inI total) (h0 : 0 ≤ total) (hE : wrongE ws = 0) :
    Calls Try.prog 70 #[.int .i64 total, .slice A ws.length c] w fun e w' => ∃ v, e = .returned (.tuple #[v, .int .i64 0]) ∧ w'.ownsRow w.heap.size 2 1 v ws.length (ints (outSize total ws)) ∧ Below w.heap.size w w' := by
  obtain ⟨h64, hn0, hnn, hs0, hsi⟩ := wrongE_good hE
  have hany := (wrongE_ok hE).2.2.1
  obtain ⟨S, hS⟩ : ∃ S, S = ws.sum := ⟨_, rfl⟩
  have HAN : Hid (ws.any (fun x => decide (0 < x)) = true) := by
    obtain ⟨x, hx, hx0⟩ := hany
    exact List.any_eq_true.2 ⟨x, hx, decide_eq_true hx0⟩
  have HR := Lib.hid hr
  have HX := Lib.hid hx
  have HN := Lib.hid hnn
  have HE := Lib.hid hE
  have HT := Lib.hid ht
  rw [← hS] at hs0 hsi
  have HS := Lib.hid hS
  have HSI := Lib.hid hsi
  have hS1 : S ≤ 9223372036854775807 := hsi.2
  have ht1 : total ≤ 9223372036854775807 := ht.2
  have hmin : (total == -9223372036854775808) = false := by rw [beq_eq_false_iff_ne]; omega
  have C1 : Hid (∀ W, Below w.heap.size w W → Calls Try.prog 77 #[.slice A ws.length c] W fun e w' => ∃ v, e = .returned v ∧ Ex w' v S ∧ Below W.heap.size W w') := fun W hb => by rw [hS]; exact total_any A c ws W (reads_below HR.out hb) HX.out (by omega)
  have C2 : Hid (∀ W v, Ex W v S → Calls Try.prog 58 #[v] W fun e w' => e = .returned (.tuple #[.int .i64 S, .int .i64 0]) ∧ Below W.heap.size W w') := fun W v h => fit_in v S W h HSI.out
  have C3 : Hid (∀ W, Calls Try.prog 61 #[.int .i64 total] W fun e w' => ∃ v, e = .returned v ∧ Ex w' v total ∧ Below W.heap.size W w') := fun W => of_any total W HT.out
  clear hr hx hnn hE ht hS hsi hany
  go_enter Try.func70, Try.ntmps70
  go_wp2
  go_loopg [6, 7] ws.length (fun kq v6 v7 w' => ∃ (k : Nat) (b : Bool), k ≤ ws.length ∧ kq = ws.length - k ∧ v7 = .int .i64 k ∧ v6 = .bool b ∧ Aside ((ws.take k).any (fun x => decide (0 < x)) = b) ∧ w = w')
  case atStart => exact ⟨0, false, by omega, by omega, rfl, rfl, by simp [Aside], rfl⟩
  case round =>
    obtain ⟨k, b, hk, rfl, rfl, rfl, HI, rfl⟩ := hrel
    by_cases hlt : k < ws.length
    · obtain ⟨ad, rfl, hbl, hcl⟩ := HR.out.int_at hlt
      obtain ⟨x1, hx1⟩ : ∃ x, x = ws.getD k 0 := ⟨_, rfl⟩
      have hx0 : 0 ≤ x1 := by rw [hx1]; exact HN.out _ (getD_mem hlt)
      have HJ : Hid ((ws.take (k + 1)).any (fun x => decide (0 < x)) = (b || decide (0 < x1))) := by
        show _ = _; rw [any_pos_take hlt, HI.out, hx1]
      rw [← hx1] at hcl
      clear hx1 HI
      cases b
      · by_cases hp : 0 < x1
        · have HJ2 := HJ.out
          rw [decide_eq_true hp] at HJ2
          have HJ2 := Lib.hid HJ2
          go_wp2
          go_roundg (ws.length - (k + 1))
          case measure => omega
          case rel => exact ⟨k + 1, true, by omega, rfl, by go_num, rfl, HJ2.out, rfl⟩
        · have HJ2 := HJ.out
          rw [decide_eq_false hp] at HJ2
          have HJ2 := Lib.hid HJ2
          go_wp2
          go_roundg (ws.length - (k + 1))
          case measure => omega
          case rel => exact ⟨k + 1, false, by omega, rfl, by go_num, rfl, HJ2.out, rfl⟩
      · go_wp2
        go_roundg (ws.length - (k + 1))
        case measure => omega
        case rel => exact ⟨k + 1, true, by omega, rfl, by go_num, rfl, HJ.out, rfl⟩
    · obtain rfl : k = ws.length := by omega
      have hb : b = true := by rw [← HI.out, List.take_length]; exact HAN.out
      subst hb
      clear HI HAN
      go_wp2_with (first | (go_at_call 77; go_must (refine (C1.out _ (Below.refl _ _)).mono ?_); rintro e w1 ⟨v1, rfl, h1, b1⟩) | (go_at_call 58; go_must (refine (C2.out _ _ h1).mono ?_); rintro e w2 ⟨rfl, b2⟩) | (go_at_call 61; go_must (refine (C3.out _).mono ?_); rintro e w3 ⟨v3, rfl, ⟨s3, A3, c3, ds3, rfl, R3, N3⟩, b3⟩))
      have hB0 : Below w.heap.size w w2 := belT b1 b2
      have hown0 : (w2.alloc (.cells #[] 2)).ownsRow w.heap.size 2 1 (.slice (some ⟨w2.heap.size, 0, none⟩) 0 0) 0 [] := by
        have := own_new (W := w2) (e := 2) (size := 1) #[] 0 (by simp) (by unfold maxLen; omega)
        exact own_base (by simpa using this) hB0.size
      have hW0 : R2W w (w3.alloc (.cells #[.int .i64 s3, .slice A3 ds3.length c3] 102)) (.slice (some ⟨w2.heap.size, 0, none⟩) 0 0) [] w3.heap.size total s3 A3 c3 ds3 :=
        have hB1 := belT hB0 ((Below.refl _ _).alloc (Nat.le_refl _) (.cells #[] 2))
        have hB2 := belT (below_then hB0 ((Below.refl _ _).alloc (Nat.le_refl _) (.cells #[] 2)) hB0.size) b3
        ⟨(own_below hown0 b3).alloc _, ⟨Blk.new _ _ _, R3.alloc _, N3⟩, hB2.alloc hB2.size _, hB2.size⟩
      generalize w3.alloc (.cells #[.int .i64 s3, .slice A3 ds3.length c3] 102) = W0 at hW0 ⊢
      generalize w3.heap.size = G at hW0 ⊢
      have HW0 := Lib.hid hW0
      clear hW0 hown0 hB0 b1 b2 b3 h1 R3 C1 C2 C3
      obtain ⟨i0, hi, hz0, hz1, hz2⟩ := info_parts Try.info2
      go_loopg [13, 15] ws.length (fun kq v13 v15 w' => ∃ (k : Nat) (z s : Int) (A' : Option Addr) (c' : Nat) (ds : List Int) (vo : Value), k ≤ ws.length ∧ kq = ws.length - k ∧ v15 = .int .i64 k ∧ vo = v13 ∧ Aside (z = missTo total S ws k) ∧ R2W w w' vo (pre (partAt total S ws) k) G z s A' c' ds)
      case atStart => exact ⟨0, total, s3, A3, c3, ds3, _, by omega, by omega, rfl, rfl, rfl, HW0.out⟩
      case round =>
        clear HW0
        obtain ⟨k, z, s, A', c', ds, vo, hk, rfl, rfl, rfl, HI, hP⟩ := hrel
        have k0 := hP.hl.b.cells2.1
        have k1 := hP.hl.b.cells2.2
        by_cases hlt : k < ws.length
        · obtain ⟨ad, rfl, hbl, hcl⟩ := (reads_below HR.out hP.bel).int_at hlt
          obtain ⟨x1, hx1⟩ : ∃ x, x = ws.getD k 0 := ⟨_, rfl⟩
          have hx0 : 0 ≤ x1 := by rw [hx1]; exact HN.out _ (getD_mem hlt)
          have hxi : inI x1 := by rw [hx1]; exact HX.out _ (getD_mem hlt)
          obtain ⟨P, hPP⟩ : ∃ P, P = partAt total S ws k := ⟨_, rfl⟩
          have hP1 : P ≤ total := by rw [hPP]; exact part_le HS.out hs0 h0 HN.out hlt
          have hP0 : 0 ≤ P := by rw [hPP]; exact partAt_nonneg hs0 h0 HN.out hlt
          have hz0' : 0 ≤ z := by rw [HI.out]; exact miss_nonneg HS.out hs0 h0 HN.out (by omega)
          have hz1' : z ≤ total := by rw [HI.out]; exact miss_le hs0 h0 HN.out k (by omega)
          have CP : Hid (∀ W, Calls Try.prog 102 #[.int .i64 total, .int .i64 x1, .int .i64 S] W fun e w' => e = .returned (.tuple #[.int .i64 P, .int .i64 0]) ∧ Below W.heap.size W w') := by
            intro W
            have := rpart_any total x1 S W HT.out hxi HSI.out h0 hx0 (by omega)
            rw [hx1, show total * ws.getD k 0 / S = P from hPP.symm, fitV_in (by unfold inI lowI topI; omega), fitE_in (by unfold inI lowI topI; omega), ← hx1] at this
            exact this
          have CO : Hid (∀ W, Calls Try.prog 61 #[.int .i64 P] W fun e w' => ∃ v, e = .returned v ∧ Ex w' v P ∧ Below W.heap.size W w') := fun W => of_any P W (by unfold inI lowI topI; omega)
          have CL : Hid (∀ W v u, Ex W v z → Ex W u P → Calls Try.prog 76 #[v, u] W fun e w' => ∃ v, e = .returned v ∧ Ex w' v (z - P) ∧ Below W.heap.size W w') := fun W v u h1 h2 => less2_any v u z P W h1 h2 (small_in (by unfold inI lowI topI; omega)) (small_in (by unfold inI lowI topI; omega))
          rw [← hx1] at hcl
          have HPP := Lib.hid hPP
          have HP := Lib.hid hP
          clear hx1 hxi hPP hP hP0 hP1 hz0' hz1' k0 k1
          go_upto_region 31 with (first | (go_at_call 102; go_must (refine (CP.out _).mono ?_); rintro e w1 ⟨rfl, b1⟩; have HP1 := HP.out.below b1; have hsz := HP1.bel.size) | (at_builtin; go_must (refine wpl_append1 rfl _ _ 55 rfl w.heap.size 2 i0 (.int .i64 0) 1 8 Try.underlying55 hi hz0 hz1 hz2 rfl (by decide) _ _ _ (by rfl) HP1.own #[.int .i64 P] (by rfl) (by rfl) (by simp [Value.oneCell']) (by rw [pre_length]; unfold maxLen; omega) (by rw [pre_length]; omega) hsz ?_); intro g' cap' w4 hown4 hg4 hgg))
          have HP4 : R2W w w4 _ (pre (partAt total S ws) (k + 1)) G z s A' c' ds := HP1.grown hg4 (out1 := pre (partAt total S ws) (k + 1)) (by rw [pre_succ, List.length_append, ints_append, ← HPP.out]; exact hown4)
          have HP4 := Lib.hid HP4
          clear HP hown4 hg4
          have k0 := HP4.out.hl.b.cells2.1
          have k1 := HP4.out.hl.b.cells2.2
          go_region_with (first | (go_at_call 61; go_must (refine (CO.out _).mono ?_); rintro e w5 ⟨v5, rfl, h5, b5⟩; have HP5 := HP4.out.drew.below b5; have l0 := HP5.hl.b.cells2.1; have l1 := HP5.hl.b.cells2.2) | (go_at_call 76; go_must (refine (CL.out _ _ _ HP5.hl.ex h5).mono ?_); rintro e w6 ⟨v6, rfl, ⟨s6, A6, c6, ds6, rfl, R6, N6⟩, b6⟩; have HP6 := HP5.below b6; have m0 := HP6.hl.b.cells2.1; have m1 := HP6.hl.b.cells2.2; have f0 := HP6.hl.b.frozen 0; have f1 := HP6.hl.b.frozen 1))
          all_goals
            go_wp2
            have HP7 := HP6.set_ (c' := c6) R6 N6
            go_roundg (ws.length - (k + 1))
            case measure => omega
            case rel => exact ⟨k + 1, _, _, _, _, _, _, by omega, rfl, by go_num, rfl, by rw [Aside, missTo, ← HPP.out, ← HI.out], HP7⟩
        · obtain rfl : k = ws.length := by omega
          have hm0 := miss_nonneg HS.out hs0 h0 HN.out (k := ws.length) (Nat.le_refl _)
          have hm1 := miss_lt (size := total) HS.out hs0 hn0
          rw [← HI.out] at hm0 hm1
          have CF : Hid (∀ W v, Ex W v z → Calls Try.prog 58 #[v] W fun e w' => e = .returned (.tuple #[.int .i64 z, .int .i64 0]) ∧ Below W.heap.size W w') := fun W v h => fit_in v z W h (by unfold inI lowI topI; omega)
          have HP := Lib.hid hP
          clear hP
          go_wp2_with (go_at_call 58; go_must (refine (CF.out _ _ HP.out.hl.ex).mono ?_); rintro e w5 ⟨rfl, b5⟩)
          have HP5 := HP.out.below b5
          have HO := Lib.hid HP5.own
          have HB := Lib.hid HP5.bel
          clear HP HP5 b5 CF
          obtain ⟨g, cap, hvo, hgb, hgl⟩ := HO.out.form (by rw [pre_length]; omega)
          subst hvo
          have hO : R2O w w5 g cap ws.length (moreTo (partAt total S ws) (restAt total S ws) ws.length z 0) := ⟨by have := HO.out; rw [pre_fill, fillTo_length, ← moreTo_zero (partAt total S ws) (restAt total S ws) ws.length z] at this; exact this, HB.out, moreTo_length _ _ _ _ _⟩
          rw [pre_length]
          have HO2 := Lib.hid hO
          have HZ := Lib.hid HI.out
          clear hO HO HB HI hgb hgl
          go_loopg [20] ws.length (fun kq v20 w' => ∃ i : Nat, i ≤ ws.length ∧ kq = ws.length - i ∧ v20 = .int .i64 i ∧ R2O w w' g cap ws.length (moreTo (partAt total S ws) (restAt total S ws) ws.length z i))
          case atStart => exact ⟨0, by omega, by omega, rfl, HO2.out⟩
          case round =>
            clear HO2
            obtain ⟨i, hi', rfl, rfl, hP⟩ := hrel
            by_cases hlt2 : i < ws.length
            · obtain ⟨ad, rfl, hbl, hcl⟩ := (reads_below HR.out hP.bel).int_at hlt2
              obtain ⟨x1, hx1⟩ : ∃ x, x = ws.getD i 0 := ⟨_, rfl⟩
              have hx0 : 0 ≤ x1 := by rw [hx1]; exact HN.out _ (getD_mem hlt2)
              have hxi : inI x1 := by rw [hx1]; exact HX.out _ (getD_mem hlt2)
              obtain ⟨b, hb⟩ : ∃ b, b = restAt total S ws i := ⟨_, rfl⟩
              have CR : Hid (∀ W, Calls Try.prog 103 #[.int .i64 total, .int .i64 x1, .int .i64 S] W fun e w' => e = .returned (.tuple #[.int .i64 b, .int .i64 0]) ∧ Below W.heap.size W w') := by
                intro W
                have := rrest_any total x1 S W HT.out hxi HSI.out h0 hx0 (by omega)
                rw [hb]; rw [hx1] at this ⊢; exact this
              rw [← hx1] at hcl
              have HBB := Lib.hid hb
              have HP := Lib.hid hP
              clear hx1 hxi hb hP
              go_upto_region 37 with (go_at_call 103; go_must (refine (CR.out _).mono ?_); rintro e w6 ⟨rfl, b6⟩)
              have HP6 := Lib.hid (HP.out.below b6)
              clear HP b6 hcl hbl CR
              go_wp2
              go_loopg [23, 24] ws.length (fun kq v23 v24 w' => ∃ (k cnt : Nat), k ≤ ws.length ∧ kq = ws.length - k ∧ v24 = .int .i64 k ∧ v23 = .int .i64 cnt ∧ Aside (cnt = rankTo (restAt total S ws) i k) ∧ cnt ≤ k ∧ R2O w w' g cap ws.length (moreTo (partAt total S ws) (restAt total S ws) ws.length z i))
              case atStart => exact ⟨0, 0, by omega, by omega, rfl, rfl, rfl, by omega, HP6.out⟩
              case round =>
                clear HP6
                obtain ⟨k, cnt, hk', rfl, rfl, rfl, HC, hck, hP⟩ := hrel
                by_cases hlt3 : k < ws.length
                · obtain ⟨ad', had, hbl, hcl⟩ := (reads_below HR.out hP.bel).int_at hlt3
                  cases had
                  obtain ⟨x2, hx2⟩ : ∃ x, x = ws.getD k 0 := ⟨_, rfl⟩
                  have hx20 : 0 ≤ x2 := by rw [hx2]; exact HN.out _ (getD_mem hlt3)
                  have hxi2 : inI x2 := by rw [hx2]; exact HX.out _ (getD_mem hlt3)
                  obtain ⟨a, ha⟩ : ∃ b, b = restAt total S ws k := ⟨_, rfl⟩
                  have CR : Hid (∀ W, Calls Try.prog 103 #[.int .i64 total, .int .i64 x2, .int .i64 S] W fun e w' => e = .returned (.tuple #[.int .i64 a, .int .i64 0]) ∧ Below W.heap.size W w') := by
                    intro W
                    have := rrest_any total x2 S W HT.out hxi2 HSI.out h0 hx20 (by omega)
                    rw [ha]; rw [hx2] at this ⊢; exact this
                  rw [← hx2] at hcl
                  have hsu := rankTo_succ (restAt total S ws) i k
                  have hbt := beats_iff (r := restAt total S ws) (k := k) (i := i)
                  rw [← ha, ← HBB.out] at hbt
                  have HP := Lib.hid hP
                  clear hx2 hxi2 ha hP
                  by_cases h1 : b < a
                  · rw [if_pos (hbt.2 (.inl h1)), ← HC.out] at hsu
                    have HSU := Lib.hid hsu
                    clear hsu hbt
                    go_wp2_with (go_at_call 103; go_must (refine (CR.out _).mono ?_); rintro e w7 ⟨rfl, b7⟩)
                    have HP7 := HP.out.below b7
                    go_roundg (ws.length - (k + 1))
                    case measure => omega
                    case rel => exact ⟨k + 1, cnt + 1, by omega, rfl, by go_num, by go_num, HSU.out.symm, by omega, HP7⟩
                  · by_cases h2 : a = b
                    · by_cases h3 : k < i
                      · rw [if_pos (hbt.2 (.inr ⟨h2, h3⟩)), ← HC.out] at hsu
                        have HSU := Lib.hid hsu
                        clear hsu hbt
                        subst h2
                        go_wp2_with (go_at_call 103; go_must (refine (CR.out _).mono ?_); rintro e w7 ⟨rfl, b7⟩)
                        have HP7 := HP.out.below b7
                        go_roundg (ws.length - (k + 1))
                        case measure => omega
                        case rel => exact ⟨k + 1, cnt + 1, by omega, rfl, by go_num, by go_num, HSU.out.symm, by omega, HP7⟩
                      · rw [if_neg (fun h => by have := hbt.1 h; omega), ← HC.out] at hsu
                        have HSU := Lib.hid hsu
                        clear hsu hbt
                        subst h2
                        go_wp2_with (go_at_call 103; go_must (refine (CR.out _).mono ?_); rintro e w7 ⟨rfl, b7⟩)
                        have HP7 := HP.out.below b7
                        go_roundg (ws.length - (k + 1))
                        case measure => omega
                        case rel => exact ⟨k + 1, cnt, by omega, rfl, by go_num, rfl, HSU.out.symm, by omega, HP7⟩
                    · rw [if_neg (fun h => by have := hbt.1 h; omega), ← HC.out] at hsu
                      have HSU := Lib.hid hsu
                      have h4 : (a == b) = false := by rw [beq_eq_false_iff_ne]; exact h2
                      clear hsu hbt
                      go_wp2_with (go_at_call 103; go_must (refine (CR.out _).mono ?_); rintro e w7 ⟨rfl, b7⟩)
                      have HP7 := HP.out.below b7
                      go_roundg (ws.length - (k + 1))
                      case measure => omega
                      case rel => exact ⟨k + 1, cnt, by omega, rfl, by go_num, rfl, HSU.out.symm, by omega, HP7⟩
                · obtain rfl : k = ws.length := by omega
                  have HP := Lib.hid hP
                  obtain ⟨p1, hp1⟩ : ∃ p, p = partAt total S ws i := ⟨_, rfl⟩
                  have hc1 := hP.own.cellAt i (by omega)
                  rw [ints_at (by rw [moreTo_length]; exact hlt2), moreTo_at hlt2, if_neg (by omega), ← hp1] at hc1
                  have fz := hP.own.frozenAt i
                  have hii : (i : Int) < (ws.length : Int) := by omega
                  have hi0 : (0 : Int) ≤ (i : Int) := by omega
                  have hp0 : 0 ≤ p1 := by rw [hp1]; exact partAt_nonneg hs0 h0 HN.out hlt2
                  clear hP
                  by_cases hgv : (cnt : Int) < z
                  · have hle : p1 + 1 ≤ total := by
                      have h1 := outSize_facts HE.out h0
                      have h2 := getD_le_sum h1.1 i
                      rw [h1.2.1, outSize_rank HE.out h0, moreTo_at hlt2, ← HS.out, if_pos ⟨hlt2, by rw [← HC.out, ← HZ.out]; exact hgv⟩, ← hp1] at h2
                      exact h2
                    have hmt := moreTo_yes (p := partAt total S ws) (r := restAt total S ws) (m := z) hlt2 (by rw [← HC.out]; exact hgv)
                    rw [← hp1] at hmt
                    have HMT := Lib.hid hmt
                    clear hmt hp1
                    go_wp2
                    have HP8 := HP.out.set_ i (p1 + 1)
                    rw [← HMT.out] at HP8
                    go_roundg (ws.length - (i + 1))
                    case measure => omega
                    case rel => exact ⟨i + 1, by omega, rfl, by go_num, HP8⟩
                  · have hmt := moreTo_no (p := partAt total S ws) (r := restAt total S ws) (n := ws.length) (m := z) (k := i) (by rw [← HC.out]; exact hgv)
                    have HMT := Lib.hid hmt
                    clear hmt hp1
                    go_wp2
                    have HP8 := HP.out
                    rw [← HMT.out] at HP8
                    go_roundg (ws.length - (i + 1))
                    case measure => omega
                    case rel => exact ⟨i + 1, by omega, rfl, by go_num, HP8⟩
            · obtain rfl : i = ws.length := by omega
              have hfin := outSize_rank HE.out h0
              rw [← HS.out, ← HZ.out] at hfin
              have HF := Lib.hid hfin
              clear hfin
              go_wp2
              go_ret2
              refine ⟨_, rfl, ?_, hP.bel⟩
              rw [HF.out]
              exact hP.own
end Go.Proofs.Ytophfbnajelknaa

import Derived.Test.YtophfbnajelknaaPor
import Derived.Deep.OwnRows
import Derived.Deep.RegionHeld3
import Derived.StillTailTactics
/- Package portion: Out. -/
namespace Go.Proofs.Ytophfbnajelknaa
open Go.RowKit Go.Deep

theorem wrong_bad {ws : List Int} (h : wrongE ws ≠ 0) : wrongV ws = 0 := by
  unfold wrongE at h; unfold wrongV
  split
  · rfl
  · rename_i h1
    rw [if_neg h1] at h
    split
    · rfl
    · rename_i h2
      rw [if_neg h2] at h
      exact fitV_out (fun hi => h (fitE_in hi))

/-- The rows while they are filled: portions in block b, rests in the next one, whose slice stands in the third. -/
structure OutR (w0 w : World) (b n : Nat) (o r : List Int) : Prop where
  bo : Blk w b 2 (row o)
  br : Blk w (b + 1) 2 (row r)
  bv : Blk w (b + 1 + 1) 55 #[.slice (some ⟨b + 1, 0, none⟩) n n]
  ol : o.length = n
  rl : r.length = n
  hb : w0.heap.size ≤ b
  be : Below w0.heap.size w0 w
section
variable {w0 w : World} {b n : Nat} {o r : List Int}
theorem OutR.seto (h : OutR w0 w b n o r) (k : Nat) (x : Int) : OutR w0 (w.setCell ⟨b, k, none⟩ (.int .i64 x)) b n (o.set k x) r :=
  ⟨h.bo.int_set k x, h.br.far (p := ⟨b, k, none⟩) (by simp) _, h.bv.far (p := ⟨b, k, none⟩) (by simp; omega) _, by simpa using h.ol, h.rl, h.hb, h.be.setCell h.hb _⟩
theorem OutR.setr (h : OutR w0 w b n o r) (k : Nat) (x : Int) : OutR w0 (w.setCell ⟨b + 1, k, none⟩ (.int .i64 x)) b n o (r.set k x) :=
  ⟨h.bo.far (p := ⟨b + 1, k, none⟩) (by simp) _, h.br.int_set k x, h.bv.far (p := ⟨b + 1, k, none⟩) (by simp) _, h.ol, by simpa using h.rl, h.hb, h.be.setCell (by have := h.hb; simp; omega) _⟩
theorem OutR.drewN (h : OutR w0 w b n o r) (m : Nat) : OutR w0 (w.drewN m) b n o r := ⟨h.bo, h.br, h.bv, h.ol, h.rl, h.hb, ⟨h.be.os, h.be.tape, h.be.output, h.be.size, h.be.block⟩⟩
theorem OutR.start {w1 : World} (hb : Below w0.heap.size w0 w1) (n : Nat) :
    OutR w0 (((w1.alloc (.cells (row (List.replicate n 0)) 2)).alloc (.cells (row (List.replicate n 0)) 2)).alloc (.cells #[.slice (some ⟨w1.heap.size + 1, 0, none⟩) n n] 55)) w1.heap.size n (List.replicate n 0) (List.replicate n 0) := by
  refine ⟨((Blk.new w1 2 _).alloc _).alloc _, ?_, ?_, by simp, by simp, hb.size, ((hb.alloc hb.size _).alloc (by have := hb.size; simp; omega) _).alloc (by have := hb.size; simp; omega) _⟩
  · have := (Blk.new (w1.alloc (.cells (row (List.replicate n 0)) 2)) 2 (row (List.replicate n 0))).alloc (.cells #[.slice (some ⟨w1.heap.size + 1, 0, none⟩) n n] 55)
    simpa using this
  · have := Blk.new ((w1.alloc (.cells (row (List.replicate n 0)) 2)).alloc (.cells (row (List.replicate n 0)) 2)) 55 #[.slice (some ⟨w1.heap.size + 1, 0, none⟩) n n]
    simpa using this
end
theorem Blk.own {w : World} {g base : Nat} {t : TypeId} {xs : List Int} (h : Blk w g t (row xs)) (hb : base ≤ g) (hm : xs.length ≤ maxLen) : w.ownsRow base t 1 (.slice (some ⟨g, 0, none⟩) xs.length xs.length) xs.length (ints xs) :=
  ⟨by rw [ints_length, Nat.mul_one], .inr ⟨g, xs.length, row xs, rfl, hb, h, Nat.le_refl _, hm, by rw [row_size, Nat.mul_one], by rw [row, Nat.mul_one, ← ints_length xs]; exact List.take_length⟩⟩
theorem wrongV_ok {ws : List Int} (h : wrongE ws = 0) : wrongV ws = ws.sum := by
  unfold wrongE at h; unfold wrongV
  split at h
  · cases h
  · rename_i h1
    rw [if_neg h1]
    split at h
    · cases h
    · rename_i h2
      rw [if_neg h2]
      by_cases hi : inI ws.sum
      · exact fitV_in hi
      · rw [fitE_out hi] at h; cases h
theorem wrongE_ok {ws : List Int} (h : wrongE ws = 0) : ws.length ≤ 64 ∧ (∀ x ∈ ws, 0 ≤ x) ∧ (∃ x, x ∈ ws ∧ 0 < x) ∧ inI ws.sum := by
  unfold wrongE at h
  split at h
  · cases h
  · rename_i h1
    split at h
    · cases h
    · rename_i h2
      simp only [Bool.or_eq_true, Bool.not_eq_true', not_or, List.any_eq_false, List.any_eq_true, decide_eq_true_eq] at h2
      refine ⟨by omega, fun x hx => Int.not_lt.1 (fun hlt => h2.1 ⟨x, hx, hlt⟩), Classical.byContradiction fun hne => h2.2 fun x hx hlt => hne ⟨x, hx, hlt⟩, ?_⟩
      by_cases hi : inI ws.sum
      · exact hi
      · rw [fitE_out hi] at h; cases h
theorem outSize_length (size : Int) (ws : List Int) : (outSize size ws).length = ws.length := by
  have := (giveN_length (fillTo (partAt size ws.sum ws) ws.length ws.length, fillTo (restAt size ws.sum ws) ws.length ws.length) (missTo size ws.sum ws ws.length).toNat).1
  rw [outSize, this, fillTo_length]
theorem val_eq {k : IntKind} {a b : Int} (h : a = b) : Value.int k a = .int k b := by rw [h]

set_option maxHeartbeats 4000000 in
set_option maxRecDepth 100000 in
theorem out_pre (total : Int) (A : Option Addr) (c : Nat) (ws : List Int) (w : World) (hr : Reads w w.heap.size 1 A ws.length (ints ws)) (hl : ws.length * 8 ≤ 140737488351232) (hx : ∀ x ∈ ws, inI x) (ht : inI total)
    (hE : wrongE ws = 0) (S size : Int) (hS : S = ws.sum) (hS0 : 0 < S) (hS1 : S ≤ 9223372036854775807) (hn0 : 0 < ws.length) (hn : ws.length ≤ 64)
    (hw0 : ∀ x ∈ ws, 0 ≤ x) (ht0 : -9223372036854775807 ≤ total) (ht1 : total ≤ 9223372036854775807) (hsz : size = if total < 0 then -total else total) (L : List Int) (hL : L = if total < 0 then (outSize size ws).map (fun x => -x) else outSize size ws) :
    Calls Try.prog 69 #[.int .i64 total, .slice A ws.length c] w fun e w' => ∃ v, e = .returned (.tuple #[v, .int .i64 0]) ∧ w'.ownsRow w.heap.size 2 1 v ws.length (ints L) ∧ Below w.heap.size w w' := by
  have HLL := Lib.hid hL
  clear hL
  have hwr : ∀ W, Reads W W.heap.size 1 A ws.length (ints ws) → Calls Try.prog 99 #[.slice A ws.length c] W fun e w' => e = .returned (.tuple #[.int .i64 S, .int .i64 0]) ∧ Below W.heap.size W w' := by
    intro W hR
    have := wrong_any A c ws W hR hl hx
    rw [hE] at this
    have e : wrongV ws = S := by rw [hS]; exact wrongV_ok hE
    rw [e] at this
    exact this
  have hls : ∀ W, Calls Try.prog 68 #[.int .i64 0, .int .i64 total] W fun e w' => e = .returned (.tuple #[.int .i64 (-total), .int .i64 0]) ∧ W = w' := by
    intro W
    have := less_any 0 total inI_zero ht W
    have hi : inI (0 - total) := by unfold inI lowI topI; omega
    rw [fitV_in hi, fitE_in hi, Int.zero_sub] at this
    exact this
  have hmk := run_make_row' (P := Try.prog) 55 2 (.int .i64 0) 8 Try.underlying55 Try.info2 rfl .i64 .i64 ws.length (by omega) (by omega)
  have HW := Lib.hid hwr
  have HL := Lib.hid hls
  have HR := Lib.hid hr
  have HS := Lib.hid hS
  have HZ := Lib.hid hsz
  have hszr : 0 ≤ size ∧ size ≤ 9223372036854775807 := by rw [hsz]; split <;> omega
  have hmx : max (-total) total = size := by rw [hsz]; split <;> omega
  clear hwr hls hr hS hsz hx hE
  obtain ⟨hsz0, hsz1⟩ := hszr
  go_enter Try.func69, Try.ntmps69
  go_upto_region 7 with (first | (go_at_call 99; go_must (refine (HW.out _ HR.out).mono ?_); rintro e w1 ⟨rfl, hb⟩) | (go_at_call 68; go_must (refine (HL.out _).mono ?_); rintro e w1 ⟨rfl, rfl⟩))
  go_cut [8] (fun v8 wc => v8 = .int .i64 size ∧ w1 = wc)
  case first =>
    go_wp2
    all_goals go_meet
    all_goals exact ⟨val_eq (by have := HZ.out; omega), rfl⟩
  case rest =>
    obtain ⟨rfl, rfl⟩ := hcut
    have hst := OutR.start (‹Below w.heap.size w w1›) ws.length
    rw [← made_zero] at hst
    go_wp2
    go_loopg [11, 45] ws.length (fun kq v11 v45 w' => ∃ (k : Nat) (ms : Int), k ≤ ws.length ∧ kq = ws.length - k ∧ v45 = .int .i64 k ∧ v11 = .int .i64 ms ∧ Hid (ms = missTo size S ws k) ∧ 0 ≤ ms ∧ ms ≤ size ∧ OutR w w' w1.heap.size ws.length (fillTo (partAt size S ws) ws.length k) (fillTo (restAt size S ws) ws.length k))
    case atStart =>
      refine ⟨0, size, by omega, by omega, by go_num, rfl, rfl, hsz0, Int.le_refl _, ?_⟩
      rw [fillTo_zero, fillTo_zero]
      exact hst
    case round =>
      clear hst
      obtain ⟨k, ms, hk, rfl, rfl, rfl, HM, hm0, hm1, h⟩ := hrel
      by_cases hlt : k < ws.length
      · obtain ⟨ad, rfl, hadb, hc⟩ := HR.out.int_at hlt
        have hc' := (h.be.cell (p := ad.add k) (by rw [block_of_add]; exact hadb)).trans hc
        obtain ⟨x, hx⟩ : ∃ x, x = ws.getD k 0 := ⟨_, rfl⟩
        rw [← hx] at hc'
        obtain ⟨P, hP⟩ : ∃ P, P = size * x / S := ⟨_, rfl⟩
        obtain ⟨R, hR⟩ : ∃ R, R = size * x % S := ⟨_, rfl⟩
        have hx0 : 0 ≤ x := by rw [hx]; exact hw0 _ (getD_mem hlt)
        have HX := Lib.hid hx
        have HP := Lib.hid hP
        have HQ := Lib.hid hR
        clear hc hx hP hR
        have hx1 : x ≤ 9223372036854775807 := by have := getD_le_sum hw0 k; have := HS.out; have := HX.out; omega
        have hP1 : P ≤ ms := by
          have := miss_nonneg (size := size) HS.out hS0 hsz0 hw0 (k := k + 1) (by omega)
          rw [missTo, partAt, ← HX.out, ← HM.out, ← HP.out] at this
          omega
        have hP0 : 0 ≤ P := by rw [HP.out]; exact Int.ediv_nonneg (Int.mul_nonneg hsz0 hx0) (by omega)
        have d1 := h.bo.int (k := k) (by rw [h.ol]; exact hlt)
        have d2 := h.bo.frozen k
        have d3 := h.br.int (k := k) (by rw [h.rl]; exact hlt)
        have d4 := h.br.frozen k
        have d5 := h.bv.cell 0
        simp at d5
        go_upto_region 15 with ((go_at_call 90; go_must (refine (part_fits size x S P _ (by omega) hS1 hsz0 hsz1 hx0 hx1 HP.out (by omega)).mono ?_); rintro e w2 ⟨rfl, nd, rfl⟩))
        go_wp2
        go_region_with (go_at_call 100; refine (rest_any size x S _ (by omega) hS1 hsz0 hsz1 hx0 hx1).mono ?_; rintro e w2 ⟨rfl, nd2, rfl⟩)
        all_goals
          go_wp2
          have e1 : size * x / S = partAt size S ws k := by rw [partAt, ← HX.out]
          have e2 : size * x % S = restAt size S ws k := by rw [restAt, ← HX.out]
          go_roundg (ws.length - (k + 1))
          case measure => omega
          case rel =>
            refine ⟨k + 1, _, by omega, rfl, by go_num, rfl, ?_, by omega, by omega, ?_⟩
            · show _ = missTo size S ws k - partAt size S ws k
              rw [← HM.out, ← e1, ← HP.out]
            · rw [← fillTo_set, ← fillTo_set, ← e1, ← e2, ← HP.out]
              exact (((h.drewN _).seto k P).drewN _).setr k _
      · obtain rfl : k = ws.length := by omega
        obtain ⟨M, hM⟩ : ∃ M : Nat, ms = M := ⟨ms.toNat, by omega⟩
        obtain ⟨s0, hs0⟩ : ∃ s0, s0 = (fillTo (partAt size S ws) ws.length ws.length, fillTo (restAt size S ws) ws.length ws.length) := ⟨_, rfl⟩
        have h1 : OutR w wr w1.heap.size ws.length s0.1 s0.2 := by rw [hs0]; exact h
        have HG := fun j => give_facts hS0 hsz0 hw0 hn0 j (size := size)
        have hml := miss_lt (size := size) HS.out hS0 hn0
        rw [← HM.out, hM] at hml
        simp only [← hs0, ← HM.out] at HG
        have HGG := Lib.hid HG
        have HS0 := Lib.hid hs0
        subst hM
        clear h HG hs0
        go_wp2
        go_loopg [79] M (fun kq v79 w' => ∃ (j : Nat), j ≤ M ∧ kq = M - j ∧ v79 = .int .i64 j ∧ OutR w w' w1.heap.size ws.length (giveN s0 j).1 (giveN s0 j).2)
        case atStart => exact ⟨0, by omega, by omega, by go_num, h1⟩
        case round =>
          clear h1
          obtain ⟨j, hj, rfl, rfl, h⟩ := hrel
          by_cases hjl : j < M
          · obtain ⟨o, r, hor⟩ : ∃ o r, giveN s0 j = (o, r) := ⟨_, _, rfl⟩
            have hf := HGG.out j
            have hnx : giveN s0 (j + 1) = (o.set (gr r) (o.getD (gr r) 0 + 1), r.set (gr r) (-1)) := by rw [giveN, hor, giveOne]
            rw [hor] at hf h
            simp only at hf h
            obtain ⟨f1, f2, f3, f4⟩ := hf
            obtain ⟨g, hg⟩ : ∃ g, g = gr r := ⟨_, rfl⟩
            have hgl : g < ws.length := by rw [hg, ← f2]; exact gr_lt (by omega)
            rw [← hg] at hnx
            obtain ⟨y, hy⟩ : ∃ y, y = o.getD g 0 := ⟨_, rfl⟩
            have hy0 : 0 ≤ y := by rw [hy]; exact getD_nonneg f3 g
            have hy1 : y ≤ 9223372036854775806 := by rw [hy]; have := getD_le_sum f3 g; omega
            have hcl : Calls Try.prog 101 #[.pointer (some ⟨w1.heap.size + 1 + 1, 0, none⟩)] wr fun e w' => e = .returned (.int .i64 (g : Int)) ∧ wr = w' := by
              have hv := h.bv
              rw [← f2] at hv
              rw [hg]
              exact greatest_any _ _ r wr hv h.br (by omega) (by omega)
            have d1 := h.bo.int (k := g) (by omega)
            rw [← hy] at d1
            rw [← hy] at hnx
            have d2 := h.bo.frozen g
            have d3 := h.br.int (k := g) (by omega)
            have d4 := h.br.frozen g
            have d5 := h.bv.cell 0
            simp at d5
            have HC := Lib.hid hcl
            have HN := Lib.hid hnx
            have hh := Lib.hid h
            clear hcl hnx f1 f2 f3 f4 hy hg hor h
            go_wp2_with (first | (go_at_call 101; go_must (refine HC.out.mono ?_); rintro e w2 ⟨rfl, rfl⟩))
            go_roundg (M - (j + 1))
            case measure => omega
            case rel =>
              refine ⟨j + 1, by omega, rfl, by go_num, ?_⟩
              rw [HN.out]
              exact (hh.out.seto g _).setr g _
          · obtain rfl : j = M := by omega
            obtain ⟨o, r, hor⟩ : ∃ o r, giveN s0 j = (o, r) := ⟨_, _, rfl⟩
            have hf := HGG.out j
            rw [hor] at hf h
            simp only at hf h
            have HO : Hid (outSize size ws = o) := by
              show _ = _
              have := HM.out
              rw [outSize, ← HS.out, ← HS0.out, ← this, Int.toNat_natCast, hor]
            obtain ⟨f1, f2, f3, f4⟩ := hf
            have HF3 := Lib.hid f3
            have HF1 := Lib.hid f1
            have HF4 := Lib.hid f4
            clear f3 f1 f4 f2 hor
            go_wp2
            go_loopg [95] ws.length (fun kq v95 w' => ∃ (q : Nat), q ≤ ws.length ∧ kq = ws.length - q ∧ v95 = .int .i64 q ∧ OutR w w' w1.heap.size ws.length (negTo total o q) r)
            case atStart => exact ⟨0, by omega, by omega, by go_num, by rw [negTo_zero]; exact h⟩
            case round =>
              clear h
              obtain ⟨q, hq, rfl, rfl, h⟩ := hrel
              by_cases hql : q < ws.length
              · obtain ⟨y, hy⟩ : ∃ y, y = o.getD q 0 := ⟨_, rfl⟩
                have d1 := h.bo.int (k := q) (by rw [negTo_length, HF1.out]; omega)
                rw [negTo_at _ _ _ (by rw [HF1.out]; omega), ← hy] at d1
                have hy0 : 0 ≤ y := by rw [hy]; exact getD_nonneg HF3.out q
                have hy1 : y ≤ 9223372036854775807 := by rw [hy]; have := getD_le_sum HF3.out q; have := HF4.out; omega
                have d2 := h.bo.frozen q
                have HY := Lib.hid hy
                have hh := Lib.hid h
                clear hy h
                by_cases hs : total < 0
                · go_wp2
                  go_roundg (ws.length - (q + 1))
                  case measure => omega
                  case rel =>
                    refine ⟨q + 1, by omega, rfl, by go_num, ?_⟩
                    rw [← negTo_set hs, ← HY.out]
                    exact hh.out.seto q _
                · go_wp2
                  go_roundg (ws.length - (q + 1))
                  case measure => omega
                  case rel =>
                    refine ⟨q + 1, by omega, rfl, by go_num, ?_⟩
                    have hh := hh.out
                    rw [negTo_pos (by omega)] at hh ⊢
                    exact hh
              · obtain rfl : q = ws.length := by omega
                have hh := Lib.hid h
                clear h
                go_wp2
                go_ret2
                have h := hh.out
                have hb := h.bo.own h.hb (by rw [negTo_length, HF1.out]; unfold maxLen; omega)
                rw [negTo_length, HF1.out] at hb
                have e : negTo total o ws.length = L := by
                  rw [HLL.out, HO.out]
                  by_cases hs : total < 0
                  · rw [if_pos hs, ← HF1.out, negTo_all hs]
                  · rw [if_neg hs, negTo_pos (by omega)]
                rw [e] at hb
                exact ⟨_, rfl, hb, h.be⟩

set_option maxHeartbeats 4000000 in
set_option maxRecDepth 100000 in
/-- Out: what each gets, or why not. -/
theorem out_any (total : Int) (A : Option Addr) (c : Nat) (ws : List Int) (w : World) (hr : Reads w w.heap.size 1 A ws.length (ints ws)) (hl : ws.length * 8 ≤ 140737488351232) (hx : ∀ x ∈ ws, inI x) (ht : inI total) :
    Calls Try.prog 69 #[.int .i64 total, .slice A ws.length c] w fun e w' => ∃ v, e = .returned (.tuple #[v, .int .i64 (outE total ws)]) ∧ w'.ownsRow w.heap.size 2 1 v (outL total ws).length (ints (outL total ws)) ∧ Below w.heap.size w w' := by
  by_cases hE : wrongE ws = 0
  · obtain ⟨h64, hw0, ⟨x, hxm, hx0⟩, hin⟩ := wrongE_ok hE
    have hS0 : 0 < ws.sum := by
      have : x ≤ ws.sum := by
        obtain ⟨i, hi, e⟩ := List.mem_iff_getElem.1 hxm
        have := getD_le_sum hw0 i
        rw [List.getD_eq_getElem?_getD, List.getElem?_eq_getElem hi, Option.getD_some, e] at this
        exact this
      omega
    have hn0 : 0 < ws.length := List.length_pos_of_mem hxm
    by_cases hlow : total = lowI
    · have e1 : outE total ws = 3 := by rw [outE, if_neg (by omega), if_pos hlow]
      have e2 : outL total ws = [] := by rw [outL, e1, if_pos (by omega)]
      rw [e1, e2]
      have hwr := wrong_any A c ws w hr hl hx
      rw [hE] at hwr
      have hls : ∀ W, Calls Try.prog 68 #[.int .i64 0, .int .i64 total] W fun e w' => e = .returned (.tuple #[.int .i64 0, .int .i64 3]) ∧ W = w' := by
        intro W
        have := less_any 0 total inI_zero ht W
        have hi : ¬ inI (0 - total) := by rw [hlow]; unfold inI lowI topI; omega
        rw [fitV_out hi, fitE_out hi] at this
        exact this
      have HW := Lib.hid hwr
      have HL := Lib.hid hls
      clear hwr hls hlow e1 e2 hE hS0 hn0 hx0 hxm hin h64 hw0 hx hr
      go_enter Try.func69, Try.ntmps69
      go_wp2_with (first | (go_at_call 99; go_must (refine HW.out.mono ?_); rintro e w1 ⟨rfl, hb⟩) | (go_at_call 68; go_must (refine (HL.out _).mono ?_); rintro e w1 ⟨rfl, rfl⟩))
      go_ret2
      exact ⟨_, rfl, World.ownsRow_nil _ _ _ _, ‹_›⟩
    · have e1 : outE total ws = 0 := by rw [outE, if_neg (by omega), if_neg hlow]
      have e2 : outL total ws = if total < 0 then (outSize (if total < 0 then -total else total) ws).map (fun x => -x) else outSize (if total < 0 then -total else total) ws := by
        rw [outL, e1, if_neg (by omega)]
        by_cases hs : total < 0
        · rw [if_pos hs, if_pos hs, if_pos hs]
        · rw [if_neg hs, if_neg hs, if_neg hs]
      have hlen : (outL total ws).length = ws.length := by
        rw [e2]
        split
        · rw [List.length_map, outSize_length]
        · rw [outSize_length]
      rw [e1, hlen, e2]
      unfold inI lowI topI at ht hin
      unfold lowI at hlow
      exact out_pre total A c ws w hr hl hx (by unfold inI lowI topI; omega) hE ws.sum _ rfl hS0 (by omega) hn0 h64 hw0 (by omega) (by omega) rfl _ rfl
  · have e1 : outE total ws = wrongE ws := by rw [outE, if_pos hE]
    have e2 : outL total ws = [] := by rw [outL, e1, if_pos hE]
    rw [e1, e2]
    have hwr := wrong_any A c ws w hr hl hx
    rw [wrong_bad hE] at hwr
    obtain ⟨E, hEE⟩ : ∃ E, E = wrongE ws := ⟨_, rfl⟩
    rw [← hEE] at hwr hE ⊢
    have hne : (E != 0) = true := by simpa using hE
    have HW := Lib.hid hwr
    clear hwr e1 e2 hE hEE hx hr
    go_enter Try.func69, Try.ntmps69
    go_wp2_with (go_at_call 99; go_must (refine HW.out.mono ?_); rintro e w1 ⟨rfl, hb⟩)
    go_ret2
    exact ⟨_, rfl, World.ownsRow_nil _ _ _ _, ‹_›⟩
end Go.Proofs.Ytophfbnajelknaa

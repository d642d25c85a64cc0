import Derived.Test.YtophfbnajelknaaCents
import Derived.Test.YtophfbnajelknaaO
/- Package cents: Sum. -/
namespace Go.Proofs.Ytophfbnajelknaa
open Go.RowKit

theorem Try.info2 : (Try.prog.info? 2).map (fun i => (i.zero, i.size, i.bytes)) = some (some (.int .i64 0), 1, 8) := by kernel_rfl

def richs (xs : List Int) : List Int := xs.filter fun x => decide (0 ≤ x)
def poors (xs : List Int) : List Int := xs.filter fun x => decide (x < 0)

/-- The two lists while they are made: each in a variable of its own, in rows of their own. -/
structure SumR (w0 w : World) (b : Nat) (vr vp : Value) (rich poor : List Int) : Prop where
  r : Blk w b 55 #[vr]
  p : Blk w (b + 1) 55 #[vp]
  ro : w.ownsRow (b + 2) 2 1 vr rich.length (ints rich)
  po : w.ownsRow (b + 2) 2 1 vp poor.length (ints poor)
  ne : vr.ownBlock = none ∨ vr.ownBlock ≠ vp.ownBlock
  be : Below b w0 w

section
variable {w0 w w1 : World} {b g cap : Nat} {vr vp v' : Value} {rich poor : List Int} {x : Int}
theorem SumR.size (h : SumR w0 w b vr vp rich poor) : b + 2 ≤ w.heap.size := h.p.lt
theorem SumR.pblk (h : SumR w0 w b vr vp rich poor) (hg : w.grownBy w1 vp.ownBlock) : Blk w1 b 55 #[vr] ∧ Blk w1 (b + 1) 55 #[vp] :=
  ⟨h.r.grown hg (fun e => own_blk_ne h.po h.r (by decide) e.symm), h.p.grown hg (fun e => own_blk_ne h.po h.p (by decide) e.symm)⟩
theorem SumR.rblk (h : SumR w0 w b vr vp rich poor) (hg : w.grownBy w1 vr.ownBlock) : Blk w1 b 55 #[vr] ∧ Blk w1 (b + 1) 55 #[vp] :=
  ⟨h.r.grown hg (fun e => own_blk_ne h.ro h.r (by decide) e.symm), h.p.grown hg (fun e => own_blk_ne h.ro h.p (by decide) e.symm)⟩
theorem SumR.base (h : SumR w0 w b vr vp rich poor) : (∀ k, vr.ownBlock = some k → b + 2 ≤ k ∧ k < w.heap.size) ∧ (∀ k, vp.ownBlock = some k → b + 2 ≤ k ∧ k < w.heap.size) := ⟨h.ro.lt, h.po.lt⟩
theorem SumR.poor_ (h : SumR w0 w b vr vp rich poor) (hown : w1.ownsRow (b + 2) 2 1 (.slice (some ⟨g, 0, none⟩) (poor.length + 1) cap) (poor.length + 1) (ints poor ++ [.int .i64 x]))
    (hg : w.grownBy w1 vp.ownBlock) (hl : vp.ownBlock = some g ∨ w.heap.size ≤ g) : SumR w0 (w1.setCell ⟨b + 1, 0, none⟩ (.slice (some ⟨g, 0, none⟩) (poor.length + 1) cap)) b vr (.slice (some ⟨g, 0, none⟩) (poor.length + 1) cap) rich (poor ++ [x]) := by
  obtain ⟨b1, b2⟩ := h.pblk hg
  have hro : w1.ownsRow (b + 2) 2 1 vr rich.length (ints rich) := h.ro.kept hg h.ne
  refine ⟨b1.far (p := ⟨b + 1, 0, none⟩) (by simp) _, b2.set_ 0 _, ownsRow_setCell_below hro (by simp) _, ownsRow_setCell_below ?_ (by simp) _, ?_, ?_⟩
  · rw [List.length_append, ints_append]; exact hown
  · rcases hl with hl | hl
    · rcases h.ne with e | e
      · exact .inl e
      · exact .inr (fun e' => e (by rw [e', hl]; rfl))
    · exact .inr (fun e' => by have := (h.base.1 g (by rw [e']; rfl)).2; omega)
  · exact (h.be.grown hg (by have := h.size; omega) (fun k hk => by have := (h.base.2 k hk).1; omega)).setCell (by simp) _
theorem SumR.rich_ (h : SumR w0 w b vr vp rich poor) (hown : w1.ownsRow (b + 2) 2 1 (.slice (some ⟨g, 0, none⟩) (rich.length + 1) cap) (rich.length + 1) (ints rich ++ [.int .i64 x]))
    (hg : w.grownBy w1 vr.ownBlock) (hl : vr.ownBlock = some g ∨ w.heap.size ≤ g) : SumR w0 (w1.setCell ⟨b, 0, none⟩ (.slice (some ⟨g, 0, none⟩) (rich.length + 1) cap)) b (.slice (some ⟨g, 0, none⟩) (rich.length + 1) cap) vp (rich ++ [x]) poor := by
  obtain ⟨b1, b2⟩ := h.rblk hg
  have hne : vp.ownBlock = none ∨ vp.ownBlock ≠ vr.ownBlock := by
    rcases h.ne with e | e
    · rw [e]; cases vp.ownBlock <;> simp
    · exact .inr (Ne.symm e)
  have hpo : w1.ownsRow (b + 2) 2 1 vp poor.length (ints poor) := h.po.kept hg hne
  refine ⟨b1.set_ 0 _, b2.far (p := ⟨b, 0, none⟩) (by simp) _, ownsRow_setCell_below ?_ (by simp) _, ownsRow_setCell_below hpo (by simp) _, .inr ?_, ?_⟩
  · rw [List.length_append, ints_append]; exact hown
  · intro e'
    rcases hl with hl | hl
    · rcases h.ne with e | e
      · rw [hl] at e; cases e
      · exact e (by rw [hl, ← e']; rfl)
    · have := (h.base.2 g (by rw [← e']; rfl)).2; omega
  · exact (h.be.grown hg (by have := h.size; omega) (fun k hk => by have := (h.base.1 k hk).1; omega)).setCell (by simp) _
theorem SumR.start (w : World) : SumR w ((w.alloc (.cells #[.slice none 0 0] 55)).alloc (.cells #[.slice none 0 0] 55)) w.heap.size (.slice none 0 0) (.slice none 0 0) [] [] := by
  refine ⟨(Blk.new w 55 _).alloc _, ?_, World.ownsRow_nil _ _ _ _, World.ownsRow_nil _ _ _ _, .inl rfl, ((Below.refl _ _).alloc (Nat.le_refl _) _).alloc (by simp) _⟩
  have := Blk.new (w.alloc (.cells #[.slice none 0 0] 55)) 55 #[.slice none 0 0]
  simpa using this
end
theorem richs_snoc (xs : List Int) (k : Nat) (h : k < xs.length) : richs (xs.take (k + 1)) = if xs.getD k 0 < 0 then richs (xs.take k) else richs (xs.take k) ++ [xs.getD k 0] := by
  rw [List.take_succ_eq_append_getElem h]
  simp only [richs, List.filter_append, List.getD_eq_getElem?_getD, List.getElem?_eq_getElem h, Option.getD_some]
  split
  · rw [List.filter_cons_of_neg (by simp; omega)]; simp
  · rw [List.filter_cons_of_pos (by simp; omega)]; simp
theorem poors_snoc (xs : List Int) (k : Nat) (h : k < xs.length) : poors (xs.take (k + 1)) = if xs.getD k 0 < 0 then poors (xs.take k) ++ [xs.getD k 0] else poors (xs.take k) := by
  rw [List.take_succ_eq_append_getElem h]
  simp only [poors, List.filter_append, List.getD_eq_getElem?_getD, List.getElem?_eq_getElem h, Option.getD_some]
  split
  · rw [List.filter_cons_of_pos (by simp; omega)]; simp
  · rw [List.filter_cons_of_neg (by simp; omega)]; simp
theorem richs_le (xs : List Int) (k : Nat) : (richs (xs.take k)).length ≤ k := Nat.le_trans (List.length_filter_le _ _) (List.length_take_le _ _)
theorem poors_le (xs : List Int) (k : Nat) : (poors (xs.take k)).length ≤ k := Nat.le_trans (List.length_filter_le _ _) (List.length_take_le _ _)

/-- The two lists while they are taken from. -/
structure SumL (w0 w : World) (b : Nat) (Ar : Option Addr) (cr : Nat) (rich : List Int) (Ap : Option Addr) (cp : Nat) (poor : List Int) : Prop where
  r : Blk w b 55 #[.slice Ar rich.length cr]
  p : Blk w (b + 1) 55 #[.slice Ap poor.length cp]
  rl : rich.length ≤ cr
  pl : poor.length ≤ cp
  rr : 0 < rich.length → ∃ ad, Ar = some ad ∧ b + 2 ≤ ad.block ∧ ∀ j, j < rich.length → w.cell? (ad.add j) = some (.int .i64 (rich.getD j 0))
  pr : 0 < poor.length → ∃ ad, Ap = some ad ∧ b + 2 ≤ ad.block ∧ ∀ j, j < poor.length → w.cell? (ad.add j) = some (.int .i64 (poor.getD j 0))
  be : Below b w0 w
theorem own_ints {w : World} {base : Nat} {e : TypeId} {v : Value} {xs : List Int} (h : w.ownsRow base e 1 v xs.length (ints xs)) :
    ∃ A c, v = .slice A xs.length c ∧ xs.length ≤ c ∧ (0 < xs.length → ∃ ad, A = some ad ∧ base ≤ ad.block ∧ ∀ j, j < xs.length → w.cell? (ad.add j) = some (.int .i64 (xs.getD j 0))) := by
  rcases h.2 with ⟨rfl, hn⟩ | ⟨g, cap, cur, rfl, hg, _, hc, _⟩
  · exact ⟨none, 0, by rw [hn], by omega, fun h => by omega⟩
  · refine ⟨_, cap, rfl, hc, fun _ => ⟨_, rfl, hg, fun j hj => h.cells (g := g) rfl j _ (ints_at hj)⟩⟩
theorem SumR.toL {w0 w : World} {b : Nat} {vr vp : Value} {rich poor : List Int} (h : SumR w0 w b vr vp rich poor) :
    ∃ Ar cr Ap cp, SumL w0 w b Ar cr rich Ap cp poor := by
  obtain ⟨Ar, cr, rfl, h1, h2⟩ := own_ints h.ro
  obtain ⟨Ap, cp, rfl, h3, h4⟩ := own_ints h.po
  exact ⟨Ar, cr, Ap, cp, h.r, h.p, h1, h3, h2, h4, h.be⟩
theorem getD_dropLast {xs : List Int} {j : Nat} (h : j < xs.dropLast.length) : xs.dropLast.getD j 0 = xs.getD j 0 := by
  have h' : j < xs.length := by rw [List.length_dropLast] at h; omega
  simp [List.getD_eq_getElem?_getD, List.getElem?_eq_getElem h, List.getElem?_eq_getElem h']
section
variable {w0 w : World} {b cr cp : Nat} {Ar Ap : Option Addr} {rich poor : List Int}
theorem SumL.drew (h : SumL w0 w b Ar cr rich Ap cp poor) : SumL w0 w.drew b Ar cr rich Ap cp poor := ⟨h.r, h.p, h.rl, h.pl, h.rr, h.pr, h.be.drew⟩
theorem SumL.popr (h : SumL w0 w b Ar cr rich Ap cp poor) : SumL w0 (w.setCell ⟨b, 0, none⟩ (.slice Ar (rich.length - 1) cr)) b Ar cr rich.dropLast Ap cp poor := by
  refine ⟨?_, h.p.far (p := ⟨b, 0, none⟩) (by simp) _, ?_, h.pl, fun hn => ?_, fun hn => ?_, h.be.setCell (by simp) _⟩
  · have := h.r.set_ 0 (.slice Ar (rich.length - 1) cr); rw [List.length_dropLast]; simpa using this
  · rw [List.length_dropLast]; have := h.rl; omega
  · rw [List.length_dropLast] at hn
    obtain ⟨ad, e, hb, hc⟩ := h.rr (by omega)
    refine ⟨ad, e, hb, fun j hj => ?_⟩
    rw [World.cell?_setCell_other _ _ _ _ (fun e => by have := congrArg Addr.block e; rw [block_of_add] at this; simp at this; omega), getD_dropLast hj]
    exact hc j (by rw [List.length_dropLast] at hj; omega)
  · obtain ⟨ad, e, hb, hc⟩ := h.pr hn
    refine ⟨ad, e, hb, fun j hj => ?_⟩
    rw [World.cell?_setCell_other _ _ _ _ (fun e => by have := congrArg Addr.block e; rw [block_of_add] at this; simp at this; omega)]
    exact hc j hj
theorem SumL.popp (h : SumL w0 w b Ar cr rich Ap cp poor) : SumL w0 (w.setCell ⟨b + 1, 0, none⟩ (.slice Ap (poor.length - 1) cp)) b Ar cr rich Ap cp poor.dropLast := by
  refine ⟨h.r.far (p := ⟨b + 1, 0, none⟩) (by simp) _, ?_, h.rl, ?_, fun hn => ?_, fun hn => ?_, h.be.setCell (by simp) _⟩
  · have := h.p.set_ 0 (.slice Ap (poor.length - 1) cp); rw [List.length_dropLast]; simpa using this
  · rw [List.length_dropLast]; have := h.pl; omega
  · obtain ⟨ad, e, hb, hc⟩ := h.rr hn
    refine ⟨ad, e, hb, fun j hj => ?_⟩
    rw [World.cell?_setCell_other _ _ _ _ (fun e => by have := congrArg Addr.block e; rw [block_of_add] at this; simp at this; omega)]
    exact hc j hj
  · rw [List.length_dropLast] at hn
    obtain ⟨ad, e, hb, hc⟩ := h.pr (by omega)
    refine ⟨ad, e, hb, fun j hj => ?_⟩
    rw [World.cell?_setCell_other _ _ _ _ (fun e => by have := congrArg Addr.block e; rw [block_of_add] at this; simp at this; omega), getD_dropLast hj]
    exact hc j (by rw [List.length_dropLast] at hj; omega)
end

theorem fitE_ne {z : Int} (h : (fitE z != 0) = true) : ¬ inI z := by
  intro hi; rw [fitE_in hi] at h; simp at h
theorem fitE_eq {z : Int} (h : (fitE z != 0) = false) : inI z := by
  by_cases hi : inI z
  · exact hi
  · rw [fitE_out hi] at h; simp at h
/-- What holds of the sum on the way, and of what is left. -/
def SumI (xs : List Int) (s : Int) (rich poor : List Int) : Prop :=
  s + rich.sum + poor.sum = xs.sum ∧ inI s ∧ (∀ x ∈ rich, 0 ≤ x ∧ inI x) ∧ (∀ x ∈ poor, x < 0 ∧ inI x)

theorem sumI_end {xs : List Int} {s : Int} (h : SumI xs s [] []) : s = fitV xs.sum ∧ 0 = fitE xs.sum := by
  obtain ⟨h1, h2, _⟩ := h
  simp at h1
  rw [← h1]
  exact ⟨(fitV_in h2).symm, (fitE_in h2).symm⟩
theorem sum_dropLast {xs : List Int} (h : 0 < xs.length) : xs.dropLast.sum + xs.getD (xs.length - 1) 0 = xs.sum := by
  have hne : xs ≠ [] := by intro e; rw [e] at h; simp at h
  have e := List.dropLast_concat_getLast hne
  have e2 : xs.getD (xs.length - 1) 0 = xs.getLast hne := by
    rw [List.getD_eq_getElem?_getD, List.getElem?_eq_getElem (by omega), Option.getD_some, List.getLast_eq_getElem]
  rw [e2]
  conv => rhs; rw [← e]
  rw [List.sum_append]; simp
theorem sum_nonneg {xs : List Int} (h : ∀ x ∈ xs, 0 ≤ x) : 0 ≤ xs.sum := by
  induction xs with
  | nil => simp
  | cons a l ih => have := h a (by simp); have := ih (fun x hx => h x (by simp [hx])); simp; omega
theorem sum_nonpos {xs : List Int} (h : ∀ x ∈ xs, x < 0) : xs.sum ≤ 0 := by
  induction xs with
  | nil => simp
  | cons a l ih => have := h a (by simp); have := ih (fun x hx => h x (by simp [hx])); simp; omega
theorem sumI_rich {xs : List Int} {s x : Int} {rich poor : List Int} (h : SumI xs s rich poor) (hr : 0 < rich.length) (hx : x = rich.getD (rich.length - 1) 0) (hp : poor.length = 0 ∨ s < 0) :
    inI x ∧ (inI (s + x) → SumI xs (s + x) rich.dropLast poor) ∧ (¬ inI (s + x) → 0 = fitV xs.sum ∧ 3 = fitE xs.sum) := by
  obtain ⟨h1, h2, h3, h4⟩ := h
  have hd := sum_dropLast hr
  rw [← hx] at hd
  have hm := h3 x (by rw [hx]; exact getD_mem (by omega))
  refine ⟨hm.2, fun hi => ⟨by omega, hi, fun y hy => h3 y (List.dropLast_subset _ hy), h4⟩, fun hi => ?_⟩
  have h5 := sum_nonneg (xs := rich.dropLast) (fun y hy => (h3 y (List.dropLast_subset _ hy)).1)
  have : ¬ inI xs.sum := by
    rcases hp with hp | hp
    · rw [List.eq_nil_of_length_eq_zero hp] at h1; simp at h1
      unfold inI lowI topI at *; omega
    · exfalso; apply hi; unfold inI lowI topI at *; omega
  exact ⟨(fitV_out this).symm, (fitE_out this).symm⟩
theorem sumI_poor {xs : List Int} {s x : Int} {rich poor : List Int} (h : SumI xs s rich poor) (hr : 0 < poor.length) (hx : x = poor.getD (poor.length - 1) 0) (hp : rich.length = 0 ∨ 0 ≤ s) :
    inI x ∧ (inI (s + x) → SumI xs (s + x) rich poor.dropLast) ∧ (¬ inI (s + x) → 0 = fitV xs.sum ∧ 3 = fitE xs.sum) := by
  obtain ⟨h1, h2, h3, h4⟩ := h
  have hd := sum_dropLast hr
  rw [← hx] at hd
  have hm := h4 x (by rw [hx]; exact getD_mem (by omega))
  refine ⟨hm.2, fun hi => ⟨by omega, hi, h3, fun y hy => h4 y (List.dropLast_subset _ hy)⟩, fun hi => ?_⟩
  have h5 := sum_nonpos (xs := poor.dropLast) (fun y hy => (h4 y (List.dropLast_subset _ hy)).1)
  have : ¬ inI xs.sum := by
    rcases hp with hp | hp
    · rw [List.eq_nil_of_length_eq_zero hp] at h1; simp at h1
      unfold inI lowI topI at *; omega
    · exfalso; apply hi; unfold inI lowI topI at *; omega
  exact ⟨(fitV_out this).symm, (fitE_out this).symm⟩
theorem sumI_start {xs : List Int} (h : ∀ x ∈ xs, inI x) : SumI xs 0 (richs xs) (poors xs) := by
  refine ⟨?_, inI_zero, ?_, ?_⟩
  · clear h
    induction xs with
    | nil => simp [richs, poors]
    | cons a l ih =>
      simp only [richs, poors, List.filter_cons] at ih ⊢
      by_cases ha : a < 0
      · simp [ha, show ¬ 0 ≤ a by omega]; omega
      · simp [ha, show 0 ≤ a by omega]; omega
  · intro x hx; rw [richs, List.mem_filter] at hx; exact ⟨by simpa using hx.2, h x hx.1⟩
  · intro x hx; rw [poors, List.mem_filter] at hx; exact ⟨by simpa using hx.2, h x hx.1⟩

theorem rp_le (xs : List Int) : (richs xs).length + (poors xs).length ≤ xs.length := by
  induction xs with
  | nil => simp [richs, poors]
  | cons a l ih =>
    simp only [richs, poors, List.filter_cons] at ih ⊢
    by_cases ha : a < 0
    · simp [ha, show ¬ 0 ≤ a by omega]; omega
    · simp [ha, show 0 ≤ a by omega]; omega

set_option maxHeartbeats 4000000 in
set_option maxRecDepth 100000 in
theorem sum_any (A : Option Addr) (c : Nat) (xs : List Int) (w : World) (hr : Reads w w.heap.size 1 A xs.length (ints xs)) (hl : xs.length * 8 ≤ 140737488351232) (hx : ∀ x ∈ xs, inI x) :
    Calls Try.prog 32 #[.slice A xs.length c] w fun e w' => e = .returned (.tuple #[.int .i64 (fitV xs.sum), .int .i64 (fitE xs.sum)]) ∧ Below w.heap.size w w' := by
  have HR := Lib.hid hr
  have HX := Lib.hid hx
  clear hr hx
  obtain ⟨i0, hi, hz0, hz1, hz2⟩ := info_parts Try.info2
  go_enter Try.func32, Try.ntmps32
  go_wp2
  go_loopg [7, 15] xs.length (fun kq v7 v15 w' => ∃ k : Nat, k ≤ xs.length ∧ kq = xs.length - k ∧ v15 = .int .i64 k ∧ ∃ vr vp, SumR w w' w.heap.size vr vp (richs (xs.take k)) (poors (xs.take k)))
  case atStart => exact ⟨0, by omega, by omega, by go_num, _, _, SumR.start w⟩
  case round =>
    obtain ⟨k, hk, rfl, rfl, vr, vp, h⟩ := hrel
    by_cases hlt : k < xs.length
    · obtain ⟨ad, rfl, hb, hc⟩ := HR.out.int_at hlt
      have hcr := (h.be.cell (p := ad.add k) (by rw [block_of_add]; exact hb)).trans hc
      have c1 := h.r.cell 0
      have c2 := h.p.cell 0
      have f1 := h.r.frozen 0
      have f2 := h.p.frozen 0
      simp at c1 c2
      clear hc
      obtain ⟨x, hx⟩ : ∃ x, x = xs.getD k 0 := ⟨_, rfl⟩
      rw [← hx] at hcr
      have HE := Lib.hid hx
      clear hx
      by_cases hneg : x < 0
      · have hsz := h.size
        have hp := poors_le xs k
        go_wp2_with (at_builtin; go_must (refine wpl_append1 rfl _ _ 55 rfl (w.heap.size + 2) 2 i0 (.int .i64 0) 1 8 Try.underlying55 hi hz0 hz1 hz2 rfl (by decide) _ _ _ (by rfl) h.po #[.int .i64 x] (by rfl) (by rfl) (by simp [Value.oneCell']) (by unfold maxLen; omega) (by omega) (by omega) ?_))
        intro g cap w1 hown hg hl'
        obtain ⟨b1, b2⟩ := h.pblk hg
        have d1 := b2.cell 0
        have d2 := b2.frozen 0
        simp at d1
        have hn := h.poor_ hown hg hl'
        rw [HE.out] at hn hneg
        have e1 := richs_snoc xs k hlt
        have e2 := poors_snoc xs k hlt
        rw [if_pos hneg] at e1 e2
        rw [← e1, ← e2] at hn
        rw [← HE.out] at hneg
        clear hown hg hl' b1 b2 h c1 c2 f1 f2 hcr e1 e2
        go_wp2
        go_roundg (xs.length - (k + 1))
        case measure => omega
        case rel => exact ⟨k + 1, by omega, rfl, by go_num, vr, _, hn⟩
      · have hsz := h.size
        have hp := richs_le xs k
        go_wp2_with (at_builtin; go_must (refine wpl_append1 rfl _ _ 55 rfl (w.heap.size + 2) 2 i0 (.int .i64 0) 1 8 Try.underlying55 hi hz0 hz1 hz2 rfl (by decide) _ _ _ (by rfl) h.ro #[.int .i64 x] (by rfl) (by rfl) (by simp [Value.oneCell']) (by unfold maxLen; omega) (by omega) (by omega) ?_))
        intro g cap w1 hown hg hl'
        obtain ⟨b1, b2⟩ := h.rblk hg
        have d1 := b1.cell 0
        have d2 := b1.frozen 0
        simp at d1
        have hn := h.rich_ hown hg hl'
        rw [HE.out] at hn hneg
        have e1 := richs_snoc xs k hlt
        have e2 := poors_snoc xs k hlt
        rw [if_neg (by omega)] at e1 e2
        rw [← e1, ← e2] at hn
        clear hown hg hl' b1 b2 h c1 c2 f1 f2 hcr e1 e2
        go_wp2
        go_roundg (xs.length - (k + 1))
        case measure => omega
        case rel => exact ⟨k + 1, by omega, rfl, by go_num, _, vp, hn⟩
    · obtain rfl : k = xs.length := by omega
      rw [List.take_length] at h
      obtain ⟨Ar, cr, Ap, cp, hL⟩ := h.toL
      clear h
      go_wp2
      go_loopg [8] ((richs xs).length + (poors xs).length) (fun kq v8 w' => ∃ (s : Int) (rich poor : List Int), v8 = .int .i64 s ∧ Aside (kq = rich.length + poor.length ∧ SumI xs s rich poor) ∧ rich.length + poor.length ≤ xs.length ∧ SumL w w' w.heap.size Ar cr rich Ap cp poor)
      case atStart => exact ⟨0, _, _, rfl, ⟨rfl, sumI_start HX.out⟩, rp_le xs, hL⟩
      case round =>
        clear hL
        obtain ⟨s, rich, poor, rfl, HI, hle, h⟩ := hrel
        have c1 := h.r.cell 0
        have c2 := h.p.cell 0
        have f1 := h.r.frozen 0
        have f2 := h.p.frozen 0
        simp at c1 c2
        by_cases hp0 : poor.length = 0
        · by_cases hr0 : rich.length = 0
          · go_wp2
            go_ret2
            have hr1 := List.eq_nil_of_length_eq_zero hr0
            have hp1 := List.eq_nil_of_length_eq_zero hp0
            subst hr1 hp1
            have := sumI_end HI.out.2
            exact ⟨ret2_int this.1 this.2, h.be⟩
          · obtain ⟨x, hx⟩ : ∃ x, x = rich.getD (rich.length - 1) 0 := ⟨_, rfl⟩
            obtain ⟨i1, i2, i3⟩ := sumI_rich HI.out.2 (by omega) hx (.inl hp0)
            obtain ⟨ad, rfl, hb, hc⟩ := h.rr (by omega)
            have hcr := hc (rich.length - 1) (by omega)
            rw [← hx] at hcr
            have I1 := Lib.hid hx
            have I2 := Lib.hid i2
            have I3 := Lib.hid i3
            have S := Lib.hid HI.out.2.2.1
            have X := Lib.hid i1
            clear hc hx i2 i3 i1
            have hrl := h.rl
            go_wp2_with (go_at_call 45; go_must (refine (add_any _ _ S.out X.out _).mono ?_); rintro e w1 ⟨rfl, rfl⟩)
            · have hno := I3.out (fitE_ne ‹_›)
              have hE := fitE_out (fitE_ne ‹(fitE (s + x) != 0) = true›)
              go_ret2
              exact ⟨ret2_int hno.1 (hE.trans hno.2), h.be⟩
            · have hin := fitE_eq ‹_›
              have hn := h.popr
              have HS := I2.out hin
              have HV := Lib.hid (fitV_in hin)
              clear hin I2 I3
              have hrl2 : ¬ cr < rich.length - 1 := by omega
              go_region
              go_wp2
              rw [HV.out]
              go_roundg (rich.dropLast.length + poor.length)
              case measure => rw [HI.out.1, List.length_dropLast]; omega
              case rel => exact ⟨_, _, _, rfl, ⟨rfl, HS⟩, by rw [List.length_dropLast]; omega, hn.drew⟩
        · by_cases hr0 : rich.length = 0
          · obtain ⟨x, hx⟩ : ∃ x, x = poor.getD (poor.length - 1) 0 := ⟨_, rfl⟩
            obtain ⟨i1, i2, i3⟩ := sumI_poor HI.out.2 (by omega) hx (.inl hr0)
            obtain ⟨ad, rfl, hb, hc⟩ := h.pr (by omega)
            have hcr := hc (poor.length - 1) (by omega)
            rw [← hx] at hcr
            have I1 := Lib.hid hx
            have I2 := Lib.hid i2
            have I3 := Lib.hid i3
            have S := Lib.hid HI.out.2.2.1
            have X := Lib.hid i1
            clear hc hx i2 i3 i1
            have hrl := h.pl
            go_wp2_with (go_at_call 45; go_must (refine (add_any _ _ S.out X.out _).mono ?_); rintro e w1 ⟨rfl, rfl⟩)
            · have hno := I3.out (fitE_ne ‹_›)
              have hE := fitE_out (fitE_ne ‹(fitE (s + x) != 0) = true›)
              go_ret2
              exact ⟨ret2_int hno.1 (hE.trans hno.2), h.be⟩
            · have hin := fitE_eq ‹_›
              have hn := h.popp
              have HS := I2.out hin
              have HV := Lib.hid (fitV_in hin)
              clear hin I2 I3
              have hrl2 : ¬ cp < poor.length - 1 := by omega
              go_region
              go_wp2
              rw [HV.out]
              go_roundg (rich.length + poor.dropLast.length)
              case measure => rw [HI.out.1, List.length_dropLast]; omega
              case rel => exact ⟨_, _, _, rfl, ⟨rfl, HS⟩, by rw [List.length_dropLast]; omega, hn.drew⟩
          · by_cases hs : s < 0
            · obtain ⟨x, hx⟩ : ∃ x, x = rich.getD (rich.length - 1) 0 := ⟨_, rfl⟩
              obtain ⟨i1, i2, i3⟩ := sumI_rich HI.out.2 (by omega) hx (.inr hs)
              obtain ⟨ad, rfl, hb, hc⟩ := h.rr (by omega)
              have hcr := hc (rich.length - 1) (by omega)
              rw [← hx] at hcr
              have I1 := Lib.hid hx
              have I2 := Lib.hid i2
              have I3 := Lib.hid i3
              have S := Lib.hid HI.out.2.2.1
              have X := Lib.hid i1
              clear hc hx i2 i3 i1
              have hrl := h.rl
              go_wp2_with (go_at_call 45; go_must (refine (add_any _ _ S.out X.out _).mono ?_); rintro e w1 ⟨rfl, rfl⟩)
              · have hno := I3.out (fitE_ne ‹_›)
                have hE := fitE_out (fitE_ne ‹(fitE (s + x) != 0) = true›)
                go_ret2
                exact ⟨ret2_int hno.1 (hE.trans hno.2), h.be⟩
              · have hin := fitE_eq ‹_›
                have hn := h.popr
                have HS := I2.out hin
                have HV := Lib.hid (fitV_in hin)
                clear hin I2 I3
                have hrl2 : ¬ cr < rich.length - 1 := by omega
                go_region
                go_wp2
                rw [HV.out]
                go_roundg (rich.dropLast.length + poor.length)
                case measure => rw [HI.out.1, List.length_dropLast]; omega
                case rel => exact ⟨_, _, _, rfl, ⟨rfl, HS⟩, by rw [List.length_dropLast]; omega, hn.drew⟩
            · replace hs : 0 ≤ s := by omega
              have hs' : decide (s < 0) = false := by simp; omega
              obtain ⟨x, hx⟩ : ∃ x, x = poor.getD (poor.length - 1) 0 := ⟨_, rfl⟩
              obtain ⟨i1, i2, i3⟩ := sumI_poor HI.out.2 (by omega) hx (.inr hs)
              obtain ⟨ad, rfl, hb, hc⟩ := h.pr (by omega)
              have hcr := hc (poor.length - 1) (by omega)
              rw [← hx] at hcr
              have I1 := Lib.hid hx
              have I2 := Lib.hid i2
              have I3 := Lib.hid i3
              have S := Lib.hid HI.out.2.2.1
              have X := Lib.hid i1
              clear hc hx i2 i3 i1
              have hrl := h.pl
              go_wp2_with (go_at_call 45; go_must (refine (add_any _ _ S.out X.out _).mono ?_); rintro e w1 ⟨rfl, rfl⟩)
              · have hno := I3.out (fitE_ne ‹_›)
                have hE := fitE_out (fitE_ne ‹(fitE (s + x) != 0) = true›)
                go_ret2
                exact ⟨ret2_int hno.1 (hE.trans hno.2), h.be⟩
              · have hin := fitE_eq ‹_›
                have hn := h.popp
                have HS := I2.out hin
                have HV := Lib.hid (fitV_in hin)
                clear hin I2 I3
                have hrl2 : ¬ cp < poor.length - 1 := by omega
                go_region
                go_wp2
                rw [HV.out]
                go_roundg (rich.length + poor.dropLast.length)
                case measure => rw [HI.out.1, List.length_dropLast]; omega
                case rel => exact ⟨_, _, _, rfl, ⟨rfl, HS⟩, by rw [List.length_dropLast]; omega, hn.drew⟩
end Go.Proofs.Ytophfbnajelknaa

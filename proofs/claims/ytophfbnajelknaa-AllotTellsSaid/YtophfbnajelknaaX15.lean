import Derived.Test.YtophfbnajelknaaX14
/- Reference R01: Over, plain part; rows of numbers. -/
namespace Go.Proofs.Ytophfbnajelknaa
open Go.RowKit

/-- A number's cells. -/
structure El where
  s : Int
  A : Option Addr
  c : Nat
  ds : List Int
def El.v (e : El) : Value := .agg #[.int .i64 e.s, .slice e.A e.ds.length e.c]
def El.cs (e : El) : List Value := [.int .i64 e.s, .slice e.A e.ds.length e.c]
def elCells (l : List El) : List Value := l.flatMap El.cs
theorem elCells_append (l m : List El) : elCells (l ++ m) = elCells l ++ elCells m := List.flatMap_append
theorem elCells_one (e : El) : elCells [e] = [.int .i64 e.s, .slice e.A e.ds.length e.c] := by simp [elCells, El.cs]
theorem elCells_at : ∀ {l : List El} {i : Nat} {e : El}, l[i]? = some e → (elCells l)[i * 2]? = some (.int .i64 e.s) ∧ (elCells l)[i * 2 + 1]? = some (.slice e.A e.ds.length e.c)
  | [], i, e, h => by simp at h
  | d :: l, 0, e, h => by
    simp at h
    subst h
    rw [show elCells (d :: l) = El.cs d ++ elCells l by simp [elCells]]
    simp [El.cs]
  | d :: l, i + 1, e, h => by
    have ih := elCells_at (l := l) (i := i) (e := e) (by simpa using h)
    rw [show elCells (d :: l) = El.cs d ++ elCells l by simp [elCells]]
    rw [show (i + 1) * 2 = i * 2 + 2 by omega]
    simp only [El.cs]
    exact ⟨by simpa using ih.1, by simpa using ih.2⟩
/-- The elements are y, 2y, 4y, .. -/
def Dbl (w : World) (l : List El) (y : Int) : Prop := ∀ i e, l[i]? = some e → RI w e.A e.ds ∧ Num e.s e.ds (2 ^ i * y)
theorem Dbl.below {w w' : World} {l : List El} {y : Int} (h : Dbl w l y) (hb : Below w.heap.size w w') : Dbl w' l y := fun i e he => ⟨(h i e he).1.below hb, (h i e he).2⟩
theorem Dbl.keep {w w' : World} {l : List El} {y : Int} (h : Dbl w l y) (hk : ∀ A ds, RI w A ds → RI w' A ds) : Dbl w' l y := fun i e he => ⟨hk _ _ (h i e he).1, (h i e he).2⟩
theorem Dbl.snoc {w : World} {l : List El} {y : Int} (h : Dbl w l y) {e : El} (hr : RI w e.A e.ds) (hn : Num e.s e.ds (2 ^ l.length * y)) : Dbl w (l ++ [e]) y := by
  intro i f hf
  rcases Nat.lt_or_ge i l.length with hi | hi
  · rw [List.getElem?_append_left hi] at hf; exact h i f hf
  · rw [List.getElem?_append_right hi] at hf
    have : i - l.length = 0 := by
      rcases Nat.eq_zero_or_pos (i - l.length) with h0 | h0
      · exact h0
      · rw [List.getElem?_eq_none (by simp; omega)] at hf; cases hf
    rw [this] at hf
    simp at hf
    subst hf
    obtain rfl : i = l.length := by omega
    exact ⟨hr, hn⟩

/-- What is left of x, and by how many. -/
structure OvI (x y : Int) (i : Nat) (q a : Int) : Prop where
  val : x = q * (2 ^ i * y) + a
  a0 : 0 ≤ a
  a1 : a < 2 ^ i * y
  q0 : 0 ≤ q
theorem two_pow_pos (i : Nat) : (0 : Int) < 2 ^ i := Int.pow_pos (by omega)
theorem OvI.start {x y : Int} {m : Nat} (hx : 0 ≤ x) (h : x < 2 ^ m * y) (hy : 0 < y) : OvI x y (m + 1) 0 x := by
  refine ⟨by rw [Int.zero_mul, Int.zero_add], hx, ?_, Int.le_refl _⟩
  rw [Int.pow_succ, Int.mul_comm (2 ^ m) 2, Int.mul_assoc]
  have := Int.mul_pos (two_pow_pos m) hy
  omega
theorem OvI.yes {x y q a : Int} {i : Nat} (h : OvI x y (i + 1) q a) (hle : 2 ^ i * y ≤ a) : OvI x y i (q + q + 1) (a - 2 ^ i * y) := by
  have hv := h.val
  have h1 := h.a1
  rw [Int.pow_succ, Int.mul_comm (2 ^ i) 2, Int.mul_assoc] at hv h1
  refine ⟨?_, by omega, by omega, by have := h.q0; omega⟩
  rw [hv, Int.add_mul, Int.add_mul, Int.mul_left_comm q]
  omega
theorem OvI.no {x y q a : Int} {i : Nat} (h : OvI x y (i + 1) q a) (hlt : a < 2 ^ i * y) : OvI x y i (q + q) a := by
  have hv := h.val
  rw [Int.pow_succ, Int.mul_comm (2 ^ i) 2, Int.mul_assoc] at hv
  refine ⟨?_, h.a0, hlt, by have := h.q0; omega⟩
  rw [hv, Int.add_mul, Int.mul_left_comm q]
  omega
theorem OvI.done {x y q a : Int} (h : OvI x y 0 q a) (hy : 0 < y) : q = x / y := by
  have hv := h.val
  have h1 := h.a1
  rw [Int.pow_zero, Int.one_mul] at hv h1
  have : x / y = q ∧ x % y = a := (Int.ediv_emod_unique hy).2 ⟨by rw [hv, Int.add_comm, Int.mul_comm], h.a0, h1⟩
  exact this.1.symm
theorem OvI.le {x y q a : Int} {i : Nat} (h : OvI x y i q a) (hy : 0 < y) : q ≤ x ∧ a ≤ x := by
  have hv := h.val
  have hp := Int.mul_pos (two_pow_pos i) hy
  have h1 : q * 1 ≤ q * (2 ^ i * y) := Int.mul_le_mul_of_nonneg_left (by omega) h.q0
  have h2 : 0 ≤ q * (2 ^ i * y) := Int.mul_nonneg h.q0 (by omega)
  have := h.a0
  omega
theorem small_le {k : Nat} {z x : Int} (h : Small k x) (h0 : 0 ≤ z) (h1 : z ≤ x) : Small k z := by
  unfold Small at *
  have := pow1000_pos k
  omega
/-- A double of what is no more than x is small. -/
theorem small_dbl {x z : Int} (h : Small 40 x) (h0 : 0 ≤ z) (h1 : z ≤ x) : Small 100 (z + z) := by
  have h2 := small_le h h0 h1
  have h3 : Small 41 (z + z) := by
    unfold Small at *
    rw [Int.pow_succ]
    omega
  exact h3.mono (by omega)
theorem pow_two_lt {m k : Nat} {z : Int} (h1 : 2 ^ m ≤ z) (h2 : z < 1000 ^ k) : m < 10 * k := by
  have h3 : (1000 : Int) ^ k ≤ 1024 ^ k := by
    have := Nat.pow_le_pow_left (show 1000 ≤ 1024 by omega) k
    rw [← Int.ofNat_le, Int.natCast_pow, Int.natCast_pow] at this
    exact this
  have h4 : (1024 : Int) ^ k = 2 ^ (10 * k) := by rw [show (1024 : Int) = 2 ^ 10 from rfl, ← Int.pow_mul]
  have h5 : (2 : Int) ^ m < 2 ^ (10 * k) := by omega
  have h6 : (2 : Nat) ^ m < 2 ^ (10 * k) := Int.ofNat_lt.1 (by rw [Int.natCast_pow, Int.natCast_pow]; exact h5)
  exact (Nat.pow_lt_pow_iff_right (by omega : 1 < 2)).1 h6
theorem dbl_bound {x y : Int} {m : Nat} (h : Small 40 x) (hy : 0 < y) (hle : 2 ^ m * y ≤ x) : m < 400 := by
  have h1 : (2 : Int) ^ m * 1 ≤ 2 ^ m * y := Int.mul_le_mul_of_nonneg_left (by omega) (Int.le_of_lt (two_pow_pos m))
  exact pow_two_lt (Int.le_trans (by rw [Int.mul_one] at h1; exact h1) hle) h.2
theorem own_below {w w' : World} {base : Nat} {e : TypeId} {size n : Nat} {v : Value} {xs : List Value} (h : w.ownsRow base e size v n xs) (hb : Below w.heap.size w w') : w'.ownsRow base e size v n xs := by
  refine h.kept (row := none) ⟨hb.os, hb.tape, hb.output, hb.size, fun j hj _ => hb.block j hj⟩ ?_
  cases v.ownBlock with
  | none => exact .inl rfl
  | some g => exact .inr (by simp)
theorem RI.grown {w w1 : World} {A : Option Addr} {ds : List Int} (h : RI w A ds) {base : Nat} {t : TypeId} {size n : Nat} {v : Value} {xs : List Value} (hown : w.ownsRow base t size v n xs) (ht : 3 ≠ t) (hg : w.grownBy w1 v.ownBlock) : RI w1 A ds := by
  have key : ∀ ad, A = some ad → 0 < ds.length → w1.heap[ad.block]? = w.heap[ad.block]? := by
    intro ad e h0
    refine hg.block _ (h.lt e h0) ?_
    rcases hown.2 with ⟨rfl, _⟩ | ⟨g', cap, cur, rfl, _, hh, _⟩
    · simp [Value.ownBlock]
    · simp only [Value.ownBlock]
      intro e2
      exact (h.t ad e h0).ne_ hh ht (Option.some.inj e2)
  refine ⟨⟨h.r.1, fun h0 => ?_⟩, fun ad e h0 => ?_⟩
  · obtain ⟨ad, e, hlt, hc⟩ := h.r.2 h0
    refine ⟨ad, e, Nat.lt_of_lt_of_le hlt hg.size, fun j u hu => ?_⟩
    exact (World.cell?_of_block (by rw [block_of_add]; exact key ad e h0)).trans (hc j u hu)
  · obtain ⟨cs, m, hh⟩ := h.t ad e h0
    exact ⟨cs, m, (key ad e h0).trans hh⟩
structure OvW (w w' : World) (p q : Array Value) (vo : Value) (l : List El) (y : Int) : Prop where
  bx : Box3 w w' p q #[.int .i64 0, .slice none 0 0]
  own : w'.ownsRow (w.heap.size + 3) 102 2 vo l.length (elCells l)
  dbl : Dbl w' l y
theorem OvW.below {w w' w1 : World} {p q : Array Value} {vo : Value} {l : List El} {y : Int} (h : OvW w w' p q vo l y) (hb : Below w'.heap.size w' w1) : OvW w w1 p q vo l y :=
  ⟨h.bx.below hb, own_below h.own hb, h.dbl.below hb⟩
theorem RI.drew {w : World} {A : Option Addr} {ds : List Int} (h : RI w A ds) : RI w.drew A ds := ⟨h.r, h.t⟩
theorem Below.trans' {w w1 w2 : World} (h : Below w.heap.size w w1) (k : Below w1.heap.size w1 w2) : Below w.heap.size w w2 := below_then h k h.size
theorem RI.drewN {w : World} {A : Option Addr} {ds : List Int} (h : RI w A ds) (n : Nat) : RI (w.drewN n) A ds := ⟨h.r, h.t⟩
theorem OvW.drewN {w w' : World} {p q : Array Value} {vo : Value} {l : List El} {y : Int} (h : OvW w w' p q vo l y) (n : Nat) : OvW w (w'.drewN n) p q vo l y := ⟨h.bx.drewN n, h.own, h.dbl.keep fun _ _ h => h.drewN n⟩
theorem OvW.grown {w w' w1 : World} {p q : Array Value} {vo v1 : Value} {l : List El} {e : El} {y : Int} (h : OvW w w' p q vo l y) (hg : w'.grownBy w1 vo.ownBlock) (ho : w1.ownsRow (w.heap.size + 3) 102 2 v1 (l.length + 1) (elCells l ++ [.int .i64 e.s, .slice e.A e.ds.length e.c]))
    (hr : RI w' e.A e.ds) (hn : Num e.s e.ds (2 ^ l.length * y)) : OvW w w1 p q v1 (l ++ [e]) y := by
  have hne : ∀ g, g < w.heap.size + 3 → some g ≠ vo.ownBlock := fun g hlt he => by have := own_ge h.own he.symm; omega
  refine ⟨⟨h.bx.b0.grown hg (hne _ (by omega)), h.bx.b1.grown hg (hne _ (by omega)), h.bx.b2.grown hg (hne _ (by omega)), h.bx.bel.grown hg h.bx.bel.size (fun j hj => by have := own_ge h.own hj; omega)⟩, ?_, ?_⟩
  · rw [List.length_append, elCells_append, elCells_one]; exact ho
  · exact (h.dbl.keep fun A ds hr => hr.grown h.own (by decide) hg).snoc (hr.grown h.own (by decide) hg) hn
theorem OvW.start (w : World) (p q : Array Value) {e : El} {y : Int} (hr : RI w e.A e.ds) (hn : Num e.s e.ds y) :
    OvW w ((((w.alloc (.cells p 102)).alloc (.cells q 102)).alloc (.cells #[.int .i64 0, .slice none 0 0] 102)).alloc (.cells #[.int .i64 e.s, .slice e.A e.ds.length e.c] 102)) p q (.slice (some ⟨w.heap.size + 3, 0, none⟩) 1 1) [e] y := by
  have h := Box3.start w p q
  refine ⟨⟨h.b0.alloc _, h.b1.alloc _, h.b2.alloc _, h.bel.alloc (by simp; omega) _⟩, ?_, ?_⟩
  · have := own_new (W := ((w.alloc (.cells p 102)).alloc (.cells q 102)).alloc (.cells #[.int .i64 0, .slice none 0 0] 102)) (e := 102) (size := 2) #[.int .i64 e.s, .slice e.A e.ds.length e.c] 1 (by simp) (by unfold maxLen; omega)
    rw [elCells_one]
    simpa using this
  · intro i f hf
    rcases i with _ | i
    · simp at hf
      subst hf
      exact ⟨(((hr.alloc _).alloc _).alloc _).alloc _, by rw [Int.pow_zero, Int.one_mul]; exact hn⟩
    · simp at hf
theorem Hold.far {w : World} {g : Nat} {z s : Int} {A : Option Addr} {c : Nat} {ds : List Int} (h : Hold w g z s A c ds) {g' : Nat} {cs : Array Value} (hb : Blk w g' 102 cs) (hne : g ≠ g') (i : Nat) (x : Value) : Hold (w.setCell ⟨g', i, none⟩ x) g z s A c ds :=
  ⟨h.b.far (p := ⟨g', i, none⟩) hne x, h.r.setCell hb (by decide) (p := ⟨g', i, none⟩) rfl x, h.n⟩
theorem Hold.far2 {w : World} {g : Nat} {z s : Int} {A : Option Addr} {c : Nat} {ds : List Int} (h : Hold w g z s A c ds) {g' : Nat} {a b : Value} (hb : Blk w g' 102 #[a, b]) (hne : g ≠ g') (x y : Value) : Hold ((w.setCell ⟨g', 0, none⟩ x).setCell ⟨g', 1, none⟩ y) g z s A c ds :=
  (h.far hb hne 0 x).far (hb.set_ 0 x) hne 1 y
theorem Blk.far2 {w : World} {g g' : Nat} {t : TypeId} {cs : Array Value} (h : Blk w g t cs) (hne : g ≠ g') (x y : Value) : Blk ((w.setCell ⟨g', 0, none⟩ x).setCell ⟨g', 1, none⟩ y) g t cs := (h.far (p := ⟨g', 0, none⟩) hne x).far (p := ⟨g', 1, none⟩) hne y
theorem RI.set2 {w : World} {A : Option Addr} {ds : List Int} (h : RI w A ds) {g : Nat} {a b : Value} (hb : Blk w g 102 #[a, b]) (x y : Value) : RI ((w.setCell ⟨g, 0, none⟩ x).setCell ⟨g, 1, none⟩ y) A ds :=
  (h.setCell hb (by decide) (p := ⟨g, 0, none⟩) rfl x).setCell (hb.set_ 0 x) (by decide) (p := ⟨g, 1, none⟩) rfl y
/-- Over, while doubles are taken away. -/
structure Ov2 (w w' : World) (g G : Nat) (cur : Array Value) (l : List El) (y a q : Int) (ea eq : El) : Prop where
  ha : Hold w' w.heap.size a ea.s ea.A ea.c ea.ds
  b2 : Blk w' (w.heap.size + 2) 102 #[.int .i64 0, .slice none 0 0]
  hd : Blk w' g 102 cur
  dbl : Dbl w' l y
  hq : Hold w' G q eq.s eq.A eq.c eq.ds
  bel : Below w.heap.size w w'
  hg : w.heap.size + 3 ≤ g
  hG : g < G
theorem Ov2.below {w w' w1 : World} {g G : Nat} {cur : Array Value} {l : List El} {y a q : Int} {ea eq : El} (h : Ov2 w w' g G cur l y a q ea eq) (hb : Below w'.heap.size w' w1) : Ov2 w w1 g G cur l y a q ea eq :=
  ⟨h.ha.below hb, h.b2.below hb h.b2.lt, h.hd.below hb h.hd.lt, h.dbl.below hb, h.hq.below hb, below_then h.bel hb h.bel.size, h.hg, h.hG⟩
theorem Ov2.drewN {w w' : World} {g G : Nat} {cur : Array Value} {l : List El} {y a q : Int} {ea eq : El} (h : Ov2 w w' g G cur l y a q ea eq) (n : Nat) : Ov2 w (w'.drewN n) g G cur l y a q ea eq :=
  ⟨⟨h.ha.b, h.ha.r.drewN n, h.ha.n⟩, h.b2, h.hd, h.dbl.keep fun _ _ h => h.drewN n, ⟨h.hq.b, h.hq.r.drewN n, h.hq.n⟩, below_drewN h.bel, h.hg, h.hG⟩
theorem Ov2.drew {w w' : World} {g G : Nat} {cur : Array Value} {l : List El} {y a q : Int} {ea eq : El} (h : Ov2 w w' g G cur l y a q ea eq) : Ov2 w w'.drew g G cur l y a q ea eq :=
  ⟨h.ha.drew, h.b2, h.hd, h.dbl.keep fun _ _ h => ⟨h.r, h.t⟩, h.hq.drew, h.bel.drew, h.hg, h.hG⟩
theorem Ov2.setA {w w' : World} {g G : Nat} {cur : Array Value} {l : List El} {y a q : Int} {ea eq : El} (h : Ov2 w w' g G cur l y a q ea eq) {s : Int} {A : Option Addr} {c : Nat} {ds : List Int} {a' : Int} (R : RI w' A ds) (N : Num s ds a') :
    Ov2 w ((w'.setCell ⟨w.heap.size, 0, none⟩ (.int .i64 s)).setCell ⟨w.heap.size, 1, none⟩ (.slice A ds.length c)) g G cur l y a' q ⟨s, A, c, ds⟩ eq :=
  have h1 := h.hg
  have h2 := h.hG
  ⟨Hold.set_ h.ha.b R N, h.b2.far2 (by omega) _ _, h.hd.far2 (by omega) _ _, h.dbl.keep fun _ _ hr => hr.set2 h.ha.b _ _, h.hq.far2 h.ha.b (by omega) _ _, (h.bel.setCell (p := ⟨w.heap.size, 0, none⟩) (by simp) _).setCell (p := ⟨w.heap.size, 1, none⟩) (by simp) _, h.hg, h.hG⟩
theorem Ov2.setQ {w w' : World} {g G : Nat} {cur : Array Value} {l : List El} {y a q : Int} {ea eq : El} (h : Ov2 w w' g G cur l y a q ea eq) {s : Int} {A : Option Addr} {c : Nat} {ds : List Int} {q' : Int} (R : RI w' A ds) (N : Num s ds q') :
    Ov2 w ((w'.setCell ⟨G, 0, none⟩ (.int .i64 s)).setCell ⟨G, 1, none⟩ (.slice A ds.length c)) g G cur l y a q' ea ⟨s, A, c, ds⟩ :=
  have h1 := h.hg
  have h2 := h.hG
  ⟨h.ha.far2 h.hq.b (by omega) _ _, h.b2.far2 (by omega) _ _, h.hd.far2 (by omega) _ _, h.dbl.keep fun _ _ hr => hr.set2 h.hq.b _ _, Hold.set_ h.hq.b R N, (h.bel.setCell (p := ⟨G, 0, none⟩) (by simp; omega) _).setCell (p := ⟨G, 1, none⟩) (by simp; omega) _, h.hg, h.hG⟩
theorem Ov2.start {w wq : World} {q : Array Value} {g : Nat} {cur : Array Value} {l : List El} {y x s : Int} {A : Option Addr} {c : Nat} {ds : List Int} (h : Box3 w wq #[.int .i64 s, .slice A ds.length c] q #[.int .i64 0, .slice none 0 0]) (hd : Blk wq g 102 cur) (hdbl : Dbl wq l y)
    (R : RI wq A ds) (N : Num s ds x) (hg : w.heap.size + 3 ≤ g) : Ov2 w (wq.alloc (.cells #[.int .i64 0, .slice none 0 0] 102)) g wq.heap.size cur l y x 0 ⟨s, A, c, ds⟩ ⟨0, none, 0, []⟩ :=
  ⟨⟨h.b0.alloc _, R.alloc _, N⟩, h.b2.alloc _, hd.alloc _, hdbl.keep fun _ _ hr => hr.alloc _, ⟨Blk.new _ _ _, RI.nil _ _, Num.zero⟩, h.bel.alloc h.bel.size _, hg, hd.lt⟩
theorem Ov2.sees {w w' : World} {g G : Nat} {cur : Array Value} {l : List El} {y a q : Int} {ea eq : El} (h : Ov2 w w' g G cur l y a q ea eq) (hc : ∀ i e, l[i]? = some e → cur[i * 2]? = some (.int .i64 e.s) ∧ cur[i * 2 + 1]? = some (.slice e.A e.ds.length e.c)) {k : Nat} {e : El} (he : l[k]? = some e) :
    w'.cell? ⟨w.heap.size, 0, none⟩ = some (.int .i64 ea.s) ∧ w'.cell? ⟨w.heap.size, 1, none⟩ = some (.slice ea.A ea.ds.length ea.c) ∧ w'.cell? ⟨g, k * 2, none⟩ = some (.int .i64 e.s) ∧ w'.cell? ⟨g, k * 2 + 1, none⟩ = some (.slice e.A e.ds.length e.c) := by
  have h0 := h.hd.cell (k * 2)
  have h1 := h.hd.cell (k * 2 + 1)
  rw [(hc k e he).1] at h0
  rw [(hc k e he).2] at h1
  exact ⟨h.ha.b.cells2.1, h.ha.b.cells2.2, h0, h1⟩
theorem dbl_le {y : Int} {k m : Nat} (h : k ≤ m) (hy : 0 < y) : 2 ^ k * y ≤ 2 ^ m * y := by
  refine Int.mul_le_mul_of_nonneg_right ?_ (by omega)
  have := Nat.pow_le_pow_right (show 0 < 2 by omega) h
  rw [← Int.ofNat_le, Int.natCast_pow, Int.natCast_pow] at this
  exact this
/-- The row of doubles is one block. -/
theorem own_block {w : World} {base g n n' cap : Nat} {l : List El} (h : w.ownsRow base 102 2 (.slice (some ⟨g, 0, none⟩) n' cap) n (elCells l)) :
    ∃ cur, Blk w g 102 cur ∧ ∀ i e, l[i]? = some e → cur[i * 2]? = some (.int .i64 e.s) ∧ cur[i * 2 + 1]? = some (.slice e.A e.ds.length e.c) := by
  rcases h.2 with ⟨h0, _⟩ | ⟨g', cap', cur, hv, _, hh, _⟩
  · cases h0
  · have e := Value.slice.inj hv
    have e1 : g = g' := by have := e.1; simp at this; exact this
    subst e1
    have hb : Blk w g 102 cur := hh
    refine ⟨cur, hb, fun i f hf => ?_⟩
    have h0 := h.cells (g := g) rfl (i * 2) _ (elCells_at hf).1
    have h1 := h.cells (g := g) rfl (i * 2 + 1) _ (elCells_at hf).2
    rw [add_at, Nat.zero_add, hb.cell] at h0 h1
    exact ⟨h0, h1⟩
end Go.Proofs.Ytophfbnajelknaa

import Derived.Test.YtophfbnajelknaaAw13
/- Reference R01: whole numbers of any size, by digits of thousands: plain facts, and how such a number lies in memory. -/
namespace Go.Proofs.Ytophfbnajelknaa
open Go.RowKit

def valD : List Int → Int
  | [] => 0
  | d :: l => d + 1000 * valD l
def Digs (l : List Int) : Prop := ∀ x ∈ l, 0 ≤ x ∧ x < 1000
theorem Digs.tail {d : Int} {l : List Int} (h : Digs (d :: l)) : Digs l := fun x hx => h x (by simp [hx])
theorem Digs.take {l : List Int} (h : Digs l) (k : Nat) : Digs (l.take k) := fun x hx => h x (List.mem_of_mem_take hx)
theorem valD_nonneg : ∀ {l : List Int}, Digs l → 0 ≤ valD l
  | [], _ => by simp [valD]
  | d :: l, h => by have := h d (by simp); have := valD_nonneg h.tail; rw [valD]; omega
theorem valD_lt : ∀ {l : List Int}, Digs l → valD l < 1000 ^ l.length
  | [], _ => by simp [valD]
  | d :: l, h => by have := h d (by simp); have := valD_lt h.tail; rw [valD, List.length_cons, Int.pow_succ]; omega
theorem valD_append : ∀ (l m : List Int), valD (l ++ m) = valD l + 1000 ^ l.length * valD m
  | [], m => by simp [valD]
  | d :: l, m => by
    rw [List.cons_append, valD, valD_append l m, valD, List.length_cons, Int.pow_succ, Int.mul_add]
    rw [show (1000 : Int) ^ l.length * 1000 * valD m = 1000 * (1000 ^ l.length * valD m) by rw [Int.mul_comm (1000 ^ l.length) 1000, Int.mul_assoc]]
    omega
theorem valD_one (x : Int) : valD [x] = x := by simp [valD]
theorem valD_snoc (l : List Int) (x : Int) : valD (l ++ [x]) = valD l + 1000 ^ l.length * x := by rw [valD_append, valD_one]
theorem valD_take {l : List Int} {k : Nat} (h : k < l.length) : valD (l.take (k + 1)) = valD (l.take k) + 1000 ^ k * l.getD k 0 := by
  rw [List.take_succ_eq_append_getElem h, valD_snoc, List.length_take, Nat.min_eq_left (by omega), List.getD_eq_getElem?_getD, List.getElem?_eq_getElem h]; rfl
theorem pow1000_pos (k : Nat) : (0 : Int) < 1000 ^ k := Int.pow_pos (by omega)
/-- The last digit is not 0: so great is the number. -/
theorem valD_ge {l : List Int} (h : Digs l) (h0 : 0 < l.length) (hl : l.getD (l.length - 1) 0 ≠ 0) : (1000 : Int) ^ (l.length - 1) ≤ valD l := by
  have e : valD l = valD (l.take (l.length - 1)) + 1000 ^ (l.length - 1) * l.getD (l.length - 1) 0 := by
    rw [← valD_take (by omega), Nat.sub_add_cancel h0, List.take_length]
  have h1 := valD_nonneg (h.take (l.length - 1))
  have h2 := h _ (getD_mem (k := l.length - 1) (xs := l) (by omega))
  have h3 : (1000 : Int) ^ (l.length - 1) * 1 ≤ 1000 ^ (l.length - 1) * l.getD (l.length - 1) 0 := Int.mul_le_mul_of_nonneg_left (by omega) (Int.le_of_lt (pow1000_pos _))
  omega
/-- Sign and digits: of z. -/
structure Num (s : Int) (ds : List Int) (z : Int) : Prop where
  digs : Digs ds
  val : z = s * valD ds
  kind : s = 0 ∧ ds = [] ∨ (s = 1 ∨ s = -1) ∧ 0 < ds.length ∧ ds.getD (ds.length - 1) 0 ≠ 0
theorem Num.zero : Num 0 [] 0 := ⟨fun x hx => by simp at hx, by simp, .inl ⟨rfl, rfl⟩⟩
theorem Num.pos {s : Int} {ds : List Int} {z : Int} (h : Num s ds z) (h0 : 0 < ds.length) : 0 < valD ds := by
  rcases h.kind with ⟨_, e⟩ | ⟨_, _, hl⟩
  · subst e; simp at h0
  · have := valD_ge h.digs h0 hl; have := pow1000_pos (ds.length - 1); omega
theorem Num.sign {s : Int} {ds : List Int} {z : Int} (h : Num s ds z) : s = z.sign := by
  rcases h.kind with ⟨rfl, rfl⟩ | ⟨hs, h0, _⟩
  · rw [h.val]; simp
  · have hp := h.pos h0
    rw [h.val]
    rcases hs with rfl | rfl
    · rw [Int.one_mul, Int.sign_eq_one_of_pos hp]
    · rw [Int.sign_eq_neg_one_of_neg (by omega)]
theorem Num.zero_iff {s : Int} {ds : List Int} {z : Int} (h : Num s ds z) : s = 0 ↔ z = 0 := by rw [h.sign]; exact Int.sign_eq_zero_iff_zero
theorem Num.neg {s : Int} {ds : List Int} {z : Int} (h : Num s ds z) : Num (-s) ds (-z) := by
  refine ⟨h.digs, by rw [h.val, Int.neg_mul], ?_⟩
  rcases h.kind with ⟨rfl, rfl⟩ | ⟨hs, h0⟩
  · exact .inl ⟨rfl, rfl⟩
  · exact .inr ⟨by omega, h0⟩
/-- No more digits than the number's size bears. -/
theorem Num.len {s : Int} {ds : List Int} {z : Int} {k : Nat} (h : Num s ds z) (hz : -(1000 ^ k : Int) < z ∧ z < 1000 ^ k) : ds.length ≤ k := by
  rcases h.kind with ⟨_, rfl⟩ | ⟨hs, h0, hl⟩
  · exact Nat.zero_le _
  · have h1 := valD_ge h.digs h0 hl
    have h2 : valD ds < 1000 ^ k := by
      have := h.val
      rcases hs with rfl | rfl <;> omega
    have h3 : (1000 : Int) ^ (ds.length - 1) < 1000 ^ k := by omega
    have h4 : (1000 : Nat) ^ (ds.length - 1) < 1000 ^ k := Int.ofNat_lt.1 (by rw [Int.natCast_pow, Int.natCast_pow]; exact h3)
    have := (Nat.pow_lt_pow_iff_right (by omega : 1 < 1000)).1 h4
    omega
/-- Block g has elements of type t. -/
def Ty (w : World) (g : Nat) (t : TypeId) : Prop := ∃ cs m, w.heap[g]? = some (.cells cs t m)
theorem Ty.below {w w' : World} {B g : Nat} {t : TypeId} (h : Ty w g t) (hb : Below B w w') (hg : g < B) : Ty w' g t := by
  obtain ⟨cs, m, h⟩ := h
  exact ⟨cs, m, (hb.block g hg).trans h⟩
theorem Ty.ne_ {w : World} {g g' : Nat} {t t' : TypeId} {cs : Array Value} (h : Ty w g t) (h' : Blk w g' t' cs) (hne : t ≠ t') : g ≠ g' := by
  rintro rfl
  obtain ⟨cs, m, h⟩ := h
  unfold Blk at h'
  rw [h] at h'
  injection h' with h'
  injection h' with _ ht
  exact hne ht
/-- A list of ints in memory, in a block of ints. -/
structure RI (w : World) (A : Option Addr) (ds : List Int) : Prop where
  r : Reads w w.heap.size 1 A ds.length (ints ds)
  t : ∀ ad, A = some ad → 0 < ds.length → Ty w ad.block 3
theorem RI.lt {w : World} {A : Option Addr} {ds : List Int} (h : RI w A ds) {ad : Addr} (e : A = some ad) (h0 : 0 < ds.length) : ad.block < w.heap.size := by
  obtain ⟨ad', e', hb, _⟩ := h.r.2 h0
  rw [e] at e'
  cases e'
  exact hb
theorem RI.below {w w' : World} {A : Option Addr} {ds : List Int} (h : RI w A ds) (hb : Below w.heap.size w w') : RI w' A ds :=
  ⟨reads_below h.r hb, fun ad e h0 => (h.t ad e h0).below hb (h.lt e h0)⟩
theorem RI.nil (w : World) (A : Option Addr) : RI w A [] := ⟨⟨rfl, fun h => by simp at h⟩, fun _ _ h => by simp at h⟩
theorem RI.alloc {w : World} {A : Option Addr} {ds : List Int} (h : RI w A ds) (o : Obj) : RI (w.alloc o) A ds := h.below ((Below.refl _ _).alloc (Nat.le_refl _) _)
theorem RI.of_own {w : World} {base : Nat} {A : Option Addr} {c : Nat} {ds : List Int} (h : w.ownsRow base 3 1 (.slice A ds.length c) ds.length (ints ds)) : RI w A ds := by
  refine ⟨Reads.of_own h, fun ad e h0 => ?_⟩
  rcases h.2 with ⟨_, h1⟩ | ⟨g, cap, cur, hv, _, hh, _⟩
  · omega
  · subst e
    have : ad = ⟨g, 0, none⟩ := by
      have := Value.slice.inj hv
      exact Option.some.inj this.1
    subst this
    exact ⟨_, _, hh⟩
/-- Such a number in memory. -/
def Ex (w : World) (v : Value) (z : Int) : Prop :=
  ∃ (s : Int) (A : Option Addr) (c : Nat) (ds : List Int), v = .agg #[.int .i64 s, .slice A ds.length c] ∧ RI w A ds ∧ Num s ds z
theorem Ex.below {w w' : World} {v : Value} {z : Int} (h : Ex w v z) (hb : Below w.heap.size w w') : Ex w' v z := by
  obtain ⟨s, A, c, ds, h1, h2, h3⟩ := h
  exact ⟨s, A, c, ds, h1, h2.below hb, h3⟩
theorem Ex.nil (w : World) : Ex w (.agg #[.int .i64 0, .slice none 0 0]) 0 := ⟨0, none, 0, [], rfl, RI.nil _ _, Num.zero⟩
theorem Ex.drewN {w : World} {v : Value} {z : Int} (h : Ex w v z) (n : Nat) : Ex (w.drewN n) v z := by
  obtain ⟨s, A, c, ds, h1, ⟨h2, h4⟩, h3⟩ := h
  exact ⟨s, A, c, ds, h1, ⟨h2, h4⟩, h3⟩
theorem Ex.drew {w : World} {v : Value} {z : Int} (h : Ex w v z) : Ex w.drew v z := by
  obtain ⟨s, A, c, ds, h1, ⟨h2, h4⟩, h3⟩ := h
  exact ⟨s, A, c, ds, h1, ⟨h2, h4⟩, h3⟩
end Go.Proofs.Ytophfbnajelknaa

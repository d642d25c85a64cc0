import Derived.Test.YtophfbnajelknaaO
/- Package allot: what its functions compute, as plain functions. -/
namespace Go.Proofs.Ytophfbnajelknaa

def allE (price : Int) (ws : List Int) : Int := if price < 0 then 1 else outE price ws
def allL (price : Int) (ws : List Int) : List Int := if price < 0 then [] else outL price ws
def leftE (t : Int) (l : List Int) : Int := if inI l.sum then fitE (t - l.sum) else 3
def leftV (t : Int) (l : List Int) : Int := if inI l.sum then fitV (t - l.sum) else 0
/-- Places that rise, from behind 'last' on, below a bound. -/
def okFrom (last most : Int) : List Int → Bool
  | [] => true
  | a :: l => decide (last < a) && decide (a < most) && okFrom a most l
def risesB (l : List Int) (most : Int) : Bool := okFrom (-1) most l && decide (0 < l.length)
theorem okFrom_drop {last most : Int} {xs : List Int} {k : Nat} (h : k < xs.length) : okFrom last most (xs.drop k) = (decide (last < xs.getD k 0) && decide (xs.getD k 0 < most) && okFrom (xs.getD k 0) most (xs.drop (k + 1))) := by
  rw [List.drop_eq_getElem_cons h, okFrom, List.getD_eq_getElem?_getD, List.getElem?_eq_getElem h]; rfl
/-- Each share, and what was done, together; or none, where one is no amount. -/
def addE (s d : List Int) : Int := if (List.range s.length).all (fun i => decide (inI (s.getD i 0 + d.getD i 0))) then 0 else 3
def addL (s d : List Int) : List Int := (List.range s.length).map fun i => s.getD i 0 + d.getD i 0
def againE (t : Int) (done alone : List Int) : Int :=
  if done.length ≠ alone.length then 1 else if leftE t done ≠ 0 then leftE t done else if outE (leftV t done) alone ≠ 0 then outE (leftV t done) alone else addE (outL (leftV t done) alone) done
def againL (t : Int) (done alone : List Int) : List Int := if againE t done alone ≠ 0 then [] else addL (outL (leftV t done) alone) done
/-- left, by the sum. -/
def leE (t s : Int) : Int := if inI s then fitE (t - s) else 3
def leV (t s : Int) : Int := if inI s then fitV (t - s) else 0
theorem leftE_sum (t : Int) (l : List Int) : leftE t l = leE t l.sum := rfl
theorem leftV_sum (t : Int) (l : List Int) : leftV t l = leV t l.sum := rfl
/-- Of which indexes is the sum? -/
def sumQ (q : Int → Bool) (f : Int → Int) : Nat → Int
  | 0 => 0
  | n + 1 => sumQ q f n + if q n then f n else 0
def cntQ (q : Int → Bool) : Nat → Nat
  | 0 => 0
  | n + 1 => cntQ q n + if q n then 1 else 0
theorem cntQ_le (q : Int → Bool) : ∀ n, cntQ q n ≤ n
  | 0 => Nat.le_refl _
  | n + 1 => by have := cntQ_le q n; unfold cntQ; split <;> omega
theorem sumQ_congr {q q' : Int → Bool} {f f' : Int → Int} : ∀ n : Nat, (∀ i : Nat, i < n → q i = q' i ∧ f i = f' i) → sumQ q f n = sumQ q' f' n
  | 0, _ => rfl
  | n + 1, h => by have e := h n (by omega); rw [sumQ, sumQ, sumQ_congr n (fun i hi => h i (by omega)), e.1, e.2]
theorem cntQ_congr {q q' : Int → Bool} : ∀ n : Nat, (∀ i : Nat, i < n → q i = q' i) → cntQ q n = cntQ q' n
  | 0, _ => rfl
  | n + 1, h => by rw [cntQ, cntQ, cntQ_congr n (fun i hi => h i (by omega)), h n (by omega)]
theorem sumQ_strike {q : Int → Bool} {f : Int → Int} {x : Int} : ∀ n : Nat, 0 ≤ x → x < n → q x = true → sumQ (fun i => q i && !(i == x)) f n + f x = sumQ q f n ∧ cntQ (fun i => q i && !(i == x)) n + 1 = cntQ q n
  | 0, h0, h1, _ => by omega
  | n + 1, h0, h1, hq => by
    by_cases e : x = n
    · subst e
      have hb : ∀ i : Nat, i < n → (q i && !((i : Int) == (n : Int))) = q i := by
        intro i hi
        have : ((i : Int) == (n : Int)) = false := by rw [beq_eq_false_iff_ne]; omega
        simp [this]
      have e1 : sumQ (fun i => q i && !(i == (n : Int))) f n = sumQ q f n := sumQ_congr n (fun i hi => ⟨hb i hi, rfl⟩)
      have e2 : cntQ (fun i => q i && !(i == (n : Int))) n = cntQ q n := cntQ_congr n hb
      simp only [sumQ, cntQ, e1, e2, hq]; simp
    · obtain ⟨i1, i2⟩ := sumQ_strike n h0 (by omega) hq
      have e3 : (((n : Nat) : Int) == x) = false := by rw [beq_eq_false_iff_ne]; omega
      have a1 : sumQ (fun i => q i && !(i == x)) f (n + 1) = sumQ (fun i => q i && !(i == x)) f n + if q n then f n else 0 := by rw [sumQ]; simp only [e3, Bool.not_false, Bool.and_true]
      have a2 : cntQ (fun i => q i && !(i == x)) (n + 1) = cntQ (fun i => q i && !(i == x)) n + if q n then 1 else 0 := by rw [cntQ]; simp only [e3, Bool.not_false, Bool.and_true]
      rw [a1, a2, sumQ, cntQ, ← i1, ← i2]
      constructor <;> omega
theorem sumQ_none {q : Int → Bool} {f : Int → Int} (h : ∀ i, q i = false) : ∀ n, sumQ q f n = 0 ∧ cntQ q n = 0
  | 0 => ⟨rfl, rfl⟩
  | n + 1 => by have := sumQ_none (f := f) h n; simp [sumQ, cntQ, this.1, this.2, h]
/-- Which are the others? -/
def otherB (whose : List Int) (n : Nat) (i : Int) : Bool := decide (0 ≤ i) && decide (i < n) && !whose.contains i
def othersSum (alone whose : List Int) : Int := sumQ (otherB whose alone.length) (fun i => alone.getD i.toNat 0) alone.length
def ofL (alone whose : List Int) : List Int := whose.map fun a => alone.getD a.toNat 0
def putTo (out whose sh : List Int) : Nat → List Int
  | 0 => out
  | i + 1 => (putTo out whose sh i).set (whose.getD i 0).toNat (sh.getD i 0)
theorem putTo_length (out whose sh : List Int) : ∀ i, (putTo out whose sh i).length = out.length
  | 0 => rfl
  | i + 1 => by rw [putTo, List.length_set, putTo_length out whose sh i]
def someBad (price : Int) (alone whose : List Int) : Bool := decide (price < 0) || (alone.any fun x => decide (x < 0)) || !risesB whose alone.length
def someE (price : Int) (alone whose : List Int) : Int :=
  if someBad price alone whose then 1
  else if leE price (othersSum alone whose) ≠ 0 then leE price (othersSum alone whose)
  else if leV price (othersSum alone whose) < 0 then 1
  else outE (leV price (othersSum alone whose)) (ofL alone whose)
def someL (price : Int) (alone whose : List Int) : List Int :=
  if someE price alone whose ≠ 0 then [] else putTo alone whose (outL (leV price (othersSum alone whose)) (ofL alone whose)) whose.length
theorem okFrom_mem {last most : Int} : ∀ {l : List Int}, okFrom last most l = true → ∀ x ∈ l, last < x ∧ x < most
  | [], _ => fun x hx => by simp at hx
  | a :: l, h => by
    simp only [okFrom, Bool.and_eq_true, decide_eq_true_eq] at h
    intro x hx
    rcases List.mem_cons.1 hx with rfl | hx
    · exact h.1
    · have := okFrom_mem h.2 x hx; omega
end Go.Proofs.Ytophfbnajelknaa

import Derived.Test.YtophfbnajelknaaMem
import Derived.Maps.RangeWalk
/- Words on a map from numbers to numbers. -/
namespace Go.Proofs.Ytophfbnajelknaa
open Go.RowKit Go.Maps

/-- D is a map whose keys are the i with p i, and whose element at each is f i. -/
structure MapI (D : DataW Unit) (p : Int → Bool) (f : Int → Int) : Prop where
  is_ : Maps.IsMap D
  has_ : ∀ i, Maps.has D (.int .i64 i) = p i
  at_ : ∀ i, p i = true → ∀ z, D.atKey (.int .i64 i) z = .lit (.int .i64 (f i))
theorem MapI.empty (f : Int → Int) : MapI (.map []) (fun _ => false) f := ⟨Maps.isMap_empty, fun _ => rfl, fun _ h => by cases h⟩
theorem lit_ne {i j : Int} (h : i ≠ j) : (Lit.int .i64 i) ≠ .int .i64 j := fun e => h (by injection e)
theorem MapI.put {D : DataW Unit} {p : Int → Bool} {f : Int → Int} (h : MapI D p f) (i : Int) : MapI (D.put (.int .i64 i) (.lit (.int .i64 (f i)))) (fun j => p j || j == i) f := by
  refine ⟨h.is_.put _ _, fun j => ?_, fun j hj z => ?_⟩
  · by_cases e : j = i
    · subst e; rw [Maps.has_put_same h.is_ (show WideAt.IsKeyLit (.int .i64 j) from trivial)]; simp
    · rw [Maps.has_put_other (lit_ne e), h.has_]; simp [e]
  · by_cases e : j = i
    · subst e; rw [Maps.atKey_put_same h.is_ (show WideAt.IsKeyLit (.int .i64 j) from trivial)]
    · rw [Maps.atKey_put_other (lit_ne e)]
      exact h.at_ j (by simpa [e] using hj) z
theorem MapI.del {D : DataW Unit} {p : Int → Bool} {f : Int → Int} (h : MapI D p f) (i : Int) : MapI (D.del (.int .i64 i)) (fun j => p j && !(j == i)) f := by
  refine ⟨h.is_.del _, fun j => ?_, fun j hj z => ?_⟩
  · by_cases e : j = i
    · subst e; rw [Maps.has_del_same]; simp
    · rw [Maps.has_del_other (lit_ne e), h.has_]; simp [e]
  · by_cases e : j = i
    · subst e; simp at hj
    · rw [Maps.atKey_del_other (lit_ne e)]
      exact h.at_ j (by simpa [e] using hj) z
theorem MapI.congr {D : DataW Unit} {p q : Int → Bool} {f : Int → Int} (h : MapI D p f) (e : ∀ i, p i = q i) : MapI D q f := ⟨h.is_, fun i => (h.has_ i).trans (e i), fun i hi => h.at_ i ((e i).trans hi)⟩
theorem sameKey_int (i j : Int) : (Lit.int .i64 i).sameKey (.int .i64 j) = (i == j) := by
  simp [Lit.sameKey]; rw [Bool.eq_iff_iff]; simp
end Go.Proofs.Ytophfbnajelknaa

import Derived.Test.YtophfbnajelknaaMapI
import Derived.Maps.OwnSet
/- Words on a map from numbers to truths. -/
namespace Go.Proofs.Ytophfbnajelknaa
open Go.RowKit Go.Maps

theorem plainElem_bool_inv {H : Type} {P : Program} {e : TypeId} (he : P.underlying e = some .bool) {v : Value} {z : DataW H × List MemPlace} (h : plainElem P e v = some z) : ∃ x, v = .bool x ∧ z = (.lit (.bool x), []) := by
  unfold plainElem at h
  rw [he] at h
  cases v <;> simp at h
  rename_i x
  exact ⟨x, rfl, h.symm⟩
/-- What D answers at i: p i. -/
structure MapB (D : DataW Unit) (p : Int → Bool) : Prop where
  is_ : Maps.IsMap D
  at_ : ∀ i, D.atKey (.int .i64 i) (.lit (.bool false)) = .lit (.bool (p i))
theorem MapB.empty : MapB (.map []) (fun _ => false) := ⟨Maps.isMap_empty, fun _ => rfl⟩
theorem MapB.put {D : DataW Unit} {p : Int → Bool} (h : MapB D p) (i : Int) : MapB (D.put (.int .i64 i) (.lit (.bool true))) (fun j => p j || j == i) := by
  refine ⟨h.is_.put _ _, fun j => ?_⟩
  by_cases e : j = i
  · subst e; rw [Maps.atKey_put_same h.is_ (show WideAt.IsKeyLit (.int .i64 j) from trivial)]; simp
  · rw [Maps.atKey_put_other (lit_ne e), h.at_]; simp [e]
theorem MapB.congr {D : DataW Unit} {p q : Int → Bool} (h : MapB D p) (e : ∀ i, p i = q i) : MapB D q := ⟨h.is_, fun i => by rw [h.at_, e]⟩

/-- A truth read from the call's own map, at the operation. -/
theorem wpList_lookup_own_bool {H : Type} {P : Program} (w : World) {ops : Array Oper} {rest : List Oper} {o : Oper} {a : Act} {Q : Exit → Act → World → Prop}
    (hg : o.guard = none) (m x : Operand) (t : TypeId) (hop : o.op = Op.lookup t m x false)
    (k e : TypeId) (K : Keyed P k) (ht : P.underlying t = some (.map k e)) (he : P.underlying e = some .bool) (hz : (zeroValue e).run P w = .ok (.bool false) w) (b n : Nat) (D : DataW H)
    (hm : a.eval m = .map (some b)) (hown : w.ownsMap P k (plainElem P e) b n D) (key : Value) (kl : Lit) (hx : a.eval x = key) (hkey : keyOf P k key = some kl)
    (hK : ∀ c : Bool, D.atKey kl (.lit (.bool false)) = .lit (.bool c) → wpList P ops Q rest (a.put o.dst (.bool c)) w) :
    wpList P ops Q (o :: rest) a w := by
  refine wpList_plain hg fun K' hK' => ?_
  obtain ⟨v, ps, hrun, hv⟩ := hown.lookup K ht hz (plainElem_bool he false) hkey
  obtain ⟨c, rfl, hc⟩ := plainElem_bool_inv he hv
  simp only [Prod.mk.injEq] at hc
  unfold Oper.wp
  simp [execOp, hop, hm, hx, hrun, Result.andThen]
  exact hK' _ _ (hK c hc.1)
end Go.Proofs.Ytophfbnajelknaa

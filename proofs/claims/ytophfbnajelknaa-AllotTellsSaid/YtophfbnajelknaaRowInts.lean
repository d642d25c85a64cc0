import Derived.Test.YtophfbnajelknaaMem
import Derived.WalkKit
import Derived.ProofKit
import Derived.OpenShut
import Derived.ChangeOld
import Derived.Below
import Derived.SizedLaws
import Derived.ChangeSlices
/- For the rows: an argument that is a slice of numbers, opened. -/
namespace Go.Proofs.Ytophfbnajelknaa
open Go.RowKit Go.ChangeShapes Go.WideShapes

theorem wf_in {x : Int} (h : (Lit.int .i64 x).wf = true) : inI x := by
  have := bounds_i64 h
  unfold inI lowI topI; omega
/-- A slice of numbers among the arguments: what it reads as, how long it may be. -/
theorem open_arg_ints {H : Type} {enc : TypeId × Value → H} {P : Program} {W : World} {t e : TypeId} {v : Value} {d : DataW H} {ps : List MemPlace} {ts : List TypeId} {ds : List (DataW H)} {j : Nat} {spare : Nat → Bool} {held : Bool} {base : Nat}
    (hsz : (DataW.weightsEach P ts ds).all (· ≤ reachBytes) = true) (ht : ts[j]? = some t) (hd : ds[j]? = some d) (hu : P.underlying t = some (.slice e)) (he : P.underlying e = some (.int .i64)) (hc : P.cellsOf e = 1) (hB : P.bytesOf e = 8)
    (hv : Value.okWide P W .any base t v) (h : DataW.Trod enc P W 0 spare held t v d ps) :
    ∃ (A : Option Addr) (cap : Nat) (xs : List Int), v = .slice A xs.length cap ∧ Reads W W.heap.size 1 A xs.length (ints xs) ∧ xs.length * 8 ≤ 140737488351232 ∧ ∀ x ∈ xs, inI x := by
  obtain ⟨a, len, cap, rfl⟩ := okWide_slice hu hv
  obtain ⟨fuel, hf⟩ := h
  rcases open_ints hu he hc hf with ⟨hcs, _⟩ | ⟨x, l, c, zs, hcs, _, hl, hm, hz, hx, hcell, hwz⟩
  · simp [Value.cells] at hcs
    obtain ⟨rfl, rfl, rfl⟩ := hcs
    exact ⟨none, 0, [], rfl, Reads.none_, by simp, fun x hx => by simp at hx⟩
  · simp [Value.cells] at hcs
    obtain ⟨rfl, rfl, rfl⟩ := hcs
    obtain ⟨hx, _⟩ := Prod.mk.inj hx
    subst hx
    have z := sized_slice hsz ht hd hu
    rw [hB] at z
    have hl2 : len ≤ zs.length := by
      rw [hz]
      split
      · exact hl
      · exact Nat.le_refl _
    have h1 : (lits (H := H) .i64 (zs.take len)).length + (lits (H := H) .i64 (zs.drop len)).length = zs.length := by
      simp [lits]
      omega
    rw [h1] at z
    have z' := Nat.le_trans (Nat.mul_le_mul_right _ hl2) z
    have hlen : (zs.take len).length = len := by rw [List.length_take]; omega
    refine ⟨some x, cap, zs.take len, by rw [hlen], ⟨by rw [ints_length, Nat.mul_one], fun hn => ⟨x, rfl, ?_, fun j u hu => ?_⟩⟩, by rw [hlen]; exact z', fun y hy => wf_in (hwz y (List.mem_of_mem_take hy))⟩
    · have := hcell 0 (by omega)
      have := World.block_lt_of_cell? W _ this
      rwa [block_of_add] at this
    · have hj : j < (zs.take len).length := by
        rcases Nat.lt_or_ge j (zs.take len).length with h | h
        · exact h
        · rw [List.getElem?_eq_none (by rw [ints_length]; exact h)] at hu; cases hu
      rw [ints_at hj] at hu
      cases hu
      rw [hcell j (by omega)]
      congr 2
      simp only [List.getD_eq_getElem?_getD]
      rw [List.getElem?_take, if_pos (by omega)]
end Go.Proofs.Ytophfbnajelknaa

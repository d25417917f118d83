/-
  Own text. A row of a slice of slices takes no more than the reach.
-/
import Derived.SizedLaws
namespace Go.Proofs.Ytgepnglmhalomaa
open Go
theorem weightsAll_mem {H : Type} {P : Program} {t : TypeId} : ∀ {ds : List (DataW H)} {i : Nat} {d : DataW H}, ds[i]? = some d → ∀ n ∈ d.weights P t, n ∈ DataW.weightsAll P t ds
  | d0 :: ds, 0, d, hd, n, hn => by
    simp only [List.getElem?_cons_zero, Option.some.injEq] at hd
    subst hd
    simp only [DataW.weightsAll, List.mem_append]
    exact Or.inl hn
  | d0 :: ds, i + 1, d, hd, n, hn => by
    simp only [List.getElem?_cons_succ] at hd
    simp only [DataW.weightsAll, List.mem_append]
    exact Or.inr (weightsAll_mem hd n hn)
  | [], _, _, hd, _, _ => by simp at hd
theorem sized_row {H : Type} {P : Program} {ts : List TypeId} {ds : List (DataW H)} (h : (DataW.weightsEach P ts ds).all (· ≤ reachBytes) = true) {j : Nat} {t e q : TypeId} {elems spare : List (DataW H)} (ht : ts[j]? = some t) (hd : ds[j]? = some (.slice elems spare)) (hu : P.underlying t = some (.slice e)) (hue : P.underlying e = some (.slice q))
    {i : Nat} {es sp : List (DataW H)} (hi : elems[i]? = some (.slice es sp)) : (es.length + sp.length) * P.bytesOf q ≤ reachBytes := by
  have hm : (es.length + sp.length) * P.bytesOf q ∈ DataW.weights P e (.slice es sp : DataW H) := by simp [DataW.weights, hue]
  have hm2 := weightsAll_mem (t := e) hi _ hm
  have := List.all_eq_true.1 h _ (DataW.weights_mem_each ht hd _ (by
    simp only [DataW.weights, hu, List.mem_cons, List.mem_append]
    exact .inr (.inl hm2)))
  simpa using this
end Go.Proofs.Ytgepnglmhalomaa

/-
  Own text. Two steps of a walk more: append within the capacity (in a region that draws its order), clear of a row's tail.
-/
import Derived.Test.YtgepnglmhalomaaWalkH
namespace Go.Proofs.Ytgepnglmhalomaa
open Go.RowKit

theorem step_append_fit {P : Program} {w : World} {ops : Array Oper} {o : Oper} {a : Act} {K : Act → World → Prop} {Q : Exit → Act → World → Prop} {E : Prop} (hgd : o.guard = none) (s x : Operand) (t : TypeId)
    (ho : o.op = .call { callee := .builtin .append, args := #[s, x], argTypes := #[t, t] })
    (e : TypeId) (i : TypeInfo) (size : Nat) (ht : P.underlying t = some (.slice e)) (hi : P.info? e = some i) (hsize : i.size = size)
    (g cap n : Nat) (xs : List Value) (hs : a.eval s = .slice (some ⟨g, 0, none⟩) n cap) (hown : Row w e size (some g) cap n xs)
    (ad : Addr) (m c N : Nat) (news : List Value) (hx : a.eval x = .slice (some ad) m c) (hl : news.length = m * size) (hnews : ∀ j u, news[j]? = some u → w.cell? (ad.add j) = some u) (h1 : ∀ u ∈ news, u.oneCell' = true)
    (hN : n + m = N) (hroom : N ≤ cap)
    (h : ∀ w', Hid (Row w' e size (some g) cap N (xs ++ news)) → Hid (Kept [g] w w') → K (a.put o.dst (.slice (some ⟨g, 0, none⟩) N cap)) w') :
    if Region.wanted o (yielded ops a.tmps) = true then Oper.wp P o a w K Q else E := by
  have hw : Region.wanted o (yielded ops a.tmps) = true := by simp [Region.wanted, hgd]
  rw [if_pos hw]
  subst hsize hN
  obtain ⟨cur, hg, hcs, htake⟩ := hown.2.2.2 g rfl
  have hlen : (xs ++ news).length = (n + m) * i.size := by rw [List.length_append, hown.1, hl, Nat.add_mul]
  have hfit : n * i.size + news.length ≤ cur.size := by rw [hl, ← Nat.add_mul]; exact Nat.le_trans (Nat.mul_le_mul_right _ hroom) hcs
  have hr := run_append_room (P := P) w t o.type e i ht hi g n cap cur hg ad m c news hl hnews h1 hroom hfit
  unfold Oper.wp execOp
  simp only [ho, resolve, invoke, builtin, Sem.run_bind, Sem.run_pure, Result.andThen_ok, List.map_toArray, List.map_cons, List.map_nil, hs, hx, hr]
  refine h _ ⟨hlen, hroom, (fun h => by cases h), fun g' hg' => ?_⟩ ⟨rfl, rfl, rfl, by simp, fun k _ hk => setRow_other w g k _ (fun e => hk (by simp [e]))⟩
  injection hg' with hg'
  subst hg'
  refine ⟨_, setRow_heap w g cur _ e _ hg, ?_, ?_⟩
  · simp only [List.size_toArray, List.length_append, List.length_take, List.length_drop, Array.length_toList]
    omega
  · rw [htake, ← hlen]
    exact List.take_left

theorem run_clear_row {P : Program} (w : World) (t e ty : TypeId) (z : Value) (size : Nat) (ht : P.underlying t = some (.slice e)) (hv : ∀ w, (zeroValue e).run P w = .ok z w) (hz : z.cells.size = size) (h1 : ∀ u ∈ z.cells.toList, u.oneCell' = true) (g o n c : Nat) (hn : 0 < n)
    (cur : Array Value) (hg : Blk w g e cur) (hfit : o + n * size ≤ cur.size) :
    ∃ cur', (Builtin.clear_ #[t] ty #[.slice (some ⟨g, o, none⟩) n c]).run P w = .ok (.tuple #[]) (w.setRow g cur') ∧ cur'.size = cur.size ∧ cur'.toList.take o = cur.toList.take o := by
  have h1' : ∀ u ∈ (Builtin.zeroCells z.cells n).toList, u.oneCell' = true := by
    intro u hu
    simp only [Builtin.zeroCells, Array.toList_map, List.mem_map] at hu
    obtain ⟨k, hk, rfl⟩ := hu
    have hk : k < n * z.cells.size := by simpa using hk
    have hzs : 0 < z.cells.size := by
      rcases Nat.eq_zero_or_pos z.cells.size with h | h
      · rw [h] at hk
        omega
      · exact h
    have hm := Nat.mod_lt k hzs
    rw [getElem!_pos z.cells _ hm]
    exact h1 _ (by simp)
  have hlen : (Builtin.zeroCells z.cells n).toList.length = n * size := by simp [Builtin.zeroCells, hz]
  have hst := run_storeCells_at P g o e (Builtin.zeroCells z.cells n).toList 0 cur w hg (by rw [hlen]; omega) h1'
  simp only [Nat.add_zero] at hst
  refine ⟨(cur.toList.take o ++ (Builtin.zeroCells z.cells n).toList ++ cur.toList.drop (o + (Builtin.zeroCells z.cells n).toList.length)).toArray, ?_, ?_, ?_⟩
  · obtain ⟨m, rfl⟩ : ∃ m, n = m + 1 := ⟨n - 1, by omega⟩
    simp only [Builtin.clear_]
    simp [run_underlying ht, hv, hst]
  · simp only [List.size_toArray, List.length_append, List.length_take, List.length_drop, Array.length_toList, hlen]
    omega
  · have hol : o ≤ cur.toList.length := by simp; omega
    simp only [List.append_assoc]
    rw [List.take_append_of_le_length (by rw [List.length_take]; omega), List.take_take, Nat.min_self]

theorem wpList_clear_row {P : Program} {w : World} {ops : Array Oper} {rest : List Oper} {o : Oper} {a : Act} {Q : Exit → Act → World → Prop} (hgd : o.guard = none) (x : Operand) (t : TypeId)
    (ho : o.op = .call { callee := .builtin .clear, args := #[x], argTypes := #[t] }) (e : TypeId) (z : Value) (size : Nat) (ht : P.underlying t = some (.slice e))
    (hv : ∀ w, (zeroValue e).run P w = .ok z w) (hz : z.cells.size = size) (h1 : ∀ u ∈ z.cells.toList, u.oneCell' = true) (g cap n m c : Nat) (hx : a.eval x = .slice (some ⟨g, n * size, none⟩) m c) (hm : 0 < m)
    (xs : List Value) (hown : Row w e size (some g) cap n xs) (hfit : n + m ≤ cap)
    (h : ∀ w', Hid (Row w' e size (some g) cap n xs) → Hid (Kept [g] w w') → wpList P ops Q rest (a.put o.dst (.tuple #[])) w') : wpList P ops Q (o :: rest) a w := by
  refine wpList_plain hgd fun _ hK => ?_
  obtain ⟨cur, hg, hcs, htake⟩ := hown.2.2.2 g rfl
  obtain ⟨cur', hr, hs', ht'⟩ := run_clear_row (P := P) w t e o.type z size ht hv hz h1 g (n * size) m c hm cur hg (by rw [← Nat.add_mul]; exact Nat.le_trans (Nat.mul_le_mul_right _ hfit) hcs)
  unfold Oper.wp execOp
  simp only [ho, resolve, invoke, builtin, Sem.run_bind, Sem.run_pure, Result.andThen_ok, List.map_toArray, List.map_cons, List.map_nil, hx, hr]
  refine hK _ _ (h _ ⟨hown.1, hown.2.1, hown.2.2.1, fun g' hg' => ?_⟩ ⟨rfl, rfl, rfl, by simp, fun k _ hk => setRow_other w g k _ (fun e => hk (by simp [e]))⟩)
  injection hg' with hg'
  subst hg'
  exact ⟨cur', setRow_heap w g cur _ e _ hg, by rw [hs']; exact hcs, by rw [ht', htake]⟩
end Go.Proofs.Ytgepnglmhalomaa

/-
  Own text. The steps of a walk for append onto a row (in a plain region, in a region that draws its order), the element types' rows of the table, make at bytes.
-/
import Derived.Test.YtgepnglmhalomaaNet
import Derived.Deep.RegionHeld3
import Derived.Deep.RegionLaw
namespace Go.Proofs.Ytgepnglmhalomaa
open Go.RowKit

theorem info32 : (Try.prog.info? 32).map (fun i => (i.zero, i.size, i.bytes)) = some (some (.agg #[.int .i64 0, .int .i64 0, .slice none 0 0]), 3, 40) := by kernel_rfl
theorem info5 : (Try.prog.info? 5).map (fun i => (i.zero, i.size, i.bytes)) = some (some (.int .u8 0), 1, 1) := by kernel_rfl
theorem size5 : (Try.prog.info? 5).map (·.size) = some 1 := by kernel_rfl

theorem step_append_row {P : Program} {w : World} {ops : Array Oper} {o : Oper} {a : Act} {K : Act → World → Prop} {Q : Exit → Act → World → Prop} {E : Prop} (hgd : o.guard = none) (s x : Operand) (t : TypeId)
    (ho : o.op = .call { callee := .builtin .append, args := #[s, x], argTypes := #[t, t] })
    (e : TypeId) (i : TypeInfo) (z : Value) (size bytes : Nat) (ht : P.underlying t = some (.slice e)) (hi : P.info? e = some i) (hz : i.zero = some z)
    (hsize : i.size = size) (hby : i.bytes = bytes) (hzs : z.cells.size = size) (hsz : 0 < size)
    (G : Option Nat) (cap n : Nat) (xs : List Value) (hs : a.eval s = sl G n cap) (hown : Row w e size G cap n xs)
    (A : Option Addr) (m c : Nat) (news : List Value) (hx : a.eval x = .slice A m c) (hl : news.length = m * size) (hnews : 0 < m → ∃ ad, A = some ad ∧ ∀ j u, news[j]? = some u → w.cell? (ad.add j) = some u) (h1 : ∀ u ∈ news, u.oneCell' = true)
    (hbytes : (n + m) * bytes ≤ 140737488355328) (hb0 : 0 < bytes)
    (h : ∀ G' cap' w', Hid (Row w' e size G' cap' (n + m) (xs ++ news)) → Hid (Kept G.toList w w') → Hid (G' = G ∨ G' = some w.heap.size) → K (a.put o.dst (.slice (G'.map fun g => ⟨g, 0, none⟩) (n + m) cap')) w') :
    if Region.wanted o (yielded ops a.tmps) = true then Oper.wp P o a w K Q else E := by
  have hw : Region.wanted o (yielded ops a.tmps) = true := by simp [Region.wanted, hgd]
  rw [if_pos hw]
  obtain ⟨G', cap', w', hrun, h2, h3, h4⟩ := run_append_row (P := P) w t o.type e i z size bytes ht hi hz hsize hby hzs hsz G cap n xs hown A m c news hl hnews h1 hbytes hb0
  unfold Oper.wp execOp
  simp only [ho, resolve, invoke, builtin, Sem.run_bind, Sem.run_pure, Result.andThen_ok, List.map_toArray, List.map_cons, List.map_nil, hs, hx, hrun]
  exact h G' cap' w' h2 h3 h4
theorem wpList_append_row {P : Program} {w : World} {ops : Array Oper} {rest : List Oper} {o : Oper} {a : Act} {Q : Exit → Act → World → Prop} (hgd : o.guard = none) (s x : Operand) (t : TypeId)
    (ho : o.op = .call { callee := .builtin .append, args := #[s, x], argTypes := #[t, t] })
    (e : TypeId) (i : TypeInfo) (z : Value) (size bytes : Nat) (ht : P.underlying t = some (.slice e)) (hi : P.info? e = some i) (hz : i.zero = some z)
    (hsize : i.size = size) (hby : i.bytes = bytes) (hzs : z.cells.size = size) (hsz : 0 < size)
    (G : Option Nat) (cap n : Nat) (xs : List Value) (hs : a.eval s = sl G n cap) (hown : Row w e size G cap n xs)
    (A : Option Addr) (m c : Nat) (news : List Value) (hx : a.eval x = .slice A m c) (hl : news.length = m * size) (hnews : 0 < m → ∃ ad, A = some ad ∧ ∀ j u, news[j]? = some u → w.cell? (ad.add j) = some u) (h1 : ∀ u ∈ news, u.oneCell' = true)
    (hbytes : (n + m) * bytes ≤ 140737488355328) (hb0 : 0 < bytes)
    (h : ∀ G' cap' w', Hid (Row w' e size G' cap' (n + m) (xs ++ news)) → Hid (Kept G.toList w w') → Hid (G' = G ∨ G' = some w.heap.size) → wpList P ops Q rest (a.put o.dst (.slice (G'.map fun g => ⟨g, 0, none⟩) (n + m) cap')) w') :
    wpList P ops Q (o :: rest) a w := by
  refine wpList_plain hgd fun _ hK => ?_
  obtain ⟨G', cap', w', hrun, h2, h3, h4⟩ := run_append_row (P := P) w t o.type e i z size bytes ht hi hz hsize hby hzs hsz G cap n xs hown A m c news hl hnews h1 hbytes hb0
  unfold Oper.wp execOp
  simp only [ho, resolve, invoke, builtin, Sem.run_bind, Sem.run_pure, Result.andThen_ok, List.map_toArray, List.map_cons, List.map_nil, hs, hx, hrun]
  exact hK _ _ (h G' cap' w' h2 h3 h4)
theorem news_blk {w : World} {g : Nat} {t : TypeId} {cs : Array Value} (h : Blk w g t cs) : ∀ j u, cs.toList[j]? = some u → w.cell? ((⟨g, 0, none⟩ : Addr).add j) = some u := fun j u hu => by
  rw [Addr.add_lit, Nat.zero_add, h.cell, ← Array.getElem?_toList]
  exact hu
theorem run_make_bytes (n : Nat) (hn : n ≤ 140737488355328) (w : World) :
    (Instr.makeSlice 30 (.int .i64 (n : Int)) (.int .i64 (n : Int))).run Try.prog w = .ok (.slice (some ⟨w.heap.size, 0, none⟩) n n) (w.alloc (.cells (List.replicate n (.int .u8 0)).toArray 5)) := by
  obtain ⟨i5, hi5, hz5, hs5, hb5⟩ := info_parts info5
  have hb : (i5.bytes : Int) * (n : Int) ≤ 281474976710656 := by rw [hb5]; omega
  have hr := run_make (P := Try.prog) w 30 5 i5 _ Try.underlying30 hi5 hz5 .i64 .i64 n n (by omega) (by omega) hb (by omega)
  simp only [Int.toNat_natCast, hs5, Nat.mul_one, Value.cells] at hr
  rw [hr, ← toList_madeCells_one, Array.toArray_toList]

/-- A row of bytes is an entry's bytes. -/
theorem row_bytes {w : World} {G : Option Nat} {c : Nat} {bs : List UInt8} (h : Row w 5 1 G c bs.length (bs.map bval)) : (∀ g, G = some g → ∃ rest, Blk w g 5 (bs.map bval ++ rest).toArray) ∧ (G = none → bs = []) := by
  refine ⟨fun g hg => ?_, fun hg => ?_⟩
  · obtain ⟨cur, hb, _, ht⟩ := h.2.2.2 g hg
    refine ⟨cur.toList.drop (bs.length * 1), ?_⟩
    rw [← ht, List.take_append_drop, Array.toArray_toList]
    exact hb
  · have h1 := h.2.2.1 hg
    have h2 := h.2.1
    exact List.eq_nil_of_length_eq_zero (by omega)

end Go.Proofs.Ytgepnglmhalomaa

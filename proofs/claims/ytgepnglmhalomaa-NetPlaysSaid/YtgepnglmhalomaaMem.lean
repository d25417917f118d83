/-
  Own text. Rows of structs that the call owns (with a capacity below the block's size, too), and what append, clear and a store do to them: over any program.
-/
import Derived.Test.YtgepnglmhalomaaBase
namespace Go.Proofs.Ytgepnglmhalomaa
open Go.RowKit

/-- Of what was there nothing but the blocks of F has turned. -/
structure Kept (F : List Nat) (w w' : World) : Prop where
  os : w'.os = w.os
  tape : w'.tape = w.tape
  output : w'.output = w.output
  size : w.heap.size ≤ w'.heap.size
  block : ∀ k, k < w.heap.size → k ∉ F → w'.heap[k]? = w.heap[k]?

theorem Kept.refl (F : List Nat) (w : World) : Kept F w w := ⟨rfl, rfl, rfl, Nat.le_refl _, fun _ _ _ => rfl⟩
theorem Kept.of_below {w w' : World} (h : Below w.heap.size w w') (F : List Nat) : Kept F w w' := ⟨h.os, h.tape, h.output, h.size, fun k hk _ => h.block k hk⟩
theorem Kept.mono {F F' : List Nat} {w w' : World} (h : Kept F w w') (hs : ∀ k ∈ F, k ∈ F' ∨ w.heap.size ≤ k) : Kept F' w w' :=
  ⟨h.os, h.tape, h.output, h.size, fun k hk hn => h.block k hk (fun hm => by rcases hs k hm with h1 | h1; exact hn h1; omega)⟩
theorem Kept.trans {F : List Nat} {a b c : World} (h : Kept F a b) (k : Kept F b c) : Kept F a c :=
  ⟨k.os.trans h.os, k.tape.trans h.tape, k.output.trans h.output, Nat.le_trans h.size k.size, fun i hi hn => (k.block i (Nat.lt_of_lt_of_le hi h.size) hn).trans (h.block i hi hn)⟩
theorem Kept.trans' {F F' : List Nat} {a b c : World} (h : Kept F a b) (k : Kept F' b c) (hs : ∀ i ∈ F', i ∈ F ∨ a.heap.size ≤ i) : Kept F a c :=
  ⟨k.os.trans h.os, k.tape.trans h.tape, k.output.trans h.output, Nat.le_trans h.size k.size, fun i hi hn => (k.block i (Nat.lt_of_lt_of_le hi h.size) (fun hm => by rcases hs i hm with h1 | h1; exact hn h1; omega)).trans (h.block i hi hn)⟩
theorem Kept.drewN {F : List Nat} {a w : World} (h : Kept F a w) (n : Nat) : Kept F a (w.drewN n) := ⟨h.os, h.tape, h.output, h.size, h.block⟩
theorem Kept.drew {F : List Nat} {a w : World} (h : Kept F a w) : Kept F a w.drew := ⟨h.os, h.tape, h.output, h.size, h.block⟩
theorem Kept.alloc {F : List Nat} {a w : World} (h : Kept F a w) (o : Obj) : Kept F a (w.alloc o) :=
  ⟨h.os, h.tape, h.output, Nat.le_trans h.size (by simp), fun i hi hn => (Below.heap_alloc w o i (Nat.lt_of_lt_of_le hi h.size)).trans (h.block i hi hn)⟩
theorem Kept.setCell {F : List Nat} {a w : World} (h : Kept F a w) {p : Addr} (hp : p.block ∈ F ∨ a.heap.size ≤ p.block) (u : Value) : Kept F a (w.setCell p u) :=
  ⟨h.os, h.tape, h.output, by simpa [World.setCell] using h.size, fun i hi hn => (Below.heap_setCell w p u i (by
    rintro rfl
    rcases hp with hp | hp
    · exact hn hp
    · omega)).trans (h.block i hi hn)⟩
theorem Kept.below {w w' : World} (h : Kept [] w w') : Below w.heap.size w w' := ⟨h.os, h.tape, h.output, h.size, fun k hk => h.block k hk (by simp)⟩
theorem Kept.belowOf {B : Nat} {F : List Nat} {w w' : World} (h : Kept F w w') (hF : ∀ k ∈ F, B ≤ k) (hB : B ≤ w.heap.size) : Below B w w' :=
  ⟨h.os, h.tape, h.output, h.size, fun k hk => h.block k (by omega) (fun hm => by have := hF k hm; omega)⟩
theorem Blk.kept {F : List Nat} {w w' : World} {g : Nat} {t : TypeId} {cs : Array Value} (h : Blk w g t cs) (hk : Kept F w w') (hg : g ∉ F) : Blk w' g t cs := (hk.block g h.lt hg).trans h
theorem Bts.kept {F : List Nat} {w w' : World} {A : Option Addr} {bs : List UInt8} (h : Bts w A bs) (hk : Kept F w w') (hF : ∀ ad, A = some ad → 0 < bs.length → ad.block ∉ F) : Bts w' A bs := fun hp => by
  obtain ⟨ad, rfl, hc⟩ := h hp
  have h0 : (bs.map bval)[0]? = some (bval (bs[0]'hp)) := by simp [List.getElem?_eq_getElem hp]
  have hl := block_lt_of_cell (hc 0 _ h0)
  rw [block_of_add] at hl
  exact ⟨ad, rfl, fun j u hj => (World.cell?_of_block (by rw [block_of_add]; exact hk.block _ hl (hF ad rfl hp))).trans (hc j u hj)⟩

/-- The slice value over block G. -/
def sl (G : Option Nat) (n c : Nat) : Value := .slice (G.map fun g => ⟨g, 0, none⟩) n c

/-- The slice 'sl G n c' is a row that is owned: its first n elements (size cells each) are xs. -/
def Row (w : World) (e : TypeId) (size : Nat) (G : Option Nat) (c n : Nat) (xs : List Value) : Prop :=
  xs.length = n * size ∧ n ≤ c ∧ (G = none → c = 0) ∧ ∀ g, G = some g → ∃ cur : Array Value, Blk w g e cur ∧ c * size ≤ cur.size ∧ cur.toList.take (n * size) = xs

section
variable {w w' : World} {e : TypeId} {size c n : Nat} {G : Option Nat} {xs : List Value}
theorem Row.cell {g : Nat} (h : Row w e size (some g) c n xs) (j : Nat) (hj : j < n * size) : w.cell? ⟨g, j, none⟩ = xs[j]? := by
  obtain ⟨cur, hb, hs, ht⟩ := h.2.2.2 _ rfl
  rw [hb.cell, ← ht, List.getElem?_take_of_lt hj, Array.getElem?_toList]
theorem Row.frozen {g : Nat} (h : Row w e size (some g) c n xs) (j : Nat) : w.frozen? ⟨g, j, none⟩ = false := by
  obtain ⟨cur, hb, _⟩ := h.2.2.2 _ rfl
  exact hb.frozen j
theorem Row.keep (h : Row w e size G c n xs) (hk : ∀ g, G = some g → w'.heap[g]? = w.heap[g]?) : Row w' e size G c n xs :=
  ⟨h.1, h.2.1, h.2.2.1, fun g hg => by
    obtain ⟨cur, hb, h2⟩ := h.2.2.2 g hg
    exact ⟨cur, (hk g hg).trans hb, h2⟩⟩
theorem Row.lt {g : Nat} (h : Row w e size (some g) c n xs) : g < w.heap.size := by
  obtain ⟨cur, hb, _⟩ := h.2.2.2 _ rfl
  exact hb.lt
theorem Row.kept {F : List Nat} (h : Row w e size G c n xs) (hk : Kept F w w') (hF : ∀ g, G = some g → g ∉ F) : Row w' e size G c n xs :=
  h.keep fun g hg => by subst hg; exact hk.block g h.lt (hF g rfl)
theorem Row.set_ {g : Nat} (h : Row w e size (some g) c n xs) (j : Nat) (u : Value) : Row (w.setCell ⟨g, j, none⟩ u) e size (some g) c n (xs.set j u) := by
  obtain ⟨cur, hb, hs, ht⟩ := h.2.2.2 _ rfl
  refine ⟨by simpa using h.1, h.2.1, h.2.2.1, fun g' hg => ?_⟩
  injection hg with hg
  subst hg
  refine ⟨_, hb.set_ j u, by simpa using hs, ?_⟩
  rw [Array.toList_setIfInBounds, ← ht, List.take_set]
theorem Row.some_of_pos (h : Row w e size G c n xs) (hn : 0 < n) : ∃ g, G = some g := by
  rcases G with _ | g
  · have := h.2.2.1 rfl; have := h.2.1; omega
  · exact ⟨g, rfl⟩
end

section
variable {P : Program} (w : World)

theorem run_append_row (t ty e : TypeId) (i : TypeInfo) (z : Value) (size bytes : Nat) (ht : P.underlying t = some (.slice e)) (hi : P.info? e = some i) (hz : i.zero = some z)
    (hsize : i.size = size) (hby : i.bytes = bytes) (hzs : z.cells.size = size) (_hsz : 0 < size)
    (G : Option Nat) (cap n : Nat) (xs : List Value) (hown : Row w e size G cap n xs)
    (A : Option Addr) (m c : Nat) (news : List Value) (hl : news.length = m * size) (hnews : 0 < m → ∃ a, A = some a ∧ ∀ j u, news[j]? = some u → w.cell? (a.add j) = some u) (h1 : ∀ u ∈ news, u.oneCell' = true)
    (hbytes : (n + m) * bytes ≤ 140737488355328) (hb0 : 0 < bytes) :
    ∃ G' cap' w', (Builtin.append_ #[t, t] ty #[sl G n cap, .slice A m c]).run P w = .ok (sl G' (n + m) cap') w' ∧ Row w' e size G' cap' (n + m) (xs ++ news) ∧ Kept G.toList w w' ∧
      (G' = G ∨ G' = some w.heap.size) := by
  subst hsize
  subst hby
  have h63 : n + m ≤ 140737488355328 := Nat.le_trans (Nat.le_mul_of_pos_right _ hb0) hbytes
  have hsmall : n + m ≤ 9223372036854775807 := by omega
  have hlen : (xs ++ news).length = (n + m) * i.size := by rw [List.length_append, hown.1, hl, Nat.add_mul]
  have grown : ∀ (old : Nat), old < n + m → ∀ F : List Nat,
      Row (w.drew.alloc (.cells (xs.toArray ++ news.toArray ++ Builtin.zeroCells z.cells (grownCap w (n + m) old e - (n + m))) e)) e i.size (some w.heap.size) (grownCap w (n + m) old e) (n + m) (xs ++ news) ∧
      Kept F w (w.drew.alloc (.cells (xs.toArray ++ news.toArray ++ Builtin.zeroCells z.cells (grownCap w (n + m) old e - (n + m))) e)) := by
    intro old ho F
    have hge := grownCap_ge w (n + m) old e
    refine ⟨⟨hlen, hge, (fun h => by cases h), fun g hg => ?_⟩, ((Kept.refl F w).drew).alloc _⟩
    injection hg with hg
    subst hg
    refine ⟨_, heap_alloc_new w.drew _, ?_, ?_⟩
    · simp only [Array.size_append, List.size_toArray, size_zeroCells, hzs, hown.1, hl, ← Nat.add_mul]
      exact Nat.mul_le_mul_right _ (by omega)
    · simp only [Array.toList_append, List.append_assoc]
      rw [← List.append_assoc, ← hlen]
      exact List.take_left
  rcases G with _ | g
  · have hc0 := hown.2.2.1 rfl
    subst hc0
    have hn0 : n = 0 := by have := hown.2.1; omega
    subst hn0
    have hx : xs = [] := List.eq_nil_of_length_eq_zero (by simpa using hown.1)
    subst hx
    by_cases hm : m = 0
    · subst hm
      have hn : news = [] := List.eq_nil_of_length_eq_zero (by simpa using hl)
      subst hn
      refine ⟨none, 0, w, ?_, hown, Kept.refl _ _, .inl rfl⟩
      rcases A with _ | a <;>
        simp [Builtin.append_, run_underlying ht, sizeOf, typeInfo, hi, Builtin.lenOf, Builtin.firstCells, loadCells, loadCellsFrom, sl]
    · obtain ⟨a, rfl, hnews'⟩ := hnews (by omega)
      have hr := run_append_nil (P := P) w t ty e i z ht hi hz a m c news hl hnews' (by omega) (by omega) (by have hb := hbytes; simp only [Nat.zero_add] at hb; omega)
      have hgr := grown 0 (by omega) (none : Option Nat).toList
      simp only [Nat.zero_add, List.nil_append, Array.empty_append] at hgr ⊢
      exact ⟨some w.heap.size, _, _, hr, hgr.1, hgr.2, .inr rfl⟩
  · obtain ⟨cur, hg, hcs, htake⟩ := hown.2.2.2 g rfl
    by_cases hm : m = 0
    · subst hm
      have hn : news = [] := List.eq_nil_of_length_eq_zero (by simpa using hl)
      subst hn
      refine ⟨some g, cap, w, ?_, by simpa using hown, Kept.refl _ _, .inl rfl⟩
      have hroom : n + 0 ≤ cap := hown.2.1
      have hroom' : n ≤ cap := hown.2.1
      rcases A with _ | a <;>
        simp [Builtin.append_, run_underlying ht, sizeOf, typeInfo, hi, Builtin.lenOf, Builtin.firstCells, loadCells, loadCellsFrom, sl, hroom', storeCells]
    · obtain ⟨a, rfl, hnews'⟩ := hnews (by omega)
      by_cases hroom : n + m ≤ cap
      · have hfit : n * i.size + news.length ≤ cur.size := by rw [hl, ← Nat.add_mul]; exact Nat.le_trans (Nat.mul_le_mul_right _ hroom) hcs
        have hr := run_append_room (P := P) w t ty e i ht hi g n cap cur hg a m c news hl hnews' h1 hroom hfit
        refine ⟨some g, cap, _, hr, ⟨hlen, hroom, (fun h => by cases h), fun g' hg' => ?_⟩, ⟨rfl, rfl, rfl, by simp, fun k _ hk => setRow_other w g k _ (fun e => hk (by simp [e]))⟩, .inl rfl⟩
        injection hg' with hg'
        subst hg'
        refine ⟨_, setRow_heap w g cur _ e _ hg, ?_, ?_⟩
        · simp only [List.size_toArray, List.length_append, List.length_take, List.length_drop, Array.length_toList]
          omega
        · rw [htake, ← hlen]
          exact List.take_left
      · have holds : ∀ j u, xs[j]? = some u → w.cell? ((⟨g, 0, none⟩ : Addr).add j) = some u := fun j u hj => by
          have hjl : j < n * i.size := by rw [← hown.1]; exact (List.getElem?_eq_some_iff.1 hj).1
          rw [Addr.add_lit, Nat.zero_add, hown.cell j hjl, hj]
        have hr := run_append_grow (P := P) w t ty e i z ht hi hz ⟨g, 0, none⟩ n cap xs hown.1 holds a m c news hl hnews' (by omega) (by omega) (growslice_fits (by omega) hbytes)
        have hgr := grown cap (by omega) (some g : Option Nat).toList
        exact ⟨some w.heap.size, _, _, hr, hgr.1, hgr.2, .inr rfl⟩

end
end Go.Proofs.Ytgepnglmhalomaa

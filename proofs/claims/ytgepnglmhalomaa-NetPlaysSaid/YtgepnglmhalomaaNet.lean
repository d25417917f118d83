/-
  Own text. A net in memory: a block with one slice, its row of parcels, a block of bytes for each parcel; and what it reads as: a list of parcels.
-/
import Derived.Test.YtgepnglmhalomaaMem
namespace Go.Proofs.Ytgepnglmhalomaa
open Go.RowKit

/-- A parcel as data. -/
structure Pk where
  f : Int
  t : Int
  b : List UInt8

/-- A parcel in a net's row: its bytes lie in block A. -/
structure Ent where
  f : Int
  t : Int
  b : List UInt8
  A : Option Nat
  c : Nat

def Ent.pk (e : Ent) : Pk := ⟨e.f, e.t, e.b⟩
def Ent.bs (e : Ent) : Value := sl e.A e.b.length e.c
def Ent.row (e : Ent) : List Value := [.int .i64 e.f, .int .i64 e.t, e.bs]
def rows (es : List Ent) : List Value := es.flatMap Ent.row

structure EntOk (w : World) (e : Ent) : Prop where
  blk : ∀ g, e.A = some g → ∃ rest, Blk w g 5 (e.b.map bval ++ rest).toArray
  nil : e.A = none → e.b = []
  len : e.b.length ≤ 140737488355328

theorem EntOk.keep {w w' : World} {e : Ent} (h : EntOk w e) (hk : ∀ g, e.A = some g → w'.heap[g]? = w.heap[g]?) : EntOk w' e :=
  ⟨fun g hg => by
    obtain ⟨rest, hb⟩ := h.blk g hg
    exact ⟨rest, (hk g hg).trans hb⟩, h.nil, h.len⟩
theorem EntOk.lt {w : World} {e : Ent} (h : EntOk w e) {g : Nat} (hg : e.A = some g) : g < w.heap.size := by
  obtain ⟨rest, hb⟩ := h.blk g hg
  exact hb.lt
theorem EntOk.bts {w : World} {e : Ent} (h : EntOk w e) : Bts w (e.A.map fun g => ⟨g, 0, none⟩) e.b := fun hp => by
  rcases hA : e.A with _ | g
  · rw [h.nil hA] at hp
    exact absurd hp (by simp)
  · obtain ⟨rest, hb⟩ := h.blk g hA
    refine ⟨_, rfl, fun j u hj => ?_⟩
    rw [Addr.add_lit, Nat.zero_add, hb.cell, List.getElem?_toArray, List.getElem?_append_left (List.getElem?_eq_some_iff.1 hj).1]
    exact hj

theorem rows_nil : rows [] = [] := rfl
theorem rows_cons (e : Ent) (es : List Ent) : rows (e :: es) = .int .i64 e.f :: .int .i64 e.t :: e.bs :: rows es := rfl
theorem rows_append (a b : List Ent) : rows (a ++ b) = rows a ++ rows b := List.flatMap_append
theorem length_rows (es : List Ent) : (rows es).length = es.length * 3 := by
  induction es with
  | nil => rfl
  | cons e es ih => rw [rows_cons]; simp only [List.length_cons, ih]; omega
theorem rows_get (es : List Ent) (i : Nat) (e : Ent) (h : es[i]? = some e) (j : Nat) (hj : j < 3) : (rows es)[i * 3 + j]? = e.row[j]? := by
  induction es generalizing i with
  | nil => simp at h
  | cons x es ih =>
    rcases i with _ | i
    · simp only [List.getElem?_cons_zero, Option.some.injEq] at h
      subst h
      rw [rows_cons, Nat.zero_mul, Nat.zero_add]
      match j, hj with
      | 0, _ => rfl
      | 1, _ => rfl
      | 2, _ => rfl
    · simp only [List.getElem?_cons_succ] at h
      rw [rows_cons, show (i + 1) * 3 + j = (i * 3 + j) + 1 + 1 + 1 from by omega]
      simp only [List.getElem?_cons_succ]
      exact ih i h
theorem take_rows (es : List Ent) (i : Nat) : (rows es).take (i * 3) = rows (es.take i) := by
  induction es generalizing i with
  | nil => simp [rows_nil]
  | cons x es ih =>
    rcases i with _ | i
    · simp [rows_nil]
    · rw [rows_cons, show (i + 1) * 3 = i * 3 + 1 + 1 + 1 from by omega]
      simp only [List.take_succ_cons, rows_cons, ih]
theorem drop_rows (es : List Ent) (i : Nat) : (rows es).drop (i * 3) = rows (es.drop i) := by
  induction es generalizing i with
  | nil => simp [rows_nil]
  | cons x es ih =>
    rcases i with _ | i
    · simp
    · rw [rows_cons, show (i + 1) * 3 = i * 3 + 1 + 1 + 1 from by omega]
      simp only [List.drop_succ_cons, ih]

/-- The blocks of a net. -/
def fp (bp : Nat) (G : Option Nat) (es : List Ent) : List Nat := bp :: (G.toList ++ es.filterMap Ent.A)

structure NetAt (w : World) (T bp : Nat) (es : List Ent) (G : Option Nat) (c : Nat) : Prop where
  hd : Blk w bp T #[sl G es.length c]
  row : Row w 32 3 G c es.length (rows es)
  ents : ∀ e ∈ es, EntOk w e
  nodup : (fp bp G es).Nodup

/-- The net at block bp reads as the list L; its blocks are F. -/
def Net (w : World) (T bp : Nat) (F : List Nat) (L : List Pk) : Prop := ∃ es G c, NetAt w T bp es G c ∧ F = fp bp G es ∧ es.map Ent.pk = L

section
variable {w w' : World} {T bp : Nat} {es : List Ent} {G : Option Nat} {c : Nat} {F : List Nat} {L : List Pk}

theorem mem_fp {k : Nat} : k ∈ fp bp G es ↔ k = bp ∨ G = some k ∨ ∃ e ∈ es, e.A = some k := by
  simp [fp, List.mem_filterMap]
theorem NetAt.lt (h : NetAt w T bp es G c) : ∀ k ∈ fp bp G es, k < w.heap.size := by
  intro k hk
  rcases mem_fp.1 hk with rfl | rfl | ⟨e, he, hA⟩
  · exact h.hd.lt
  · exact h.row.lt
  · exact (h.ents e he).lt hA
theorem NetAt.keep (h : NetAt w T bp es G c) (hk : ∀ k ∈ fp bp G es, w'.heap[k]? = w.heap[k]?) : NetAt w' T bp es G c :=
  ⟨(hk bp (mem_fp.2 (.inl rfl))).trans h.hd, h.row.keep fun g hg => hk g (mem_fp.2 (.inr (.inl hg))), fun e he => (h.ents e he).keep fun g hg => hk g (mem_fp.2 (.inr (.inr ⟨e, he, hg⟩))), h.nodup⟩
theorem NetAt.kept {F : List Nat} (h : NetAt w T bp es G c) (hk : Kept F w w') (hF : ∀ k ∈ fp bp G es, k ∉ F) : NetAt w' T bp es G c :=
  h.keep fun k hm => hk.block k (h.lt k hm) (hF k hm)
theorem NetAt.below (h : NetAt w T bp es G c) (hk : Below w.heap.size w w') : NetAt w' T bp es G c := h.keep fun k hm => hk.block k (h.lt k hm)

theorem Net.lt (h : Net w T bp F L) : ∀ k ∈ F, k < w.heap.size := by
  obtain ⟨es, G, c, hn, rfl, _⟩ := h
  exact hn.lt
theorem Net.keep (h : Net w T bp F L) (hk : ∀ k ∈ F, w'.heap[k]? = w.heap[k]?) : Net w' T bp F L := by
  obtain ⟨es, G, c, hn, rfl, hL⟩ := h
  exact ⟨es, G, c, hn.keep hk, rfl, hL⟩
theorem Net.kept {F' : List Nat} (h : Net w T bp F L) (hk : Kept F' w w') (hF : ∀ k ∈ F, k ∉ F') : Net w' T bp F L := h.keep fun k hm => hk.block k (h.lt k hm) (hF k hm)
theorem Net.below (h : Net w T bp F L) (hk : Below w.heap.size w w') : Net w' T bp F L := h.keep fun k hm => hk.block k (h.lt k hm)

/-- An element's three cells. -/
theorem NetAt.cells (h : NetAt w T bp es G c) {i : Nat} {e : Ent} (hi : es[i]? = some e) : ∃ g, G = some g ∧ w.cell? ⟨g, i * 3, none⟩ = some (.int .i64 e.f) ∧ w.cell? ⟨g, i * 3 + 1, none⟩ = some (.int .i64 e.t) ∧ w.cell? ⟨g, i * 3 + 2, none⟩ = some e.bs := by
  have hl : i < es.length := (List.getElem?_eq_some_iff.1 hi).1
  obtain ⟨g, rfl⟩ := h.row.some_of_pos (by omega)
  refine ⟨g, rfl, ?_, ?_, ?_⟩
  · rw [h.row.cell _ (by omega)]
    exact rows_get es i e hi 0 (by omega)
  · rw [h.row.cell _ (by omega)]
    exact rows_get es i e hi 1 (by omega)
  · rw [h.row.cell _ (by omega)]
    exact rows_get es i e hi 2 (by omega)
theorem NetAt.mem {i : Nat} {e : Ent} (h : NetAt w T bp es G c) (hi : es[i]? = some e) : EntOk w e := h.ents e (List.mem_of_getElem? hi)
theorem NetAt.len_cell (h : NetAt w T bp es G c) : w.cell? ⟨bp, 0, none⟩ = some (sl G es.length c) := by rw [h.hd.cell]; rfl

/-- A net that has nothing. -/
theorem NetAt.new (w : World) (T : Nat) : NetAt (w.alloc (.cells #[.slice none 0 0] T)) T w.heap.size [] none 0 :=
  ⟨Blk.new w T _, ⟨rfl, Nat.le_refl _, fun _ => rfl, fun g hg => by cases hg⟩, (fun e he => by cases he), by simp [fp]⟩
theorem Net.new (w : World) (T : Nat) : Net (w.alloc (.cells #[.slice none 0 0] T)) T w.heap.size [w.heap.size] [] := ⟨[], none, 0, NetAt.new w T, rfl, rfl⟩
theorem NetAt.nodup' (h : NetAt w T bp es G c) : G ≠ some bp ∧ (∀ e ∈ es, e.A ≠ some bp) ∧ (∀ e ∈ es, ∀ g, e.A = some g → G ≠ some g) ∧ (es.filterMap Ent.A).Nodup := by
  have hn := h.nodup
  unfold fp at hn
  rw [List.nodup_cons, List.nodup_append] at hn
  obtain ⟨h1, _, h3, h4⟩ := hn
  simp only [List.mem_append, Option.mem_toList, not_or, List.mem_filterMap, not_exists, not_and] at h1
  refine ⟨fun hG => h1.1 (by simp [hG]), fun e he => h1.2 e he, fun e he g hg hG => ?_, h3⟩
  exact h4 g (by simp [hG]) g (List.mem_filterMap.2 ⟨e, he, hg⟩) rfl

theorem nodup_fp (h1 : G ≠ some bp) (h2 : ∀ e ∈ es, e.A ≠ some bp) (h3 : ∀ e ∈ es, ∀ g, e.A = some g → G ≠ some g) (h4 : (es.filterMap Ent.A).Nodup) : (fp bp G es).Nodup := by
  unfold fp
  rw [List.nodup_cons, List.nodup_append]
  refine ⟨?_, ?_, h4, ?_⟩
  · simp only [List.mem_append, Option.mem_toList, not_or, List.mem_filterMap, not_exists, not_and]
    exact ⟨fun hG => h1 (by simpa using hG), fun e he => h2 e he⟩
  · rcases G with _ | g <;> simp
  · intro a ha b hb hab
    subst hab
    obtain ⟨e, he, hA⟩ := List.mem_filterMap.1 hb
    exact h3 e he a hA (by simpa using ha)

/-- A parcel has been sent: the row is longer, the slice in the net's block is the new one. -/
theorem NetAt.sent (h : NetAt w T bp es G c) (e : Ent) {G' : Option Nat} {c' : Nat} (hk : Kept G.toList w w') (hr : Row w' 32 3 G' c' (es.length + 1) (rows es ++ e.row)) (he : EntOk w' e)
    (hA : ∀ g, e.A = some g → w.heap.size ≤ g) (hG : ∀ g, G' = some g → G = some g ∨ (w.heap.size ≤ g ∧ e.A ≠ some g)) :
    NetAt (w'.setCell ⟨bp, 0, none⟩ (sl G' (es.length + 1) c')) T bp (es ++ [e]) G' c' := by
  obtain ⟨n1, n2, n3, n4⟩ := h.nodup'
  have hlt := h.lt
  have hbp : bp < w.heap.size := h.hd.lt
  have hG1 : G' ≠ some bp := fun hg => by
    rcases hG bp hg with h1 | h1
    · exact n1 h1
    · omega
  have hA1 : e.A ≠ some bp := fun hg => by have := hA bp hg; omega
  have hbG : bp ∉ G.toList := fun hm => n1 (by simpa using hm)
  refine ⟨?_, ?_, fun x hx => ?_, ?_⟩
  · have := (h.hd.kept hk hbG).set_ 0 (sl G' (es.length + 1) c')
    simpa using this
  · rw [rows_append, List.length_append]
    exact (show Row w' 32 3 G' c' (es.length + [e].length) (rows es ++ rows [e]) by simpa [rows] using hr).keep fun g hg => Below.heap_setCell _ _ _ _ (by rintro rfl; exact hG1 hg)
  · rcases List.mem_append.1 hx with hx | hx
    · refine ((h.ents x hx).keep (w' := w') fun g hg => ?_).keep fun g hg => Below.heap_setCell _ _ _ _ (by rintro rfl; exact n2 x hx hg)
      exact hk.block g ((h.ents x hx).lt hg) (fun hm => n3 x hx g hg (by simpa using hm))
    · simp only [List.mem_singleton] at hx
      subst hx
      exact he.keep fun g hg => Below.heap_setCell _ _ _ _ (by rintro rfl; exact hA1 hg)
  · refine nodup_fp hG1 (fun x hx => ?_) (fun x hx g hg hg' => ?_) ?_
    · rcases List.mem_append.1 hx with hx | hx
      · exact n2 x hx
      · simp only [List.mem_singleton] at hx
        subst hx
        exact hA1
    · rcases List.mem_append.1 hx with hx | hx
      · rcases hG g hg' with h1 | h1
        · exact n3 x hx g hg h1
        · have := (h.ents x hx).lt hg
          omega
      · simp only [List.mem_singleton] at hx
        subst hx
        rcases hG g hg' with h1 | h1
        · have := hlt g (mem_fp.2 (.inr (.inl h1)))
          have := hA g hg
          omega
        · exact h1.2 hg
    · rw [List.filterMap_append, List.nodup_append]
      refine ⟨n4, ?_, ?_⟩
      · rcases he' : e.A with _ | g <;> simp [he']
      · intro a ha b hb hab
        subst hab
        obtain ⟨x, hx, hxA⟩ := List.mem_filterMap.1 ha
        obtain ⟨y, hy, hyA⟩ := List.mem_filterMap.1 hb
        simp only [List.mem_singleton] at hy
        subst hy
        have := (h.ents x hx).lt hxA
        have := hA a hyA
        omega
end

end Go.Proofs.Ytgepnglmhalomaa

/-
  Own text. The walk over Swap. What becomes of a net when two parcels change places, when one parcel is put in the place of another.
-/
import Derived.Test.YtgepnglmhalomaaWalkD
import Derived.BigRegion
namespace Go.Proofs.Ytgepnglmhalomaa
open Go.RowKit

theorem rows_set (es : List Ent) (i : Nat) (e : Ent) : (((rows es).set (i * 3) (.int .i64 e.f)).set (i * 3 + 1) (.int .i64 e.t)).set (i * 3 + 2) e.bs = rows (es.set i e) := by
  by_cases hi : i < es.length
  · induction es generalizing i with
    | nil => simp at hi
    | cons x es ih =>
      rcases i with _ | i
      · simp [rows_cons]
      · have ih := ih i (by simpa using hi)
        rw [rows_cons, show (i + 1) * 3 = i * 3 + 1 + 1 + 1 from by omega, show i * 3 + 1 + 1 + 1 + 1 = (i * 3 + 1) + 1 + 1 + 1 from by omega, show i * 3 + 1 + 1 + 1 + 2 = (i * 3 + 2) + 1 + 1 + 1 from by omega]
        simp only [List.set_cons_succ, rows_cons, ih]
  · rw [List.set_eq_of_length_le (by simp only [List.length_set, length_rows]; omega), List.set_eq_of_length_le (by simp only [List.length_set, length_rows]; omega), List.set_eq_of_length_le (by simp only [length_rows]; omega), List.set_eq_of_length_le (by omega)]

/-- A parcel's three cells are written. -/
def put3 (w : World) (g i : Nat) (e : Ent) : World := ((w.setCell ⟨g, i * 3, none⟩ (.int .i64 e.f)).setCell ⟨g, i * 3 + 1, none⟩ (.int .i64 e.t)).setCell ⟨g, i * 3 + 2, none⟩ e.bs

section
variable {w w' : World} {T bp : Nat} {es : List Ent} {G : Option Nat} {c : Nat} {g i : Nat} {e : Ent}
theorem put3_row {n : Nat} (h : Row w 32 3 (some g) c n (rows es)) : Row (put3 w g i e) 32 3 (some g) c n (rows (es.set i e)) := by
  rw [← rows_set]
  exact ((h.set_ _ _).set_ _ _).set_ _ _
theorem put3_heap {k : Nat} (hk : k ≠ g) : (put3 w g i e).heap[k]? = w.heap[k]? := by
  unfold put3
  rw [Below.heap_setCell _ _ _ _ hk, Below.heap_setCell _ _ _ _ hk, Below.heap_setCell _ _ _ _ hk]
theorem put3_kept {F : List Nat} (hg : g ∈ F) : Kept F w (put3 w g i e) :=
  (((Kept.refl F w).setCell (p := ⟨g, i * 3, none⟩) (.inl hg) _).setCell (p := ⟨g, i * 3 + 1, none⟩) (.inl hg) _).setCell (p := ⟨g, i * 3 + 2, none⟩) (.inl hg) _

theorem mem_swapped {x y : Ent} {j : Nat} (hx : es[i]? = some x) (hy : es[j]? = some y) : ∀ z ∈ (es.set i y).set j x, z ∈ es := by
  intro z hz
  rcases List.mem_or_eq_of_mem_set hz with h | h
  · rcases List.mem_or_eq_of_mem_set h with h | h
    · exact h
    · exact h ▸ List.mem_of_getElem? hy
  · exact h ▸ List.mem_of_getElem? hx

theorem perm_swapped {x y : Ent} {j : Nat} (hx : es[i]? = some x) (hy : es[j]? = some y) : ((es.set i y).set j x).Perm es := by
  obtain ⟨h1, h2⟩ := List.getElem?_eq_some_iff.1 hx
  obtain ⟨h3, h4⟩ := List.getElem?_eq_some_iff.1 hy
  subst h2
  subst h4
  exact List.set_set_perm h1 h3

/-- Two parcels have changed places. -/
theorem NetAt.swapped (h : NetAt w T bp es (some g) c) {x y : Ent} {j : Nat} (hx : es[i]? = some x) (hy : es[j]? = some y) : NetAt (put3 (put3 w g i y) g j x) T bp ((es.set i y).set j x) (some g) c := by
  obtain ⟨n1, n2, n3, n4⟩ := h.nodup'
  have hgb : bp ≠ g := fun e => n1 (by rw [e])
  have hp : (((es.set i y).set j x).filterMap Ent.A).Perm (es.filterMap Ent.A) := (perm_swapped hx hy).filterMap _
  refine ⟨?_, ?_, fun z hz => ?_, ?_⟩
  · have h1 : (put3 (put3 w g i y) g j x).heap[bp]? = w.heap[bp]? := (put3_heap hgb).trans (put3_heap hgb)
    simp only [List.length_set]
    exact h1.trans h.hd
  · simpa using put3_row (put3_row h.row)
  · have hz' := mem_swapped hx hy z hz
    refine (h.ents z hz').keep fun k hk => ?_
    have hkg : k ≠ g := fun e => n3 z hz' k hk (by rw [e])
    exact (put3_heap hkg).trans (put3_heap hkg)
  · exact nodup_fp n1 (fun z hz => n2 z (mem_swapped hx hy z hz)) (fun z hz => n3 z (mem_swapped hx hy z hz)) (hp.nodup_iff.2 n4)
end
section
variable {w : World} {bp : Nat} {es : List Ent} {G : Option Nat} {c : Nat}
set_option maxHeartbeats 1000000 in
theorem swap_other (h : NetAt w 53 bp es G c) (i j : Nat) (hij : i ≠ j) (x y : Ent) (hx : es[i]? = some x) (hy : es[j]? = some y) :
    Calls Try.prog 17 #[.pointer (some ⟨bp, 0, none⟩), .int .i64 i, .int .i64 j] w fun e w' => e = .returned (.bool true) ∧ ∃ g, G = some g ∧ w' = (put3 (put3 w g i y) g j x).drew := by
  have hi : i < es.length := (List.getElem?_eq_some_iff.1 hx).1
  have hj : j < es.length := (List.getElem?_eq_some_iff.1 hy).1
  have h0 := h.len_cell
  obtain ⟨g, hg, c0, c1, c2⟩ := h.cells hx
  obtain ⟨g', hg', d0, d1, d2⟩ := h.cells hy
  subst hg
  injection hg' with hg'
  subst hg'
  have hf := h.row.frozen
  unfold sl at h0
  simp only [Option.map_some] at h0
  unfold Ent.bs sl at c2 d2
  have HH := Lib.hid h
  have hgb : bp ≠ g := fun e => h.nodup'.1 (by rw [e])
  have i0 : (0 : Int) ≤ (i : Int) := by omega
  have i1 : (i : Int) < (es.length : Int) := by omega
  have j0 : (0 : Int) ≤ (j : Int) := by omega
  have j1 : (j : Int) < (es.length : Int) := by omega
  have n0 : i * 3 ≠ j * 3 := by omega
  have n1 : i * 3 + 1 ≠ j * 3 := by omega
  have n2 : i * 3 + 2 ≠ j * 3 := by omega
  have n3 : i * 3 ≠ j * 3 + 1 := by omega
  have n4 : i * 3 + 2 ≠ j * 3 + 1 := by omega
  have n5 : i * 3 ≠ j * 3 + 2 := by omega
  have n6 : i * 3 + 1 ≠ j * 3 + 2 := by omega
  clear h hx hy hi hj
  go_enter Try.func17, Try.ntmps17
  go_wp2_with (first
    | (go_at_call 25; refine (has_yes HH.out _ (by omega)).mono ?_; rintro e w' ⟨rfl, rfl⟩))
  go_region
  go_wp2
  go_ret
  exact ⟨rfl, g, rfl, rfl⟩
set_option maxHeartbeats 1000000 in
theorem swap_same (h : NetAt w 53 bp es G c) (i : Nat) (x : Ent) (hx : es[i]? = some x) :
    Calls Try.prog 17 #[.pointer (some ⟨bp, 0, none⟩), .int .i64 i, .int .i64 i] w fun e w' => e = .returned (.bool true) ∧ ∃ g, G = some g ∧ w' = (put3 (put3 w g i x) g i x).drew := by
  have hi : i < es.length := (List.getElem?_eq_some_iff.1 hx).1
  have h0 := h.len_cell
  obtain ⟨g, hg, c0, c1, c2⟩ := h.cells hx
  subst hg
  have hf := h.row.frozen
  unfold sl at h0
  simp only [Option.map_some] at h0
  unfold Ent.bs sl at c2
  have HH := Lib.hid h
  have hgb : bp ≠ g := fun e => h.nodup'.1 (by rw [e])
  have i0 : (0 : Int) ≤ (i : Int) := by omega
  have i1 : (i : Int) < (es.length : Int) := by omega
  clear h hx hi
  go_enter Try.func17, Try.ntmps17
  go_wp2_with (first
    | (go_at_call 25; refine (has_yes HH.out _ (by omega)).mono ?_; rintro e w' ⟨rfl, rfl⟩))
  go_region
  go_wp2
  go_ret
  refine ⟨rfl, g, rfl, ?_⟩
  rfl
/-- Two that are there change places. -/
theorem swap_yes (h : NetAt w 53 bp es G c) (i j : Nat) (x y : Ent) (hx : es[i]? = some x) (hy : es[j]? = some y) :
    Calls Try.prog 17 #[.pointer (some ⟨bp, 0, none⟩), .int .i64 i, .int .i64 j] w fun e w' => e = .returned (.bool true) ∧ ∃ g, G = some g ∧ w' = (put3 (put3 w g i y) g j x).drew := by
  by_cases hij : i = j
  · subst hij
    rw [hx] at hy
    injection hy with hy
    subst hy
    exact swap_same h i x hx
  · exact swap_other h i j hij x y hx hy
set_option maxHeartbeats 400000 in
theorem swap_no (h : NetAt w 53 bp es G c) (i j : Int) (hi : (i < 0 ∨ (es.length : Int) ≤ i) ∨ (j < 0 ∨ (es.length : Int) ≤ j)) :
    Calls Try.prog 17 #[.pointer (some ⟨bp, 0, none⟩), .int .i64 i, .int .i64 j] w fun e w' => e = .returned (.bool false) ∧ w = w' := by
  have HH := Lib.hid h
  by_cases hni : i < 0 ∨ (es.length : Int) ≤ i
  · have HI := Lib.hid hni
    clear h hi hni
    go_enter Try.func17, Try.ntmps17
    go_wp2_with (first
      | (go_at_call 25; refine (has_no HH.out i HI.out).mono ?_; rintro e w' ⟨rfl, rfl⟩))
    go_ret
    exact ⟨rfl, rfl⟩
  · have hnj : j < 0 ∨ (es.length : Int) ≤ j := hi.resolve_left hni
    obtain ⟨k, rfl⟩ : ∃ k : Nat, i = k := ⟨i.toNat, by omega⟩
    have hk : k < es.length := by omega
    have HJ := Lib.hid hnj
    clear h hi hni hnj
    go_enter Try.func17, Try.ntmps17
    go_wp2_with fail
    refine (has_yes HH.out _ hk).mono ?_
    rintro e w' ⟨rfl, rfl⟩
    go_wp2_with fail
    refine (has_no HH.out _ HJ.out).mono ?_
    rintro e w' ⟨rfl, rfl⟩
    go_wp2_with fail
    go_ret
    exact ⟨rfl, rfl⟩
end
end Go.Proofs.Ytgepnglmhalomaa

/-
  Own text. The walk over the reference's Swap.
-/
import Derived.Test.YtgepnglmhalomaaWalkE
namespace Go.Proofs.Ytgepnglmhalomaa
open Go.RowKit
section
variable {w : World} {bp : Nat} {es : List Ent} {G : Option Nat} {c : Nat}
set_option maxHeartbeats 1000000 in
theorem rswap_other (h : NetAt w 29 bp es G c) (i j : Nat) (hij : i ≠ j) (x y : Ent) (hx : es[i]? = some x) (hy : es[j]? = some y) :
    Calls Try.prog 18 #[.pointer (some ⟨bp, 0, none⟩), .int .i64 i, .int .i64 j] w fun e w' => e = .returned (.bool true) ∧ ∃ g, G = some g ∧ w' = (put3 (put3 w g i y) g j x).drew := by
  have hi : i < es.length := (List.getElem?_eq_some_iff.1 hx).1
  have hj : j < es.length := (List.getElem?_eq_some_iff.1 hy).1
  have h0 := h.len_cell
  obtain ⟨g, hg, c0, c1, c2⟩ := h.cells hx
  obtain ⟨g', hg', d0, d1, d2⟩ := h.cells hy
  subst hg
  injection hg' with hg'
  subst hg'
  have hf := h.row.frozen
  unfold sl at h0
  simp only [Option.map_some] at h0
  unfold Ent.bs sl at c2 d2
  have HH := Lib.hid h
  have hgb : bp ≠ g := fun e => h.nodup'.1 (by rw [e])
  have i0 : (0 : Int) ≤ (i : Int) := by omega
  have i1 : (i : Int) < (es.length : Int) := by omega
  have j0 : (0 : Int) ≤ (j : Int) := by omega
  have j1 : (j : Int) < (es.length : Int) := by omega
  have n0 : i * 3 ≠ j * 3 := by omega
  have n1 : i * 3 + 1 ≠ j * 3 := by omega
  have n2 : i * 3 + 2 ≠ j * 3 := by omega
  have n3 : i * 3 ≠ j * 3 + 1 := by omega
  have n4 : i * 3 + 2 ≠ j * 3 + 1 := by omega
  have n5 : i * 3 ≠ j * 3 + 2 := by omega
  have n6 : i * 3 + 1 ≠ j * 3 + 2 := by omega
  clear h hx hy hi hj
  go_enter Try.func18, Try.ntmps18
  go_wp2_with (first
    | (go_at_call 26; refine (rhas_yes HH.out _ (by omega)).mono ?_; rintro e w' ⟨rfl, rfl⟩))
  go_region
  go_wp2
  go_ret
  exact ⟨rfl, g, rfl, rfl⟩
set_option maxHeartbeats 1000000 in
theorem rswap_same (h : NetAt w 29 bp es G c) (i : Nat) (x : Ent) (hx : es[i]? = some x) :
    Calls Try.prog 18 #[.pointer (some ⟨bp, 0, none⟩), .int .i64 i, .int .i64 i] w fun e w' => e = .returned (.bool true) ∧ ∃ g, G = some g ∧ w' = (put3 (put3 w g i x) g i x).drew := by
  have hi : i < es.length := (List.getElem?_eq_some_iff.1 hx).1
  have h0 := h.len_cell
  obtain ⟨g, hg, c0, c1, c2⟩ := h.cells hx
  subst hg
  have hf := h.row.frozen
  unfold sl at h0
  simp only [Option.map_some] at h0
  unfold Ent.bs sl at c2
  have HH := Lib.hid h
  have hgb : bp ≠ g := fun e => h.nodup'.1 (by rw [e])
  have i0 : (0 : Int) ≤ (i : Int) := by omega
  have i1 : (i : Int) < (es.length : Int) := by omega
  clear h hx hi
  go_enter Try.func18, Try.ntmps18
  go_wp2_with (first
    | (go_at_call 26; refine (rhas_yes HH.out _ (by omega)).mono ?_; rintro e w' ⟨rfl, rfl⟩))
  go_region
  go_wp2
  go_ret
  refine ⟨rfl, g, rfl, ?_⟩
  rfl
/-- Two that are there change places. -/
theorem rswap_yes (h : NetAt w 29 bp es G c) (i j : Nat) (x y : Ent) (hx : es[i]? = some x) (hy : es[j]? = some y) :
    Calls Try.prog 18 #[.pointer (some ⟨bp, 0, none⟩), .int .i64 i, .int .i64 j] w fun e w' => e = .returned (.bool true) ∧ ∃ g, G = some g ∧ w' = (put3 (put3 w g i y) g j x).drew := by
  by_cases hij : i = j
  · subst hij
    rw [hx] at hy
    injection hy with hy
    subst hy
    exact rswap_same h i x hx
  · exact rswap_other h i j hij x y hx hy
set_option maxHeartbeats 400000 in
theorem rswap_no (h : NetAt w 29 bp es G c) (i j : Int) (hi : (i < 0 ∨ (es.length : Int) ≤ i) ∨ (j < 0 ∨ (es.length : Int) ≤ j)) :
    Calls Try.prog 18 #[.pointer (some ⟨bp, 0, none⟩), .int .i64 i, .int .i64 j] w fun e w' => e = .returned (.bool false) ∧ w = w' := by
  have HH := Lib.hid h
  by_cases hni : i < 0 ∨ (es.length : Int) ≤ i
  · have HI := Lib.hid hni
    clear h hi hni
    go_enter Try.func18, Try.ntmps18
    go_wp2_with (first
      | (go_at_call 26; refine (rhas_no HH.out i HI.out).mono ?_; rintro e w' ⟨rfl, rfl⟩))
    go_ret
    exact ⟨rfl, rfl⟩
  · have hnj : j < 0 ∨ (es.length : Int) ≤ j := hi.resolve_left hni
    obtain ⟨k, rfl⟩ : ∃ k : Nat, i = k := ⟨i.toNat, by omega⟩
    have hk : k < es.length := by omega
    have HJ := Lib.hid hnj
    clear h hi hni hnj
    go_enter Try.func18, Try.ntmps18
    go_wp2_with fail
    refine (rhas_yes HH.out _ hk).mono ?_
    rintro e w' ⟨rfl, rfl⟩
    go_wp2_with fail
    refine (rhas_no HH.out _ HJ.out).mono ?_
    rintro e w' ⟨rfl, rfl⟩
    go_wp2_with fail
    go_ret
    exact ⟨rfl, rfl⟩
end
end Go.Proofs.Ytgepnglmhalomaa

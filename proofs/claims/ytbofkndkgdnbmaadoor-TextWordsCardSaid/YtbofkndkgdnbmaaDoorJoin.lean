/-
  Own text. Plain Lean: the words of a list of runes, with blanks between, are the same words.
-/
import Derived.Test.YtbofkndkgdnbmaaDoorLawRunes
namespace Go.Proofs.YtbofkndkgdnbmaaDoor
open Go.RowKit

/-- The words, a blank ahead of each. -/
def joinW (ws : List (List Nat)) : List Nat := ws.flatMap fun x => 32 :: x
/-- Words: not empty, letters alone. -/
def Wds (ws : List (List Nat)) : Prop := ∀ x ∈ ws, x ≠ [] ∧ ∀ r ∈ x, letterN r = true

theorem joinW_snoc (ws : List (List Nat)) (x : List Nat) : joinW (ws ++ [x]) = joinW ws ++ 32 :: x := by
  unfold joinW
  rw [List.flatMap_append]
  simp
theorem runW_letters (x : List Nat) : ∀ a : List Nat × List (List Nat), (∀ r ∈ x, letterN r = true) → runW a x = (a.1 ++ x, a.2) := by
  induction x with
  | nil => intro a _; simp [runW]
  | cons r x ih =>
    intro a h
    have hs : stepW a r = (a.1 ++ [r], a.2) := by unfold stepW; rw [if_pos (h r (by simp))]
    rw [runW_cons, hs, ih _ fun r hr => h r (by simp [hr])]
    simp
theorem runW_join : ∀ (ws : List (List Nat)) (a : List Nat × List (List Nat)), Wds ws → finW (runW a (joinW ws)) = finW a ++ ws := by
  intro ws
  induction ws with
  | nil => intro a _; simp [joinW, runW]
  | cons x ws ih =>
    intro a h
    have hx := h x (by simp)
    have hj : joinW (x :: ws) = 32 :: (x ++ joinW ws) := by simp [joinW]
    have h32 : stepW a 32 = ([], finW a) := by unfold stepW; rw [if_neg (by decide)]; rfl
    rw [hj, runW_cons, h32, runW_append, runW_letters x _ hx.2, ih _ fun y hy => h y (by simp [hy])]
    simp [finW, hx.1]
theorem words_join {ws : List (List Nat)} (h : Wds ws) : wordsR (joinW ws) = ws := by
  unfold wordsR
  rw [runW_join ws _ h]
  simp [finW]

/-- What holds of the words while they are read. -/
theorem runW_wds (P : Nat → Prop) (rs : List Nat) : ∀ a : List Nat × List (List Nat), (∀ r ∈ rs, P r) → (∀ r ∈ a.1, letterN r = true ∧ P r) → (∀ x ∈ a.2, x ≠ [] ∧ ∀ r ∈ x, letterN r = true ∧ P r) →
    ∀ x ∈ finW (runW a rs), x ≠ [] ∧ ∀ r ∈ x, letterN r = true ∧ P r := by
  have fin : ∀ a : List Nat × List (List Nat), (∀ r ∈ a.1, letterN r = true ∧ P r) → (∀ x ∈ a.2, x ≠ [] ∧ ∀ r ∈ x, letterN r = true ∧ P r) → ∀ x ∈ finW a, x ≠ [] ∧ ∀ r ∈ x, letterN r = true ∧ P r := by
    intro a h1 h2 x hx
    unfold finW at hx
    by_cases h : a.1 = []
    · rw [if_pos h] at hx
      exact h2 x hx
    · rw [if_neg h] at hx
      rcases List.mem_append.1 hx with hx | hx
      · exact h2 x hx
      · rw [List.mem_singleton] at hx
        subst hx
        exact ⟨h, h1⟩
  induction rs with
  | nil => exact fun a _ h1 h2 => fin a h1 h2
  | cons r rs ih =>
    intro a hP h1 h2
    rw [runW_cons]
    refine ih _ (fun x hx => hP x (by simp [hx])) ?_ ?_
    · unfold stepW
      by_cases hl : letterN r = true
      · rw [if_pos hl]
        intro x hx
        rcases List.mem_append.1 hx with hx | hx
        · exact h1 x hx
        · rw [List.mem_singleton] at hx
          subst hx
          exact ⟨hl, hP _ (by simp)⟩
      · rw [if_neg hl]
        intro x hx
        cases hx
    · unfold stepW
      by_cases hl : letterN r = true
      · rw [if_pos hl]
        exact h2
      · rw [if_neg hl]
        exact fin a h1 h2
theorem words_wds (P : Nat → Prop) (rs : List Nat) (h : ∀ r ∈ rs, P r) : ∀ x ∈ wordsR rs, x ≠ [] ∧ ∀ r ∈ x, letterN r = true ∧ P r :=
  runW_wds P rs ([], []) h (fun r hr => by cases hr) (fun x hx => by cases hx)

/-- How many runes the words have together. -/
theorem sum_words (rs : List Nat) : ∀ a : List Nat × List (List Nat), ((finW (runW a rs)).map List.length).sum ≤ a.1.length + (a.2.map List.length).sum + rs.length := by
  have fin : ∀ a : List Nat × List (List Nat), ((finW a).map List.length).sum ≤ a.1.length + (a.2.map List.length).sum := by
    intro a
    unfold finW
    by_cases h : a.1 = []
    · rw [if_pos h]
      omega
    · rw [if_neg h, List.map_append, List.sum_append]
      simp
      omega
  induction rs with
  | nil => exact fun a => by simpa [runW] using fin a
  | cons r rs ih =>
    intro a
    rw [runW_cons, List.length_cons]
    refine Nat.le_trans (ih _) ?_
    unfold stepW
    by_cases hl : letterN r = true
    · rw [if_pos hl]
      simp
      omega
    · rw [if_neg hl]
      have h := fin a
      unfold finW at h
      simp only [List.length_nil]
      omega
theorem join_len (ws : List (List Nat)) : (joinW ws).length = ws.length + (ws.map List.length).sum := by
  induction ws with
  | nil => rfl
  | cons x ws ih =>
    have hj : joinW (x :: ws) = 32 :: (x ++ joinW ws) := by simp [joinW]
    rw [hj, List.length_cons, List.length_append, ih]
    simp
    omega
theorem join_words_len (rs : List Nat) : (joinW (wordsR rs)).length ≤ 2 * rs.length := by
  have h1 := sum_words rs ([], [])
  have h2 := words_len rs
  rw [join_len]
  unfold wordsR at h2 ⊢
  simp at h1
  omega
theorem join_take (ws : List (List Nat)) (k : Nat) : (joinW (ws.take k)).length ≤ (joinW ws).length := by
  have h : joinW ws = joinW (ws.take k) ++ joinW (ws.drop k) := by
    unfold joinW
    rw [← List.flatMap_append, List.take_append_drop]
  rw [h, List.length_append]
  omega
end Go.Proofs.YtbofkndkgdnbmaaDoor

/-
  Own text. The walks over the functions on one rune: white, bare, letter, small, the program's and the document's.
-/
import Derived.Test.YtbofkndkgdnbmaaDoorRule
import Derived.Test.YtbofkndkgdnbmaaDoorBld
import Derived.IntWalk
import Derived.Deep.Light
namespace Go.Proofs.YtbofkndkgdnbmaaDoor
open Go.RowKit

/-- The call answers v; nothing has turned. -/
def Says (v : Value) (w : World) (e : Ending) (w' : World) : Prop := e = .returned v ∧ w = w'
theorem ret_bool {a b : Bool} (h : a = b) : Ending.returned (.bool a) = .returned (.bool b) := by rw [h]
theorem ret_int {k : IntKind} {a b : Int} (h : a = b) : Ending.returned (.int k a) = .returned (.int k b) := by rw [h]

set_option maxRecDepth 100000 in
set_option maxHeartbeats 1000000 in
theorem white_any (r : Nat) (hr : r ≤ 1114111) (w : World) : Calls Tryd.prog 31 #[.int .i32 (r : Int)] w (Says (.bool (whiteN r)) w) := by
  go_enter Tryd.func31, Tryd.ntmps31
  go_wp2
  all_goals
    go_ret
    refine ⟨ret_bool ?_, rfl⟩
    go_light
    try simp only [beq_iff_eq, beq_eq_false_iff_ne, ne_eq] at *
    unfold whiteN
    first
      | (symm; rw [decide_eq_true_eq]; omega)
      | (symm; rw [decide_eq_false_iff_not]; omega)
      | (rw [Bool.eq_iff_iff]; simp; omega)
set_option maxRecDepth 100000 in
set_option maxHeartbeats 1000000 in
theorem rwhite_any (r : Nat) (hr : r ≤ 1114111) (w : World) : Calls Tryd.prog 46 #[.int .i64 (r : Int)] w (Says (.bool (whiteN r)) w) := by
  go_enter Tryd.func46, Tryd.ntmps46
  go_wp2
  all_goals
    go_ret
    refine ⟨ret_bool ?_, rfl⟩
    go_light
    try simp only [beq_iff_eq, beq_eq_false_iff_ne, bne_iff_ne, bne_eq_false_iff_eq, ne_eq] at *
    unfold whiteN
    first
      | (symm; rw [decide_eq_true_eq]; omega)
      | (symm; rw [decide_eq_false_iff_not]; omega)
      | (rw [Bool.eq_iff_iff]; simp; omega)
set_option maxRecDepth 100000 in
set_option maxHeartbeats 1000000 in
theorem bare_any (r : Nat) (hr : r ≤ 1114111) (w : World) : Calls Tryd.prog 30 #[.int .i32 (r : Int)] w (Says (.bool (bareN r)) w) := by
  go_enter Tryd.func30, Tryd.ntmps30
  go_wp2_with (go_at_call 31; refine (white_any r hr _).mono ?_; rintro e w' ⟨rfl, rfl⟩)
  all_goals
    go_ret
    refine ⟨ret_bool ?_, rfl⟩
    go_light
    try simp only [beq_iff_eq, beq_eq_false_iff_ne, bne_iff_ne, bne_eq_false_iff_eq, ne_eq] at *
    unfold bareN
    first
      | (rw [decide_eq_true (by omega), Bool.true_and])
      | (rw [decide_eq_false (by omega), Bool.false_and])
      | (generalize whiteN r = b; rw [Bool.eq_iff_iff]; cases b <;> simp <;> omega)
set_option maxRecDepth 100000 in
set_option maxHeartbeats 1000000 in
theorem rbare_any (r : Nat) (hr : r ≤ 1114111) (w : World) : Calls Tryd.prog 47 #[.int .i64 (r : Int)] w (Says (.bool (bareN r)) w) := by
  go_enter Tryd.func47, Tryd.ntmps47
  go_wp2_with (go_at_call 46; refine (rwhite_any r hr _).mono ?_; rintro e w' ⟨rfl, rfl⟩)
  all_goals
    go_ret
    refine ⟨ret_bool ?_, rfl⟩
    go_light
    try simp only [beq_iff_eq, beq_eq_false_iff_ne, bne_iff_ne, bne_eq_false_iff_eq, ne_eq] at *
    unfold bareN
    first
      | (rw [decide_eq_true (by omega), Bool.true_and])
      | (rw [decide_eq_false (by omega), Bool.false_and])
      | (generalize whiteN r = b; rw [Bool.eq_iff_iff]; cases b <;> simp <;> omega)
set_option maxRecDepth 100000 in
set_option maxHeartbeats 1000000 in
theorem letter_any (r : Nat) (hr : r ≤ 1114111) (w : World) : Calls Tryd.prog 44 #[.int .i32 (r : Int)] w (Says (.bool (letterN r)) w) := by
  go_enter Tryd.func44, Tryd.ntmps44
  go_wp2_with (go_at_call 31; refine (white_any r hr _).mono ?_; rintro e w' ⟨rfl, rfl⟩)
  all_goals
    go_ret
    refine ⟨ret_bool ?_, rfl⟩
    go_light
    try simp only [beq_iff_eq, beq_eq_false_iff_ne, ne_eq] at *
    unfold letterN
    by_cases h128 : r < 128
    · rw [if_pos h128]
      first
        | (exfalso; omega)
        | (generalize whiteN r = b; rw [Bool.eq_iff_iff]; cases b <;> simp <;> omega)
    · rw [if_neg h128]
      first
        | (exfalso; omega)
        | (generalize whiteN r = b; rw [Bool.eq_iff_iff]; cases b <;> simp <;> omega)
set_option maxRecDepth 100000 in
set_option maxHeartbeats 1000000 in
theorem rletter_any (r : Nat) (hr : r ≤ 1114111) (w : World) : Calls Tryd.prog 45 #[.int .i64 (r : Int)] w (Says (.bool (letterN r)) w) := by
  go_enter Tryd.func45, Tryd.ntmps45
  go_wp2_with (go_at_call 46; refine (rwhite_any r hr _).mono ?_; rintro e w' ⟨rfl, rfl⟩)
  all_goals
    go_ret
    refine ⟨ret_bool ?_, rfl⟩
    go_light
    try simp only [beq_iff_eq, beq_eq_false_iff_ne, bne_iff_ne, bne_eq_false_iff_eq, ne_eq] at *
    unfold letterN
    by_cases h128 : r < 128
    · rw [if_pos h128]
      first
        | (exfalso; omega)
        | (generalize whiteN r = b; rw [Bool.eq_iff_iff]; cases b <;> simp <;> omega)
    · rw [if_neg h128]
      first
        | (exfalso; omega)
        | (generalize whiteN r = b; rw [Bool.eq_iff_iff]; cases b <;> simp <;> omega)
set_option maxRecDepth 100000 in
set_option maxHeartbeats 1000000 in
theorem small_any (r : Nat) (hr : r ≤ 1114111) (w : World) : Calls Tryd.prog 39 #[.int .i32 (r : Int)] w (Says (.int .i32 (smallN r : Int)) w) := by
  have h0 : (0 : Int) ≤ (r : Int) := by omega
  have h1 : (r : Int) ≤ 1114111 := by omega
  go_enter Tryd.func39, Tryd.ntmps39
  go_wp2
  all_goals
    go_ret
    refine ⟨ret_int ?_, rfl⟩
    go_light
    try simp only [bne_iff_ne, bne_eq_false_iff_eq, ne_eq] at *
    have := small_cases r
    omega
set_option maxRecDepth 100000 in
set_option maxHeartbeats 1000000 in
theorem low_any (r : Nat) (hr : r ≤ 1114111) (w : World) : Calls Tryd.prog 54 #[.int .i64 (r : Int)] w (Says (.int .i64 (smallN r : Int)) w) := by
  have h0 : (0 : Int) ≤ (r : Int) := by omega
  have h1 : (r : Int) ≤ 1114111 := by omega
  go_enter Tryd.func54, Tryd.ntmps54
  go_wp2
  all_goals
    go_ret
    refine ⟨ret_int ?_, rfl⟩
    go_light
    try simp only [beq_iff_eq, beq_eq_false_iff_ne, bne_iff_ne, bne_eq_false_iff_eq, ne_eq] at *
    have := small_cases r
    omega
end Go.Proofs.YtbofkndkgdnbmaaDoor

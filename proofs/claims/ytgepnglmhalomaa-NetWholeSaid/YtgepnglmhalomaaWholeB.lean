/-
  Own text. NetWhole: the way on which there are too many texts or numbers.
-/
import Derived.Test.YtgepnglmhalomaaSpoilA
namespace Go.Proofs.Ytgepnglmhalomaa
open Go.RowKit
set_option maxRecDepth 100000 in
set_option maxHeartbeats 1000000 in
theorem whole_long (A B : Option Addr) (n c m d : Nat) (w : World) (h : 20 < n ∨ 60 < m) : Calls Try.prog 4 #[.slice A n c, .slice B m d] w (Quiet (.bool true) w) := by
  by_cases h1 : 20 < n
  · have g1 : decide ((20 : Int) < (n : Int)) = true := by simp; omega
    clear h
    go_enter Try.func4, Try.ntmps4
    go_wp2_with (go_at_call 6; refine (known_any _).mono ?_; rintro e w1 ⟨rfl, hw⟩; have HW := Lib.hid hw; clear hw)
    go_ret
    exact ⟨rfl, HW.out⟩
  · have g1 : decide ((20 : Int) < (n : Int)) = false := by simp; omega
    have g2 : decide ((60 : Int) < (m : Int)) = true := by simp; omega
    clear h h1
    go_enter Try.func4, Try.ntmps4
    go_wp2_with (go_at_call 6; refine (known_any _).mono ?_; rintro e w1 ⟨rfl, hw⟩; have HW := Lib.hid hw; clear hw)
    go_ret
    exact ⟨rfl, HW.out⟩
end Go.Proofs.Ytgepnglmhalomaa

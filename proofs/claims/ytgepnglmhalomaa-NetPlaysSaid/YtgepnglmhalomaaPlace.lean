/-
  Own text. The walk over Place.
-/
import Derived.Test.YtgepnglmhalomaaKnown
namespace Go.Proofs.Ytgepnglmhalomaa
open Go.RowKit
theorem ret_int {k : IntKind} {a b : Int} (h : a = b) : Ending.returned (.int k a) = .returned (.int k b) := by rw [h]
theorem tmod_emod (k n : Int) : k % n = k.tmod n % n := by
  have h := Int.tmod_add_mul_tdiv k n
  rw [← h, Int.add_mul_emod_self_left, h]
theorem tmod_bd (k n : Int) (hn : 0 < n) : -n < k.tmod n ∧ k.tmod n < n := by
  refine ⟨?_, Int.tmod_lt_of_pos k hn⟩
  have h := Int.neg_tmod k n ▸ Int.tmod_lt_of_pos (-k) hn
  omega

set_option maxHeartbeats 400000 in
theorem place_any (k n : Int) (w : World) (hn : 0 < n) (hn' : n ≤ 4611686018427387904) :
    Calls Try.prog 8 #[.int .i64 k, .int .i64 n] w fun e w' => e = .returned (.int .i64 (k % n)) ∧ w = w' := by
  go_enter Try.func8, Try.ntmps8
  go_wp2
  · go_ret
    have hb := tmod_bd k n hn
    have ht : k.tmod n < 0 := by assumption
    have hw : wrap64 (k.tmod n + n) = k % n := by
      rw [IntWalk.wrap64_in _ ⟨by omega, by omega⟩, tmod_emod, ← Int.add_emod_right, Int.emod_eq_of_lt (by omega) (by omega)]
    exact ⟨ret_int hw, rfl⟩
  · go_ret
    have hb := tmod_bd k n hn
    have ht : 0 ≤ k.tmod n := by assumption
    exact ⟨ret_int (by rw [tmod_emod, Int.emod_eq_of_lt ht hb.2]), rfl⟩
end Go.Proofs.Ytgepnglmhalomaa

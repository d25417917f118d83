/-
  Own text. The walk over the law TextFolds.
-/
import Derived.Test.YtbofkndkgdnbmaaDoorKnown
import Derived.Test.YtbofkndkgdnbmaaDoorSeat
import Derived.Test.YtbofkndkgdnbmaaDoorRefF
namespace Go.Proofs.YtbofkndkgdnbmaaDoor
open Go.RowKit

theorem Mk.after {v : Value} {w w1 w2 : World} {e : Ending} (h : Below w.heap.size w w1) (k : Mk v w1 e w2) : e = .returned v ∧ Below w.heap.size w w2 := ⟨k.1, h.trans (k.2.mono h.size)⟩
theorem size_add (a b : ByteArray) : (a ++ b).size = a.size + b.size := ByteArray.size_append
theorem no_sum {a b : ByteArray} (h : a.size ≤ 1000000) (h' : b.size ≤ 1000000) : ¬ 9223372036854775807 < a.size + b.size := by omega

/-- The small text folds to itself. -/
theorem fold_again (S : ByteArray) (w : World) (h : S.size ≤ 1000000) : Calls Tryd.prog 20 #[.string (tx ((R S).map smallN))] w (Mk (.string (tx ((R S).map smallN))) w) := by
  have h1 := (tx_size ((R S).map smallN)).2
  have h2 := R_len S
  rw [List.length_map] at h1
  have h3 := fold_any (tx ((R S).map smallN)) w (by omega)
  rw [R_tx (map_vr (R_vr S)), List.map_map] at h3
  have e : smallN ∘ smallN = smallN := by funext r; exact small_small r
  rw [e] at h3
  exact h3
theorem runes_fold (S : ByteArray) (w : World) (h : S.size ≤ 1000000) : Calls Tryd.prog 14 #[.string (tx ((R S).map smallN))] w (Mk (.int .i64 ((R S).length : Int)) w) := by
  have h1 := (tx_size ((R S).map smallN)).2
  have h2 := R_len S
  rw [List.length_map] at h1
  have h3 := runes_any (tx ((R S).map smallN)) w (by omega)
  rw [R_tx (map_vr (R_vr S)), List.length_map] at h3
  exact h3
theorem clean_fold (S : ByteArray) (w : World) (h : S.size ≤ 1000000) : Calls Tryd.prog 13 #[.string (tx ((R S).map smallN))] w (Mk (.string (tx ((cleanR (R S)).map smallN))) w) := by
  have h1 := (tx_size ((R S).map smallN)).2
  have h2 := R_len S
  rw [List.length_map] at h1
  have h3 := clean_any (tx ((R S).map smallN)) w (by omega)
  rw [R_tx (map_vr (R_vr S)), clean_small] at h3
  exact h3
theorem fold_clean (S : ByteArray) (w : World) (h : S.size ≤ 1000000) : Calls Tryd.prog 20 #[.string (tx (cleanR (R S)))] w (Mk (.string (tx ((cleanR (R S)).map smallN))) w) := by
  have h1 := (tx_size (cleanR (R S))).2
  have h2 := R_len S
  have h4 := clean_len (R S)
  have h3 := fold_any (tx (cleanR (R S))) w (by omega)
  rw [R_tx (clean_vr (R_vr S))] at h3
  exact h3

set_option maxHeartbeats 2000000 in
set_option maxRecDepth 10000 in
theorem folds_long (s : ByteArray) (A : Option Addr) (n c : Nat) (w : World) (h : 3000 < s.size ∨ 1000 < n) : Calls Tryd.prog 6 #[.string s, .slice A n c] w (Mk (.bool true) w) := by
  by_cases h1 : 3000 < s.size
  · have g1 : decide ((3000 : Int) < (s.size : Int)) = true := by simp; omega
    clear h
    go_enter Tryd.func6, Tryd.ntmps6
    go_wp2_with (go_at_call 10; refine (known_any _).mono ?_; rintro e w1 ⟨rfl, hw⟩; have HW := Lib.hid hw; clear hw)
    go_ret
    exact ⟨rfl, HW.out⟩
  · have g1 : decide ((3000 : Int) < (s.size : Int)) = false := by simp; omega
    have g2 : decide ((1000 : Int) < (n : Int)) = true := by simp; omega
    clear h h1
    go_enter Tryd.func6, Tryd.ntmps6
    go_wp2_with (go_at_call 10; refine (known_any _).mono ?_; rintro e w1 ⟨rfl, hw⟩; have HW := Lib.hid hw; clear hw)
    go_ret
    exact ⟨rfl, HW.out⟩

theorem Nums.below {w w' : World} {A : Option Addr} {zs : List Nat} (h : Nums w A zs) (hb : Below w.heap.size w w') : Nums w' A zs := fun hp => by
  obtain ⟨b, o, hA, hc⟩ := h hp
  exact ⟨b, o, hA, fun j z hj => ⟨(hb.cell (p := ⟨b, o + j, none⟩) (block_lt_of_cell (hc j z hj).1)).trans (hc j z hj).1, (hc j z hj).2⟩⟩

set_option maxHeartbeats 2000000 in
set_option maxRecDepth 10000 in
theorem folds_law (s : ByteArray) (A : Option Addr) (zs : List Nat) (n c : Nat) (w : World) (hA : Nums w A zs) (hn : zs.length = n) (hs : s.size ≤ 3000) (hx : n ≤ 1000) : Calls Tryd.prog 6 #[.string s, .slice A n c] w (Mk (.bool true) w) := by
  have HA := Lib.hid hA
  have HN := Lib.hid hn
  clear hA hn
  have g1 : decide ((3000 : Int) < (s.size : Int)) = false := by simp; omega
  have g2 : decide ((1000 : Int) < (n : Int)) = false := by simp; omega
  go_enter Tryd.func6, Tryd.ntmps6
  go_wp2_with fail
  refine (known_any _).mono ?_
  rintro e w1 ⟨rfl, hw⟩
  have HW1 := Lib.hid hw
  clear hw
  go_wp2_with fail
  refine (seat_any A zs n c _ (HA.out.below HW1.out) HN.out (by omega)).mono ?_
  rintro e w2 ⟨rs, rfl, hv, hl, hw⟩
  have HW2 := Lib.hid (HW1.out.trans (hw.mono HW1.out.size))
  have hts := (tx_size rs).2
  have HSZ := Lib.hid (show (s ++ tx rs).size ≤ 7000 by rw [size_add]; omega)
  have HNS := Lib.hid (no_sum (a := s) (b := tx rs) (by omega) (by omega))
  clear hw hv hl hts HW1 g1 g2
  go_wp2_with fail
  all_goals
    first
      | (exact absurd (by assumption) HNS.out)
      | skip
  generalize s ++ tx rs = S at HSZ ⊢
  refine (fold_any S _ (by have := HSZ.out; omega)).mono ?_
  intro e w3 h3
  obtain ⟨rfl, hw⟩ := Mk.after HW2.out h3
  have HW3 := Lib.hid hw
  clear hw h3 HW2
  go_wp2_with fail
  refine (rfolds_any S _ (by have := HSZ.out; omega)).mono ?_
  intro e w4 h3
  obtain ⟨rfl, hw⟩ := Mk.after HW3.out h3
  have HW4 := Lib.hid hw
  clear hw h3 HW3
  go_wp2_with fail
  refine (fold_again S _ (by have := HSZ.out; omega)).mono ?_
  intro e w5 h3
  obtain ⟨rfl, hw⟩ := Mk.after HW4.out h3
  have HW5 := Lib.hid hw
  clear hw h3 HW4
  go_wp2_with fail
  refine (runes_fold S _ (by have := HSZ.out; omega)).mono ?_
  intro e w6 h3
  obtain ⟨rfl, hw⟩ := Mk.after HW5.out h3
  have HW6 := Lib.hid hw
  clear hw h3 HW5
  go_wp2_with fail
  refine (runes_any S _ (by have := HSZ.out; omega)).mono ?_
  intro e w7 h3
  obtain ⟨rfl, hw⟩ := Mk.after HW6.out h3
  have HW7 := Lib.hid hw
  clear hw h3 HW6
  go_wp2_with fail
  refine (clean_fold S _ (by have := HSZ.out; omega)).mono ?_
  intro e w8 h3
  obtain ⟨rfl, hw⟩ := Mk.after HW7.out h3
  have HW8 := Lib.hid hw
  clear hw h3 HW7
  go_wp2_with fail
  refine (clean_any S _ (by have := HSZ.out; omega)).mono ?_
  intro e w9 h3
  obtain ⟨rfl, hw⟩ := Mk.after HW8.out h3
  have HW9 := Lib.hid hw
  clear hw h3 HW8
  go_wp2_with fail
  refine (fold_clean S _ (by have := HSZ.out; omega)).mono ?_
  intro e w10 h3
  obtain ⟨rfl, hw⟩ := Mk.after HW9.out h3
  have HW10 := Lib.hid hw
  clear hw h3 HW9
  go_wp2_with fail
  go_ret
  exact ⟨rfl, HW10.out⟩
end Go.Proofs.YtbofkndkgdnbmaaDoor

/-
  Own text. The walk over the law TextRunes.
-/
import Derived.Test.YtbofkndkgdnbmaaDoorLawCuts
import Derived.Test.YtbofkndkgdnbmaaDoorRefH
import Derived.Test.YtbofkndkgdnbmaaDoorHelp
namespace Go.Proofs.YtbofkndkgdnbmaaDoor
open Go.RowKit
theorem runes_none (r : Int) (w : World) (h0 : 0 ≤ r) (h1 : 55296 ≤ r % 1114112) (h2 : r % 1114112 < 57344) : Calls Tryd.prog 7 #[.int .u32 r] w (Mk (.bool true) w) := by
  go_enter Tryd.func7, Tryd.ntmps7
  go_wp2_with fail
  refine (known_any _).mono ?_
  rintro e w1 ⟨rfl, hw⟩
  have HW1 := Lib.hid hw
  clear hw
  go_wp2_with fail
  go_ret
  exact ⟨rfl, HW1.out⟩

theorem stepW_len (a : List Nat × List (List Nat)) (r : Nat) : (stepW a r).2.length + (if (stepW a r).1 = [] then 0 else 1) ≤ a.2.length + (if a.1 = [] then 0 else 1) + 1 := by
  unfold stepW
  by_cases hl : letterN r = true
  · rw [if_pos hl, if_neg (show a.1 ++ [r] ≠ [] by simp)]
    simp only
    omega
  · rw [if_neg hl, if_pos rfl]
    by_cases ha : a.1 = []
    · simp only [if_pos ha]
      omega
    · simp only [if_neg ha, List.length_append, List.length_singleton]
      omega
theorem runW_len (rs : List Nat) : ∀ a : List Nat × List (List Nat), (runW a rs).2.length + (if (runW a rs).1 = [] then 0 else 1) ≤ a.2.length + (if a.1 = [] then 0 else 1) + rs.length := by
  induction rs with
  | nil => exact fun a => Nat.le_refl _
  | cons r rs ih =>
    intro a
    rw [runW_cons, List.length_cons]
    have h := ih (stepW a r)
    have h2 := stepW_len a r
    omega
theorem words_len (rs : List Nat) : (wordsR rs).length ≤ rs.length := by
  have h := runW_len rs ([], [])
  unfold wordsR finW
  split
  · rename_i h1
    rw [if_pos h1] at h
    simpa using h
  · rename_i h1
    rw [if_neg h1] at h
    simp at h ⊢
    omega

/-- Behind the test: one rune's text, and the same between two letters. -/
theorem one_size (v : Nat) : (tx [v]).size ≤ 4 := by
  have := (tx_size [v]).2
  simpa using this

set_option maxHeartbeats 2000000 in
set_option maxRecDepth 10000 in
theorem runes_law (r : Int) (w : World) (h0 : 0 ≤ r) (hvr : r % 1114112 < 55296 ∨ 57344 ≤ r % 1114112) : Calls Tryd.prog 7 #[.int .u32 r] w (Mk (.bool true) w) := by
  obtain ⟨v, hv, HV⟩ : ∃ v : Nat, (v : Int) = r % 1114112 ∧ Hid (vr v) := ⟨(r % 1114112).toNat, by omega, Lib.hid (by unfold vr; omega)⟩
  have HVV := Lib.hid hv
  clear hv
  have HRX := Lib.hid (show R (tx [v]) = [v] from R_tx (by simpa using HV.out))
  have HS := Lib.hid (one_size v)
  have HM := Lib.hid (show ((ByteArray.mk #[97] ++ tx [v]) ++ ByteArray.mk #[98]).size ≤ 6 by
    rw [size_add, size_add]
    have := HS.out
    have h1 : (ByteArray.mk #[97]).size = 1 := rfl
    have h2 : (ByteArray.mk #[98]).size = 1 := rfl
    omega)
  have HM1 := Lib.hid (show ¬ 9223372036854775807 < 1 + (tx [v]).size by have := HS.out; omega)
  have HM2 := Lib.hid (show ¬ 9223372036854775807 < 1 + (tx [v]).size + 1 by have := HS.out; omega)
  rcases hvr with hv | hv
  all_goals
    go_enter Tryd.func7, Tryd.ntmps7
    go_wp2_with fail
    refine (known_any _).mono ?_
    rintro e w1 ⟨rfl, hw⟩
    have HW1 := Lib.hid hw
    clear hw
    go_wp2_with fail
    rw [← HVV.out]
    refine (of_any (some ⟨w1.heap.size, 0, none⟩) [v] 1 1 _ ?_ rfl (by simpa using HV.out) (by omega)).mono ?_
    · intro _
      refine ⟨w1.heap.size, 0, rfl, fun j x hj => ?_⟩
      match j, hj with
      | 0, hj =>
        simp only [List.getElem?_cons_zero, Option.some.injEq] at hj
        subst hj
        rw [World.cell?_alloc_new]
        rfl
      | j + 1, hj => simp at hj
    rintro e w2 ⟨rfl, hw⟩
    have HW2 := Lib.hid ((HW1.out.alloc HW1.out.size (.cells #[.int .i64 v] 3)).trans (hw.mono (by have := HW1.out.size; simp; omega)))
    clear hw HW1 hv
    go_wp2_with fail
    all_goals
      first
        | (exact absurd (by assumption) HM1.out)
        | (exact absurd (by assumption) HM2.out)
        | skip
    clear HM1 HM2
    have HR1 := Lib.hid (show (R (tx [v])).length = 1 by rw [HRX.out]; rfl)
    generalize ByteArray.mk #[97] ++ tx [v] ++ ByteArray.mk #[98] = M at HM ⊢
    generalize tx [v] = S at HS HR1 ⊢
    refine (clean_any M _ (by have := HM.out; omega)).mono ?_
    intro e w3 h3
    obtain ⟨rfl, hw⟩ := Mk.after HW2.out h3
    have HW3 := Lib.hid hw
    clear hw h3 HW2
    go_wp2_with fail
    refine (rcleans_any M _ (by have := HM.out; omega)).mono ?_
    intro e w4 h3
    obtain ⟨rfl, hw⟩ := Mk.after HW3.out h3
    have HW4 := Lib.hid hw
    clear hw h3 HW3
    go_wp2_with fail
    refine (clean_any S _ (by have := HS.out; omega)).mono ?_
    intro e w5 h3
    obtain ⟨rfl, hw⟩ := Mk.after HW4.out h3
    have HW5 := Lib.hid hw
    clear hw h3 HW4
    go_wp2_with fail
    refine (rcleans_any S _ (by have := HS.out; omega)).mono ?_
    intro e w6 h3
    obtain ⟨rfl, hw⟩ := Mk.after HW5.out h3
    have HW6 := Lib.hid hw
    clear hw h3 HW5
    go_wp2_with fail
    refine (fold_any S _ (by have := HS.out; omega)).mono ?_
    intro e w7 h3
    obtain ⟨rfl, hw⟩ := Mk.after HW6.out h3
    have HW7 := Lib.hid hw
    clear hw h3 HW6
    go_wp2_with fail
    refine (rfolds_any S _ (by have := HS.out; omega)).mono ?_
    intro e w8 h3
    obtain ⟨rfl, hw⟩ := Mk.after HW7.out h3
    have HW8 := Lib.hid hw
    clear hw h3 HW7
    go_wp2_with fail
    have HWL := Lib.hid (show ((wordsR ((R M).map smallN)).map tx).length ≤ 100000000 by
      have h1 := words_len ((R M).map smallN)
      have h2 := R_len M
      have := HM.out
      rw [List.length_map]
      rw [List.length_map] at h1
      omega)
    have HT := Lib.hid (fun w1 => words_any M w1 (by have := HM.out; omega))
    have HU := Lib.hid (fun w1 => rwords_any M w1 (by have := HM.out; omega))
    generalize (wordsR ((R M).map smallN)).map tx = ws at HWL HT HU
    refine (HT.out _).mono ?_
    rintro e w9 ⟨A, n, c, rfl, hn, hs, hw⟩
    subst hn
    have HS9 := Lib.hid hs
    have HW9 := Lib.hid (HW8.out.trans (hw.mono HW8.out.size))
    clear hs hw HW8
    go_wp2_with fail
    refine (HU.out _).mono ?_
    rintro e w10 ⟨A2, n2, c2, rfl, hn, hs, hw⟩
    subst hn
    have HS10 := Lib.hid hs
    have HS11 := Lib.hid (HS9.out.below hw)
    have HW10 := Lib.hid (HW9.out.trans (hw.mono HW9.out.size))
    clear hs hw HW9 HS9
    go_wp2_with fail
    refine (texts_any A A2 ws _ c c2 _ HS11.out HS10.out rfl HWL.out).mono ?_
    intro e w11 h3
    obtain ⟨rfl, hw⟩ := Mk.after HW10.out h3
    have HW11 := Lib.hid hw
    clear hw h3 HW10
    go_wp2_with fail
    refine (runes_any S _ (by have := HS.out; omega)).mono ?_
    rw [HR1.out]
    intro e w12 h3
    obtain ⟨rfl, hw⟩ := Mk.after HW11.out h3
    have HW12 := Lib.hid hw
    clear hw h3 HW11
    go_wp2_with fail
    go_ret
    exact ⟨rfl, HW12.out⟩
end Go.Proofs.YtbofkndkgdnbmaaDoor

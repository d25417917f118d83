/-
  Own text. The walk over known: some titles.
-/
import Derived.Test.YtbofkndkgdnbmaaDoorTextC
import Derived.Test.YtbofkndkgdnbmaaDoorTextD
import Derived.KernelRfl
namespace Go.Proofs.YtbofkndkgdnbmaaDoor
open Go.RowKit

theorem right_eq (s : ByteArray) (most : Int) : rightB s most = (decide (((R s).length : Int) ≤ most) && ((tx (cleanR (R s))).data.toList == s.data.toList)) := by
  unfold rightB
  rw [ByteArray.toList_eq, ByteArray.toList_eq]

theorem k_words (w : World) : Calls Tryd.prog 24 #[.string ⟨#[195, 133, 110, 103, 115, 116, 114, 195, 182, 109, 44, 32, 49, 32, 120, 33]⟩] w (MkStrs [⟨#[195, 165, 110, 103, 115, 116, 114, 195, 182, 109]⟩, ⟨#[49]⟩, ⟨#[120]⟩] w) := by
  have h := words_any ⟨#[195, 133, 110, 103, 115, 116, 114, 195, 182, 109, 44, 32, 49, 32, 120, 33]⟩ w (by decide)
  have e : (wordsR ((R ⟨#[195, 133, 110, 103, 115, 116, 114, 195, 182, 109, 44, 32, 49, 32, 120, 33]⟩).map smallN)).map tx = [⟨#[195, 165, 110, 103, 115, 116, 114, 195, 182, 109]⟩, ⟨#[49]⟩, ⟨#[120]⟩] := by kernel_rfl
  rw [e] at h
  exact h
theorem k_clean (w : World) : Calls Tryd.prog 13 #[.string ⟨#[9, 65, 32, 1, 32, 98, 32]⟩] w (Mk (.string ⟨#[65, 32, 98]⟩) w) := by
  have h := clean_any ⟨#[9, 65, 32, 1, 32, 98, 32]⟩ w (by decide)
  have e : tx (cleanR (R ⟨#[9, 65, 32, 1, 32, 98, 32]⟩)) = ⟨#[65, 32, 98]⟩ := by kernel_rfl
  rw [e] at h
  exact h
theorem k_right1 (w : World) : Calls Tryd.prog 16 #[.string ⟨#[65, 32, 98]⟩, .int .i64 3] w (Mk (.bool true) w) := by
  have h := right_any ⟨#[65, 32, 98]⟩ 3 w (by decide)
  have e : rightB ⟨#[65, 32, 98]⟩ 3 = true := by rw [right_eq]; kernel_rfl
  rw [e] at h
  exact h
theorem k_right2 (w : World) : Calls Tryd.prog 16 #[.string ⟨#[65, 32, 32, 98]⟩, .int .i64 9] w (Mk (.bool false) w) := by
  have h := right_any ⟨#[65, 32, 32, 98]⟩ 9 w (by decide)
  have e : rightB ⟨#[65, 32, 32, 98]⟩ 9 = false := by rw [right_eq]; kernel_rfl
  rw [e] at h
  exact h
theorem k_right3 (w : World) : Calls Tryd.prog 16 #[.string ⟨#[65, 32, 98]⟩, .int .i64 2] w (Mk (.bool false) w) := by
  have h := right_any ⟨#[65, 32, 98]⟩ 2 w (by decide)
  have e : rightB ⟨#[65, 32, 98]⟩ 2 = false := by rw [right_eq]; kernel_rfl
  rw [e] at h
  exact h
theorem k_runes (w : World) : Calls Tryd.prog 14 #[.string ⟨#[195, 169, 255]⟩] w (Mk (.int .i64 2) w) := by
  have h := runes_any ⟨#[195, 169, 255]⟩ w (by decide)
  have e : ((R ⟨#[195, 169, 255]⟩).length : Int) = 2 := by kernel_rfl
  rw [e] at h
  exact h
theorem k_cut (w : World) : Calls Tryd.prog 18 #[.string ⟨#[65, 32, 98, 99]⟩, .int .i64 2] w (Mk (.string ⟨#[65]⟩) w) := by
  have h := cut_any ⟨#[65, 32, 98, 99]⟩ 2 w (by decide) (by decide) (by decide)
  have e : tx (cutR (cleanR (R ⟨#[65, 32, 98, 99]⟩)) (2 : Int).toNat) = ⟨#[65]⟩ := by kernel_rfl
  rw [e] at h
  exact h
theorem k_fold (w : World) : Calls Tryd.prog 20 #[.string ⟨#[195, 137, 84, 208, 144, 208, 128]⟩] w (Mk (.string ⟨#[195, 169, 116, 208, 176, 209, 144]⟩) w) := by
  have h := fold_any ⟨#[195, 137, 84, 208, 144, 208, 128]⟩ w (by decide)
  have e : tx ((R ⟨#[195, 137, 84, 208, 144, 208, 128]⟩).map smallN) = ⟨#[195, 169, 116, 208, 176, 209, 144]⟩ := by kernel_rfl
  rw [e] at h
  exact h
theorem k_less1 (w : World) : Calls Tryd.prog 27 #[.string ⟨#[97]⟩, .string ⟨#[66]⟩] w (Mk (.bool true) w) := by
  have h := less_any ⟨#[97]⟩ ⟨#[66]⟩ w (by decide) (by decide)
  have e : lessT (ByteArray.mk #[97]).data.toList (ByteArray.mk #[66]).data.toList = true := by kernel_rfl
  rw [e] at h
  exact h
theorem k_less2 (w : World) : Calls Tryd.prog 27 #[.string ⟨#[66]⟩, .string ⟨#[97]⟩] w (Mk (.bool false) w) := by
  have h := less_any ⟨#[66]⟩ ⟨#[97]⟩ w (by decide) (by decide)
  have e : lessT (ByteArray.mk #[66]).data.toList (ByteArray.mk #[97]).data.toList = false := by kernel_rfl
  rw [e] at h
  exact h

set_option maxHeartbeats 2000000 in
set_option maxRecDepth 100000 in
theorem known_any (w : World) : Calls Tryd.prog 10 #[] w (Mk (.bool true) w) := by
  go_enter Tryd.func10, Tryd.ntmps10
  go_wp2_with fail
  refine (k_words _).mono ?_
  rintro e w1 ⟨A, n, c, rfl, hn, hs, hw⟩
  simp only [List.length_cons, List.length_nil] at hn
  subst hn
  have HS1 := Lib.hid hs
  have HW1 := Lib.hid hw
  clear hs hw
  go_wp2_with fail
  refine (k_clean _).mono ?_
  rintro e w2 ⟨rfl, hw⟩
  have HW2 := Lib.hid (HW1.out.trans (hw.mono HW1.out.size))
  have HS2 := Lib.hid (HS1.out.below hw)
  clear hw HW1 HS1
  go_wp2_with fail
  refine (k_right1 _).mono ?_
  rintro e w3 ⟨rfl, hw⟩
  have HW3 := Lib.hid (HW2.out.trans (hw.mono HW2.out.size))
  have HS3 := Lib.hid (HS2.out.below hw)
  clear hw HW2 HS2
  go_wp2_with fail
  refine (k_right2 _).mono ?_
  rintro e w4 ⟨rfl, hw⟩
  have HW4 := Lib.hid (HW3.out.trans (hw.mono HW3.out.size))
  have HS4 := Lib.hid (HS3.out.below hw)
  clear hw HW3 HS3
  go_wp2_with fail
  refine (k_right3 _).mono ?_
  rintro e w5 ⟨rfl, hw⟩
  have HW5 := Lib.hid (HW4.out.trans (hw.mono HW4.out.size))
  have HS5 := Lib.hid (HS4.out.below hw)
  clear hw HW4 HS4
  go_wp2_with fail
  refine (k_runes _).mono ?_
  rintro e w6 ⟨rfl, hw⟩
  have HW6 := Lib.hid (HW5.out.trans (hw.mono HW5.out.size))
  have HS6 := Lib.hid (HS5.out.below hw)
  clear hw HW5 HS5
  go_wp2_with fail
  refine (k_cut _).mono ?_
  rintro e w7 ⟨rfl, hw⟩
  have HW7 := Lib.hid (HW6.out.trans (hw.mono HW6.out.size))
  have HS7 := Lib.hid (HS6.out.below hw)
  clear hw HW6 HS6
  go_wp2_with fail
  refine (k_fold _).mono ?_
  rintro e w8 ⟨rfl, hw⟩
  have HW8 := Lib.hid (HW7.out.trans (hw.mono HW7.out.size))
  have HS8 := Lib.hid (HS7.out.below hw)
  clear hw HW7 HS7
  obtain ⟨b, o, rfl, hc⟩ := HS8.out (by simp)
  have c0 : w8.cell? ⟨b, o, none⟩ = some (.string ⟨#[195, 165, 110, 103, 115, 116, 114, 195, 182, 109]⟩) := hc 0 _ rfl
  have c2 : w8.cell? ⟨b, o + 2, none⟩ = some (.string ⟨#[120]⟩) := hc 2 _ rfl
  clear hc
  go_wp2_with fail
  refine (k_less1 _).mono ?_
  rintro e w9 ⟨rfl, hw⟩
  have HW9 := Lib.hid (HW8.out.trans (hw.mono HW8.out.size))
  clear hw HW8
  go_wp2_with fail
  refine (k_less2 _).mono ?_
  rintro e w10 ⟨rfl, hw⟩
  have HW10 := Lib.hid (HW9.out.trans (hw.mono HW9.out.size))
  clear hw HW9
  go_wp2_with fail
  go_ret
  exact ⟨rfl, HW10.out⟩
end Go.Proofs.YtbofkndkgdnbmaaDoor

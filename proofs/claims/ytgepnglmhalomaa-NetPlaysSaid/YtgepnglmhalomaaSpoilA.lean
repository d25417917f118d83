/-
  Own text. The walk over the law NetSpoil.
-/
import Derived.Test.YtgepnglmhalomaaPlace
namespace Go.Proofs.Ytgepnglmhalomaa
open Go.RowKit

theorem Mine.of_new {w w1 w2 : World} {Ps : List Nat} {bp : Nat} {L : List Pk} (h : Mine w1 Ps w2 bp L) (hb : Below w.heap.size w w1) : Mine w Ps w2 bp L := by
  obtain ⟨F, hn, hF, hw, hP⟩ := h
  exact ⟨F, hn, fun k hk => ⟨Nat.le_trans hb.size (hF k hk).1, (hF k hk).2⟩, hb.trans (hw.mono hb.size), hP⟩

set_option maxRecDepth 100000 in
set_option maxHeartbeats 1000000 in
theorem spoil_law_long (A : Option Addr) (n c : Nat) (at_ by_ f t : Int) (w : World) (hn : 1000 < n) :
    Calls Try.prog 5 #[.slice A n c, .int .i64 at_, .int .i64 by_, .int .i64 f, .int .i64 t] w (Quiet (.bool true) w) := by
  go_enter Try.func5, Try.ntmps5
  go_wp2_with (go_at_call 6; refine (known_any _).mono ?_; rintro e w1 ⟨rfl, hw⟩; have HW := Lib.hid hw; clear hw)
  go_ret
  exact ⟨rfl, HW.out⟩

set_option maxRecDepth 100000 in
set_option maxHeartbeats 1000000 in
theorem spoil_law_none (A : Option Addr) (n c : Nat) (bs : List UInt8) (at_ by_ f t : Int) (w : World) (hb : Bts w A bs) (hl : bs.length = n) (hn : n ≤ 1000) (hno : n = 0 ∨ by_ % 256 = 0) :
    Calls Try.prog 5 #[.slice A n c, .int .i64 at_, .int .i64 by_, .int .i64 f, .int .i64 t] w (Quiet (.bool true) w) := by
  have HB := Lib.hid hb
  have HL := Lib.hid hl
  have HNO := Lib.hid hno
  have hg : decide ((1000 : Int) < (n : Int)) = false := by simp; omega
  have hand := and_255 by_
  clear hb hl hno
  by_cases h0 : n = 0
  · subst h0
    go_enter Try.func5, Try.ntmps5
    go_wp2_with fail
    refine (known_any _).mono ?_
    rintro e w1 ⟨rfl, hw1⟩
    have HW1 := Lib.hid hw1
    clear hw1
    go_wp2_with fail
    refine (new_any _).mono ?_
    rintro e w2 ⟨bp, rfl, hbp, hm⟩
    clear hbp
    have HM := Lib.hid (hm.of_new HW1.out)
    clear hm
    go_wp2_with fail
    refine ((HM.out.alloc _).send (by simp) ⟨f, t, bs⟩ (HB.out.below' (HM.out.alloc _).world) HL.out (by omega)).mono ?_
    rintro e w3 ⟨rfl, hm, _⟩
    have HM3 := Lib.hid hm
    clear hm
    go_wp2_with fail
    refine (HM3.out.double (by simp) (i := 0) (x := ⟨f, t, bs⟩) rfl).mono ?_
    rintro e w4 ⟨rfl, hm, _⟩
    have HM4 := Lib.hid hm
    clear hm
    go_wp2_with fail
    refine (HM4.out.spoil_out (i := 0) (.inr ⟨0, ⟨f, t, bs⟩, rfl, rfl, ?_⟩)).mono ?_
    · have h1 := HL.out
      have h2 := HNO.out
      simp only
      omega
    rintro e w5 ⟨rfl, hm, _⟩
    have HM5 := Lib.hid hm
    clear hm
    go_wp2_with fail
    go_ret
    exact ⟨rfl, HM5.out.world⟩
  · have h1 : by_ % 256 = 0 := HNO.out.resolve_left h0
    have h2 : (by_ % 256 == 0) = true := by simpa using h1
    have h3 : ((n : Int) == 0) = false := by simpa using h0
    clear h0 h1
    go_enter Try.func5, Try.ntmps5
    go_wp2_with fail
    refine (known_any _).mono ?_
    rintro e w1 ⟨rfl, hw1⟩
    have HW1 := Lib.hid hw1
    clear hw1
    go_wp2_with fail
    refine (new_any _).mono ?_
    rintro e w2 ⟨bp, rfl, hbp, hm⟩
    clear hbp
    have HM := Lib.hid (hm.of_new HW1.out)
    clear hm
    go_wp2_with fail
    refine ((HM.out.alloc _).send (by simp) ⟨f, t, bs⟩ (HB.out.below' (HM.out.alloc _).world) HL.out (by omega)).mono ?_
    rintro e w3 ⟨rfl, hm, _⟩
    have HM3 := Lib.hid hm
    clear hm
    go_wp2_with fail
    refine (HM3.out.double (by simp) (i := 0) (x := ⟨f, t, bs⟩) rfl).mono ?_
    rintro e w4 ⟨rfl, hm, _⟩
    have HM4 := Lib.hid hm
    clear hm
    go_wp2_with fail
    refine (HM4.out.spoil_out (i := 0) (.inr ⟨0, ⟨f, t, bs⟩, rfl, rfl, .inr (by simpa using h2)⟩)).mono ?_
    rintro e w5 ⟨rfl, hm, _⟩
    have HM5 := Lib.hid hm
    clear hm
    go_wp2_with fail
    go_ret
    exact ⟨rfl, HM5.out.world⟩
end Go.Proofs.Ytgepnglmhalomaa

/-
  Own text. The walk over the document's next rune.
-/
import Derived.Test.YtbofkndkgdnbmaaDoorRefA
namespace Go.Proofs.YtbofkndkgdnbmaaDoor
open Go.RowKit

set_option maxHeartbeats 1000000 in
set_option maxRecDepth 10000 in
theorem next_1 (s : ByteArray) (p : Nat) (w : World) (hp : p < s.size) (hs : s.size ≤ 100000000) (hlo : (192 : Int) ≤ ((s[p]'hp).toNat : Int)) (hhi : ((s[p]'hp).toNat : Int) < 224) :
    Calls Tryd.prog 37 #[.string s, .int .i64 (p : Int)] w (NextSays (s.data.toList.drop p) w) := by
  have hb0 := byte_at s p 0 hp
  have hM : Multi (s.data.toList.drop p) 1 128 (bt (s.data.toList.drop p) 0 % 32) := by
    unfold Multi
    rw [← hb0]
    have : (s[p + 0]'hp).toNat = (s[p]'hp).toNat := rfl
    omega
  have HB0 := Lib.hid hb0
  have HM := Lib.hid hM
  clear hb0 hM
  have h0 : (0 : Int) ≤ (p : Int) := by omega
  generalize hl : s.data.toList.drop p = l at HB0 HM
  have HL := Lib.hid hl
  clear hl
  go_enter Tryd.func37, Tryd.ntmps37
  go_wp2
  clear hlo hhi
  go_loopg [6, 9] 1 (fun g c i wr => ∃ k : Nat, k ≤ 1 ∧ i = .int .i64 ((k : Int) + 1) ∧ c = .int .i64 ((cv l (bt l 0 % 32) k : Nat) : Int) ∧ g = 1 - k ∧ w = wr ∧ Goes l k)
  case atStart =>
    refine ⟨0, by omega, rfl, ?_, rfl, rfl, fun m h1 h2 => by omega⟩
    rw [and_31, show (s[p]'hp).toNat = bt l 0 from HB0.out]
    rfl
  case round =>
    obtain ⟨k, hk, rfl, rfl, hg, rfl, hgo⟩ := hrel
    have HG := Lib.hid hg
    have HGO := Lib.hid hgo
    clear hg hgo
    have HCV := Lib.hid (cv_lt HM.out hk)
    have hk0 : (0 : Int) ≤ (k : Int) := by omega
    by_cases hk1 : k < 1
    · by_cases hct : ct l (k + 1) = true
      · obtain ⟨hin, hb, b1, b2⟩ := ct_byte HL.out hct
        have HB := Lib.hid hb
        have HCT := Lib.hid hct
        have B1 := Lib.hid b1
        have B2 := Lib.hid b2
        clear hb hct b1 b2
        have HCV2 := Lib.hid (cv_lt' HM.out hk1)
        have hc0 : (0 : Int) ≤ ((cv l (bt l 0 % 32) k : Nat) : Int) := by omega
        have hc1 : ((cv l (bt l 0 % 32) k : Nat) : Int) ≤ 1048575 := by have := HCV2.out; omega
        go_wp2
        all_goals
          first
            | (exfalso; have := B2.out; have := B1.out; omega)
            | skip
        go_roundg (1 - (k + 1))
        case measure => have := HG.out; omega
        case rel =>
          refine ⟨k + 1, by omega, by go_num, ?_, rfl, rfl, HGO.out.succ HCT.out⟩
          rw [HB.out]
          exact congrArg (Value.int IntKind.i64) (or_step l _ k HCV2.out)
      · have HS := Lib.hid (dc_short HM.out hk1 HGO.out hct)
        by_cases hin : p + (k + 1) < s.size
        · have hb := byte_at s p (k + 1) hin
          rw [HL.out] at hb
          have hor := ct_no hct
          rw [← hb] at hor
          have HOR := Lib.hid hor
          clear hb hct hor
          go_wp2
          all_goals
            first
              | (exfalso; have := HOR.out; omega)
              | (go_ret2; exact ⟨by rw [HS.out]; rfl, rfl⟩)
        · clear hct
          go_wp2
          go_ret2
          exact ⟨by rw [HS.out]; rfl, rfl⟩
    · obtain rfl : k = 1 := by omega
      have HF := Lib.hid (dc_full HM.out HGO.out)
      generalize cv l (bt l 0 % 32) 1 = c at HCV HF
      go_wp2
      all_goals
        go_ret2
        refine ⟨?_, rfl⟩
        go_light
        have hf := HF.out
        first
          | (rw [if_pos ⟨by omega, by unfold vr; omega⟩] at hf; rw [hf]; rfl)
          | (rw [if_neg (by unfold vr; omega)] at hf; rw [hf]; rfl)

set_option maxHeartbeats 1000000 in
set_option maxRecDepth 10000 in
theorem next_2 (s : ByteArray) (p : Nat) (w : World) (hp : p < s.size) (hs : s.size ≤ 100000000) (hlo : (224 : Int) ≤ ((s[p]'hp).toNat : Int)) (hhi : ((s[p]'hp).toNat : Int) < 240) :
    Calls Tryd.prog 37 #[.string s, .int .i64 (p : Int)] w (NextSays (s.data.toList.drop p) w) := by
  have hb0 := byte_at s p 0 hp
  have hM : Multi (s.data.toList.drop p) 2 2048 (bt (s.data.toList.drop p) 0 % 16) := by
    unfold Multi
    rw [← hb0]
    have : (s[p + 0]'hp).toNat = (s[p]'hp).toNat := rfl
    omega
  have HB0 := Lib.hid hb0
  have HM := Lib.hid hM
  clear hb0 hM
  have h0 : (0 : Int) ≤ (p : Int) := by omega
  generalize hl : s.data.toList.drop p = l at HB0 HM
  have HL := Lib.hid hl
  clear hl
  go_enter Tryd.func37, Tryd.ntmps37
  go_wp2
  clear hlo hhi
  go_loopg [6, 9] 2 (fun g c i wr => ∃ k : Nat, k ≤ 2 ∧ i = .int .i64 ((k : Int) + 1) ∧ c = .int .i64 ((cv l (bt l 0 % 16) k : Nat) : Int) ∧ g = 2 - k ∧ w = wr ∧ Goes l k)
  case atStart =>
    refine ⟨0, by omega, rfl, ?_, rfl, rfl, fun m h1 h2 => by omega⟩
    rw [and_15, show (s[p]'hp).toNat = bt l 0 from HB0.out]
    rfl
  case round =>
    obtain ⟨k, hk, rfl, rfl, hg, rfl, hgo⟩ := hrel
    have HG := Lib.hid hg
    have HGO := Lib.hid hgo
    clear hg hgo
    have HCV := Lib.hid (cv_lt HM.out hk)
    have hk0 : (0 : Int) ≤ (k : Int) := by omega
    by_cases hk1 : k < 2
    · by_cases hct : ct l (k + 1) = true
      · obtain ⟨hin, hb, b1, b2⟩ := ct_byte HL.out hct
        have HB := Lib.hid hb
        have HCT := Lib.hid hct
        have B1 := Lib.hid b1
        have B2 := Lib.hid b2
        clear hb hct b1 b2
        have HCV2 := Lib.hid (cv_lt' HM.out hk1)
        have hc0 : (0 : Int) ≤ ((cv l (bt l 0 % 16) k : Nat) : Int) := by omega
        have hc1 : ((cv l (bt l 0 % 16) k : Nat) : Int) ≤ 1048575 := by have := HCV2.out; omega
        go_wp2
        all_goals
          first
            | (exfalso; have := B2.out; have := B1.out; omega)
            | skip
        go_roundg (2 - (k + 1))
        case measure => have := HG.out; omega
        case rel =>
          refine ⟨k + 1, by omega, by go_num, ?_, rfl, rfl, HGO.out.succ HCT.out⟩
          rw [HB.out]
          exact congrArg (Value.int IntKind.i64) (or_step l _ k HCV2.out)
      · have HS := Lib.hid (dc_short HM.out hk1 HGO.out hct)
        by_cases hin : p + (k + 1) < s.size
        · have hb := byte_at s p (k + 1) hin
          rw [HL.out] at hb
          have hor := ct_no hct
          rw [← hb] at hor
          have HOR := Lib.hid hor
          clear hb hct hor
          go_wp2
          all_goals
            first
              | (exfalso; have := HOR.out; omega)
              | (go_ret2; exact ⟨by rw [HS.out]; rfl, rfl⟩)
        · clear hct
          go_wp2
          go_ret2
          exact ⟨by rw [HS.out]; rfl, rfl⟩
    · obtain rfl : k = 2 := by omega
      have HF := Lib.hid (dc_full HM.out HGO.out)
      generalize cv l (bt l 0 % 16) 2 = c at HCV HF
      go_wp2
      all_goals
        go_ret2
        refine ⟨?_, rfl⟩
        go_light
        have hf := HF.out
        first
          | (rw [if_pos ⟨by omega, by unfold vr; omega⟩] at hf; rw [hf]; rfl)
          | (rw [if_neg (by unfold vr; omega)] at hf; rw [hf]; rfl)

set_option maxHeartbeats 1000000 in
set_option maxRecDepth 10000 in
theorem next_3 (s : ByteArray) (p : Nat) (w : World) (hp : p < s.size) (hs : s.size ≤ 100000000) (hlo : (240 : Int) ≤ ((s[p]'hp).toNat : Int)) (hhi : ((s[p]'hp).toNat : Int) < 248) :
    Calls Tryd.prog 37 #[.string s, .int .i64 (p : Int)] w (NextSays (s.data.toList.drop p) w) := by
  have hb0 := byte_at s p 0 hp
  have hM : Multi (s.data.toList.drop p) 3 65536 (bt (s.data.toList.drop p) 0 % 8) := by
    unfold Multi
    rw [← hb0]
    have : (s[p + 0]'hp).toNat = (s[p]'hp).toNat := rfl
    omega
  have HB0 := Lib.hid hb0
  have HM := Lib.hid hM
  clear hb0 hM
  have h0 : (0 : Int) ≤ (p : Int) := by omega
  generalize hl : s.data.toList.drop p = l at HB0 HM
  have HL := Lib.hid hl
  clear hl
  go_enter Tryd.func37, Tryd.ntmps37
  go_wp2
  clear hlo hhi
  go_loopg [6, 9] 3 (fun g c i wr => ∃ k : Nat, k ≤ 3 ∧ i = .int .i64 ((k : Int) + 1) ∧ c = .int .i64 ((cv l (bt l 0 % 8) k : Nat) : Int) ∧ g = 3 - k ∧ w = wr ∧ Goes l k)
  case atStart =>
    refine ⟨0, by omega, rfl, ?_, rfl, rfl, fun m h1 h2 => by omega⟩
    rw [and_7, show (s[p]'hp).toNat = bt l 0 from HB0.out]
    rfl
  case round =>
    obtain ⟨k, hk, rfl, rfl, hg, rfl, hgo⟩ := hrel
    have HG := Lib.hid hg
    have HGO := Lib.hid hgo
    clear hg hgo
    have HCV := Lib.hid (cv_lt HM.out hk)
    have hk0 : (0 : Int) ≤ (k : Int) := by omega
    by_cases hk1 : k < 3
    · by_cases hct : ct l (k + 1) = true
      · obtain ⟨hin, hb, b1, b2⟩ := ct_byte HL.out hct
        have HB := Lib.hid hb
        have HCT := Lib.hid hct
        have B1 := Lib.hid b1
        have B2 := Lib.hid b2
        clear hb hct b1 b2
        have HCV2 := Lib.hid (cv_lt' HM.out hk1)
        have hc0 : (0 : Int) ≤ ((cv l (bt l 0 % 8) k : Nat) : Int) := by omega
        have hc1 : ((cv l (bt l 0 % 8) k : Nat) : Int) ≤ 1048575 := by have := HCV2.out; omega
        go_wp2
        all_goals
          first
            | (exfalso; have := B2.out; have := B1.out; omega)
            | skip
        go_roundg (3 - (k + 1))
        case measure => have := HG.out; omega
        case rel =>
          refine ⟨k + 1, by omega, by go_num, ?_, rfl, rfl, HGO.out.succ HCT.out⟩
          rw [HB.out]
          exact congrArg (Value.int IntKind.i64) (or_step l _ k HCV2.out)
      · have HS := Lib.hid (dc_short HM.out hk1 HGO.out hct)
        by_cases hin : p + (k + 1) < s.size
        · have hb := byte_at s p (k + 1) hin
          rw [HL.out] at hb
          have hor := ct_no hct
          rw [← hb] at hor
          have HOR := Lib.hid hor
          clear hb hct hor
          go_wp2
          all_goals
            first
              | (exfalso; have := HOR.out; omega)
              | (go_ret2; exact ⟨by rw [HS.out]; rfl, rfl⟩)
        · clear hct
          go_wp2
          go_ret2
          exact ⟨by rw [HS.out]; rfl, rfl⟩
    · obtain rfl : k = 3 := by omega
      have HF := Lib.hid (dc_full HM.out HGO.out)
      generalize cv l (bt l 0 % 8) 3 = c at HCV HF
      go_wp2
      all_goals
        go_ret2
        refine ⟨?_, rfl⟩
        go_light
        have hf := HF.out
        first
          | (rw [if_pos ⟨by omega, by unfold vr; omega⟩] at hf; rw [hf]; rfl)
          | (rw [if_neg (by unfold vr; omega)] at hf; rw [hf]; rfl)


end Go.Proofs.YtbofkndkgdnbmaaDoor

/-
  Own text. The walk over the document's next rune, whatever stands there.
-/
import Derived.Test.YtbofkndkgdnbmaaDoorRefB
namespace Go.Proofs.YtbofkndkgdnbmaaDoor
open Go.RowKit

set_option maxHeartbeats 1000000 in
set_option maxRecDepth 10000 in
theorem next_ascii (s : ByteArray) (p : Nat) (w : World) (hp : p < s.size) (hs : s.size ≤ 100000000) (h : ((s[p]'hp).toNat : Int) < 128) :
    Calls Tryd.prog 37 #[.string s, .int .i64 (p : Int)] w (NextSays (s.data.toList.drop p) w) := by
  have hb0 : (s[p]'hp).toNat = _ := byte_at s p 0 hp
  have HD := Lib.hid (dc_ascii (l := s.data.toList.drop p) (by rw [← hb0]; omega))
  have HB := Lib.hid hb0
  clear hb0
  have h0 : (0 : Int) ≤ (p : Int) := by omega
  have hs1 : s.size ≤ 100000000 := hs
  go_enter Tryd.func37, Tryd.ntmps37
  go_wp2
  go_ret2
  refine ⟨?_, rfl⟩
  rw [HD.out, ← HB.out]
  rfl

set_option maxHeartbeats 1000000 in
set_option maxRecDepth 10000 in
theorem next_bad (s : ByteArray) (p : Nat) (w : World) (hp : p < s.size) (hs : s.size ≤ 100000000) (h : (128 : Int) ≤ ((s[p]'hp).toNat : Int)) (h' : ((s[p]'hp).toNat : Int) < 192 ∨ (248 : Int) ≤ ((s[p]'hp).toNat : Int)) :
    Calls Tryd.prog 37 #[.string s, .int .i64 (p : Int)] w (NextSays (s.data.toList.drop p) w) := by
  have hb0 : (s[p]'hp).toNat = _ := byte_at s p 0 hp
  have HD := Lib.hid (dc_bad (l := s.data.toList.drop p) (by rw [← hb0]; omega) (by rw [← hb0]; omega))
  clear hb0
  have h0 : (0 : Int) ≤ (p : Int) := by omega
  have hs1 : s.size ≤ 100000000 := hs
  have h3 : ((s[p]'hp).toNat : Int) < 256 := by
    have := (s[p]'hp).toNat_lt
    omega
  rcases h' with h' | h'
  all_goals
    go_enter Tryd.func37, Tryd.ntmps37
    go_wp2
    go_ret2
    refine ⟨?_, rfl⟩
    rw [HD.out]
    rfl

theorem next_any (s : ByteArray) (p : Nat) (w : World) (hp : p < s.size) (hs : s.size ≤ 100000000) :
    Calls Tryd.prog 37 #[.string s, .int .i64 (p : Int)] w (NextSays (s.data.toList.drop p) w) := by
  have hb := (s[p]'hp).toNat_lt
  by_cases h1 : (s[p]'hp).toNat < 128
  · exact next_ascii s p w hp hs (by omega)
  · by_cases h2 : (s[p]'hp).toNat < 192 ∨ 248 ≤ (s[p]'hp).toNat
    · exact next_bad s p w hp hs (by omega) (by omega)
    · by_cases h3 : (s[p]'hp).toNat < 224
      · exact next_1 s p w hp hs (by omega) (by omega)
      · by_cases h4 : (s[p]'hp).toNat < 240
        · exact next_2 s p w hp hs (by omega) (by omega)
        · exact next_3 s p w hp hs (by omega) (by omega)
end Go.Proofs.YtbofkndkgdnbmaaDoor

/-
  Own text. The walks over the document's Clean, Right, fold, Fold.
-/
import Derived.Test.YtbofkndkgdnbmaaDoorRefE
namespace Go.Proofs.YtbofkndkgdnbmaaDoor
open Go.RowKit

set_option maxHeartbeats 1000000 in
set_option maxRecDepth 10000 in
theorem rcleans_any (s : ByteArray) (w : World) (hs : s.size ≤ 100000000) : Calls Tryd.prog 12 #[.string s] w (Mk (.string (tx (cleanR (R s)))) w) := by
  have HV := Lib.hid (R_vr s)
  have HL := Lib.hid (show (R s).length ≤ 100000000 by have := R_len s; omega)
  have HL2 := Lib.hid (show (cleanR (R s)).length ≤ 100000000 by have := R_len s; have := clean_len (R s); omega)
  have HV2 := Lib.hid (clean_vr (R_vr s))
  go_enter Tryd.func12, Tryd.ntmps12
  go_wp2_with fail
  refine (rrunes_any s _ hs).mono ?_
  rintro e w1 ⟨A, c, rfl, ho, hb⟩
  have HO := Lib.hid ho
  have HB := Lib.hid hb
  clear ho hb
  go_wp2_with fail
  refine (rclean_any A (R s) _ c _ HO.out.ints rfl HV.out HL.out).mono ?_
  rintro e w2 ⟨A2, c2, rfl, ho, hb⟩
  have HO2 := Lib.hid ho
  have HB2 := Lib.hid hb
  clear ho hb
  go_wp2_with fail
  refine (of_any A2 (cleanR (R s)) _ c2 _ HO2.out.ints rfl HV2.out HL2.out).mono ?_
  rintro e w3 ⟨rfl, hb⟩
  have HB3 := Lib.hid hb
  clear hb
  go_wp2_with fail
  go_ret
  exact ⟨rfl, (HB.out.trans (HB2.out.mono HB.out.size)).trans (HB3.out.mono (Nat.le_trans HB.out.size HB2.out.size))⟩

set_option maxHeartbeats 1000000 in
set_option maxRecDepth 10000 in
theorem rright_any (s : ByteArray) (most : Int) (w : World) (hs : s.size ≤ 100000000) : Calls Tryd.prog 17 #[.string s, .int .i64 most] w (Mk (.bool (rightB s most)) w) := by
  by_cases h : ((tx (cleanR (R s))).toList == s.toList) = true
  · have hrb : rightB s most = decide (((R s).length : Int) ≤ most) := by unfold rightB; rw [h, Bool.and_true]
    rw [hrb]
    go_enter Tryd.func17, Tryd.ntmps17
    go_wp2_with fail
    refine (rcleans_any s _ hs).mono ?_
    rintro e w1 ⟨rfl, hw1⟩
    have HW1 := Lib.hid hw1
    clear hw1 hrb
    go_wp2_with fail
    refine (rrunes_any s _ hs).mono ?_
    rintro e w2 ⟨A, c, rfl, _, hw2⟩
    have HW2 := Lib.hid hw2
    clear hw2
    go_wp2_with fail
    go_ret
    exact ⟨rfl, HW1.out.trans (HW2.out.mono HW1.out.size)⟩
  · have h' : ((tx (cleanR (R s))).toList == s.toList) = false := by simpa using h
    clear h
    have hrb : rightB s most = false := by unfold rightB; rw [h', Bool.and_false]
    rw [hrb]
    clear hrb
    go_enter Tryd.func17, Tryd.ntmps17
    go_wp2_with fail
    refine (rcleans_any s _ hs).mono ?_
    rintro e w1 ⟨rfl, hw1⟩
    have HW1 := Lib.hid hw1
    clear hw1
    go_wp2_with fail
    go_ret
    exact ⟨rfl, HW1.out⟩

/-- One number in place. -/
theorem Own.set_ {B : Nat} {w : World} {A : Option Addr} {n c : Nat} {rs : List Nat} (h : Own B w (.slice A n c) rs) {k : Nat} (hk : k < n) (r : Nat) :
    ∃ g, A = some ⟨g, 0, none⟩ ∧ B ≤ g ∧ w.frozen? ⟨g, k, none⟩ = false ∧ Own B (w.setCell ⟨g, k, none⟩ (ival r)) (.slice A n c) (rs.set k r) := by
  rcases h.2 with ⟨hv, h0⟩ | ⟨g, cap, cur, hv, hB, hg, hnc, hcm, hcs, htake⟩
  · injection hv with h1 h2 h3
    omega
  · injection hv with h1 h2 h3
    subst h1
    subst h2
    subst h3
    refine ⟨g, rfl, hB, ?_, ?_⟩
    · simp [World.frozen?, hg]
    · have hset : (w.setCell ⟨g, k, none⟩ (ival r)).heap[g]? = some (.cells (cur.setIfInBounds k (ival r)) 3 (0, 0)) := by
        simp [World.setCell, Array.getElem?_modify, hg]
      refine ⟨by simp, .inr ⟨g, _, _, by rw [List.length_set], hB, hset, by rw [List.length_set]; exact hnc, hcm, by simpa using hcs, ?_⟩⟩
      rw [Array.toList_setIfInBounds, List.take_set, List.length_set, htake, List.map_set]

set_option maxHeartbeats 1000000 in
set_option maxRecDepth 10000 in
theorem rfold_any (s : ByteArray) (w : World) (hs : s.size ≤ 100000000) : Calls Tryd.prog 40 #[.string s] w (MkInts ((R s).map smallN) w) := by
  have HV := Lib.hid (R_vr s)
  have HL := Lib.hid (show (R s).length ≤ 100000000 by have := R_len s; omega)
  go_enter Tryd.func40, Tryd.ntmps40
  go_wp2_with fail
  refine (rrunes_any s _ hs).mono ?_
  rintro e w1 ⟨A, c, rfl, ho, hb⟩
  generalize hrs : R s = rs at ho HV HL
  have HRS := Lib.hid hrs
  have HO := Lib.hid ho
  have HB := Lib.hid hb
  clear ho hb hrs
  go_wp2_with fail
  go_loopw [4] (fun i wr => ∃ k : Nat, k ≤ rs.length ∧ i = .int .i64 k ∧ Own w.heap.size wr (.slice A rs.length c) ((rs.take k).map smallN ++ rs.drop k) ∧ Below w.heap.size w wr) (fun i _ => rs.length - (intOf i).toNat)
  case atStart => exact ⟨0, Nat.zero_le _, rfl, by simpa using HO.out, HB.out⟩
  case round =>
    obtain ⟨k, hk, rfl, hown, hb⟩ := hrel
    have HB2 := Lib.hid hb
    have HO2 := Lib.hid hown
    clear hb hown
    have k0 : (0 : Int) ≤ (k : Int) := by omega
    have k1 : (k : Int) ≤ 100000000 := by have := HL.out; omega
    by_cases hlt : k < rs.length
    · have hr := vr_le (HV.out _ (List.getElem_mem hlt))
      have hget : ((rs.take k).map smallN ++ rs.drop k)[k]? = some rs[k] := by
        have hlen : ((rs.take k).map smallN).length = k := by rw [List.length_map, List.length_take]; omega
        rw [List.getElem?_append_right (by omega), hlen, Nat.sub_self, List.getElem?_drop, Nat.add_zero, List.getElem?_eq_getElem hlt]
      have hstep : ((rs.take k).map smallN ++ rs.drop k).set k (smallN rs[k]) = (rs.take (k + 1)).map smallN ++ rs.drop (k + 1) := by
        have hlen : ((rs.take k).map smallN).length = k := by rw [List.length_map, List.length_take]; omega
        rw [List.set_append_right _ _ (by omega), hlen, Nat.sub_self, List.drop_eq_getElem_cons hlt, List.set_cons_zero, List.take_succ_eq_append_getElem hlt, List.map_append]
        simp
      obtain ⟨b, o, hA, hcl⟩ := HO2.out.ints (by simp; omega)
      have hcell := hcl k _ hget
      unfold ival at hcell
      obtain ⟨g, hA2, hBg, hfz, hset⟩ := HO2.out.set_ hlt (smallN rs[k])
      rw [hA] at hA2
      injection hA2 with hA2
      injection hA2 with e1 e2 e3
      subst e1
      subst e2
      subst hA
      rw [Nat.zero_add] at hcell
      rw [hstep] at hset
      have HSET := Lib.hid hset
      generalize rs[k] = r at hcell hr HSET
      clear hget hstep hcl hset
      go_wp2_with (go_at_call 54; refine (low_any r hr _).mono ?_; rintro e w' ⟨rfl, rfl⟩)
      go_roundw
      case rel => exact ⟨k + 1, by omega, by go_num, HSET.out, HB2.out.setCell (p := ⟨b, k, none⟩) hBg _⟩
      case measure => simp [intOf]; omega
    · obtain rfl : k = rs.length := by omega
      go_wp2
      go_ret
      have h := HO2.out
      rw [List.take_length, List.drop_length, List.append_nil] at h
      refine ⟨A, c, ?_, ?_, HB2.out⟩
      · rw [HRS.out, List.length_map]
        rfl
      · rw [HRS.out, List.length_map]
        exact h

set_option maxHeartbeats 1000000 in
set_option maxRecDepth 10000 in
theorem rfolds_any (s : ByteArray) (w : World) (hs : s.size ≤ 100000000) : Calls Tryd.prog 21 #[.string s] w (Mk (.string (tx ((R s).map smallN))) w) := by
  have HL := Lib.hid (show (R s).length ≤ 100000000 by have := R_len s; omega)
  have HV := Lib.hid (map_vr (R_vr s))
  go_enter Tryd.func21, Tryd.ntmps21
  go_wp2_with fail
  refine (rfold_any s _ hs).mono ?_
  rintro e w1 ⟨A, c, rfl, ho, hb⟩
  have HO := Lib.hid ho
  have HB := Lib.hid hb
  clear ho hb
  go_wp2_with fail
  refine (of_any A ((R s).map smallN) (R s).length c _ ?_ (List.length_map _) HV.out HL.out).mono ?_
  · have h := HO.out
    rw [List.length_map] at h
    exact h.ints
  rintro e w3 ⟨rfl, hb⟩
  have HB3 := Lib.hid hb
  clear hb
  go_wp2_with fail
  go_ret
  exact ⟨rfl, HB.out.trans (HB3.out.mono HB.out.size)⟩
end Go.Proofs.YtbofkndkgdnbmaaDoor

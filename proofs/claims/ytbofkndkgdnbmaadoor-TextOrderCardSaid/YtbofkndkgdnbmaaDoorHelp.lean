/-
  Own text. The walks over the helps: Texts, Place; over the document's Less.
-/
import Derived.Test.YtbofkndkgdnbmaaDoorTextC
import Derived.Test.YtbofkndkgdnbmaaDoorTextD
import Derived.Test.YtbofkndkgdnbmaaDoorRefF
namespace Go.Proofs.YtbofkndkgdnbmaaDoor
open Go.RowKit

set_option maxHeartbeats 1000000 in
set_option maxRecDepth 10000 in
/-- Two lists of the same texts. -/
theorem texts_any (A B : Option Addr) (ws : List ByteArray) (n c d : Nat) (w : World) (hA : Strs w A ws) (hB : Strs w B ws) (hn : ws.length = n) (hl : n ≤ 100000000) : Calls Tryd.prog 23 #[.slice A n c, .slice B n d] w (Mk (.bool true) w) := by
  have HA := Lib.hid hA
  have HB := Lib.hid hB
  have HN := Lib.hid hn
  clear hA hB hn
  go_enter Tryd.func23, Tryd.ntmps23
  go_wp2
  go_loopw [5] (fun i wr => ∃ k : Nat, k ≤ n ∧ i = .int .i64 k ∧ Below w.heap.size w wr) (fun i _ => n - (intOf i).toNat)
  case atStart => exact ⟨0, Nat.zero_le _, rfl, Below.refl _ _⟩
  case round =>
    obtain ⟨k, hk, rfl, hb⟩ := hrel
    have HW := Lib.hid hb
    clear hb
    have k0 : (0 : Int) ≤ (k : Int) := by omega
    by_cases hlt : k < n
    · obtain ⟨b1, o1, rfl, hc1⟩ := (HA.out.below HW.out) (by rw [HN.out]; omega)
      obtain ⟨b2, o2, rfl, hc2⟩ := (HB.out.below HW.out) (by rw [HN.out]; omega)
      obtain ⟨s, hs⟩ : ∃ s, ws[k]? = some s := ⟨_, List.getElem?_eq_getElem (by rw [HN.out]; exact hlt)⟩
      have c1 := hc1 k s hs
      have c2 := hc2 k s hs
      have i1 : (k : Int) < (n : Int) := by omega
      clear hc1 hc2 hs
      go_wp2_with fail
      go_quiet (fail)
      go_wp2_with fail
      go_roundw
      case rel => exact ⟨k + 1, by omega, by go_num, HW.out.trans ((drawn _ _).mono HW.out.size)⟩
      case measure => simp [intOf]; omega
    · obtain rfl : k = n := by omega
      go_wp2
      go_ret
      exact ⟨rfl, HW.out⟩

theorem tmod_emod (k n : Int) : k % n = k.tmod n % n := by
  have h := Int.tmod_add_mul_tdiv k n
  rw [← h, Int.add_mul_emod_self_left, h]

set_option maxHeartbeats 400000 in
theorem place_any (k n : Int) (w : World) (hk : 0 ≤ k) (hn : 0 < n) (hn' : n ≤ 4611686018427387904) :
    Calls Tryd.prog 26 #[.int .i64 k, .int .i64 n] w (Says (.int .i64 (k % n)) w) := by
  have ht : k.tmod n = k % n := Int.tmod_eq_emod_of_nonneg hk
  have hb := Int.emod_nonneg k (show n ≠ 0 by omega)
  have hb2 : (0 : Int) ≤ k.tmod n := by rw [ht]; exact hb
  have HT := Lib.hid ht
  have HB := Lib.hid hb
  clear ht hb
  go_enter Tryd.func26, Tryd.ntmps26
  go_wp2
  all_goals
    first
      | (exfalso; have := HB.out; omega)
      | (go_ret; exact ⟨by first | (exact ret_int HT.out) | rfl, rfl⟩)

set_option maxHeartbeats 1000000 in
set_option maxRecDepth 10000 in
theorem rless_any (a b : ByteArray) (w : World) (ha : a.size ≤ 100000000) (hb : b.size ≤ 100000000) : Calls Tryd.prog 28 #[.string a, .string b] w (Mk (.bool (lessT a.data.toList b.data.toList)) w) := by
  have HLX := Lib.hid (show ((R a).map smallN).length ≤ 100000000 by have := R_len a; rw [List.length_map]; omega)
  have HLY := Lib.hid (show ((R b).map smallN).length ≤ 100000000 by have := R_len b; rw [List.length_map]; omega)
  have HFA := Lib.hid (fun w1 => rfold_any a w1 ha)
  have HFB := Lib.hid (fun w1 => rfold_any b w1 hb)
  generalize hx : (R a).map smallN = x at HLX HFA
  generalize hy : (R b).map smallN = y at HLY HFB
  have HF := Lib.hid (less_facts hx hy)
  generalize hT : lessT a.data.toList b.data.toList = T at HF
  clear hx hy hT
  go_enter Tryd.func28, Tryd.ntmps28
  go_wp2_with fail
  refine (HFA.out _).mono ?_
  rintro e w1 ⟨A1, cx, rfl, ho, hw1⟩
  have HO1 := Lib.hid ho.ints
  have HW1 := Lib.hid hw1
  clear ho hw1
  go_wp2_with fail
  refine (HFB.out _).mono ?_
  rintro e w2 ⟨A2, cy, rfl, ho, hw2⟩
  have HO2 := Lib.hid ho.ints
  have HO1' := Lib.hid (HO1.out.below hw2)
  have HW2 := Lib.hid (HW1.out.trans (hw2.mono HW1.out.size))
  clear ho hw2 HW1 HO1
  obtain ⟨m, hm⟩ : ∃ m, m = min x.length y.length := ⟨_, rfl⟩
  rw [LessFacts, ← hm] at HF
  have HM := Lib.hid hm
  clear hm
  go_wp2_with fail
  go_loopw [7] (fun i wr => ∃ k : Nat, k ≤ m ∧ i = .int .i64 k ∧ x.take k = y.take k ∧ Ints wr A1 x ∧ Ints wr A2 y ∧ Below w.heap.size w wr) (fun i _ => m - (intOf i).toNat)
  case atStart => exact ⟨0, Nat.zero_le _, rfl, rfl, HO1'.out, HO2.out, HW2.out⟩
  case round =>
    obtain ⟨k, hk, rfl, htk, hr1, hr2, hbw⟩ := hrel
    have HTK := Lib.hid htk
    have HR1 := Lib.hid hr1
    have HR2 := Lib.hid hr2
    have HBW := Lib.hid hbw
    clear htk hr1 hr2 hbw HO1' HO2 HW2
    have k0 : (0 : Int) ≤ (k : Int) := by omega
    have hmx : m ≤ 100000000 := by have := HM.out; have := HLX.out; omega
    by_cases hlt : k < m
    · have i1 : (k : Int) < (x.length : Int) := by have := HM.out; omega
      have i2 : (k : Int) < (y.length : Int) := by have := HM.out; omega
      obtain ⟨u, hu⟩ : ∃ u, x[k]? = some u := ⟨_, List.getElem?_eq_getElem (by omega)⟩
      obtain ⟨v, hv⟩ : ∃ v, y[k]? = some v := ⟨_, List.getElem?_eq_getElem (by omega)⟩
      obtain ⟨b1, o1, hA1, hc1⟩ := HR1.out (by omega)
      obtain ⟨b2, o2, hA2, hc2⟩ := HR2.out (by omega)
      have c1 := hc1 k u hu
      have c2 := hc2 k v hv
      unfold ival at c1 c2
      subst hA1
      subst hA2
      have HU := Lib.hid hu
      have HV := Lib.hid hv
      clear hu hv hc1 hc2
      by_cases huv : u = v
      · subst huv
        go_wp2_with fail
        go_quiet (fail)
        go_wp2_with fail
        go_roundw
        case rel =>
          refine ⟨k + 1, by omega, by go_num, ?_, HR1.out.below (drawn _ _), HR2.out.below (drawn _ _), HBW.out.trans ((drawn _ _).mono HBW.out.size)⟩
          rw [List.take_add_one, List.take_add_one, HTK.out, HU.out, HV.out]
        case measure => simp [intOf]; omega
      · have hne : ((u : Int) != (v : Int)) = true := by simp; omega
        have HT := Lib.hid (HF.out.1 k u v HTK.out HU.out HV.out huv)
        clear huv
        go_wp2_with fail
        go_quiet (fail)
        go_wp2_with fail
        go_quiet (fail)
        go_wp2_with fail
        go_ret
        refine ⟨by rw [HT.out]; rfl, ?_⟩
        exact HBW.out.trans (((drawn wr _).trans (drawn (wr.drewN _) _)).mono HBW.out.size)
    · obtain rfl : k = m := by omega
      have hxy3 : x.length = k ∨ (k < x.length ∧ y.length = k) := by have := HM.out; omega
      by_cases hxy : x.length = y.length
      · have HT := Lib.hid (HF.out.2.2 HTK.out hxy)
        have hxy' : ((x.length : Int) != (y.length : Int)) = false := by simp; omega
        have e1 : decide (k < x.length) = false := by have := HM.out; simp; omega
        have e2 : decide ((k : Int) < (x.length : Int)) = false := by have := HM.out; simp; omega
        clear hxy hxy3
        go_wp2_with fail
        go_ret
        refine ⟨?_, HBW.out⟩
        rw [HT.out]
        simp only [ByteArray.toList_eq]
        rfl
      · have HT := Lib.hid (HF.out.2.1 HTK.out hxy)
        have hxy' : ((x.length : Int) != (y.length : Int)) = true := by simp; omega
        clear hxy
        rcases hxy3 with e | ⟨e1, e2⟩
        · have e1 : decide (k < x.length) = false := by simp; omega
          have e2 : decide ((k : Int) < (x.length : Int)) = false := by simp; omega
          clear e
          go_wp2_with fail
          go_ret
          refine ⟨?_, HBW.out⟩
          rw [HT.out]
          rfl
        · have e3 : (k : Int) < (x.length : Int) := by omega
          have e4 : decide (k < y.length) = false := by simp; omega
          have e5 : decide ((k : Int) < (y.length : Int)) = false := by simp; omega
          clear e1 e2
          go_wp2_with fail
          go_ret
          refine ⟨?_, HBW.out⟩
          rw [HT.out]
          rfl
end Go.Proofs.YtbofkndkgdnbmaaDoor

/-
  Own text. The walk over the law TextCuts.
-/
import Derived.Test.YtbofkndkgdnbmaaDoorLawTwice
import Derived.Test.YtbofkndkgdnbmaaDoorLawCleans
import Derived.Test.YtbofkndkgdnbmaaDoorRefG
namespace Go.Proofs.YtbofkndkgdnbmaaDoor
open Go.RowKit

set_option maxHeartbeats 2000000 in
set_option maxRecDepth 10000 in
theorem cuts_long (s : ByteArray) (A : Option Addr) (n c : Nat) (most k : Int) (w : World) (h : 3000 < s.size ∨ 1000 < n) : Calls Tryd.prog 5 #[.string s, .slice A n c, .int .i64 most, .int .u8 k] w (Mk (.bool true) w) := by
  by_cases h1 : 3000 < s.size
  · have g1 : decide ((3000 : Int) < (s.size : Int)) = true := by simp; omega
    clear h
    go_enter Tryd.func5, Tryd.ntmps5
    go_wp2_with (go_at_call 10; refine (known_any _).mono ?_; rintro e w1 ⟨rfl, hw⟩; have HW := Lib.hid hw; clear hw)
    go_ret
    exact ⟨rfl, HW.out⟩
  · have g1 : decide ((3000 : Int) < (s.size : Int)) = false := by simp; omega
    have g2 : decide ((1000 : Int) < (n : Int)) = true := by simp; omega
    clear h h1
    go_enter Tryd.func5, Tryd.ntmps5
    go_wp2_with (go_at_call 10; refine (known_any _).mono ?_; rintro e w1 ⟨rfl, hw⟩; have HW := Lib.hid hw; clear hw)
    go_ret
    exact ⟨rfl, HW.out⟩

/-- What a cut text is, once for all. -/
theorem cut_facts {l : List Nat} (hg : Good l) (hv : ∀ r ∈ l, vr r) (n : Nat) : Good (cutR l n) ∧ (∀ r ∈ cutR l n, vr r) ∧ (cutR l n).length ≤ n ∧ (cutR l n).length ≤ l.length ∧ (tx (cutR l n)).size ≤ (tx l).size ∧ (tx l).extract 0 (tx (cutR l n)).size = tx (cutR l n) := by
  obtain ⟨t, ht⟩ := cut_prefix l n
  have hlen := cut_len l n
  refine ⟨cut_good hg n, fun r hr => hv r (by rw [ht]; exact List.mem_append_left _ hr), hlen.1, hlen.2, ?_, ?_⟩
  · rw [tx_size', tx_size']
    conv => rhs; rw [ht]
    rw [E_append, List.length_append]
    omega
  · apply bytes_ext
    rw [ByteArray.data_extract, Array.toList_extract, tx_data, tx_data, tx_size']
    unfold List.extract
    rw [List.drop_zero, Nat.sub_zero]
    generalize hq : cutR l n = q at ht ⊢
    clear hq
    rw [ht, E_append, List.take_left]

set_option maxHeartbeats 4000000 in
set_option maxRecDepth 10000 in
theorem cuts_law (s : ByteArray) (A : Option Addr) (zs : List Nat) (n c : Nat) (most k : Int) (w : World) (hA : Nums w A zs) (hn : zs.length = n) (hs : s.size ≤ 3000) (hx : n ≤ 1000) (hm0 : -9223372036854775808 ≤ most) (hm1 : most ≤ 9223372036854775807) (hk0 : 0 ≤ k) (hk1 : k ≤ 255) : Calls Tryd.prog 5 #[.string s, .slice A n c, .int .i64 most, .int .u8 k] w (Mk (.bool true) w) := by
  have HA := Lib.hid hA
  have HN := Lib.hid hn
  have HM := Lib.hid (And.intro hm0 hm1)
  clear hA hn hm0 hm1
  have g1 : decide ((3000 : Int) < (s.size : Int)) = false := by simp; omega
  have g2 : decide ((1000 : Int) < (n : Int)) = false := by simp; omega
  go_enter Tryd.func5, Tryd.ntmps5
  go_wp2_with fail
  refine (known_any _).mono ?_
  rintro e w1 ⟨rfl, hw⟩
  have HW1 := Lib.hid hw
  clear hw
  go_wp2_with fail
  refine (seat_any A zs n c _ (HA.out.below HW1.out) HN.out (by omega)).mono ?_
  rintro e w2 ⟨rs, rfl, hv, hl, hw⟩
  have HW2 := Lib.hid (HW1.out.trans (hw.mono HW1.out.size))
  have hts := (tx_size rs).2
  have HSZ := Lib.hid (show (tx rs ++ s).size ≤ 7000 by rw [size_add]; omega)
  have HNS := Lib.hid (no_sum (a := tx rs) (b := s) (by omega) (by omega))
  clear hw hv hl hts HW1 g1 g2
  go_wp2_with fail
  all_goals
    first
      | (exact absurd (by assumption) HNS.out)
      | skip
  clear HNS
  generalize tx rs ++ s = S at HSZ ⊢
  have HG := Lib.hid (clean_good (R S))
  have HV := Lib.hid (clean_vr (R_vr S))
  have HLL := Lib.hid (show (cleanR (R S)).length ≤ 7000 by have := clean_len (R S); have := R_len S; have := HSZ.out; omega)
  have HC := Lib.hid (fun (z : Int) (w1 : World) => cut_any S z w1 (by have := HSZ.out; omega))
  have HRC := Lib.hid (fun (z : Int) (w1 : World) => rcut_any S z w1 (by have := HSZ.out; omega))
  refine (clean_any S _ (by have := HSZ.out; omega)).mono ?_
  intro e w3 h3
  obtain ⟨rfl, hw⟩ := Mk.after HW2.out h3
  have HW3 := Lib.hid hw
  clear hw h3 HW2
  generalize cleanR (R S) = l at HG HV HLL HC HRC ⊢
  go_wp2_with fail
  refine (runes_tx HV.out (by have := HLL.out; omega) _).mono ?_
  intro e w4 h3
  obtain ⟨rfl, hw⟩ := Mk.after HW3.out h3
  have HW4 := Lib.hid hw
  clear hw h3 HW3
  go_wp2_with fail
  have k80 : (0 : Int) ≤ k % 8 := by omega
  have k81 : k % 8 ≤ 255 := by omega
  obtain ⟨L, hL⟩ : ∃ L : Int, L = (l.length : Int) := ⟨_, rfl⟩
  have HLE := Lib.hid hL
  have L1 : L ≤ 7000 := by have := HLL.out; omega
  have L0 : 0 ≤ L := by omega
  rw [← hL]
  obtain ⟨k8, hk8⟩ : ∃ k8 : Int, k8 = k % 8 := ⟨_, rfl⟩
  rw [← hk8] at k80 k81 ⊢
  obtain ⟨vs, hvs⟩ : ∃ vs, vs = [most, k, k8, L] := ⟨_, rfl⟩
  have HVB := Lib.hid (show ∀ v ∈ vs, -9223372036854775808 ≤ v ∧ v ≤ 9223372036854775807 by
    intro v hv
    rw [hvs] at hv
    simp only [List.mem_cons, List.mem_nil_iff, or_false] at hv
    have := HM.out
    rcases hv with rfl | rfl | rfl | rfl <;> omega)
  have HVL := Lib.hid (show vs.length = 4 by rw [hvs]; rfl)
  have HNO := Lib.hid (show Nos (w4.alloc (.cells #[.int .i64 most, .int .i64 k, .int .i64 k8, .int .i64 L] 3)) w4.heap.size vs by
    intro j v hj
    rw [World.cell?_alloc_new]
    rw [hvs] at hj
    match j, hj with
    | 0, hj => simp only [List.getElem?_cons_zero, Option.some.injEq] at hj; subst hj; rfl
    | 1, hj => simp only [List.getElem?_cons_succ, List.getElem?_cons_zero, Option.some.injEq] at hj; subst hj; rfl
    | 2, hj => simp only [List.getElem?_cons_succ, List.getElem?_cons_zero, Option.some.injEq] at hj; subst hj; rfl
    | 3, hj => simp only [List.getElem?_cons_succ, List.getElem?_cons_zero, Option.some.injEq] at hj; subst hj; rfl
    | j + 4, hj => simp at hj)
  have HB0 := Lib.hid (HW4.out.alloc HW4.out.size (.cells #[.int .i64 most, .int .i64 k, .int .i64 k8, .int .i64 L] 3))
  obtain ⟨g, hg⟩ : ∃ g, g = w4.heap.size := ⟨_, rfl⟩
  rw [← hg] at HNO ⊢
  clear hvs hg hL hk8 HW4 k80 k81 L0 L1 hk0 hk1
  go_loopw [39] (fun i wr => ∃ j : Nat, j ≤ 4 ∧ i = .int .i64 j ∧ Nos wr g vs ∧ Below w.heap.size w wr) (fun i _ => 4 - (intOf i).toNat)
  case atStart => exact ⟨0, by omega, rfl, HNO.out, HB0.out⟩
  case round =>
    obtain ⟨j, hj, rfl, hno, hb⟩ := hrel
    have HN1 := Lib.hid hno
    have HB := Lib.hid hb
    clear hno hb HNO HB0
    have j0 : (0 : Int) ≤ (j : Int) := by omega
    by_cases hlt : j < 4
    · obtain ⟨z, hz⟩ : ∃ z, vs[j]? = some z := ⟨_, List.getElem?_eq_getElem (by rw [HVL.out]; exact hlt)⟩
      have hcell := HN1.out j z hz
      have HZ := Lib.hid (HVB.out z (List.mem_of_getElem? hz))
      obtain ⟨f1, f2, f3, f4, f5, f6⟩ := cut_facts HG.out HV.out z.toNat
      have HCZ := Lib.hid (fun w1 => HC.out z w1 HZ.out.1 HZ.out.2)
      have HRZ := Lib.hid (HRC.out z)
      have HCC := Lib.hid (show ∀ w1, Calls Tryd.prog 18 #[.string (tx (cutR l z.toNat)), .int .i64 z] w1 (Mk (.string (tx (cutR l z.toNat))) w1) from fun w1 => by
        have h := cut_any (tx (cutR l z.toNat)) z w1 (by have := (tx_size (cutR l z.toNat)).2; have := HLL.out; omega) HZ.out.1 HZ.out.2
        rw [R_tx f2, clean_id f1, cut_cut HG.out] at h
        exact h)
      have HRI := Lib.hid (show ∀ w1, Calls Tryd.prog 16 #[.string (tx (cutR l z.toNat)), .int .i64 (max z 0)] w1 (Mk (.bool true) w1) from fun w1 => right_tx f1 f2 (by have := HLL.out; omega) _ (by omega) w1)
      clear hz f1 f2 f3 f4
      generalize tx (cutR l z.toNat) = q at HCZ HRZ HCC HRI f5 f6
      have i1 : (j : Int) < 4 := by omega
      have e1 : decide (((tx l).size : Int) < (q.size : Int)) = false := by simp; omega
      have e2 : (q.size : Int) ≤ ((tx l).size : Int) := by omega
      have HE := Lib.hid f6
      clear f5 f6
      go_wp2_with fail
      refine (HCZ.out _).mono ?_
      intro e w5 h3
      obtain ⟨rfl, hw⟩ := Mk.after HB.out h3
      have HN5 := Lib.hid (HN1.out.below h3.2)
      have HB5 := Lib.hid hw
      clear hw h3 hcell HB HN1
      go_wp2_with fail
      refine (HRZ.out _).mono ?_
      intro e w6 h3
      obtain ⟨rfl, hw⟩ := Mk.after HB5.out h3
      have HN6 := Lib.hid (HN5.out.below h3.2)
      have HB6 := Lib.hid hw
      clear hw h3 HB5 HN5
      go_wp2_with fail
      refine (HRI.out _).mono ?_
      intro e w7 h3
      obtain ⟨rfl, hw⟩ := Mk.after HB6.out h3
      have HN7 := Lib.hid (HN6.out.below h3.2)
      have HB7 := Lib.hid hw
      clear hw h3 HB6 HN6
      go_wp2_with fail
      · refine (HCC.out _).mono ?_
        intro e w8 h3
        obtain ⟨rfl, hw⟩ := Mk.after HB7.out h3
        have HN8 := Lib.hid (HN7.out.below h3.2)
        have HB8 := Lib.hid hw
        clear hw h3 HB7 HN7
        go_wp2_with fail
        go_roundw
        case rel => exact ⟨j + 1, by omega, by go_num, HN8.out, HB8.out⟩
        case measure => simp [intOf]; omega
      · exact absurd (by rw [HE.out]) (show ¬ ((tx l).extract 0 q.size).toList = q.toList by assumption)
    · obtain rfl : j = 4 := by omega
      go_wp2_with fail
      refine (runes_tx HV.out (by have := HLL.out; omega) _).mono ?_
      intro e w5 h3
      obtain ⟨rfl, hw⟩ := Mk.after HB.out h3
      have HB5 := Lib.hid hw
      clear hw h3
      have HCL := Lib.hid (show ∀ w1, Calls Tryd.prog 18 #[.string S, .int .i64 (l.length : Int)] w1 (Mk (.string (tx l)) w1) from fun w1 => by
        have h := HC.out (l.length : Int) w1 (by omega) (by have := HLL.out; omega)
        rw [Int.toNat_natCast, cut_all HG.out (Nat.le_refl _)] at h
        exact h)
      go_wp2_with fail
      refine (HCL.out _).mono ?_
      intro e w6 h3
      obtain ⟨rfl, hw⟩ := Mk.after HB5.out h3
      have HB6 := Lib.hid hw
      clear hw h3
      go_wp2_with fail
      go_ret
      exact ⟨rfl, HB6.out⟩
end Go.Proofs.YtbofkndkgdnbmaaDoor

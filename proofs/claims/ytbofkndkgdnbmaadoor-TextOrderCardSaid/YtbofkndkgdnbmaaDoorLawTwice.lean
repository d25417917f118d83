/-
  Own text. The walk over the law TextTwice.
-/
import Derived.Test.YtbofkndkgdnbmaaDoorLawFolds
namespace Go.Proofs.YtbofkndkgdnbmaaDoor
open Go.RowKit

theorem R_blank (a b : ByteArray) : R (a ++ ⟨#[32]⟩ ++ b) = R a ++ 32 :: R b := by
  unfold R
  have h : (a ++ ⟨#[32]⟩ ++ b).data.toList = a.data.toList ++ 32 :: b.data.toList := by
    rw [ByteArray.data_append, ByteArray.data_append, Array.toList_append, Array.toList_append]
    simp
  rw [h]
  exact D_blank _ _
theorem tx_add (l m : List Nat) : tx l ++ tx m = tx (l ++ m) := by
  apply bytes_ext
  rw [ByteArray.data_append, Array.toList_append, tx_data, tx_data, tx_data, E_append]
theorem tx_32 : (⟨#[32]⟩ : ByteArray) = tx [32] := by kernel_rfl
theorem tx_blank (l m : List Nat) : tx l ++ ⟨#[32]⟩ ++ tx m = tx (l ++ 32 :: m) := by
  rw [tx_32, tx_add, tx_add, List.append_assoc]
  rfl
theorem tx_empty (l : List Nat) : (tx l).toList = [] ↔ l = [] := by
  rw [ByteArray.toList_eq, tx_data]
  exact E_ne

theorem clean_tx {l : List Nat} (hg : Good l) (hv : ∀ r ∈ l, vr r) (hl : l.length ≤ 1000000) (w : World) : Calls Tryd.prog 13 #[.string (tx l)] w (Mk (.string (tx l)) w) := by
  have h := clean_any (tx l) w (by have := (tx_size l).2; omega)
  rw [R_tx hv, clean_id hg] at h
  exact h
theorem runes_tx {l : List Nat} (hv : ∀ r ∈ l, vr r) (hl : l.length ≤ 1000000) (w : World) : Calls Tryd.prog 14 #[.string (tx l)] w (Mk (.int .i64 (l.length : Int)) w) := by
  have h := runes_any (tx l) w (by have := (tx_size l).2; omega)
  rw [R_tx hv] at h
  exact h
theorem right_tx {l : List Nat} (hg : Good l) (hv : ∀ r ∈ l, vr r) (hl : l.length ≤ 1000000) (n : Int) (hn : (l.length : Int) ≤ n) (w : World) : Calls Tryd.prog 16 #[.string (tx l), .int .i64 n] w (Mk (.bool true) w) := by
  have h := right_any (tx l) n w (by have := (tx_size l).2; omega)
  have e : rightB (tx l) n = true := by
    unfold rightB
    rw [R_tx hv, clean_id hg, decide_eq_true hn]
    simp
  rw [e] at h
  exact h

theorem clean_both {S b : ByteArray} {l m : List Nat} (h : ∀ w, Calls Tryd.prog 13 #[.string (S ++ ⟨#[32]⟩ ++ b)] w (Mk (.string (if l = [] ∨ m = [] then tx l ++ tx m else tx l ++ ⟨#[32]⟩ ++ tx m)) w)) :
    (l = [] ∨ m = [] → ∀ w, Calls Tryd.prog 13 #[.string (S ++ ⟨#[32]⟩ ++ b)] w (Mk (.string (tx l ++ tx m)) w)) ∧ (¬ (l = [] ∨ m = []) → ∀ w, Calls Tryd.prog 13 #[.string (S ++ ⟨#[32]⟩ ++ b)] w (Mk (.string (tx l ++ ⟨#[32]⟩ ++ tx m)) w)) := by
  refine ⟨fun e w => ?_, fun e w => ?_⟩
  · have := h w
    rw [if_pos e] at this
    exact this
  · have := h w
    rw [if_neg e] at this
    exact this

set_option maxHeartbeats 2000000 in
set_option maxRecDepth 10000 in
theorem twice_law (a b : ByteArray) (A : Option Addr) (zs : List Nat) (n c : Nat) (w : World) (hA : Nums w A zs) (hn : zs.length = n) (ha : a.size ≤ 2000) (hb : b.size ≤ 2000) (hx : n ≤ 1000) : Calls Tryd.prog 4 #[.string a, .string b, .slice A n c] w (Mk (.bool true) w) := by
  have HA := Lib.hid hA
  have HN := Lib.hid hn
  clear hA hn
  have g1 : decide ((2000 : Int) < (a.size : Int)) = false := by simp; omega
  have g2 : decide ((2000 : Int) < (b.size : Int)) = false := by simp; omega
  have g3 : decide ((1000 : Int) < (n : Int)) = false := by simp; omega
  have HGM := Lib.hid (clean_good (R b))
  have HVM := Lib.hid (clean_vr (R_vr b))
  have HLM := Lib.hid (show (cleanR (R b)).length ≤ 2000 by have := clean_len (R b); have := R_len b; omega)
  go_enter Tryd.func4, Tryd.ntmps4
  go_wp2_with fail
  refine (known_any _).mono ?_
  rintro e w1 ⟨rfl, hw⟩
  have HW1 := Lib.hid hw
  clear hw
  go_wp2_with fail
  refine (seat_any A zs n c _ (HA.out.below HW1.out) HN.out (by omega)).mono ?_
  rintro e w2 ⟨rs, rfl, hv, hl, hw⟩
  have HW2 := Lib.hid (HW1.out.trans (hw.mono HW1.out.size))
  have hts := (tx_size rs).2
  have HSZ := Lib.hid (show (a ++ tx rs).size ≤ 7000 by rw [size_add]; omega)
  have HNS := Lib.hid (no_sum (a := a) (b := tx rs) (by omega) (by omega))
  clear hw hv hl hts HW1 g1 g2 g3
  go_wp2_with fail
  all_goals
    first
      | (exact absurd (by assumption) HNS.out)
      | skip
  clear HNS
  generalize a ++ tx rs = S at HSZ ⊢
  have HG := Lib.hid (clean_good (R S))
  have HV := Lib.hid (clean_vr (R_vr S))
  have HLE := Lib.hid (clean_len (R S))
  have HLL := Lib.hid (show (cleanR (R S)).length ≤ 7000 by have := clean_len (R S); have := R_len S; have := HSZ.out; omega)
  have KB := Lib.hid (show ∀ w, Calls Tryd.prog 13 #[.string (S ++ ⟨#[32]⟩ ++ b)] w (Mk (.string (if cleanR (R S) = [] ∨ cleanR (R b) = [] then tx (cleanR (R S)) ++ tx (cleanR (R b)) else tx (cleanR (R S)) ++ ⟨#[32]⟩ ++ tx (cleanR (R b)))) w) from fun w => by
    have h := clean_any (S ++ ⟨#[32]⟩ ++ b) w (by rw [size_add, size_add]; have := HSZ.out; have : (ByteArray.mk #[32]).size = 1 := rfl; omega)
    rw [R_blank, clean_blank] at h
    by_cases e1 : cleanR (R S) = []
    · rw [if_pos e1] at h
      rw [if_pos (.inl e1), e1, tx_add]
      exact h
    · rw [if_neg e1] at h
      by_cases e2 : cleanR (R b) = []
      · rw [if_pos e2] at h
        rw [if_pos (.inr e2), e2, tx_add, List.append_nil]
        exact h
      · rw [if_neg e2] at h
        rw [if_neg (not_or.2 ⟨e1, e2⟩), tx_blank]
        exact h)
  have KN := Lib.hid (show ∀ w, Calls Tryd.prog 14 #[.string (S ++ ⟨#[32]⟩ ++ b)] w (Mk (.int .i64 (((R S).length : Int) + 1 + ((R b).length : Int))) w) from fun w => by
    have h := runes_any (S ++ ⟨#[32]⟩ ++ b) w (by rw [size_add, size_add]; have := HSZ.out; have : (ByteArray.mk #[32]).size = 1 := rfl; omega)
    rw [R_blank, List.length_append, List.length_cons] at h
    rw [show ((R S).length : Int) + 1 + ((R b).length : Int) = (((R S).length + ((R b).length + 1) : Nat) : Int) by omega]
    exact h)
  have HRS := Lib.hid (show (R S).length ≤ 7000 by have := R_len S; have := HSZ.out; omega)
  have HRB := Lib.hid (show (R b).length ≤ 2000 by have := R_len b; omega)
  go_wp2_with fail
  refine (clean_any S _ (by have := HSZ.out; omega)).mono ?_
  intro e w3 h3
  obtain ⟨rfl, hw⟩ := Mk.after HW2.out h3
  have HW3 := Lib.hid hw
  clear hw h3 HW2
  go_wp2_with fail
  refine (clean_any b _ (by omega)).mono ?_
  intro e w4 h3
  obtain ⟨rfl, hw⟩ := Mk.after HW3.out h3
  have HW4 := Lib.hid hw
  clear hw h3 HW3
  generalize cleanR (R S) = l at HG HV HLE HLL KB ⊢
  generalize cleanR (R b) = m at HGM HVM HLM KB ⊢
  have hts1 := tx_size l
  have hts2 := tx_size m
  have HS1 := Lib.hid (no_sum (a := tx l) (b := ⟨#[32]⟩) (by have := HLL.out; omega) (by decide))
  have HS2 := Lib.hid (show ¬ 9223372036854775807 < (tx l).size + 1 + (tx m).size by have := HLL.out; have := HLM.out; omega)
  have HS3 := Lib.hid (show ¬ 9223372036854775807 < S.size + 1 by have := HSZ.out; omega)
  have HS4 := Lib.hid (show ¬ 9223372036854775807 < S.size + 1 + b.size by have := HSZ.out; omega)
  have HS5 := Lib.hid (show ¬ 9223372036854775807 < (tx l).size + (tx m).size by have := HLL.out; have := HLM.out; omega)
  clear hts1 hts2
  go_wp2_with fail
  all_goals
    first
      | (exact absurd (by assumption) HS1.out)
      | (exact absurd (by assumption) HS2.out)
      | (exact absurd (by assumption) HS5.out)
      | skip
  all_goals
    have HKB := Lib.hid (clean_both KB.out)
    obtain ⟨k1, k2⟩ := HKB.out
    have x0 : (0 : Int) ≤ ((R S).length : Int) := by omega
    have x1 : ((R S).length : Int) ≤ 7000 := by have := HRS.out; omega
    have y0 : (0 : Int) ≤ ((R b).length : Int) := by omega
    have y1 : ((R b).length : Int) ≤ 2000 := by have := HRB.out; omega
    have hle : (l.length : Int) ≤ ((R S).length : Int) := by have := HLE.out; omega
    have HK1 := Lib.hid k1
    have HK2 := Lib.hid k2
    clear k1 k2
    refine (clean_tx HG.out HV.out (by have := HLL.out; omega) _).mono ?_
    intro e w5 h3
    obtain ⟨rfl, hw⟩ := Mk.after HW4.out h3
    have HW5 := Lib.hid hw
    clear hw h3 HW4
    go_wp2_with fail
    refine (runes_tx HV.out (by have := HLL.out; omega) _).mono ?_
    intro e w6 h3
    obtain ⟨rfl, hw⟩ := Mk.after HW5.out h3
    have HW6 := Lib.hid hw
    clear hw h3 HW5
    go_wp2_with fail
    refine (right_tx HG.out HV.out (by have := HLL.out; omega) _ (Int.le_refl _) _).mono ?_
    intro e w7 h3
    obtain ⟨rfl, hw⟩ := Mk.after HW6.out h3
    have HW7 := Lib.hid hw
    clear hw h3 HW6
    go_wp2_with fail
    refine (runes_tx HV.out (by have := HLL.out; omega) _).mono ?_
    intro e w8 h3
    obtain ⟨rfl, hw⟩ := Mk.after HW7.out h3
    have HW8 := Lib.hid hw
    clear hw h3 HW7
    go_wp2_with fail
    refine (runes_any S _ (by have := HSZ.out; omega)).mono ?_
    intro e w9 h3
    obtain ⟨rfl, hw⟩ := Mk.after HW8.out h3
    have HW9 := Lib.hid hw
    clear hw h3 HW8
    go_wp2_with fail
    all_goals
      first
        | (exact absurd (by assumption) HS3.out)
        | (exact absurd (by assumption) HS4.out)
        | skip
  · refine (HK1.out (Or.inl ((tx_empty l).1 (by assumption))) _).mono ?_
    intro e w10 h3
    obtain ⟨rfl, hw⟩ := Mk.after HW9.out h3
    have HW10 := Lib.hid hw
    clear hw h3 HW9
    go_wp2_with fail
    refine (KN.out _).mono ?_
    intro e w11 h3
    obtain ⟨rfl, hw⟩ := Mk.after HW10.out h3
    have HW11 := Lib.hid hw
    clear hw h3 HW10
    go_wp2_with fail
    refine (runes_any S _ (by have := HSZ.out; omega)).mono ?_
    intro e w12 h3
    obtain ⟨rfl, hw⟩ := Mk.after HW11.out h3
    have HW12 := Lib.hid hw
    clear hw h3 HW11
    go_wp2_with fail
    refine (runes_any b _ (by omega)).mono ?_
    intro e w13 h3
    obtain ⟨rfl, hw⟩ := Mk.after HW12.out h3
    have HW13 := Lib.hid hw
    clear hw h3 HW12
    go_wp2_with fail
    go_ret
    exact ⟨rfl, HW13.out⟩
  · refine (HK1.out (by simpa [List.isEmpty_iff, tx_empty] using ‹(tx l).toList.isEmpty = true ∨ (tx m).toList.isEmpty = true›) _).mono ?_
    intro e w10 h3
    obtain ⟨rfl, hw⟩ := Mk.after HW9.out h3
    have HW10 := Lib.hid hw
    clear hw h3 HW9
    go_wp2_with fail
    refine (KN.out _).mono ?_
    intro e w11 h3
    obtain ⟨rfl, hw⟩ := Mk.after HW10.out h3
    have HW11 := Lib.hid hw
    clear hw h3 HW10
    go_wp2_with fail
    refine (runes_any S _ (by have := HSZ.out; omega)).mono ?_
    intro e w12 h3
    obtain ⟨rfl, hw⟩ := Mk.after HW11.out h3
    have HW12 := Lib.hid hw
    clear hw h3 HW11
    go_wp2_with fail
    refine (runes_any b _ (by omega)).mono ?_
    intro e w13 h3
    obtain ⟨rfl, hw⟩ := Mk.after HW12.out h3
    have HW13 := Lib.hid hw
    clear hw h3 HW12
    go_wp2_with fail
    go_ret
    exact ⟨rfl, HW13.out⟩
  · refine (HK2.out (by rw [not_or]; have hh := ‹(tx l).toList.isEmpty = false ∧ (tx m).toList.isEmpty = false›; simpa [tx_empty] using hh) _).mono ?_
    intro e w10 h3
    obtain ⟨rfl, hw⟩ := Mk.after HW9.out h3
    have HW10 := Lib.hid hw
    clear hw h3 HW9
    go_wp2_with fail
    refine (KN.out _).mono ?_
    intro e w11 h3
    obtain ⟨rfl, hw⟩ := Mk.after HW10.out h3
    have HW11 := Lib.hid hw
    clear hw h3 HW10
    go_wp2_with fail
    refine (runes_any S _ (by have := HSZ.out; omega)).mono ?_
    intro e w12 h3
    obtain ⟨rfl, hw⟩ := Mk.after HW11.out h3
    have HW12 := Lib.hid hw
    clear hw h3 HW11
    go_wp2_with fail
    refine (runes_any b _ (by omega)).mono ?_
    intro e w13 h3
    obtain ⟨rfl, hw⟩ := Mk.after HW12.out h3
    have HW13 := Lib.hid hw
    clear hw h3 HW12
    go_wp2_with fail
    go_ret
    exact ⟨rfl, HW13.out⟩

set_option maxHeartbeats 2000000 in
set_option maxRecDepth 10000 in
theorem twice_long (a b : ByteArray) (A : Option Addr) (n c : Nat) (w : World) (h : 2000 < a.size ∨ 2000 < b.size ∨ 1000 < n) : Calls Tryd.prog 4 #[.string a, .string b, .slice A n c] w (Mk (.bool true) w) := by
  by_cases h1 : 2000 < a.size
  · have g1 : decide ((2000 : Int) < (a.size : Int)) = true := by simp; omega
    clear h
    go_enter Tryd.func4, Tryd.ntmps4
    go_wp2_with (go_at_call 10; refine (known_any _).mono ?_; rintro e w1 ⟨rfl, hw⟩; have HW := Lib.hid hw; clear hw)
    go_ret
    exact ⟨rfl, HW.out⟩
  · have g1 : decide ((2000 : Int) < (a.size : Int)) = false := by simp; omega
    by_cases h2 : 2000 < b.size
    · have g2 : decide ((2000 : Int) < (b.size : Int)) = true := by simp; omega
      clear h h1
      go_enter Tryd.func4, Tryd.ntmps4
      go_wp2_with (go_at_call 10; refine (known_any _).mono ?_; rintro e w1 ⟨rfl, hw⟩; have HW := Lib.hid hw; clear hw)
      go_ret
      exact ⟨rfl, HW.out⟩
    · have g2 : decide ((2000 : Int) < (b.size : Int)) = false := by simp; omega
      have g3 : decide ((1000 : Int) < (n : Int)) = true := by simp; omega
      clear h h1 h2
      go_enter Tryd.func4, Tryd.ntmps4
      go_wp2_with (go_at_call 10; refine (known_any _).mono ?_; rintro e w1 ⟨rfl, hw⟩; have HW := Lib.hid hw; clear hw)
      go_ret
      exact ⟨rfl, HW.out⟩
end Go.Proofs.YtbofkndkgdnbmaaDoor

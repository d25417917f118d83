/-
  Own text. The walk over the law TextWords.
-/
import Derived.Test.YtbofkndkgdnbmaaDoorJoin
namespace Go.Proofs.YtbofkndkgdnbmaaDoor
open Go.RowKit

set_option maxHeartbeats 2000000 in
set_option maxRecDepth 10000 in
theorem words_long (s : ByteArray) (A : Option Addr) (n c : Nat) (w : World) (h : 2000 < s.size ∨ 700 < n) : Calls Tryd.prog 8 #[.string s, .slice A n c] w (Mk (.bool true) w) := by
  by_cases h1 : 2000 < s.size
  · have g1 : decide ((2000 : Int) < (s.size : Int)) = true := by simp; omega
    clear h
    go_enter Tryd.func8, Tryd.ntmps8
    go_wp2_with (go_at_call 10; refine (known_any _).mono ?_; rintro e w1 ⟨rfl, hw⟩; have HW := Lib.hid hw; clear hw)
    go_ret
    exact ⟨rfl, HW.out⟩
  · have g1 : decide ((2000 : Int) < (s.size : Int)) = false := by simp; omega
    have g2 : decide ((700 : Int) < (n : Int)) = true := by simp; omega
    clear h h1
    go_enter Tryd.func8, Tryd.ntmps8
    go_wp2_with (go_at_call 10; refine (known_any _).mono ?_; rintro e w1 ⟨rfl, hw⟩; have HW := Lib.hid hw; clear hw)
    go_ret
    exact ⟨rfl, HW.out⟩

/-- What is known of the words of a text, all at once. -/
structure Wordy (S : ByteArray) (ws : List (List Nat)) : Prop where
  prog : ∀ w, Calls Tryd.prog 24 #[.string S] w (MkStrs (ws.map tx) w)
  doc : ∀ w, Calls Tryd.prog 25 #[.string S] w (MkStrs (ws.map tx) w)
  fold : ∀ w, Calls Tryd.prog 20 #[.string S] w (Mk (.string (tx ((R S).map smallN))) w)
  folded : ∀ w, Calls Tryd.prog 24 #[.string (tx ((R S).map smallN))] w (MkStrs (ws.map tx) w)
  joined : ∀ w, Calls Tryd.prog 24 #[.string (tx (joinW ws))] w (MkStrs (ws.map tx) w)
  len : ws.length ≤ 7000
  size : ∀ k, (tx (joinW (ws.take k))).size ≤ 56000
  one : ∀ (k : Nat) (x : List Nat), ws[k]? = some x → (tx x).size ≤ 56000
theorem tx_word {l x : List Nat} : tx l ++ ⟨#[32]⟩ ++ tx x = tx (l ++ 32 :: x) := tx_blank l x
theorem wordy (S : ByteArray) (h : S.size ≤ 7000) : Wordy S (wordsR ((R S).map smallN)) := by
  have hl := R_len S
  have hm : ((R S).map smallN).length ≤ 7000 := by rw [List.length_map]; omega
  have ht := (tx_size ((R S).map smallN)).2
  have hj := join_words_len ((R S).map smallN)
  have hp := words_wds (fun r => smallN r = r ∧ vr r) ((R S).map smallN) (fun r hr => by
    refine ⟨?_, map_vr (R_vr S) r hr⟩
    obtain ⟨x, _, rfl⟩ := List.mem_map.1 hr
    exact small_small x)
  have hin : ∀ r ∈ joinW (wordsR ((R S).map smallN)), smallN r = r ∧ vr r := by
    intro r hr
    unfold joinW at hr
    obtain ⟨x, hx, hr⟩ := List.mem_flatMap.1 hr
    rcases List.mem_cons.1 hr with rfl | hr
    · decide
    · exact ((hp x hx).2 r hr).2
  have htj := (tx_size (joinW (wordsR ((R S).map smallN)))).2
  refine ⟨fun w => words_any S w (by omega), fun w => rwords_any S w (by omega), fun w => fold_any S w (by omega), fun w => ?_, fun w => ?_, ?_, fun k => ?_, fun k x hx => ?_⟩
  · have h3 := words_any (tx ((R S).map smallN)) w (by omega)
    rw [R_tx (map_vr (R_vr S)), List.map_map] at h3
    have e : smallN ∘ smallN = smallN := by funext r; exact small_small r
    rw [e] at h3
    exact h3
  · have h3 := words_any (tx (joinW (wordsR ((R S).map smallN)))) w (by omega)
    have e : (joinW (wordsR ((R S).map smallN))).map smallN = joinW (wordsR ((R S).map smallN)) := by
      conv => rhs; rw [← List.map_id (joinW (wordsR ((R S).map smallN)))]
      apply List.map_congr_left
      intro r hr
      exact (hin r hr).1
    rw [R_tx (fun r hr => (hin r hr).2), e, words_join (fun x hx => ⟨(hp x hx).1, fun r hr => ((hp x hx).2 r hr).1⟩)] at h3
    exact h3
  · have := words_len ((R S).map smallN)
    omega
  · have h1 := (tx_size (joinW ((wordsR ((R S).map smallN)).take k))).2
    have h2 := join_take (wordsR ((R S).map smallN)) k
    omega
  · have h1 := (tx_size x).2
    have h2 := join_take (wordsR ((R S).map smallN)) (k + 1)
    rw [List.take_add_one, hx, Option.toList_some, joinW_snoc, List.length_append, List.length_cons] at h2
    omega

set_option maxHeartbeats 2000000 in
set_option maxRecDepth 10000 in
theorem words_law (s : ByteArray) (A : Option Addr) (zs : List Nat) (n c : Nat) (w : World) (hA : Nums w A zs) (hn : zs.length = n) (hs : s.size ≤ 2000) (hx : n ≤ 700) : Calls Tryd.prog 8 #[.string s, .slice A n c] w (Mk (.bool true) w) := by
  have HA := Lib.hid hA
  have HN := Lib.hid hn
  clear hA hn
  have g1 : decide ((2000 : Int) < (s.size : Int)) = false := by simp; omega
  have g2 : decide ((700 : Int) < (n : Int)) = false := by simp; omega
  go_enter Tryd.func8, Tryd.ntmps8
  go_wp2_with fail
  refine (known_any _).mono ?_
  rintro e w1 ⟨rfl, hw⟩
  have HW1 := Lib.hid hw
  clear hw
  go_wp2_with fail
  refine (seat_any A zs n c _ (HA.out.below HW1.out) HN.out (by omega)).mono ?_
  rintro e w2 ⟨rs, rfl, hv, hl, hw⟩
  have HW2 := Lib.hid (HW1.out.trans (hw.mono HW1.out.size))
  have hts := (tx_size rs).2
  have HSZ := Lib.hid (show (tx rs ++ s).size ≤ 7000 by rw [size_add]; omega)
  have HNS := Lib.hid (no_sum (a := tx rs) (b := s) (by omega) (by omega))
  clear hw hv hl hts HW1 g1 g2 HA HN
  go_wp2_with fail
  all_goals
    first
      | (exact absurd (by assumption) HNS.out)
      | skip
  clear HNS
  generalize tx rs ++ s = S at HSZ ⊢
  have HY := Lib.hid (wordy S HSZ.out)
  generalize wordsR ((R S).map smallN) = ws at HY
  refine (HY.out.prog _).mono ?_
  rintro e w3 ⟨A3, n3, c3, rfl, hn, hs3, hw⟩
  rw [List.length_map] at hn
  have HN3 := Lib.hid hn
  have HS3 := Lib.hid hs3
  have HW3 := Lib.hid (HW2.out.trans (hw.mono HW2.out.size))
  clear hn hs3 hw HW2
  go_wp2_with fail
  go_loopw [6, 7] (fun v i wr => ∃ k : Nat, k ≤ n3 ∧ i = .int .i64 k ∧ v = .string (tx (joinW (ws.take k))) ∧ Below w.heap.size w wr ∧ Strs wr A3 (ws.map tx)) (fun _ i _ => n3 - (intOf i).toNat)
  case atStart => exact ⟨0, Nat.zero_le _, rfl, rfl, HW3.out, HS3.out⟩
  case round =>
    obtain ⟨k, hk, rfl, rfl, hb, hst⟩ := hrel
    have HB := Lib.hid hb
    have HST := Lib.hid hst
    clear hb hst HW3 HS3
    have k0 : (0 : Int) ≤ (k : Int) := by omega
    have k1 : n3 ≤ 7000 := by have := HY.out.len; have := HN3.out; omega
    by_cases hlt : k < n3
    · have hkl : k < ws.length := by have := HN3.out; omega
      have hx := List.getElem?_eq_getElem hkl
      obtain ⟨b, o, rfl, hc⟩ := HST.out (by rw [List.length_map]; omega)
      have hcell := hc k (tx ws[k]) (by rw [List.getElem?_map, hx]; rfl)
      have HT := Lib.hid (show joinW (ws.take (k + 1)) = joinW (ws.take k) ++ 32 :: ws[k] by rw [List.take_succ_eq_append_getElem hkl, joinW_snoc])
      have HZ1 := Lib.hid (HY.out.size k)
      have HZ2 := Lib.hid (HY.out.one k _ hx)
      generalize ws[k] = x at hcell HT HZ2
      clear hc hx
      have HN1 := Lib.hid (show ¬ 9223372036854775807 < (tx (joinW (ws.take k))).size + 1 by have := HZ1.out; omega)
      have HN2 := Lib.hid (show ¬ 9223372036854775807 < (tx (joinW (ws.take k))).size + 1 + (tx x).size by have := HZ1.out; have := HZ2.out; omega)
      clear HZ1 HZ2
      go_wp2_with fail
      all_goals
        first
          | (exact absurd (by assumption) HN1.out)
          | (exact absurd (by assumption) HN2.out)
          | skip
      go_roundw
      case rel => exact ⟨k + 1, by omega, by go_num, by rw [HT.out, tx_blank], HB.out, HST.out⟩
      case measure => simp [intOf]; omega
    · obtain rfl : k = n3 := by omega
      have HJ := Lib.hid (show ∀ w, Calls Tryd.prog 24 #[.string (tx (joinW (ws.take k)))] w (MkStrs (ws.map tx) w) by rw [HN3.out, List.take_length]; exact HY.out.joined)
      generalize tx (joinW (ws.take k)) = J at HJ ⊢
      have HL := Lib.hid (show (ws.map tx).length = k by rw [List.length_map]; exact HN3.out.symm)
      have HC1 := Lib.hid HY.out.doc
      have HC2 := Lib.hid HY.out.fold
      have HC3 := Lib.hid HY.out.folded
      clear HY HN3
      generalize ws.map tx = ts at HST HJ HL HC1 HC3
      go_wp2_with fail
      refine (HC1.out _).mono ?_
      rintro e w4 ⟨A4, n4, c4, rfl, hn, hs, hw⟩
      obtain rfl : n4 = k := hn.trans HL.out
      have HS4 := Lib.hid hs
      have HST4 := Lib.hid (HST.out.below hw)
      have HB4 := Lib.hid (HB.out.trans (hw.mono HB.out.size))
      clear hs hw HST HB hn
      go_wp2_with fail
      refine (texts_any A3 A4 ts n4 _ c4 _ HST4.out HS4.out HL.out (by omega)).mono ?_
      intro e w5 h3
      obtain ⟨rfl, hw⟩ := Mk.after HB4.out h3
      have HST5 := Lib.hid (HST4.out.below h3.2)
      have HB5 := Lib.hid hw
      clear hw h3 HB4 HST4 HS4
      go_wp2_with fail
      refine (HJ.out _).mono ?_
      rintro e w6 ⟨A6, n6, c6, rfl, hn, hs, hw⟩
      obtain rfl : n6 = n4 := hn.trans HL.out
      have HS6 := Lib.hid hs
      have HST6 := Lib.hid (HST5.out.below hw)
      have HB6 := Lib.hid (HB5.out.trans (hw.mono HB5.out.size))
      clear hs hw HST5 HB5 hn
      go_wp2_with fail
      refine (texts_any A6 A3 ts n6 c6 _ _ HS6.out HST6.out HL.out (by omega)).mono ?_
      intro e w7 h3
      obtain ⟨rfl, hw⟩ := Mk.after HB6.out h3
      have HST7 := Lib.hid (HST6.out.below h3.2)
      have HB7 := Lib.hid hw
      clear hw h3 HB6 HST6 HS6
      go_wp2_with fail
      refine (HC2.out _).mono ?_
      intro e w8 h3
      obtain ⟨rfl, hw⟩ := Mk.after HB7.out h3
      have HST8 := Lib.hid (HST7.out.below h3.2)
      have HB8 := Lib.hid hw
      clear hw h3 HB7 HST7
      go_wp2_with fail
      refine (HC3.out _).mono ?_
      rintro e w9 ⟨A9, n9, c9, rfl, hn, hs, hw⟩
      obtain rfl : n9 = n6 := hn.trans HL.out
      have HS9 := Lib.hid hs
      have HST9 := Lib.hid (HST8.out.below hw)
      have HB9 := Lib.hid (HB8.out.trans (hw.mono HB8.out.size))
      clear hs hw HST8 HB8 hn
      go_wp2_with fail
      refine (texts_any A9 A3 ts n9 c9 _ _ HS9.out HST9.out HL.out (by omega)).mono ?_
      intro e w10 h3
      obtain ⟨rfl, hw⟩ := Mk.after HB9.out h3
      have HB10 := Lib.hid hw
      clear hw h3
      go_wp2_with fail
      go_ret
      exact ⟨rfl, HB10.out⟩
end Go.Proofs.YtbofkndkgdnbmaaDoor

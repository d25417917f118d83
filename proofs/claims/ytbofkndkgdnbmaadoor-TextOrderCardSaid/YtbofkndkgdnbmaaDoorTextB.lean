/-
  Own text. The walks over text.Right, text.Cut.
-/
import Derived.Test.YtbofkndkgdnbmaaDoorTextA
namespace Go.Proofs.YtbofkndkgdnbmaaDoor
open Go.RowKit

/-- Is a text clean, and no longer? -/
def rightB (s : ByteArray) (most : Int) : Bool := decide (((R s).length : Int) ≤ most) && ((tx (cleanR (R s))).toList == s.toList)

set_option maxHeartbeats 1000000 in
theorem right_any (s : ByteArray) (most : Int) (w : World) (hs : s.size ≤ 100000000) : Calls Tryd.prog 16 #[.string s, .int .i64 most] w (Mk (.bool (rightB s most)) w) := by
  by_cases h : ((R s).length : Int) ≤ most
  · go_enter Tryd.func16, Tryd.ntmps16
    go_wp2_with fail
    refine (runes_any s _ hs).mono ?_
    rintro e w1 ⟨rfl, hw1⟩
    go_wp2_with fail
    refine (clean_any s _ hs).mono ?_
    rintro e w2 ⟨rfl, hw2⟩
    go_wp2
    go_ret
    refine ⟨ret_bool ?_, hw1.trans (hw2.mono hw1.size)⟩
    unfold rightB
    rw [decide_eq_true h, Bool.true_and]
  · have h' : decide (((R s).length : Int) ≤ most) = false := by simpa using h
    have hb : rightB s most = false := by unfold rightB; rw [h']; rfl
    rw [hb]
    go_enter Tryd.func16, Tryd.ntmps16
    go_wp2_with fail
    refine (runes_any s _ hs).mono ?_
    rintro e w1 ⟨rfl, hw1⟩
    go_wp2_with fail
    go_ret
    exact ⟨rfl, hw1⟩

theorem trim_E {l : List Nat} (h : Half l) (hv : ∀ r ∈ l, vr r) : Lib.trimRightB (E l) 32 = E (trimR l) := by
  have key : ∀ k : List Nat, (∀ r ∈ k, vr r) → k.getLast? ≠ some 32 → Lib.trimRightB (E k) 32 = E k := by
    intro k hk hl
    unfold Lib.trimRightB
    by_cases hne : k = []
    · subst hne; rfl
    · obtain ⟨p, r, rfl⟩ : ∃ p r, k = p ++ [r] := ⟨_, _, (List.dropLast_concat_getLast hne).symm⟩
      have hr : r ≠ 32 := fun e => hl (by rw [e]; simp)
      have hvr := hk r (by simp)
      rw [E_snoc, List.reverse_append]
      have hhead : ∃ x t, (encN r).reverse = x :: t ∧ (x == 32) = false := by
        by_cases h1 : r < 128
        · rw [enc_ascii h1]
          refine ⟨_, [], rfl, ?_⟩
          rw [beq_eq_false_iff_ne]
          intro e
          have := congrArg UInt8.toNat e
          rw [ofNat_byte (by omega)] at this
          exact hr this
        · have hx : ∀ m : Nat, (UInt8.ofNat (128 + m % 64) == 32) = false := by
            intro m
            rw [beq_eq_false_iff_ne]
            intro e
            have := congrArg UInt8.toNat e
            rw [ofNat_byte (by omega)] at this
            have h32 : (32 : UInt8).toNat = 32 := rfl
            omega
          by_cases h2 : r < 2048
          · rw [enc_two (by omega) h2]
            exact ⟨_, _, rfl, hx r⟩
          · by_cases h3 : r < 65536
            · rw [enc_three (by omega) h3 hvr]
              exact ⟨_, _, rfl, hx r⟩
            · rw [enc_four (by omega) hvr]
              exact ⟨_, _, rfl, hx r⟩
      obtain ⟨x, t, ht, hx⟩ := hhead
      rw [ht, List.cons_append, List.dropWhile_cons_of_neg (by rw [hx]; simp), ← List.cons_append, ← ht, List.reverse_append, List.reverse_reverse, List.reverse_reverse]
  by_cases hl : l.getLast? = some 32
  · have hne : l ≠ [] := fun e => by rw [e] at hl; cases hl
    have hg := trim_good h
    have ht : trimR l = l.dropLast := by unfold trimR; rw [if_pos hl]
    rw [ht] at hg ⊢
    have hll : l = l.dropLast ++ [32] := by
      have h2 := List.dropLast_concat_getLast hne
      rw [List.getLast?_eq_some_getLast hne] at hl
      rw [Option.some.inj hl] at h2
      exact h2.symm
    have h3 := key l.dropLast (fun r hr => hv r ((List.dropLast_sublist l).subset hr)) hg.last
    have h32 : encN 32 = [32] := by decide
    rw [hll, E_snoc, h32, List.dropLast_concat]
    unfold Lib.trimRightB at h3 ⊢
    rw [List.reverse_append, List.reverse_singleton, List.singleton_append, List.dropWhile_cons_of_pos (by decide)]
    exact h3
  · have ht : trimR l = l := by unfold trimR; rw [if_neg hl]
    rw [ht]
    exact key l hv hl

/-- At the place behind the first j runes. -/
theorem drop_E (l : List Nat) (j : Nat) : (E l).drop (E (l.take j)).length = E (l.drop j) := by
  have h : E l = E (l.take j) ++ E (l.drop j) := by rw [← E_append, List.take_append_drop]
  rw [h, List.drop_left]
theorem take_E (l : List Nat) (j : Nat) : (E l).take (E (l.take j)).length = E (l.take j) := by
  have h : E l = E (l.take j) ++ E (l.drop j) := by rw [← E_append, List.take_append_drop]
  rw [h, List.take_left]
theorem E_lt {l : List Nat} {j : Nat} (h : j < l.length) : (E (l.take j)).length < (E l).length := by
  have h1 : E l = E (l.take j) ++ E (l.drop j) := by rw [← E_append, List.take_append_drop]
  have h2 := (E_len (l.drop j)).1
  rw [List.length_drop] at h2
  rw [h1, List.length_append]
  omega
theorem decode_E {l : List Nat} (hv : ∀ r ∈ l, vr r) {j : Nat} (h : j < l.length) : Utf8.decode (tx l) (E (l.take j)).length = (l[j], (encN l[j]).length) := by
  rw [decode_dc]
  show dc ((E l).drop _) = _
  rw [drop_E, List.drop_eq_getElem_cons h, E_cons]
  exact dc_enc (hv _ (List.getElem_mem h)) _
theorem E_step {l : List Nat} {j : Nat} (h : j < l.length) : (E (l.take (j + 1))).length = (E (l.take j)).length + (encN l[j]).length := by
  rw [List.take_succ_eq_append_getElem h, E_snoc, List.length_append]
theorem tx_size' (l : List Nat) : (tx l).size = (E l).length := by unfold tx; simp [ByteArray.size]
theorem tx_data (l : List Nat) : (tx l).data.toList = E l := by unfold tx; simp
theorem bytes_ext {a b : ByteArray} (h : a.data.toList = b.data.toList) : a = b := by
  cases a
  cases b
  congr
  exact Array.toList_inj.1 h
theorem extract_size_le (s : ByteArray) (n : Nat) : (s.extract 0 n).size ≤ s.size := by
  rw [ByteArray.size_extract]
  omega

set_option maxHeartbeats 4000000 in
set_option maxRecDepth 1000000 in
theorem cut_any (s : ByteArray) (n0 : Int) (w : World) (hs : s.size ≤ 100000000) (hn0 : -9223372036854775808 ≤ n0) (hn1 : n0 ≤ 9223372036854775807) : Calls Tryd.prog 18 #[.string s, .int .i64 n0] w (Mk (.string (tx (cutR (cleanR (R s)) n0.toNat))) w) := by
  have hg := clean_good (R s)
  have hv := clean_vr (R_vr s)
  have hlen := clean_len (R s)
  have hsz := R_len s
  generalize hl : cleanR (R s) = l at hg hv hlen
  have HL := Lib.hid hl
  have HG := Lib.hid hg
  have HV := Lib.hid hv
  clear hl hg hv
  go_enter Tryd.func18, Tryd.ntmps18
  go_wp2_with fail
  refine (clean_any s _ hs).mono ?_
  rintro e w1 ⟨rfl, hw1⟩
  rw [HL.out]
  have HW1 := Lib.hid hw1
  clear hw1
  have hE := E_len l
  have hts := tx_size' l
  have HE := Lib.hid hE
  have HTS := Lib.hid hts
  clear hE hts
  go_wp2_with fail
  obtain ⟨K, hK⟩ : ∃ K, K = w1.heap.size := ⟨_, rfl⟩
  have HI0 := Lib.hid (show (w1.iter (tx l) 0).heap[K]? = some (.stringIter (tx l) (E (l.take 0)).length) from by rw [hK]; exact World.iter_heap w1 (tx l) 0)
  have HB0 := Lib.hid (show Below w.heap.size w (w1.iter (tx l) 0) from HW1.out.alloc HW1.out.size _)
  have HKW := Lib.hid (show w.heap.size ≤ K from by rw [hK]; exact HW1.out.size)
  rw [← hK]
  clear hK
  go_loopw [1] (fun n wr => ∃ j : Nat, n = .int .i64 (n0 - j) ∧ (j = 0 ∨ (j : Int) ≤ n0) ∧ j ≤ l.length ∧ wr.heap[K]? = some (.stringIter (tx l) (E (l.take j)).length) ∧ Below w.heap.size w wr) (fun _ wr => (tx l).size - wr.iterPos K)
  case atStart => exact ⟨0, by simp, .inl rfl, Nat.zero_le _, HI0.out, HB0.out⟩
  case round =>
    obtain ⟨j, rfl, hj, hjl, hit, hb⟩ := hrel
    have HB := Lib.hid hb
    have HIT := Lib.hid hit
    have HJ := Lib.hid hj
    clear hb hj HI0 HB0
    by_cases hlt : j < l.length
    · have hp : (E (l.take j)).length < (tx l).size := by rw [HTS.out]; exact E_lt hlt
      have hnx : ∀ ty, (Instr.next (.pointer (some ⟨K, 0, none⟩)) true ty).run Tryd.prog wr = _ := fun ty => Lib.run_next_any_at wr K (tx l) (E (l.take j)).length ty hit hp
      have HD := Lib.hid (decode_E HV.out hlt)
      have HST := Lib.hid (E_step hlt)
      have HIT2 := Lib.hid (Lib.iterAt_heap wr K (tx l) (E (l.take j)).length ((E (l.take j)).length + (Utf8.decode (tx l) (E (l.take j)).length).2) hit)
      have HB2 := Lib.hid (Lib.below_iterAt HB.out (k := K) HKW.out (tx l) ((E (l.take j)).length + (Utf8.decode (tx l) (E (l.take j)).length).2))
      have hsz : (wr.iterAt K (tx l) ((E (l.take j)).length + (Utf8.decode (tx l) (E (l.take j)).length).2)).heap.size = wr.heap.size := Lib.iterAt_size ..
      by_cases hle : n0 - j ≤ 0
      · have hjn : j = n0.toNat := by
          rcases HJ.out with h | h
          · omega
          · omega
        have hx : (E (l.take j)).length ≤ (tx l).size := by omega
        have HJN := Lib.hid hjn
        clear hjn
        go_wp2_with fail
        refine (Tryd.strings_TrimRight_one ((tx l).extract 0 (E (l.take j)).length) 32 (by decide) _ ?_).mono ?_
        · have h1 := extract_size_le (tx l) (E (l.take j)).length
          have h2 := HTS.out
          have h3 := HE.out
          omega
        · rintro e w9 ⟨rfl, rfl⟩
          go_wp2_with fail
          go_ret
          refine ⟨?_, HB2.out⟩
          have h1 : List.take (E (l.take j)).length (tx l).data.toList = E (l.take j) := by rw [tx_data, take_E]
          rw [h1, trim_E (HG.out.half.take j) (fun r hr => HV.out r (List.mem_of_mem_take hr)), ← HJN.out]
          rfl
      · go_wp2_with fail
        go_roundw
        case rel =>
          refine ⟨j + 1, ?_, .inr (by omega), by omega, ?_, HB2.out⟩
          · congr 1
            push_cast
            omega
          · rw [HST.out]
            have h1 := HIT2.out
            rw [HD.out] at h1 ⊢
            exact h1
        case measure =>
          have h1 := HIT2.out
          simp only [World.iterPos, h1, hit]
          have := decode_pos (tx l) (E (l.take j)).length
          omega
    · obtain rfl : j = l.length := by omega
      have hp : ¬ (E (l.take l.length)).length < (tx l).size := by rw [HTS.out, List.take_length]; omega
      have hnx : ∀ ty, (Instr.next (.pointer (some ⟨K, 0, none⟩)) true ty).run Tryd.prog wr = _ := fun ty => Lib.run_next_end_at wr K (tx l) (E (l.take l.length)).length ty hit hp
      go_wp2_with fail
      go_ret
      refine ⟨?_, HB.out⟩
      rw [cut_all HG.out]
      · rfl
      · rcases HJ.out with h | h <;> omega
end Go.Proofs.YtbofkndkgdnbmaaDoor

/-
  Own text. Plain Lean: the runs of letters of a list of runes; that FieldsFunc's pieces are these.
-/
import Derived.Test.YtbofkndkgdnbmaaDoorTextB
import Derived.Lib.FieldsP
namespace Go.Proofs.YtbofkndkgdnbmaaDoor

/-- One rune more: the letters at hand, the words so far. -/
def stepW (a : List Nat × List (List Nat)) (r : Nat) : List Nat × List (List Nat) :=
  if letterN r = true then (a.1 ++ [r], a.2) else ([], if a.1 = [] then a.2 else a.2 ++ [a.1])
def runW (a : List Nat × List (List Nat)) (rs : List Nat) : List Nat × List (List Nat) := rs.foldl stepW a
def finW (a : List Nat × List (List Nat)) : List (List Nat) := if a.1 = [] then a.2 else a.2 ++ [a.1]
/-- The runs of letters. -/
def wordsR (rs : List Nat) : List (List Nat) := finW (runW ([], []) rs)

theorem runW_cons (a : List Nat × List (List Nat)) (r : Nat) (rs : List Nat) : runW a (r :: rs) = runW (stepW a r) rs := rfl
theorem runW_append (a : List Nat × List (List Nat)) (x y : List Nat) : runW a (x ++ y) = runW (runW a x) y := by simp [runW, List.foldl_append]

theorem extract_mid (pre cur rest : List Nat) : (tx (pre ++ (cur ++ rest))).extract (E pre).length (E (pre ++ cur)).length = tx cur := by
  apply bytes_ext
  rw [ByteArray.data_extract, Array.toList_extract, tx_data, tx_data, E_append, E_append, E_append]
  unfold List.extract
  rw [List.length_append, Nat.add_sub_cancel_left, List.drop_left, List.take_left]
theorem decode_mid (pre : List Nat) (r : Nat) (rest : List Nat) (hr : vr r) : Utf8.decode (tx (pre ++ (r :: rest))) (E pre).length = (r, (encN r).length) := by
  rw [decode_dc, tx_data, E_append, List.drop_left, E_cons]
  exact dc_enc hr _

theorem spans_words (l : List Nat) (hv : ∀ r ∈ l, vr r) : ∀ (f : Nat) (rest pre cur : List Nat) (out : List (List Nat)) (st : Option Nat) (acc : List (Nat × Nat)), l = pre ++ (cur ++ rest) → rest.length ≤ f →
    ((cur = [] ∧ st = none) ∨ (cur ≠ [] ∧ st = some (E pre).length)) → acc.map (fun x => (tx l).extract x.1 x.2) = out.map tx →
    (Lib.closeSpans (tx l) (Lib.spansFromP (fun r => !letterN r) (tx l) f (E (pre ++ cur)).length st acc)).map (fun x => (tx l).extract x.1 x.2) = (finW (runW (cur, out) rest)).map tx := by
  have close : ∀ (pre cur : List Nat) (out : List (List Nat)) (st : Option Nat) (acc : List (Nat × Nat)), l = pre ++ (cur ++ []) → ((cur = [] ∧ st = none) ∨ (cur ≠ [] ∧ st = some (E pre).length)) → acc.map (fun x => (tx l).extract x.1 x.2) = out.map tx →
      (Lib.closeSpans (tx l) (acc, st)).map (fun x => (tx l).extract x.1 x.2) = (finW (cur, out)).map tx := by
    intro pre cur out st acc hl hst hacc
    rcases hst with ⟨hc, rfl⟩ | ⟨hc, rfl⟩
    · subst hc
      simp only [Lib.closeSpans, finW]
      exact hacc
    · have hsz : (tx l).size = (E (pre ++ cur)).length := by rw [tx_size', hl, List.append_nil]
      simp only [Lib.closeSpans, finW, if_neg hc, List.map_append, hacc, List.map_singleton]
      rw [hsz, hl, extract_mid]
  intro f
  induction f with
  | zero =>
    intro rest pre cur out st acc hl hf hst hacc
    have hr : rest = [] := List.eq_nil_of_length_eq_zero (by omega)
    subst hr
    exact close pre cur out st acc hl hst hacc
  | succ f ih =>
    intro rest pre cur out st acc hl hf hst hacc
    cases rest with
    | nil =>
      have hsz : (tx l).size = (E (pre ++ cur)).length := by rw [tx_size', hl, List.append_nil]
      rw [Lib.spansFromP_end _ _ _ _ _ _ (by omega)]
      exact close pre cur out st acc hl hst hacc
    | cons r rest =>
      have hr : vr r := hv r (by rw [hl]; simp)
      have hl2 : l = (pre ++ cur) ++ (r :: rest) := by rw [hl, List.append_assoc]
      have hpos : (E (pre ++ cur)).length < (tx l).size := by
        have h1 := (enc_len r).1
        rw [tx_size', hl2, E_append (pre ++ cur), E_cons, List.length_append, List.length_append]
        omega
      have hdec : Utf8.decode (tx l) (E (pre ++ cur)).length = (r, (encN r).length) := by rw [hl2]; exact decode_mid _ _ _ hr
      have hnext : (E (pre ++ cur)).length + (encN r).length = (E (pre ++ (cur ++ [r]))).length := by rw [← List.append_assoc, E_snoc, List.length_append]
      unfold Lib.spansFromP
      rw [if_pos hpos, hdec, runW_cons]
      simp only
      rw [hnext]
      by_cases hlet : letterN r = true
      · rw [hlet, Bool.not_true, if_neg (by simp)]
        have hw : stepW (cur, out) r = (cur ++ [r], out) := by unfold stepW; rw [if_pos hlet]
        rw [hw]
        rcases hst with ⟨hc, rfl⟩ | ⟨hc, rfl⟩
        · subst hc
          refine ih rest pre ([] ++ [r]) out (some (E (pre ++ [])).length) acc (by rw [hl]; simp) (by simpa using hf) (.inr ⟨by simp, by rw [List.append_nil]⟩) hacc
        · exact ih rest pre (cur ++ [r]) out (some (E pre).length) acc (by rw [hl]; simp) (by simpa using hf) (.inr ⟨by simp, rfl⟩) hacc
      · have hlet' : letterN r = false := by simpa using hlet
        rw [hlet', Bool.not_false, if_pos rfl]
        rcases hst with ⟨hc, rfl⟩ | ⟨hc, rfl⟩
        · subst hc
          have hw : stepW ([], out) r = ([], out) := by unfold stepW; rw [if_neg hlet]; rfl
          rw [hw]
          have := ih rest (pre ++ ([] ++ [r])) [] out none acc (by rw [hl]; simp) (by simpa using hf) (.inl ⟨rfl, rfl⟩) hacc
          rw [List.append_nil] at this
          exact this
        · have hw : stepW (cur, out) r = ([], out ++ [cur]) := by unfold stepW; rw [if_neg hlet, if_neg hc]
          rw [hw]
          have hx : (tx l).extract (E pre).length (E (pre ++ cur)).length = tx cur := by rw [hl]; exact extract_mid _ _ _
          have := ih rest (pre ++ (cur ++ [r])) [] (out ++ [cur]) none (acc ++ [((E pre).length, (E (pre ++ cur)).length)]) (by rw [hl]; simp) (by simpa using hf) (.inl ⟨rfl, rfl⟩) (by rw [List.map_append, List.map_append, hacc, List.map_singleton, List.map_singleton, hx])
          rw [List.append_nil] at this
          exact this

theorem fields_words (l : List Nat) (hv : ∀ r ∈ l, vr r) : Lib.goFieldsP (fun r => !letterN r) (tx l) = (wordsR l).map tx := by
  unfold Lib.goFieldsP Lib.spansOfP wordsR
  have h := spans_words l hv (tx l).size l [] [] [] none [] rfl (tx_size l).1 (.inl ⟨rfl, rfl⟩) rfl
  exact h
end Go.Proofs.YtbofkndkgdnbmaaDoor

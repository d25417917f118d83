/-
  Own text. The walk over text.Words.
-/
import Derived.Test.YtbofkndkgdnbmaaDoorWrd
namespace Go.Proofs.YtbofkndkgdnbmaaDoor
open Go.RowKit

/-- The slice at A reads as the texts ws. -/
def Strs (w : World) (A : Option Addr) (ws : List ByteArray) : Prop := 0 < ws.length → ∃ b o, A = some ⟨b, o, none⟩ ∧ ∀ j s, ws[j]? = some s → w.cell? ⟨b, o + j, none⟩ = some (.string s)
theorem Strs.below {w w' : World} {A : Option Addr} {ws : List ByteArray} (h : Strs w A ws) (hb : Below w.heap.size w w') : Strs w' A ws := fun hp => by
  obtain ⟨b, o, hA, hc⟩ := h hp
  exact ⟨b, o, hA, fun j r hj => (hb.cell (p := ⟨b, o + j, none⟩) (block_lt_of_cell (hc j r hj))).trans (hc j r hj)⟩
/-- The call gives the texts ws; nothing that was there has turned. -/
def MkStrs (ws : List ByteArray) (w : World) (e : Ending) (w' : World) : Prop := ∃ A n c, e = .returned (.slice A n c) ∧ n = ws.length ∧ Strs w' A ws ∧ Below w.heap.size w w'

theorem pred_any (w : World) : PredAtRunes Tryd.prog 43 #[] (fun r => !letterN r) w := fun W r hr _ => by
  unfold FnGives
  go_enter Tryd.func43, Tryd.ntmps43
  go_wp2_with (go_at_call 44; refine (letter_any r hr _).mono ?_; rintro e w' ⟨rfl, rfl⟩)
  go_ret
  exact ⟨rfl, 0, rfl⟩

set_option maxHeartbeats 1000000 in
set_option maxRecDepth 10000 in
theorem words_any (s : ByteArray) (w : World) (hs : s.size ≤ 100000000) : Calls Tryd.prog 24 #[.string s] w (MkStrs ((wordsR ((R s).map smallN)).map tx) w) := by
  have HV := Lib.hid (map_vr (R_vr s))
  have HZ := Lib.hid (show (tx ((R s).map smallN)).size ≤ 4294967296 by
    have h1 := (tx_size ((R s).map smallN)).2
    have h2 := R_len s
    rw [List.length_map] at h1
    omega)
  generalize hl : (R s).map smallN = l at HV HZ
  have HLQ := Lib.hid hl
  clear hl
  have HFW := Lib.hid (fields_words l HV.out)
  have eg := enters_of Tryd.func43 (by kernel_rfl) rfl
  have HEG := Lib.hid eg
  clear eg
  go_enter Tryd.func24, Tryd.ntmps24
  go_wp2_with fail
  refine (fold_any s _ hs).mono ?_
  rw [HLQ.out]
  rintro e w1 ⟨rfl, hb⟩
  have HB := Lib.hid hb
  clear hb
  go_wp2_with fail
  refine (Tryd.strings_FieldsFunc_runes 43 #[] HEG.out _ (tx l) _ HZ.out (pred_any _)).mono ?_
  rw [HFW.out]
  rintro e w2 ⟨A, rfl, hA, ho, hb⟩
  have HO := Lib.hid ho
  have HB2 := Lib.hid hb
  clear ho hb hA
  go_wp2_with fail
  go_ret
  refine ⟨some ⟨A, 0, none⟩, _, _, rfl, by simp, fun _ => ⟨A, 0, rfl, fun j s hj => ?_⟩, HB.out.trans (HB2.out.mono HB.out.size)⟩
  have := HO.out.cells (g := A) rfl j (.string s) (by rw [List.getElem?_map, hj]; rfl)
  rw [Addr.add_lit] at this
  exact this
end Go.Proofs.YtbofkndkgdnbmaaDoor

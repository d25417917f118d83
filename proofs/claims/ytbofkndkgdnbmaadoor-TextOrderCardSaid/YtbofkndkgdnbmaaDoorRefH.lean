/-
  Own text. The walk over the document's Words.
-/
import Derived.Test.YtbofkndkgdnbmaaDoorRefF
import Derived.Test.YtbofkndkgdnbmaaDoorTextC
namespace Go.Proofs.YtbofkndkgdnbmaaDoor
open Go.RowKit

theorem info9 : (Tryd.prog.info? 9).map (fun i => (i.zero, i.size, i.bytes)) = some (some (.string ByteArray.empty), 1, 16) := by kernel_rfl

/-- A text as a value. -/
def sval (s : ByteArray) : Value := .string s
/-- The slice value v, the call's own (blocks from B on), holds the texts ws. -/
def OwnS (B : Nat) (w : World) (v : Value) (ws : List ByteArray) : Prop := w.ownsRow B 9 1 v ws.length (ws.map sval)

theorem OwnS.nil (B : Nat) (w : World) : OwnS B w (.slice none 0 0) [] := ⟨by simp, .inl ⟨rfl, rfl⟩⟩
theorem OwnS.shape {B : Nat} {w : World} {v : Value} {ws : List ByteArray} (h : OwnS B w v ws) : ∃ A c, v = .slice A ws.length c := by
  rcases h.2 with ⟨hv, h0⟩ | ⟨g, cap, cur, hv, _⟩
  · exact ⟨none, 0, by rw [hv, h0]⟩
  · exact ⟨_, _, hv⟩
theorem OwnS.strs {B : Nat} {w : World} {A : Option Addr} {n c : Nat} {ws : List ByteArray} (h : OwnS B w (.slice A n c) ws) : Strs w A ws := fun hp => by
  rcases h.2 with ⟨hv, h0⟩ | ⟨g, cap, cur, hv, _⟩
  · omega
  · injection hv with h1 h2 h3
    subst h1
    refine ⟨g, 0, rfl, fun j r hj => ?_⟩
    have := h.cells (g := g) rfl j (sval r) (by rw [List.getElem?_map, hj]; rfl)
    rw [Addr.add_lit] at this
    exact this
theorem OwnS.keep {B : Nat} {w w' : World} {v : Value} {ws : List ByteArray} (h : OwnS B w v ws) (hb : Below w.heap.size w w') : OwnS B w' v ws := by
  refine ⟨h.1, ?_⟩
  rcases h.2 with hn | ⟨g, cap, cur, hv, hB, hg, rest⟩
  · exact .inl hn
  · exact .inr ⟨g, cap, cur, hv, hB, (hb.block g (Array.getElem?_eq_some_iff.1 hg).1).trans hg, rest⟩
theorem OwnS.re {B : Nat} {w : World} {A : Option Addr} {n c : Nat} {ws : List ByteArray} (h : OwnS B w (.slice A n c) ws) : OwnS B w (.slice A ws.length c) ws := by
  obtain ⟨A', c', hv⟩ := h.shape
  injection hv with h1 h2 h3
  subst h2
  exact h
theorem OwnS.alloc {B : Nat} {w : World} {v : Value} {ws : List ByteArray} (h : OwnS B w v ws) (o : Obj) : OwnS B (w.alloc o) v ws := h.keep ((Below.refl _ _).alloc (Nat.le_refl _) o)

theorem wp_append_str {w : World} {ops : Array Oper} {rest : List Oper} {o : Oper} {a : Act} {Q : Exit → Act → World → Prop} (hgd : o.guard = none) (s x : Operand)
    (ho : o.op = .call { callee := .builtin .append, args := #[s, x], argTypes := #[26, 26] }) (B : Nat) (v : Value) (ws : List ByteArray) (r : ByteArray) (hs : a.eval s = v) (hown : OwnS B w v ws) (b : Nat) (hx : a.eval x = .slice (some ⟨b, 0, none⟩) 1 1)
    (hcell : w.cell? ⟨b, 0, none⟩ = some (sval r)) (hl : ws.length ≤ 1000000000) (hB : B ≤ w.heap.size)
    (h : ∀ A c w', Hid (OwnS B w' (.slice A (ws.length + 1) c) (ws ++ [r])) → Hid (Below B w w') → wpList Tryd.prog ops Q rest (a.put o.dst (.slice A (ws.length + 1) c)) w') : wpList Tryd.prog ops Q (o :: rest) a w := by
  obtain ⟨i0, hi, hz0, hz1, hz2⟩ := info_parts info9
  refine wpList_append_own _ hgd s x 26 ho B 9 i0 (.string ByteArray.empty) 1 16 Tryd.underlying26 hi hz0 hz1 hz2 rfl (by decide) v ws.length (ws.map sval) hs hown ⟨b, 0, none⟩ 1 1 [sval r] hx rfl ?_ ?_ ?_ ?_ hB ?_
  · intro j u hj
    match j, hj with
    | 0, hj =>
      simp only [List.getElem?_cons_zero, Option.some.injEq] at hj
      subst hj
      rw [Addr.add_lit]
      exact hcell
  · intro u hu
    rw [List.mem_singleton] at hu
    subst hu
    rfl
  · unfold maxLen
    omega
  · omega
  · intro v' w' hown' hg _
    have h2 : OwnS B w' v' (ws ++ [r]) := by
      unfold OwnS
      rw [List.length_append, List.map_append]
      exact hown'
    obtain ⟨A, c, rfl⟩ := h2.shape
    rw [show (ws ++ [r]).length = ws.length + 1 by simp] at h2 ⊢
    exact h A c w' (Lib.hid h2) (Lib.hid ((Below.refl B w).grown hg hB (fun k hk => (hown.lt k hk).1)))

/-- How far the loop is: k runes read, the letters at hand begin at f, the words so far. -/
def WordsAt (x : List Nat) (f k : Nat) (out : List (List Nat)) : Prop := f ≤ k ∧ k ≤ x.length ∧ runW ([], []) (x.take k) = ((x.take k).drop f, out) ∧ out.length ≤ k
theorem WordsAt.letter {x : List Nat} {f k : Nat} {out : List (List Nat)} (h : WordsAt x f k out) {r : Nat} (hr : x[k]? = some r) (hl : letterN r = true) : WordsAt x f (k + 1) out := by
  obtain ⟨h1, h2, h3, h4⟩ := h
  have hk := (List.getElem?_eq_some_iff.1 hr).1
  refine ⟨by omega, by omega, ?_, by omega⟩
  rw [List.take_add_one, hr, Option.toList_some, runW_append, h3, List.drop_append_of_le_length (by rw [List.length_take]; omega)]
  show stepW _ r = _
  unfold stepW
  rw [if_pos hl]
theorem WordsAt.other {x : List Nat} {f k : Nat} {out : List (List Nat)} (h : WordsAt x f k out) {r : Nat} (hr : x[k]? = some r) (hl : letterN r = false) (hk' : k ≤ f) : WordsAt x (k + 1) (k + 1) out := by
  obtain ⟨h1, h2, h3, h4⟩ := h
  have hk := (List.getElem?_eq_some_iff.1 hr).1
  refine ⟨by omega, by omega, ?_, by omega⟩
  rw [List.drop_eq_nil_of_le (by rw [List.length_take]; omega), List.take_add_one, hr, Option.toList_some, runW_append, h3, List.drop_eq_nil_of_le (by rw [List.length_take]; omega)]
  show stepW _ r = _
  unfold stepW
  rw [if_neg (by rw [hl]; simp)]
  rfl
theorem WordsAt.word {x : List Nat} {f k : Nat} {out : List (List Nat)} (h : WordsAt x f k out) {r : Nat} (hr : x[k]? = some r) (hl : letterN r = false) (hk' : f < k) : WordsAt x (k + 1) (k + 1) (out ++ [(x.take k).drop f]) := by
  obtain ⟨h1, h2, h3, h4⟩ := h
  have hk := (List.getElem?_eq_some_iff.1 hr).1
  refine ⟨by omega, by omega, ?_, by rw [List.length_append, List.length_singleton]; omega⟩
  rw [List.drop_eq_nil_of_le (by rw [List.length_take]; omega), List.take_add_one, hr, Option.toList_some, runW_append, h3]
  show stepW _ r = _
  unfold stepW
  rw [if_neg (by rw [hl]; simp)]
  have hne : (x.take k).drop f ≠ [] := by
    intro e
    have := congrArg List.length e
    rw [List.length_drop, List.length_take, List.length_nil] at this
    omega
  show ([], if (x.take k).drop f = [] then out else _) = _
  rw [if_neg hne]
theorem WordsAt.done {l : List Nat} {f k : Nat} {out : List (List Nat)} (h : WordsAt (l ++ [32]) f k out) (hk : k = (l ++ [32]).length) : out = wordsR l := by
  have h3 := h.2.2.1
  rw [List.take_of_length_le (by omega), runW_append] at h3
  have h4 : (stepW (runW ([], []) l) 32).2 = out := congrArg Prod.snd h3
  rw [← h4]
  unfold stepW wordsR finW
  rw [if_neg (by decide)]

theorem Ints.cut {w : World} {g : Nat} {x : List Nat} (h : ∀ j r, x[j]? = some r → w.cell? ⟨g, 0 + j, none⟩ = some (ival r)) (f k : Nat) : Ints w (some ⟨g, f, none⟩) ((x.take k).drop f) := fun _ => by
  refine ⟨g, f, rfl, fun j r hj => ?_⟩
  rw [List.getElem?_drop] at hj
  have hjl := (List.getElem?_eq_some_iff.1 hj).1
  rw [List.length_take] at hjl
  rw [List.getElem?_take_of_lt (by omega)] at hj
  have := h (f + j) r hj
  rw [Nat.zero_add] at this
  exact this

set_option maxHeartbeats 2000000 in
set_option maxRecDepth 10000 in
theorem rwords_any (s : ByteArray) (w : World) (hs : s.size ≤ 100000000) : Calls Tryd.prog 25 #[.string s] w (MkStrs ((wordsR ((R s).map smallN)).map tx) w) := by
  have HV := Lib.hid (map_vr (R_vr s))
  have HL := Lib.hid (show ((R s).map smallN).length ≤ 100000000 by have := R_len s; rw [List.length_map]; omega)
  have HF := Lib.hid (fun w1 => rfold_any s w1 hs)
  generalize (R s).map smallN = l at HV HL HF ⊢
  go_enter Tryd.func25, Tryd.ntmps25
  go_wp2_with fail
  refine (HF.out _).mono ?_
  rintro e w1 ⟨A1, c1, rfl, ho, hb⟩
  have HO := Lib.hid ho
  have HB := Lib.hid hb
  clear ho hb
  go_wp2_with (at_builtin; refine wp_append_int rfl _ _ rfl w.heap.size _ l 32 rfl (HO.out.alloc _) w1.heap.size rfl ?_ ?_ ?_ ?_; (rw [World.cell?_alloc_new]; rfl); (have := HL.out; omega); (have := HB.out.size; simp; omega); intro A2 c2 w2 HO2 HB2)
  have HW2 := Lib.hid ((HB.out.alloc HB.out.size (.cells #[.int .i64 32] 3)).trans HB2.out)
  obtain ⟨x, hx⟩ : ∃ x, x = l ++ [32] := ⟨_, rfl⟩
  have hxl : l.length + 1 = x.length := by rw [hx]; simp
  have hin := HO2.out.ints
  rw [← hx] at hin
  obtain ⟨g, rfl, hc⟩ : ∃ g, A2 = some ⟨g, 0, none⟩ ∧ ∀ j r, x[j]? = some r → w2.cell? ⟨g, 0 + j, none⟩ = some (ival r) := by
    rcases HO2.out.2 with ⟨hv, h0⟩ | ⟨g, cap, cur, hv, _⟩
    · simp at h0
    · injection hv with h1 h2 h3
      subst h1
      obtain ⟨b, o, hb, hc⟩ := hin (by omega)
      injection hb with hb
      injection hb with hb1 hb2
      subst hb1
      subst hb2
      exact ⟨g, rfl, hc⟩
  have HCAP := Lib.hid (show x.length ≤ c2 by
    rcases HO2.out.2 with ⟨hv, h0⟩ | ⟨g', cap, cur, hv, _, _, hnc, _⟩
    · simp at h0
    · injection hv with h1 h2 h3
      rw [List.length_append, List.length_singleton] at hnc
      omega)
  have HX := Lib.hid (show ∀ r ∈ x, vr r by
    intro r hr
    rw [hx, List.mem_append, List.mem_singleton] at hr
    rcases hr with hr | rfl
    · exact HV.out r hr
    · decide)
  have HXL := Lib.hid (show x.length ≤ 100000001 by have := HL.out; omega)
  have HC := Lib.hid hc
  have HXX := Lib.hid hx
  rw [hxl]
  obtain ⟨n, hn⟩ : ∃ n, n = x.length := ⟨_, rfl⟩
  rw [← hn] at HCAP HXL ⊢
  have HN := Lib.hid hn
  clear hc hin hx hxl hn HO HO2 HB HB2 HF
  go_loopw [4, 5, 6] (fun v f i wr => ∃ (k fr : Nat) (out : List (List Nat)) (A : Option Addr) (c : Nat), i = .int .i64 k ∧ f = .int .i64 fr ∧ v = .slice A out.length c ∧ OwnS w2.heap.size wr (.slice A out.length c) (out.map tx) ∧ WordsAt x fr k out ∧ Below w2.heap.size w2 wr) (fun _ _ i _ => n - (intOf i).toNat)
  case atStart => exact ⟨0, 0, [], none, 0, rfl, rfl, rfl, OwnS.nil _ _, ⟨by omega, by omega, rfl, by simp⟩, Below.refl _ _⟩
  case round =>
    obtain ⟨k, fr, out, A, c, rfl, rfl, rfl, hown, hat, hb2⟩ := hrel
    have HOW := Lib.hid hown
    have HAT := Lib.hid hat
    have HB2 := Lib.hid hb2
    have HB := Lib.hid (HW2.out.trans (hb2.mono HW2.out.size))
    have hkn : k ≤ n := by have := hat.2.1; have := HN.out; omega
    have hfk : fr ≤ k := hat.1
    have HOL := Lib.hid hat.2.2.2
    clear hown hat hb2 HW2
    have k0 : (0 : Int) ≤ (k : Int) := by omega
    have k1 : (k : Int) ≤ 100000001 := by have := HXL.out; omega
    have f0 : (0 : Int) ≤ (fr : Int) := by omega
    by_cases hlt : k < n
    · obtain ⟨r, hr⟩ : ∃ r, x[k]? = some r := ⟨_, List.getElem?_eq_getElem (by have := HN.out; omega)⟩
      have hcell := (HB2.out.cell (p := ⟨g, 0 + k, none⟩) (block_lt_of_cell (HC.out k r hr))).trans (HC.out k r hr)
      unfold ival at hcell
      rw [Nat.zero_add] at hcell
      have HR := Lib.hid hr
      have hrv := vr_le (HX.out r (List.mem_of_getElem? hr))
      have i1 : (k : Int) < (n : Int) := by omega
      clear hr
      by_cases hlet : letterN r = true
      · go_wp2_with (go_at_call 45; refine (rletter_any _ hrv _).mono ?_; rw [hlet]; rintro e w' ⟨rfl, rfl⟩)
        go_roundw
        case rel => exact ⟨k + 1, fr, out, A, c, by go_num, rfl, rfl, HOW.out, HAT.out.letter HR.out hlet, HB2.out⟩
        case measure => simp [intOf]; omega
      · have hlet' : letterN r = false := by simpa using hlet
        clear hlet
        by_cases hfr : fr < k
        · have f1 : (fr : Int) < (k : Int) := by omega
          have HI := Lib.hid ((Ints.cut HC.out fr k).below HB2.out)
          have HIL := Lib.hid (show ((x.take k).drop fr).length = k - fr by rw [List.length_drop, List.length_take]; have := HN.out; omega)
          have HIV := Lib.hid (show ∀ r ∈ (x.take k).drop fr, vr r from fun r hr => HX.out r (List.mem_of_mem_take (List.mem_of_mem_drop hr)))
          have HNW := Lib.hid (HAT.out.word HR.out hlet' hfr)
          generalize (x.take k).drop fr = wd at HI HIL HIV HNW
          have kc : (k : Int) ≤ (c2 : Int) := by have := HCAP.out; omega
          clear hfr
          go_wp2_with (go_at_call 45; refine (rletter_any _ hrv _).mono ?_; rw [hlet']; rintro e w' ⟨rfl, rfl⟩)
          refine (of_any _ wd (k - fr) (c2 - fr) _ HI.out HIL.out HIV.out (by have := HXL.out; omega)).mono ?_
          rintro e w3 ⟨rfl, hw⟩
          have HB3 := Lib.hid (HB2.out.trans (hw.mono HB2.out.size))
          have HOW3 := Lib.hid (HOW.out.keep hw)
          clear hw
          go_wp2_with (at_builtin; refine wp_append_str rfl _ _ rfl w2.heap.size _ (out.map tx) (tx wd) rfl (HOW3.out.alloc _) w3.heap.size rfl ?_ ?_ ?_ ?_; (rw [World.cell?_alloc_new]; rfl); (have := HOL.out; rw [List.length_map]; omega); (have := HB3.out.size; simp; omega); intro A3 c3 w4 HO4 HB4)
          have HB5 := Lib.hid ((HB3.out.alloc HB3.out.size (.cells #[.string (tx wd)] 9)).trans HB4.out)
          go_roundw
          case rel => exact ⟨k + 1, k + 1, out ++ [wd], A3, c3, by go_num, by go_num, by simp, by simpa using HO4.out, HNW.out, HB5.out⟩
          case measure => simp [intOf]; omega
        · have f1 : ¬ (fr : Int) < (k : Int) := by omega
          go_wp2_with (go_at_call 45; refine (rletter_any _ hrv _).mono ?_; rw [hlet']; rintro e w' ⟨rfl, rfl⟩)
          go_roundw
          case rel => exact ⟨k + 1, k + 1, out, A, c, by go_num, by go_num, rfl, HOW.out, HAT.out.other HR.out hlet' (by omega), HB2.out⟩
          case measure => simp [intOf]; omega
    · obtain rfl : k = n := by omega
      go_wp2
      go_ret
      have hat := HAT.out
      rw [HXX.out] at hat
      have hd := hat.done (by rw [← HXX.out]; exact HN.out)
      rw [← hd]
      exact ⟨A, _, c, rfl, by rw [List.length_map], HOW.out.strs, HB.out⟩
end Go.Proofs.YtbofkndkgdnbmaaDoor

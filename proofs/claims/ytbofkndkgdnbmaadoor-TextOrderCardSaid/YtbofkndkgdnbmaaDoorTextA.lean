/-
  Own text. The walks over text.Fold, text.Clean, text.Runes, text.Right.
-/
import Derived.Test.YtbofkndkgdnbmaaDoorRune
namespace Go.Proofs.YtbofkndkgdnbmaaDoor
open Go.RowKit

/-- The runes of a text. -/
def R (s : ByteArray) : List Nat := D s.data.toList
/-- The text of runes. -/
def tx (rs : List Nat) : ByteArray := ⟨(E rs).toArray⟩
/-- The call answers v; nothing that was there has turned. -/
def Mk (v : Value) (w : World) (e : Ending) (w' : World) : Prop := e = .returned v ∧ Below w.heap.size w w'

theorem R_tx {rs : List Nat} (h : ∀ r ∈ rs, vr r) : R (tx rs) = rs := by
  unfold R tx
  exact D_E h
theorem R_vr (s : ByteArray) : ∀ r ∈ R s, vr r := D_vr _
theorem R_len (s : ByteArray) : (R s).length ≤ s.size := by
  have := D_len s.data.toList
  rw [Array.length_toList] at this
  exact this
theorem tx_size (rs : List Nat) : rs.length ≤ (tx rs).size ∧ (tx rs).size ≤ 4 * rs.length := by
  have h := E_len rs
  have : (tx rs).size = (E rs).length := by unfold tx; simp [ByteArray.size]
  rw [this]
  exact h
theorem vr_le {r : Nat} (h : vr r) : r ≤ 1114111 := by unfold vr at h; omega
theorem map_vr {rs : List Nat} (h : ∀ r ∈ rs, vr r) : ∀ r ∈ rs.map smallN, vr r := by
  intro r hr
  obtain ⟨x, hx, rfl⟩ := List.mem_map.1 hr
  exact small_vr (h x hx)

/-- What is left at a place begins with the next rune. -/
theorem D_next (s : ByteArray) (pos : Nat) (h : pos < s.size) : D (s.data.toList.drop pos) = (Utf8.decode s pos).1 :: D (s.data.toList.drop (pos + (Utf8.decode s pos).2)) := by
  have hne : s.data.toList.drop pos ≠ [] := by
    intro e
    have := congrArg List.length e
    rw [List.length_drop, List.length_nil, Array.length_toList] at this
    have : s.data.size = s.size := rfl
    omega
  rw [decode_dc, D_cons hne, List.drop_drop]
theorem D_done (s : ByteArray) (pos : Nat) (h : ¬ pos < s.size) : D (s.data.toList.drop pos) = [] := by
  rw [List.drop_eq_nil_of_le (by rw [Array.length_toList]; show s.size ≤ pos; omega)]
  rfl
theorem decode_vr (s : ByteArray) (pos : Nat) : vr (Utf8.decode s pos).1 := by
  rw [decode_dc]
  exact dc_vr _
theorem decode_pos (s : ByteArray) (pos : Nat) : 1 ≤ (Utf8.decode s pos).2 := by
  rw [decode_dc]
  exact dc_pos _

/-- A builder at block b, and an iterator over s at place pos in the block behind it. -/
def Reads (w : World) (s : ByteArray) (pos : Nat) (l : List UInt8) (wr : World) : Prop :=
  Bld w.heap.size w.heap.size l wr ∧ wr.heap[w.heap.size + 1]? = some (.stringIter s pos) ∧ Below w.heap.size w wr

theorem Reads.start (w : World) (s : ByteArray) : Reads w s 0 [] ((w.alloc (.cells #[.pointer none, .slice none 0 0] 49)).iter s 0) := by
  refine ⟨(Bld.new w).alloc _, ?_, ((Below.refl _ w).alloc (Nat.le_refl _) _).alloc (by simp) _⟩
  have := World.iter_heap (w.alloc (.cells #[.pointer none, .slice none 0 0] 49)) s 0
  simpa using this
theorem Reads.next {w wr : World} {s : ByteArray} {pos : Nat} {l : List UInt8} (h : Reads w s pos l wr) (p : Nat) : Reads w s p l (wr.iterAt (w.heap.size + 1) s p) :=
  ⟨Lib.IsBuilderF.iterAt h.1 h.2.1 p, Lib.iterAt_heap wr (w.heap.size + 1) s pos p h.2.1, Lib.below_iterAt h.2.2 (k := w.heap.size + 1) (by omega) s p⟩
theorem Reads.size {w wr : World} {s : ByteArray} {pos : Nat} {l : List UInt8} (h : Reads w s pos l wr) : w.heap.size ≤ wr.heap.size := h.2.2.size
theorem Reads.wrote {w wr w' : World} {s : ByteArray} {pos : Nat} {l l' : List UInt8} {v : Value} {e : Ending} (h : Reads w s pos l wr) (hw : Wrote v w.heap.size w.heap.size l' wr e w') : Reads w s pos l' w' :=
  ⟨hw.2.1, hw.2.2.2.iter h.2.1 (by omega), h.2.2.trans hw.2.2.1⟩

set_option maxHeartbeats 4000000 in
set_option maxRecDepth 1000000 in
theorem fold_any (s : ByteArray) (w : World) (hs : s.size ≤ 100000000) : Calls Tryd.prog 20 #[.string s] w (Mk (.string (tx ((R s).map smallN))) w) := by
  go_enter Tryd.func20, Tryd.ntmps20
  go_wp2
  go_loopw [] (fun wr => ∃ (pos : Nat) (ds : List Nat), Reads w s pos (E (ds.map smallN)) wr ∧ ds ++ D (s.data.toList.drop pos) = R s ∧ ds.length ≤ pos) (fun wr => s.size - wr.iterPos (w.heap.size + 1))
  case atStart => exact ⟨0, [], Reads.start w s, rfl, Nat.le_refl _⟩
  case round =>
    obtain ⟨pos, ds, hR, hd, hl⟩ := hrel
    have hit := hR.2.1
    have HR := Lib.hid hR
    have HD := Lib.hid hd
    clear hR hd
    by_cases hp : pos < s.size
    · have hnx : ∀ ty, (Instr.next (.pointer (some ⟨w.heap.size + 1, 0, none⟩)) true ty).run Tryd.prog wr = _ := fun ty => Lib.run_next_any_at wr (w.heap.size + 1) s pos ty hit hp
      have HN := Lib.hid (D_next s pos hp)
      have hv := decode_vr s pos
      have hw := decode_pos s pos
      have hr := vr_le hv
      have HR2 := Lib.hid (HR.out.next (pos + (Utf8.decode s pos).2))
      have hE := E_len (ds.map smallN)
      rw [List.length_map] at hE
      have HE := Lib.hid hE
      clear hE
      go_wp2_with (go_at_call 39; refine (small_any _ hr _).mono ?_; rintro e w' ⟨rfl, rfl⟩)
      refine (rune_any (smallN (Utf8.decode s pos).1) (by have := vr_le (small_vr hv); omega) HR2.out.1 (by have := HE.out; omega) HR2.out.size).mono ?_
      intro e w1 hw1
      have HR3 := Lib.hid (HR2.out.wrote hw1)
      obtain ⟨rfl, _⟩ := hw1
      go_wp2
      go_roundw
      case rel =>
        refine ⟨pos + (Utf8.decode s pos).2, ds ++ [(Utf8.decode s pos).1], ?_, ?_, ?_⟩
        · have := HR3.out
          rw [List.map_append, List.map_singleton, E_snoc]
          exact this
        · rw [← HD.out, HN.out, List.append_assoc]
          rfl
        · rw [List.length_append, List.length_singleton]
          omega
      case measure =>
        simp only [World.iterPos, HR3.out.2.1, hit]
        omega
    · have hnx : ∀ ty, (Instr.next (.pointer (some ⟨w.heap.size + 1, 0, none⟩)) true ty).run Tryd.prog wr = _ := fun ty => Lib.run_next_end_at wr (w.heap.size + 1) s pos ty hit hp
      have HZ := Lib.hid (D_done s pos hp)
      go_wp2_with fail
      refine (bstr_any HR.out.1 HR.out.size).mono ?_
      rintro e w1 ⟨rfl, hb⟩
      go_wp2
      go_ret
      have h := HD.out
      rw [HZ.out, List.append_nil] at h
      subst h
      exact ⟨rfl, HR.out.2.2.trans hb⟩

theorem bare_not_white {r : Nat} (h : bareN r = true) : whiteN r = false := by
  unfold bareN at h
  rw [Bool.and_eq_true] at h
  simpa using h.2
theorem step_bare {a : List Nat × Bool} {r : Nat} (h : bareN r = true) : stepC a r = a := by
  unfold stepC
  rw [if_neg (by rw [bare_not_white h]; simp), if_pos h]
theorem step_white {a : List Nat × Bool} {r : Nat} (h : whiteN r = true) : stepC a r = (a.1, true) := by
  unfold stepC
  rw [if_pos h]
theorem step_gap {acc : List Nat} {r : Nat} (hb : bareN r = false) (hw : whiteN r = false) (h : acc ≠ []) : stepC (acc, true) r = (acc ++ [32] ++ [r], false) := by
  unfold stepC
  rw [if_neg (by rw [hw]; simp), if_neg (by rw [hb]; simp), if_pos ⟨rfl, h⟩]
theorem step_plain {acc : List Nat} {g : Bool} {r : Nat} (hb : bareN r = false) (hw : whiteN r = false) (h : ¬ (g = true ∧ acc ≠ [])) : stepC (acc, g) r = (acc ++ [r], false) := by
  unfold stepC
  rw [if_neg (by rw [hw]; simp), if_neg (by rw [hb]; simp), if_neg h]

/-- What is carried from round to round: the clean runes of what has been read. -/
def Cleaning (w : World) (s : ByteArray) (g : Value) (wr : World) : Prop :=
  ∃ (pos : Nat) (ds acc : List Nat) (b : Bool), Reads w s pos (E acc) wr ∧ g = .bool b ∧ runC ([], false) ds = (acc, b) ∧ ds ++ D (s.data.toList.drop pos) = R s ∧ ds.length ≤ pos

theorem cleaning_next {w : World} {s : ByteArray} {pos : Nat} {ds acc acc' : List Nat} {b b' : Bool} {w1 : World} (h : Reads w s (pos + (Utf8.decode s pos).2) (E acc') w1) (hc : runC ([], false) ds = (acc, b)) (hst : stepC (acc, b) (Utf8.decode s pos).1 = (acc', b')) (hd : ds ++ D (s.data.toList.drop pos) = R s) (hl : ds.length ≤ pos) (hp : pos < s.size) :
    Cleaning w s (.bool b') w1 := by
  refine ⟨_, ds ++ [(Utf8.decode s pos).1], acc', b', h, rfl, ?_, ?_, ?_⟩
  · rw [runC_snoc, hc, hst]
  · rw [← hd, D_next s pos hp, List.append_assoc]
    rfl
  · have := decode_pos s pos
    rw [List.length_append, List.length_singleton]
    omega
theorem cleaning_len {w : World} {s : ByteArray} {pos : Nat} {ds acc : List Nat} {b : Bool} (_ : w = w) (hc : runC ([], false) ds = (acc, b)) (hd : ds ++ D (s.data.toList.drop pos) = R s) (hs : s.size ≤ 100000000) : (E acc).length ≤ 400000000 := by
  have h1 := E_len acc
  have h2 := runC_len ds
  rw [hc] at h2
  have h3 := R_len s
  rw [← hd, List.length_append] at h3
  simp only at h2
  omega

set_option maxHeartbeats 4000000 in
set_option maxRecDepth 1000000 in
theorem clean_any (s : ByteArray) (w : World) (hs : s.size ≤ 100000000) : Calls Tryd.prog 13 #[.string s] w (Mk (.string (tx (cleanR (R s)))) w) := by
  go_enter Tryd.func13, Tryd.ntmps13
  go_wp2
  go_loopw [4] (fun g wr => Cleaning w s g wr) (fun _ wr => s.size - wr.iterPos (w.heap.size + 1))
  case atStart => exact ⟨0, [], [], false, Reads.start w s, rfl, rfl, rfl, Nat.le_refl _⟩
  case round =>
    obtain ⟨pos, ds, acc, b, hR, rfl, hc, hd, hl⟩ := hrel
    have hit := hR.2.1
    have HR := Lib.hid hR
    have HD := Lib.hid hd
    have HC := Lib.hid hc
    have HE := Lib.hid (cleaning_len (w := w) rfl hc hd hs)
    clear hR hd hc
    by_cases hp : pos < s.size
    · have hnx : ∀ ty, (Instr.next (.pointer (some ⟨w.heap.size + 1, 0, none⟩)) true ty).run Tryd.prog wr = _ := fun ty => Lib.run_next_any_at wr (w.heap.size + 1) s pos ty hit hp
      have hv := decode_vr s pos
      have hw := decode_pos s pos
      have hr := vr_le hv
      have HR2 := Lib.hid (HR.out.next (pos + (Utf8.decode s pos).2))
      by_cases hb : bareN (Utf8.decode s pos).1 = true
      · have HST := Lib.hid (step_bare (a := (acc, b)) hb)
        go_wp2_with (go_at_call 30; refine (bare_any _ hr _).mono ?_; rintro e w' ⟨rfl, rfl⟩)
        go_roundw
        case rel => exact cleaning_next HR2.out HC.out HST.out HD.out hl hp
        case measure =>
          simp only [World.iterPos, HR2.out.2.1, hit]
          omega
      · have hb' : bareN (Utf8.decode s pos).1 = false := by simpa using hb
        clear hb
        by_cases hwh : whiteN (Utf8.decode s pos).1 = true
        · have HST := Lib.hid (step_white (a := (acc, b)) hwh)
          go_wp2_with (first
            | (go_at_call 30; refine (bare_any _ hr _).mono ?_; rintro e w' ⟨rfl, rfl⟩)
            | (go_at_call 31; refine (white_any _ hr _).mono ?_; rintro e w' ⟨rfl, rfl⟩))
          go_roundw
          case rel => exact cleaning_next HR2.out HC.out HST.out HD.out hl hp
          case measure =>
            simp only [World.iterPos, HR2.out.2.1, hit]
            omega
        · have hwh' : whiteN (Utf8.decode s pos).1 = false := by simpa using hwh
          clear hwh
          by_cases hg : b = true ∧ acc ≠ []
          · obtain ⟨rfl, hacc⟩ := hg
            have HST := Lib.hid (step_gap hb' hwh' hacc)
            have hpos : (0 : Int) < ((E acc).length : Int) := by
              have h1 := (E_len acc).1
              have h2 := List.length_pos_iff.2 hacc
              omega
            clear hacc
            go_wp2_with (first
              | (go_at_call 30; refine (bare_any _ hr _).mono ?_; rintro e w' ⟨rfl, rfl⟩)
              | (go_at_call 31; refine (white_any _ hr _).mono ?_; rintro e w' ⟨rfl, rfl⟩)
              | (go_at_call 32; refine (blen_any HR2.out.1).mono ?_; rintro e w' ⟨rfl, rfl⟩))
            refine (byte_any 32 HR2.out.1 (by have := HE.out; omega) HR2.out.size).mono ?_
            intro e w1 hw1
            have HR3 := Lib.hid (HR2.out.wrote hw1)
            obtain ⟨rfl, _⟩ := hw1
            go_wp2_with fail
            refine (rune_any _ (by omega) HR3.out.1 (by rw [List.length_append, List.length_singleton]; have := HE.out; omega) HR3.out.size).mono ?_
            intro e w2 hw2
            have HR4 := Lib.hid (HR3.out.wrote hw2)
            obtain ⟨rfl, _⟩ := hw2
            go_wp2
            go_roundw
            case rel =>
              refine cleaning_next ?_ HC.out HST.out HD.out hl hp
              have := HR4.out
              rw [E_snoc, E_snoc]
              exact this
            case measure =>
              simp only [World.iterPos, HR4.out.2.1, hit]
              omega
          · have HST := Lib.hid (step_plain hb' hwh' hg)
            cases b
            all_goals
              try (have hac : acc = [] := by simpa using hg)
              try subst hac
              clear hg
              go_wp2_with (first
                | (go_at_call 30; refine (bare_any _ hr _).mono ?_; rintro e w' ⟨rfl, rfl⟩)
                | (go_at_call 31; refine (white_any _ hr _).mono ?_; rintro e w' ⟨rfl, rfl⟩)
                | (go_at_call 32; refine (blen_any HR2.out.1).mono ?_; rintro e w' ⟨rfl, rfl⟩))
              refine (rune_any _ (by omega) HR2.out.1 (by have := HE.out; omega) HR2.out.size).mono ?_
              intro e w2 hw2
              have HR4 := Lib.hid (HR2.out.wrote hw2)
              obtain ⟨rfl, _⟩ := hw2
              go_wp2
              go_roundw
              case rel =>
                refine cleaning_next ?_ HC.out HST.out HD.out hl hp
                have := HR4.out
                rw [E_snoc]
                exact this
              case measure =>
                simp only [World.iterPos, HR4.out.2.1, hit]
                omega
    · have hnx : ∀ ty, (Instr.next (.pointer (some ⟨w.heap.size + 1, 0, none⟩)) true ty).run Tryd.prog wr = _ := fun ty => Lib.run_next_end_at wr (w.heap.size + 1) s pos ty hit hp
      have HZ := Lib.hid (D_done s pos hp)
      go_wp2_with fail
      refine (bstr_any HR.out.1 HR.out.size).mono ?_
      rintro e w1 ⟨rfl, hb⟩
      go_wp2
      go_ret
      have h := HD.out
      have h2 := HC.out
      rw [HZ.out, List.append_nil] at h
      subst h
      refine ⟨?_, HR.out.2.2.trans hb⟩
      unfold cleanR
      rw [h2]
      rfl

theorem count_from (s : ByteArray) : ∀ fuel pos, s.size ≤ pos + fuel → Lib.runeCountFrom s fuel pos = (D (s.data.toList.drop pos)).length
  | 0, pos, h => by rw [D_done s pos (by omega)]; rfl
  | f + 1, pos, h => by
    unfold Lib.runeCountFrom
    by_cases hp : pos < s.size
    · have hw := decode_pos s pos
      rw [if_pos hp, D_next s pos hp, List.length_cons, count_from s f _ (by omega)]
      omega
    · rw [if_neg hp, D_done s pos hp]
      rfl
theorem count_R (s : ByteArray) : Lib.runeCount s = (R s).length := count_from s s.size 0 (by omega)

theorem runes_any (s : ByteArray) (w : World) (hs : s.size ≤ 100000000) : Calls Tryd.prog 14 #[.string s] w (Mk (.int .i64 ((R s).length : Int)) w) := by
  have h := count_R s
  have H := Lib.hid h
  clear h
  go_enter Tryd.func14, Tryd.ntmps14
  go_wp2_with (go_at_call 36; refine (Tryd.utf8_RuneCountInString s _ (by omega)).mono ?_; rintro e w' ⟨rfl, pos, rfl⟩)
  go_ret
  refine ⟨by rw [H.out]; rfl, ?_⟩
  exact (Below.refl w.heap.size w).alloc (Nat.le_refl _) _
end Go.Proofs.YtbofkndkgdnbmaaDoor

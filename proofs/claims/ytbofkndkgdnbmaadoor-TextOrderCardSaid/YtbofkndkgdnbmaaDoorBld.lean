/-
  Own text. The builder that a call has made itself: copyCheck, WriteByte, WriteRune as this translation has them; Len, String.
-/
import Derived.Test.YtbofkndkgdnbmaaDoorShelf
import Derived.Test.YtbofkndkgdnbmaaDoorU
import Derived.Laws.Externs
import Derived.WalkKit
import Derived.BigCall
import Derived.Lib.Hide
import Derived.Outline
namespace Go.Proofs.YtbofkndkgdnbmaaDoor
open Go.RowKit

/-- The builder at block b, the call's own, holds the bytes l. -/
def Bld (B b : Nat) (l : List UInt8) (w : World) : Prop := Lib.IsBuilderF 49 5 B b (Lib.byteCells l) w
/-- The call answers v; the builder at b holds l now; nothing below B has turned, nor any block that is none of its own. -/
def Wrote (v : Value) (B b : Nat) (l : List UInt8) (w : World) (e : Ending) (w' : World) : Prop := e = .returned v ∧ Bld B b l w' ∧ Below B w w' ∧ Lib.OthersKept 5 (some b) w w'

theorem info5 : (Tryd.prog.info? 5).map (fun i => (i.zero, i.size, i.bytes)) = some (some (.int .u8 0), 1, 1) := by kernel_rfl
theorem size49 : (Tryd.prog.info? 49).map (·.size) = some 2 := by kernel_rfl
theorem lies49 : liesAt Tryd.prog Tryd.prog.depth 49 (2 / Tryd.prog.cellsOf 49) 0 49 1 = true := by kernel_rfl

set_option maxHeartbeats 400000 in
theorem check_any {B b : Nat} {bs : List Value} {w : World} (h : Lib.IsBuilderF 49 5 B b bs w) :
    Calls Tryd.prog 48 #[.pointer (some ⟨b, 0, none⟩)] w fun e w' => e = .returned (.tuple #[]) ∧ Lib.BuilderAtF 49 5 B b (.pointer (some ⟨b, 0, none⟩)) bs w' ∧ Below B w w' ∧ Lib.OthersKept 5 (some b) w w' := by
  rcases h with h | h
  · have c0 := h.cell0
    have f0 := h.frozen0
    have hsh := h.shape
    obtain ⟨j, hj, hjs⟩ := Option.map_eq_some_iff.1 size49
    have H := Lib.hid h
    clear h
    go_enter Tryd.func48, Tryd.ntmps48
    go_wp2
    rw [Lib.run_to_unsafe w ⟨b, 0, none⟩ Tryd.underlying46 Tryd.underlying80 hj (by rw [hjs]; decide) hsh (Nat.zero_lt_succ 1)]
    simp only [Result.andThen]
    rw [Oper.upon_value]
    go_wp2
    rw [run_callFunc_extern Tryd.func55 (by kernel_rfl) (by kernel_rfl) (by kernel_rfl) (e := Extern.AbiNoEscape.same) (by kernel_rfl)]
    rw [Lib.run_noEscape]
    simp only [Result.andThen]
    rw [Oper.upon_value]
    go_wp2
    rw [Lib.run_from_unsafe w ⟨b, 0, none⟩ Tryd.underlying80 Tryd.underlying46 hj hsh lies49]
    simp only [Result.andThen]
    rw [Oper.upon_value]
    go_wp2
    go_end0
    exact ⟨rfl, H.out.used _, (Below.refl B w).setCell (p := ⟨b, 0, none⟩) H.out.1 _, (Lib.OthersKept.refl _ _ w).setCell ⟨b, 0, none⟩ rfl _⟩
  · have c0 := h.cell0
    obtain ⟨j, hj, _⟩ := Option.map_eq_some_iff.1 size49
    have H := Lib.hid h
    clear h
    go_enter Tryd.func48, Tryd.ntmps48
    go_wp2
    rw [Lib.run_neq_ptr_same w _ Tryd.underlying46 hj]
    go_wp2
    go_end0
    exact ⟨rfl, H.out, Below.refl B _, Lib.OthersKept.refl _ _ _⟩

theorem heap_lt {w : World} {b : Nat} {o : Obj} (h : w.heap[b]? = some o) : b < w.heap.size := (Array.getElem?_eq_some_iff.1 h).1

set_option maxHeartbeats 2000000 in
set_option maxRecDepth 100000 in
/-- A byte more. -/
theorem byte_any {B b : Nat} {l : List UInt8} {w : World} (c : UInt8) (h : Bld B b l w) (hlen : l.length + 1 ≤ 140737488355328) (hBw : B ≤ w.heap.size) :
    Calls Tryd.prog 33 #[.pointer (some ⟨b, 0, none⟩), .int .u8 (c.toNat : Int)] w (Wrote .nilIface B b (l ++ [c]) w) := by
  obtain ⟨i0, hi, hz0, hz1, hz2⟩ := info_parts info5
  have HB := Lib.hid h
  have hlen' : (Lib.byteCells l).length = l.length := Lib.byteCells_length l
  have HL := Lib.hid hlen'
  clear h hlen'
  go_enter Tryd.func33, Tryd.ntmps33
  go_wp2_with fail
  refine (check_any HB.out).mono ?_
  rintro e w1 ⟨rfl, h1, hb1, hk1⟩
  obtain ⟨hB, v, hbk, hown, hne⟩ := h1
  have c1 : w1.cell? ⟨b, 1, none⟩ = some v := by rw [Lib.cell_of_heap hbk]; rfl
  have HBK := Lib.hid hbk
  have HOWN := Lib.hid hown
  have HNE := Lib.hid hne
  have HB1 := Lib.hid hb1
  have HK1 := Lib.hid hk1
  have hlt := heap_lt hbk
  clear hbk hown hne hb1 hk1 HB
  go_wp2_with (at_builtin; refine wpList_append_ownF _ rfl _ _ 47 rfl B 5 i0 (.int .u8 0) 1 1 Tryd.underlying47 hi hz0 hz1 hz2 rfl (by decide) _ _ _ rfl (HOWN.out.alloc _) ⟨w1.heap.size, 0, none⟩ 1 1 [.int .u8 (c.toNat : Int)] rfl rfl ?c1 ?c2 ?c3 ?c4 ?c5 ?_)
  case c1 =>
    intro j u hj
    match j, hj with
    | 0, hj => simp at hj; subst hj; simp [Addr.add]
  case c2 => intro u hu; simp at hu; subst hu; rfl
  case c3 => rw [HL.out]; unfold maxLen; omega
  case c4 => rw [HL.out]; omega
  case c5 => have := HB1.out.size; simp; omega
  intro v' w2 hown' hgrow _
  have hb2 : w2.heap[b]? = some (.cells #[.pointer (some ⟨b, 0, none⟩), v] 49 (0, 0)) := by
    rw [hgrow.block b (by simp; omega) (fun e => HNE.out e.symm), Lib.alloc_old w1 _ b hlt]
    exact HBK.out
  have d1 : w2.cell? ⟨b, 1, none⟩ = some v := by rw [Lib.cell_of_heap hb2]; rfl
  have f1 : w2.frozen? ⟨b, 1, none⟩ = false := Lib.frozen_of_heap hb2 1
  have HB2 := Lib.hid hb2
  have HO2 := Lib.hid hown'
  have HG2 := Lib.hid hgrow
  clear hb2 hown' hgrow
  obtain ⟨g, cap, rfl⟩ : ∃ g cap, v' = .slice (some ⟨g, 0, none⟩) ((Lib.byteCells l).length + 1) cap := by
    rcases HO2.out.2 with ⟨_, h0⟩ | ⟨g, cap, cur, fz, hv, _⟩
    · omega
    · exact ⟨g, cap, hv⟩
  go_wp2
  go_ret
  refine ⟨rfl, .inr ?_, ?_, ((HK1.out.alloc _).grown HG2.out (Lib.ownsRowF_kind (HOWN.out.alloc _))).setCell ⟨b, 1, none⟩ rfl _⟩
  · refine Lib.BuilderAtF.put (T := 49) (e := 5) hB HB2.out (bs' := Lib.byteCells (l ++ [c])) ?_ (by decide)
    have := HO2.out
    rw [Lib.byteCells_append]
    simpa [Lib.byteCells] using this
  · exact ((HB1.out.alloc (by have := HB1.out.size; omega) _).grown HG2.out (by have := HB1.out.size; simp; omega) (fun k hk => (HOWN.out.lt k hk).1)).setCell (p := ⟨b, 1, none⟩) hB _

set_option maxHeartbeats 2000000 in
set_option maxRecDepth 100000 in
/-- A rune more. -/
theorem rune_any {B b : Nat} {l : List UInt8} {w : World} (r : Nat) (hr : r ≤ 2147483647) (h : Bld B b l w) (hlen : l.length + 4 ≤ 140737488355328) (hBw : B ≤ w.heap.size) :
    Calls Tryd.prog 34 #[.pointer (some ⟨b, 0, none⟩), .int .i32 (r : Int)] w (Wrote (.tuple #[.int .i64 ((encN r).length : Int), .nilIface]) B b (l ++ encN r) w) := by
  have HB := Lib.hid h
  have hlen' : (Lib.byteCells l).length = l.length := Lib.byteCells_length l
  have HL := Lib.hid hlen'
  have hrl : (Lib.runeCells (r : Int)).length = (encN r).length := Lib.runeCells_length _
  have HRL := Lib.hid hrl
  have hr4 := enc_len r
  have HR4 := Lib.hid hr4
  clear h hlen' hrl hr4
  go_enter Tryd.func34, Tryd.ntmps34
  go_wp2_with fail
  refine (check_any HB.out).mono ?_
  rintro e w1 ⟨rfl, h1, hb1, hk1⟩
  obtain ⟨hB, v, hbk, hown, hne⟩ := h1
  have HBK := Lib.hid hbk
  have HOWN := Lib.hid hown
  have HNE := Lib.hid hne
  have HB1 := Lib.hid hb1
  have HK1 := Lib.hid hk1
  have hlt := heap_lt hbk
  obtain ⟨A, cap, hv⟩ : ∃ A cap, v = .slice A l.length cap := by
    rcases hown.2 with ⟨hv, h0⟩ | ⟨g, cap, cur, fz, hv, _⟩
    · rw [HL.out] at h0
      exact ⟨none, 0, by rw [hv, h0]⟩
    · rw [HL.out] at hv
      exact ⟨_, _, hv⟩
  subst hv
  have c1 : w1.cell? ⟨b, 1, none⟩ = some (.slice A l.length cap) := by rw [Lib.cell_of_heap hbk]; rfl
  clear hbk hown hne hb1 hk1 HB
  have i0 : (0 : Int) ≤ (l.length : Int) := by omega
  have i1 : (l.length : Int) ≤ 140737488355324 := by omega
  go_wp2_with fail
  refine (Tryd.utf8_AppendRune_row B _ _ _ (r : Int) (by omega) (by omega) w1 HOWN.out (by rw [HL.out]; omega) (by have := HB1.out.size; omega)).mono ?_
  rintro e w2 ⟨v', rfl, hown', o, hgrow⟩
  have hb2 : w2.heap[b]? = some (.cells #[.pointer (some ⟨b, 0, none⟩), .slice A l.length cap] 49 (0, 0)) := by
    rw [hgrow.block b (by simp; omega) (fun e => HNE.out e.symm), Lib.alloc_old w1 _ b hlt]
    exact HBK.out
  have d1 : w2.cell? ⟨b, 1, none⟩ = some (.slice A l.length cap) := by rw [Lib.cell_of_heap hb2]; rfl
  have f1 : w2.frozen? ⟨b, 1, none⟩ = false := Lib.frozen_of_heap hb2 1
  rw [HL.out, HRL.out] at hown'
  obtain ⟨A', cap', hv'⟩ : ∃ A' cap', v' = .slice A' (l.length + (encN r).length) cap' := by
    rcases hown'.2 with ⟨hv, h0⟩ | ⟨g, cap, cur, fz, hv, _⟩
    · have := HR4.out
      omega
    · exact ⟨_, _, hv⟩
  subst hv'
  have HB2 := Lib.hid hb2
  have HO2 := Lib.hid hown'
  have HG2 := Lib.hid hgrow
  clear hb2 hown' hgrow c1
  have j0 : (0 : Int) ≤ ((encN r).length : Int) := by omega
  have j1 : ((encN r).length : Int) ≤ 4 := by have := HR4.out; omega
  go_wp2
  go_ret2
  refine ⟨?_, .inr ?_, ?_, ((HK1.out.alloc o).grown HG2.out (Lib.ownsRowF_kind (HOWN.out.alloc o))).setCell ⟨b, 1, none⟩ rfl _⟩
  · congr 3
    simp
    omega
  · refine Lib.BuilderAtF.put (T := 49) (e := 5) hB HB2.out (bs' := Lib.byteCells (l ++ encN r)) ?_ (by decide)
    have := HO2.out
    rw [Lib.byteCells_append, show Lib.byteCells (encN r) = Lib.runeCells (r : Int) from Lib.byteCells_encodeRune _]
    simpa [HL.out, HRL.out] using this
  · exact ((HB1.out.alloc (by have := HB1.out.size; omega) o).grown HG2.out (by have := HB1.out.size; simp; omega) (fun k hk => (HOWN.out.lt k hk).1)).setCell (p := ⟨b, 1, none⟩) hB _

/-- How many bytes. -/
theorem blen_any {B b : Nat} {l : List UInt8} {w : World} (h : Bld B b l w) : Calls Tryd.prog 32 #[.pointer (some ⟨b, 0, none⟩)] w fun e w' => e = .returned (.int .i64 (l.length : Int)) ∧ w = w' :=
  (Tryd.Builder_Len_f B b _ w h).mono fun e w' ⟨h1, h2⟩ => ⟨by rw [h1, Lib.byteCells_length], h2.symm⟩
/-- The text. -/
theorem bstr_any {B b : Nat} {l : List UInt8} {w : World} (h : Bld B b l w) (hBw : B ≤ w.heap.size) : Calls Tryd.prog 35 #[.pointer (some ⟨b, 0, none⟩)] w fun e w' => e = .returned (.string ⟨l.toArray⟩) ∧ Below B w w' :=
  (Tryd.Builder_String_any_k B b l w h hBw).mono fun _ _ ⟨h1, _, h2, _⟩ => ⟨h1, h2⟩
/-- A builder that was just laid. -/
theorem Bld.new (w : World) : Bld w.heap.size w.heap.size [] (w.alloc (.cells #[.pointer none, .slice none 0 0] 49)) := Lib.IsBuilderF.of (Lib.fresh_isBuilder 49 5 w)
theorem Bld.alloc {B b : Nat} {l : List UInt8} {w : World} (h : Bld B b l w) (o : Obj) : Bld B b l (w.alloc o) := Lib.IsBuilderF.alloc h o
end Go.Proofs.YtbofkndkgdnbmaaDoor

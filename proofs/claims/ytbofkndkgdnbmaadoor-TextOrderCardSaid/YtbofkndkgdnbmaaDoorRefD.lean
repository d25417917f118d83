/-
  Own text. Slices of ints of the call's own; the walk over the document's Runes.
-/
import Derived.Test.YtbofkndkgdnbmaaDoorRefN
import Derived.Test.YtbofkndkgdnbmaaDoorRefC
import Derived.Laws.AppendOwn
namespace Go.Proofs.YtbofkndkgdnbmaaDoor
open Go.RowKit

theorem info3 : (Tryd.prog.info? 3).map (fun i => (i.zero, i.size, i.bytes)) = some (some (.int .i64 0), 1, 8) := by kernel_rfl

/-- The slice value v, the call's own (blocks from B on), holds the runes rs. -/
def Own (B : Nat) (w : World) (v : Value) (rs : List Nat) : Prop := w.ownsRow B 3 1 v rs.length (rs.map ival)
/-- The call gives a slice of its own that holds rs; nothing that was there has turned. -/
def MkInts (rs : List Nat) (w : World) (e : Ending) (w' : World) : Prop := ∃ A c, e = .returned (.slice A rs.length c) ∧ Own w.heap.size w' (.slice A rs.length c) rs ∧ Below w.heap.size w w'

theorem Own.nil (B : Nat) (w : World) : Own B w (.slice none 0 0) [] := ⟨by simp, .inl ⟨rfl, rfl⟩⟩
theorem Own.shape {B : Nat} {w : World} {v : Value} {rs : List Nat} (h : Own B w v rs) : ∃ A c, v = .slice A rs.length c := by
  rcases h.2 with ⟨hv, h0⟩ | ⟨g, cap, cur, hv, _⟩
  · exact ⟨none, 0, by rw [hv, h0]⟩
  · exact ⟨_, _, hv⟩
theorem Own.ints {B : Nat} {w : World} {A : Option Addr} {n c : Nat} {rs : List Nat} (h : Own B w (.slice A n c) rs) : Ints w A rs := fun hp => by
  rcases h.2 with ⟨hv, h0⟩ | ⟨g, cap, cur, hv, _⟩
  · omega
  · injection hv with h1 h2 h3
    subst h1
    refine ⟨g, 0, rfl, fun j r hj => ?_⟩
    have := h.cells (g := g) rfl j (ival r) (by rw [List.getElem?_map, hj]; rfl)
    rw [Addr.add_lit] at this
    exact this
theorem Own.keep {B : Nat} {w w' : World} {v : Value} {rs : List Nat} (h : Own B w v rs) (hb : Below w.heap.size w w') : Own B w' v rs := by
  refine ⟨h.1, ?_⟩
  rcases h.2 with hn | ⟨g, cap, cur, hv, hB, hg, rest⟩
  · exact .inl hn
  · exact .inr ⟨g, cap, cur, hv, hB, (hb.block g (Array.getElem?_eq_some_iff.1 hg).1).trans hg, rest⟩

theorem Own.re {B : Nat} {w : World} {A : Option Addr} {n c : Nat} {rs : List Nat} (h : Own B w (.slice A n c) rs) : Own B w (.slice A rs.length c) rs := by
  obtain ⟨A', c', hv⟩ := h.shape
  injection hv with h1 h2 h3
  subst h2
  exact h

theorem wp_append_int {w : World} {ops : Array Oper} {rest : List Oper} {o : Oper} {a : Act} {Q : Exit → Act → World → Prop} (hgd : o.guard = none) (s x : Operand)
    (ho : o.op = .call { callee := .builtin .append, args := #[s, x], argTypes := #[28, 28] }) (B : Nat) (v : Value) (rs : List Nat) (r : Nat) (hs : a.eval s = v) (hown : Own B w v rs) (b : Nat) (hx : a.eval x = .slice (some ⟨b, 0, none⟩) 1 1)
    (hcell : w.cell? ⟨b, 0, none⟩ = some (ival r)) (hl : rs.length ≤ 1000000000) (hB : B ≤ w.heap.size)
    (h : ∀ A c w', Hid (Own B w' (.slice A (rs.length + 1) c) (rs ++ [r])) → Hid (Below B w w') → wpList Tryd.prog ops Q rest (a.put o.dst (.slice A (rs.length + 1) c)) w') : wpList Tryd.prog ops Q (o :: rest) a w := by
  obtain ⟨i0, hi, hz0, hz1, hz2⟩ := info_parts info3
  refine wpList_append_own _ hgd s x 28 ho B 3 i0 (.int .i64 0) 1 8 Tryd.underlying28 hi hz0 hz1 hz2 rfl (by decide) v rs.length (rs.map ival) hs hown ⟨b, 0, none⟩ 1 1 [ival r] hx rfl ?_ ?_ ?_ ?_ hB ?_
  · intro j u hj
    match j, hj with
    | 0, hj =>
      simp only [List.getElem?_cons_zero, Option.some.injEq] at hj
      subst hj
      rw [Addr.add_lit]
      exact hcell
  · intro u hu
    rw [List.mem_singleton] at hu
    subst hu
    rfl
  · unfold maxLen
    omega
  · omega
  · intro v' w' hown' hg _
    have h2 : Own B w' v' (rs ++ [r]) := by
      unfold Own
      rw [List.length_append, List.map_append]
      exact hown'
    obtain ⟨A, c, rfl⟩ := h2.shape
    rw [show (rs ++ [r]).length = rs.length + 1 by simp] at h2 ⊢
    exact h A c w' (Lib.hid h2) (Lib.hid ((Below.refl B w).grown hg hB (fun k hk => (hown.lt k hk).1)))

theorem dc_w4 (l : List UInt8) : (dc l).2 ≤ 4 := by
  unfold dc
  repeat' split
  all_goals simp
theorem decode_w4 (s : ByteArray) (pos : Nat) : (Utf8.decode s pos).2 ≤ 4 := by
  rw [decode_dc]
  exact dc_w4 _
theorem Own.alloc {B : Nat} {w : World} {v : Value} {rs : List Nat} (h : Own B w v rs) (o : Obj) : Own B (w.alloc o) v rs := h.keep ((Below.refl _ _).alloc (Nat.le_refl _) o)

set_option maxHeartbeats 1000000 in
set_option maxRecDepth 10000 in
theorem rrunes_any (s : ByteArray) (w : World) (hs : s.size ≤ 100000000) : Calls Tryd.prog 15 #[.string s] w (MkInts (R s) w) := by
  go_enter Tryd.func15, Tryd.ntmps15
  go_wp2
  go_loopw [3, 4] (fun v i wr => ∃ (pos : Nat) (ds : List Nat) (A : Option Addr) (c : Nat), i = .int .i64 pos ∧ v = .slice A ds.length c ∧ Own w.heap.size wr (.slice A ds.length c) ds ∧ ds ++ D (s.data.toList.drop pos) = R s ∧ ds.length ≤ pos ∧ Below w.heap.size w wr ∧ pos ≤ s.size + 4) (fun _ i _ => s.size + 4 - (intOf i).toNat)
  case atStart => exact ⟨0, [], none, 0, rfl, rfl, Own.nil _ _, rfl, Nat.le_refl _, Below.refl _ _, by omega⟩
  case round =>
    obtain ⟨pos, ds, A, c, rfl, rfl, hown, hd, hl, hb, hps⟩ := hrel
    have HO := Lib.hid hown
    have HD := Lib.hid hd
    have HB := Lib.hid hb
    have HL := Lib.hid hl
    clear hown hd hb hl
    have p0 : (0 : Int) ≤ (pos : Int) := by omega
    have p1 : (pos : Int) ≤ 100000004 := by omega
    by_cases hp : pos < s.size
    · have HN := Lib.hid (D_next s pos hp)
      have hw := decode_pos s pos
      have hw4 := decode_w4 s pos
      rw [decode_dc] at hw hw4
      have HDC := Lib.hid (decode_dc s pos)
      generalize hdc : dc (s.data.toList.drop pos) = d at hw hw4 HDC
      have HDD := Lib.hid hdc
      clear hdc
      have q0 : (1 : Int) ≤ (d.2 : Int) := by omega
      have q1 : (d.2 : Int) ≤ 4 := by omega
      go_wp2_with fail
      refine (next_any s pos _ hp hs).mono ?_
      unfold NextSays
      rw [HDD.out]
      rintro e w1 ⟨rfl, rfl⟩
      go_wp2_with (at_builtin; refine wp_append_int rfl _ _ rfl w.heap.size _ ds d.1 rfl (HO.out.alloc _) wr.heap.size rfl ?_ ?_ ?_ ?_; (rw [World.cell?_alloc_new]; rfl); (have := HL.out; omega); (have := HB.out.size; simp; omega); intro A' c' w2 HO2 HB2)
      go_roundw
      case rel =>
        refine ⟨pos + d.2, ds ++ [d.1], A', c', by go_num, by rw [List.length_append, List.length_singleton], HO2.out.re, ?_, ?_, ?_, by omega⟩
        · rw [← HD.out, HN.out, HDC.out, List.append_assoc]
          rfl
        · rw [List.length_append, List.length_singleton]
          have := HL.out
          omega
        · exact (HB.out.alloc HB.out.size _).trans (HB2.out)
      case measure => simp [intOf]; omega
    · go_wp2
      go_ret
      have h := HD.out
      rw [D_done s pos hp, List.append_nil] at h
      subst h
      exact ⟨A, c, rfl, HO.out, HB.out⟩
end Go.Proofs.YtbofkndkgdnbmaaDoor

/-
  Own text. The walks over Len, has and At of both nets.
-/
import Derived.Test.YtgepnglmhalomaaWalkB
namespace Go.Proofs.Ytgepnglmhalomaa
open Go.RowKit
section
variable {w : World} {bp : Nat} {es : List Ent} {G : Option Nat} {c : Nat}
set_option maxHeartbeats 400000 in
theorem len_any {T : Nat} (h : NetAt w T bp es G c) :
    Calls Try.prog 9 #[.pointer (some ⟨bp, 0, none⟩)] w fun e w' => e = .returned (.int .i64 es.length) ∧ w = w' := by
  have h0 := h.len_cell
  unfold sl at h0
  clear h
  go_enter Try.func9, Try.ntmps9
  go_wp2
  go_ret
  exact ⟨rfl, rfl⟩
set_option maxHeartbeats 400000 in
theorem has_yes {T : Nat} (h : NetAt w T bp es G c) (i : Nat) (hi : i < es.length) :
    Calls Try.prog 25 #[.pointer (some ⟨bp, 0, none⟩), .int .i64 i] w fun e w' => e = .returned (.bool true) ∧ w = w' := by
  have h0 := h.len_cell
  unfold sl at h0
  clear h
  go_enter Try.func25, Try.ntmps25
  go_wp2
  go_ret
  exact ⟨rfl, rfl⟩
set_option maxHeartbeats 400000 in
theorem has_no {T : Nat} (h : NetAt w T bp es G c) (i : Int) (hi : i < 0 ∨ (es.length : Int) ≤ i) :
    Calls Try.prog 25 #[.pointer (some ⟨bp, 0, none⟩), .int .i64 i] w fun e w' => e = .returned (.bool false) ∧ w = w' := by
  have h0 := h.len_cell
  unfold sl at h0
  clear h
  by_cases hi' : i < 0
  · clear hi
    go_enter Try.func25, Try.ntmps25
    go_wp2
    go_ret
    exact ⟨rfl, rfl⟩
  · have hd : decide (i < (es.length : Int)) = false := by simp; omega
    have hi' : 0 ≤ i := by omega
    clear hi
    go_enter Try.func25, Try.ntmps25
    go_wp2
    go_ret
    exact ⟨rfl, rfl⟩
set_option maxHeartbeats 400000 in
theorem rhas_yes {T : Nat} (h : NetAt w T bp es G c) (i : Nat) (hi : i < es.length) :
    Calls Try.prog 26 #[.pointer (some ⟨bp, 0, none⟩), .int .i64 i] w fun e w' => e = .returned (.bool true) ∧ w = w' := by
  have h0 := h.len_cell
  unfold sl at h0
  clear h
  go_enter Try.func26, Try.ntmps26
  go_wp2
  go_ret
  exact ⟨rfl, rfl⟩
set_option maxHeartbeats 400000 in
theorem rhas_no {T : Nat} (h : NetAt w T bp es G c) (i : Int) (hi : i < 0 ∨ (es.length : Int) ≤ i) :
    Calls Try.prog 26 #[.pointer (some ⟨bp, 0, none⟩), .int .i64 i] w fun e w' => e = .returned (.bool false) ∧ w = w' := by
  have h0 := h.len_cell
  unfold sl at h0
  clear h
  by_cases hi' : i < 0
  · clear hi
    go_enter Try.func26, Try.ntmps26
    go_wp2
    go_ret
    exact ⟨rfl, rfl⟩
  · have hd : decide (i < (es.length : Int)) = false := by simp; omega
    have hi' : 0 ≤ i := by omega
    clear hi
    go_enter Try.func26, Try.ntmps26
    go_wp2
    go_ret
    exact ⟨rfl, rfl⟩
/-- A parcel that a net tells: its bytes are a copy. -/
def AtPost (w : World) (x : Pk) (e : Ending) (w' : World) : Prop :=
  ∃ g, e = .returned (.tuple #[.agg #[.int .i64 x.f, .int .i64 x.t, .slice (some ⟨g, 0, none⟩) x.b.length x.b.length], .bool true]) ∧ Blk w' g 5 (x.b.map bval).toArray ∧ w.heap.size ≤ g ∧ Below w.heap.size w w'
set_option maxHeartbeats 400000 in
theorem at_yes (h : NetAt w 53 bp es G c) (i : Nat) (x : Ent) (hx : es[i]? = some x) :
    Calls Try.prog 21 #[.pointer (some ⟨bp, 0, none⟩), .int .i64 i] w (AtPost w x.pk) := by
  have hi : i < es.length := (List.getElem?_eq_some_iff.1 hx).1
  have h0 := h.len_cell
  obtain ⟨g, hg, c0, c1, c2⟩ := h.cells hx
  subst hg
  have hl := h.lt g (mem_fp.2 (.inr (.inl rfl)))
  have hlb := h.hd.lt
  have hok := h.mem hx
  unfold sl at h0
  simp only [Option.map_some] at h0
  have HH := Lib.hid h
  have HX := Lib.hid hx
  have HOK := Lib.hid hok
  unfold Ent.bs sl at c2
  clear h hx hok
  go_enter Try.func21, Try.ntmps21
  go_wp2_with (first
    | (go_at_call 25; refine (has_yes (HH.out.below ((Below.refl _ _).alloc (Nat.le_refl _) _)) i hi).mono ?_; rintro e w' ⟨rfl, rfl⟩)
    | (go_at_call 23; refine (copied_any _ _ _ _ _ x.b _ (HOK.out.bts.below' ((Below.refl _ _).alloc (Nat.le_refl _) _)) rfl HOK.out.len).mono ?_; rintro e w1 ⟨g1, rfl, hb1, hg1, hw1⟩; have HB1 := Lib.hid hb1; have HG1 := Lib.hid hg1; have HW1 := Lib.hid hw1; have hbox := (Blk.new w 32 #[.int .i64 0, .int .i64 0, .slice none 0 0]).below hw1 (by simp); have p0 := hbox.cell 0; have p1 := hbox.cell 1; have p2 := hbox.cell 2; have pf := hbox.frozen; simp at p0 p1 p2; clear hb1 hg1 hw1 hbox))
  have hg1 := HG1.out
  simp only [World.size_alloc] at hg1
  refine bodyPost_ret (v := .tuple #[.agg #[.int .i64 x.f, .int .i64 x.t, .slice (some ⟨g1, 0, none⟩) x.b.length x.b.length], .bool true]) (by simp [results, Try.results21, go_sem, p0, p1, p2]) rfl ⟨g1, rfl, ?_, ?_, ?_⟩
  · exact ((HB1.out.far (by simp; omega) _).far (by simp; omega) _).far (by simp; omega) _
  · omega
  · exact (((((Below.refl _ _).alloc (Nat.le_refl _) _).trans (HW1.out.mono (by simp))).setCell (by simp) _).setCell (by simp) _).setCell (by simp) _
set_option maxHeartbeats 400000 in
theorem at_no (h : NetAt w 53 bp es G c) (i : Int) (hi : i < 0 ∨ (es.length : Int) ≤ i) :
    Calls Try.prog 21 #[.pointer (some ⟨bp, 0, none⟩), .int .i64 i] w fun e w' => e = .returned (.tuple #[.agg #[.int .i64 0, .int .i64 0, .slice none 0 0], .bool false]) ∧ Below w.heap.size w w' := by
  have HH := Lib.hid h
  have HI := Lib.hid hi
  clear h hi
  go_enter Try.func21, Try.ntmps21
  go_wp2_with (first
    | (go_at_call 25; refine (has_no (HH.out.below ((Below.refl _ _).alloc (Nat.le_refl _) _)) i HI.out).mono ?_; rintro e w' ⟨rfl, rfl⟩))
  refine bodyPost_ret (v := .tuple #[.agg #[.int .i64 0, .int .i64 0, .slice none 0 0], .bool false]) (by simp [results, Try.results21, go_sem]) rfl ⟨rfl, ?_⟩
  exact (Below.refl _ _).alloc (Nat.le_refl _) _
set_option maxHeartbeats 400000 in
theorem rat_yes (h : NetAt w 29 bp es G c) (i : Nat) (x : Ent) (hx : es[i]? = some x) :
    Calls Try.prog 22 #[.pointer (some ⟨bp, 0, none⟩), .int .i64 i] w fun e w' => e = .returned (.tuple #[.agg #[.int .i64 x.f, .int .i64 x.t, .slice (x.A.map fun g => ⟨g, 0, none⟩) x.b.length x.c], .bool true]) ∧ Below w.heap.size w w' := by
  have hi : i < es.length := (List.getElem?_eq_some_iff.1 hx).1
  have h0 := h.len_cell
  obtain ⟨g, hg, c0, c1, c2⟩ := h.cells hx
  subst hg
  have hl := h.lt g (mem_fp.2 (.inr (.inl rfl)))
  have hlb := h.hd.lt
  unfold sl at h0
  simp only [Option.map_some] at h0
  have HH := Lib.hid h
  unfold Ent.bs sl at *
  clear h hx
  go_enter Try.func22, Try.ntmps22
  go_wp2_with (first
    | (go_at_call 26; refine (rhas_yes (HH.out.below ((Below.refl _ _).alloc (Nat.le_refl _) _)) i hi).mono ?_; rintro e w' ⟨rfl, rfl⟩))
  refine bodyPost_ret (v := .tuple #[.agg #[.int .i64 x.f, .int .i64 x.t, .slice (x.A.map fun g => ⟨g, 0, none⟩) x.b.length x.c], .bool true]) (by simp [results, Try.results22, go_sem]) rfl ⟨rfl, ?_⟩
  exact (Below.refl _ _).alloc (Nat.le_refl _) _
set_option maxHeartbeats 400000 in
theorem rat_no (h : NetAt w 29 bp es G c) (i : Int) (hi : i < 0 ∨ (es.length : Int) ≤ i) :
    Calls Try.prog 22 #[.pointer (some ⟨bp, 0, none⟩), .int .i64 i] w fun e w' => e = .returned (.tuple #[.agg #[.int .i64 0, .int .i64 0, .slice none 0 0], .bool false]) ∧ Below w.heap.size w w' := by
  have HH := Lib.hid h
  have HI := Lib.hid hi
  clear h hi
  go_enter Try.func22, Try.ntmps22
  go_wp2_with (first
    | (go_at_call 26; refine (rhas_no (HH.out.below ((Below.refl _ _).alloc (Nat.le_refl _) _)) i HI.out).mono ?_; rintro e w' ⟨rfl, rfl⟩))
  refine bodyPost_ret (v := .tuple #[.agg #[.int .i64 0, .int .i64 0, .slice none 0 0], .bool false]) (by simp [results, Try.results22, go_sem]) rfl ⟨rfl, ?_⟩
  exact (Below.refl _ _).alloc (Nat.le_refl _) _
end
end Go.Proofs.Ytgepnglmhalomaa

/-
  Own text. The walks over same and Double of both nets.
-/
import Derived.Test.YtgepnglmhalomaaWalkC
namespace Go.Proofs.Ytgepnglmhalomaa
open Go.RowKit

/-- The string of some bytes. -/
def strOf (bs : List UInt8) : ByteArray := (bs.map fun x => (x.toNat : Int)).foldl (fun r n => r.push (UInt8.ofNat n.toNat)) ByteArray.empty

theorem run_conv {P : Program} {w : World} {src dst e : TypeId} {A : Option Addr} {n c : Nat} {bs : List UInt8}
    (hs : P.underlying src = some (.slice e)) (he : P.underlying e = some (.int .u8)) (hd : P.underlying dst = some .string) (h : Bts w A bs) (hl : bs.length = n) :
    (convert src dst (.slice A n c)).run P w = .ok (.string (strOf bs)) w := by
  rw [run_convert_bytes_string w src dst e A n c hs he hd]
  subst hl
  by_cases hp : 0 < bs.length
  · obtain ⟨ad, rfl, hc⟩ := h hp
    refine run_bytesToString w ad bs.length c _ ?_
    rw [List.map_map]
    have h := run_loadCells_list (P := P) w ad (bs.map bval) hc
    rw [List.length_map] at h
    exact h
  · have hb : bs = [] := List.eq_nil_of_length_eq_zero (by omega)
    subst hb
    rcases A with _ | a
    · rfl
    · rfl

set_option maxHeartbeats 400000 in
theorem same_yes (f t : Int) (A B : Option Addr) (n c d : Nat) (bs : List UInt8) (w : World) (ha : Bts w A bs) (hb : Bts w B bs) (hl : bs.length = n) :
    Calls Try.prog 14 #[.agg #[.int .i64 f, .int .i64 t, .slice A n c], .agg #[.int .i64 f, .int .i64 t, .slice B n d]] w fun e w' => e = .returned (.bool true) ∧ Below w.heap.size w w' := by
  have hc1 := run_conv (P := Try.prog) (src := 30) (dst := 9) (c := c) Try.underlying30 Try.underlying5 Try.underlying9 (ha.below' (((Below.refl w.heap.size w).alloc (Nat.le_refl _) (.cells #[.int .i64 f, .int .i64 t, .slice A n c] 32)).alloc (by simp) (.cells #[.int .i64 f, .int .i64 t, .slice B n d] 32))) hl
  have hc2 := run_conv (P := Try.prog) (src := 30) (dst := 9) (c := d) Try.underlying30 Try.underlying5 Try.underlying9 (hb.below' (((Below.refl w.heap.size w).alloc (Nat.le_refl _) (.cells #[.int .i64 f, .int .i64 t, .slice A n c] 32)).alloc (by simp) (.cells #[.int .i64 f, .int .i64 t, .slice B n d] 32))) hl
  generalize strOf bs = S at hc1 hc2
  clear ha hb hl
  go_enter Try.func14, Try.ntmps14
  go_wp2
  go_ret
  exact ⟨rfl, ((Below.refl w.heap.size w).alloc (Nat.le_refl _) _).alloc (by simp) _⟩

/-- A parcel has been sent again. -/
def SentPost (v : Value) (w : World) (T bp : Nat) (es : List Ent) (G : Option Nat) (x : Pk) (e : Ending) (w' : World) : Prop :=
  e = .returned v ∧ ∃ G' c' A cc, NetAt w' T bp (es ++ [⟨x.f, x.t, x.b, A, cc⟩]) G' c' ∧ (∀ g, A = some g → w.heap.size ≤ g) ∧ (∀ g, G' = some g → G = some g ∨ w.heap.size ≤ g) ∧ Kept (fp bp G es) w w'

theorem Blk.bts {w : World} {g : Nat} {bs : List UInt8} (h : Blk w g 5 (bs.map bval).toArray) : Bts w (some ⟨g, 0, none⟩) bs := fun _ =>
  ⟨_, rfl, fun j u hj => by
    rw [Addr.add_lit, Nat.zero_add, h.cell, List.getElem?_toArray]
    exact hj⟩

section
variable {w : World} {bp : Nat} {es : List Ent} {G : Option Nat} {c : Nat}
set_option maxHeartbeats 400000 in
theorem double_yes (h : NetAt w 53 bp es G c) (hn : es.length ≤ 1000000) (i : Nat) (x : Ent) (hx : es[i]? = some x) :
    Calls Try.prog 15 #[.pointer (some ⟨bp, 0, none⟩), .int .i64 i] w (SentPost (.bool true) w 53 bp es G x.pk) := by
  have HH := Lib.hid h
  have HX := Lib.hid hx
  have HL := Lib.hid (h.mem hx).len
  clear h hx
  go_enter Try.func15, Try.ntmps15
  go_wp2_with (first
    | (go_at_call 21; refine (at_yes HH.out i x HX.out).mono ?_; rintro e w1 ⟨g1, rfl, hb1, hg1, hw1⟩; have HB1 := Lib.hid hb1; have HG1 := Lib.hid hg1; have HW1 := Lib.hid hw1; clear hb1 hg1 hw1)
    | (go_at_call 10; refine (send_any (HH.out.below (HW1.out.trans ((Below.refl _ _).alloc HW1.out.size _))) hn x.pk _ _ _ ?_ rfl HL.out).mono ?_; (exact (HB1.out.alloc _).bts); rintro e w2 ⟨rfl, G', c', A, cc, hN, hA, hG, hK⟩; have HN := Lib.hid hN; have HA := Lib.hid hA; have HG := Lib.hid hG; have HK := Lib.hid hK; clear hN hA hG hK))
  go_ret
  have hs := HW1.out.size
  refine ⟨rfl, G', c', A, cc, HN.out, fun g hg => ?_, fun g hg => ?_, ?_⟩
  · have := HA.out g hg
    simp at this
    omega
  · rcases HG.out g hg with h | h
    · exact .inl h
    · simp at h
      exact .inr (by omega)
  · exact ((Kept.of_below HW1.out _).alloc _).trans HK.out
set_option maxHeartbeats 400000 in
theorem double_no (h : NetAt w 53 bp es G c) (i : Int) (hi : i < 0 ∨ (es.length : Int) ≤ i) :
    Calls Try.prog 15 #[.pointer (some ⟨bp, 0, none⟩), .int .i64 i] w fun e w' => e = .returned (.bool false) ∧ Below w.heap.size w w' := by
  have HH := Lib.hid h
  have HI := Lib.hid hi
  clear h hi
  go_enter Try.func15, Try.ntmps15
  go_wp2_with (first
    | (go_at_call 21; refine (at_no HH.out i HI.out).mono ?_; rintro e w1 ⟨rfl, hw1⟩; have HW1 := Lib.hid hw1; clear hw1))
  go_ret
  exact ⟨rfl, HW1.out.alloc HW1.out.size _⟩
set_option maxHeartbeats 400000 in
theorem rdouble_yes (h : NetAt w 29 bp es G c) (hn : es.length ≤ 1000000) (i : Nat) (x : Ent) (hx : es[i]? = some x) :
    Calls Try.prog 16 #[.pointer (some ⟨bp, 0, none⟩), .int .i64 i] w (SentPost (.bool true) w 29 bp es G x.pk) := by
  have HH := Lib.hid h
  have HX := Lib.hid hx
  have HO := Lib.hid (h.mem hx)
  clear h hx
  go_enter Try.func16, Try.ntmps16
  go_wp2_with (first
    | (go_at_call 22; refine (rat_yes HH.out i x HX.out).mono ?_; rintro e w1 ⟨rfl, hw1⟩; have HW1 := Lib.hid hw1; clear hw1)
    | (go_at_call 11; refine (rsend_any (HH.out.below (HW1.out.trans ((Below.refl _ _).alloc HW1.out.size _))) hn x.pk _ _ _ ?_ rfl HO.out.len).mono ?_; (exact HO.out.bts.below' (HW1.out.trans ((Below.refl _ _).alloc HW1.out.size _))); rintro e w2 ⟨rfl, G', c', A, cc, hN, hA, hG, hK⟩; have HN := Lib.hid hN; have HA := Lib.hid hA; have HG := Lib.hid hG; have HK := Lib.hid hK; clear hN hA hG hK))
  go_ret
  have hs := HW1.out.size
  refine ⟨rfl, G', c', A, cc, HN.out, fun g hg => ?_, fun g hg => ?_, ?_⟩
  · have := HA.out g hg
    simp at this
    omega
  · rcases HG.out g hg with h | h
    · exact .inl h
    · simp at h
      exact .inr (by omega)
  · exact ((Kept.of_below HW1.out _).alloc _).trans HK.out
set_option maxHeartbeats 400000 in
theorem rdouble_no (h : NetAt w 29 bp es G c) (i : Int) (hi : i < 0 ∨ (es.length : Int) ≤ i) :
    Calls Try.prog 16 #[.pointer (some ⟨bp, 0, none⟩), .int .i64 i] w fun e w' => e = .returned (.bool false) ∧ Below w.heap.size w w' := by
  have HH := Lib.hid h
  have HI := Lib.hid hi
  clear h hi
  go_enter Try.func16, Try.ntmps16
  go_wp2_with (first
    | (go_at_call 22; refine (rat_no HH.out i HI.out).mono ?_; rintro e w1 ⟨rfl, hw1⟩; have HW1 := Lib.hid hw1; clear hw1))
  go_ret
  exact ⟨rfl, HW1.out.alloc HW1.out.size _⟩
end
end Go.Proofs.Ytgepnglmhalomaa

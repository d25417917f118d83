/-
  Own text. The walk over the program's Spoil; what becomes of a net when a byte is changed in place, when a parcel's bytes are put elsewhere.
-/
import Derived.Test.YtgepnglmhalomaaWalkF
namespace Go.Proofs.Ytgepnglmhalomaa
open Go.RowKit

/-- A byte that is changed by by's lowest eight bits. -/
def spoilt (v : UInt8) (b : Int) : UInt8 := v ^^^ UInt8.ofNat (b % 256).toNat

theorem xor_u8 (v : UInt8) (b : Int) : Value.int IntKind.u8 (bits BinOp.xor IntKind.u8 (v.toNat : Int) (b % 256)) = bval (spoilt v b) := by
  have h1 : v.toNat < 256 := v.toNat_lt
  have h2 : 0 ≤ b % 256 := Int.emod_nonneg _ (by omega)
  have h3 : b % 256 < 256 := Int.emod_lt_of_pos _ (by omega)
  rw [u8_xor _ _ (by omega) (by omega) h2 h3]
  unfold bval spoilt
  rw [UInt8.toNat_xor, Int.toNat_natCast, UInt8.toNat_ofNat']
  congr 3
  omega

theorem and_255 (b : Int) : bits BinOp.and IntKind.i64 b 255 = b % 256 := by
  show IntKind.i64.wrap ((BitVec.ofInt 64 b &&& BitVec.ofInt 64 255).toNat : Int) = _
  have h : (BitVec.ofInt 64 b &&& BitVec.ofInt 64 255).toNat = (b % 256).toNat := by
    rw [BitVec.toNat_and, BitVec.toNat_ofInt, show (BitVec.ofInt 64 255).toNat = 2 ^ 8 - 1 from rfl, Nat.and_two_pow_sub_one_eq_mod]
    omega
  rw [h, IntKind.wrap_i64]
  omega

section
variable {w w' : World} {T bp : Nat} {es : List Ent} {G : Option Nat} {c : Nat} {i : Nat} {x : Ent}

theorem rows_set_self (es : List Ent) (i : Nat) (x y : Ent) (hx : es[i]? = some x) (h : x.row = y.row) : rows (es.set i y) = rows es := by
  induction es generalizing i with
  | nil => rfl
  | cons z es ih =>
    rcases i with _ | i
    · simp only [List.getElem?_cons_zero, Option.some.injEq] at hx
      subst hx
      simp only [List.set_cons_zero, rows, List.flatMap_cons, h]
    · simp only [List.getElem?_cons_succ] at hx
      have := ih i hx
      simp only [List.set_cons_succ, rows, List.flatMap_cons] at this ⊢
      rw [this]

theorem filterMap_set_self (es : List Ent) (i : Nat) (x y : Ent) (hx : es[i]? = some x) (h : x.A = y.A) : (es.set i y).filterMap Ent.A = es.filterMap Ent.A := by
  induction es generalizing i with
  | nil => rfl
  | cons z es ih =>
    rcases i with _ | i
    · simp only [List.getElem?_cons_zero, Option.some.injEq] at hx
      subst hx
      simp only [List.set_cons_zero, List.filterMap_cons, h]
    · simp only [List.getElem?_cons_succ] at hx
      have := ih i hx
      simp only [List.set_cons_succ, List.filterMap_cons, this]

/-- Another entry than the i-th lies in other blocks. -/
theorem NetAt.apart (h : NetAt w T bp es G c) (hx : es[i]? = some x) {gA : Nat} (hA : x.A = some gA) : ∀ (j : Nat) (y : Ent), es[j]? = some y → j ≠ i → y.A ≠ some gA := by
  intro j y hy hji hyA
  have n4 := h.nodup'.2.2.2
  clear h
  induction es generalizing i j with
  | nil => simp at hx
  | cons z es ih =>
    rcases i with _ | i <;> rcases j with _ | j
    · exact hji rfl
    · simp only [List.getElem?_cons_zero, Option.some.injEq, List.getElem?_cons_succ] at hx hy
      subst hx
      rw [List.filterMap_cons, hA] at n4
      simp only [List.nodup_cons] at n4
      exact n4.1 (List.mem_filterMap.2 ⟨y, List.mem_of_getElem? hy, hyA⟩)
    · simp only [List.getElem?_cons_zero, Option.some.injEq, List.getElem?_cons_succ] at hx hy
      subst hy
      rw [List.filterMap_cons, hyA] at n4
      simp only [List.nodup_cons] at n4
      exact n4.1 (List.mem_filterMap.2 ⟨x, List.mem_of_getElem? hx, hA⟩)
    · simp only [List.getElem?_cons_succ] at hx hy
      refine ih hx j hy (fun e => hji (by rw [e])) ?_
      rw [List.filterMap_cons] at n4
      rcases hz : z.A with _ | g
      · rw [hz] at n4
        exact n4
      · rw [hz] at n4
        exact (List.nodup_cons.1 n4).2

theorem mem_set {y z : Ent} (h : z ∈ es.set i y) : z = y ∨ ∃ j, j ≠ i ∧ es[j]? = some z := by
  obtain ⟨j, hj⟩ := List.mem_iff_getElem?.1 h
  rw [List.getElem?_set] at hj
  by_cases hij : i = j
  · subst hij
    rw [if_pos rfl] at hj
    split at hj
    · injection hj with hj
      exact .inl hj.symm
    · cases hj
  · rw [if_neg hij] at hj
    exact .inr ⟨j, Ne.symm hij, hj⟩

/-- A byte has been changed in place. -/
theorem NetAt.spoilt (h : NetAt w T bp es G c) (hx : es[i]? = some x) {gA : Nat} (hA : x.A = some gA) (k : Nat) (v : UInt8) (hk : k < x.b.length) :
    NetAt (w.setCell ⟨gA, k, none⟩ (bval v)) T bp (es.set i ⟨x.f, x.t, x.b.set k v, x.A, x.c⟩) G c := by
  obtain ⟨n1, n2, n3, n4⟩ := h.nodup'
  have hxm := List.mem_of_getElem? hx
  have hap := h.apart hx hA
  have hgb : bp ≠ gA := fun e => n2 x hxm (by rw [hA, e])
  have hrow : x.row = Ent.row ⟨x.f, x.t, x.b.set k v, x.A, x.c⟩ := by
    unfold Ent.row Ent.bs
    simp only [List.length_set]
  refine ⟨?_, ?_, fun z hz => ?_, ?_⟩
  · simp only [List.length_set]
    exact h.hd.far (p := ⟨gA, k, none⟩) hgb _
  · rw [rows_set_self es i x _ hx hrow, List.length_set]
    exact h.row.keep fun g hg => Below.heap_setCell _ _ _ _ (by rintro rfl; exact n3 x hxm _ hA hg)
  · rcases mem_set hz with rfl | ⟨j, hji, hj⟩
    · have hok := h.ents x hxm
      refine ⟨fun g hg => ?_, fun hn => ?_, ?_⟩
      · simp only [hA, Option.some.injEq] at hg
        subst hg
        obtain ⟨rest, hb⟩ := hok.blk _ hA
        refine ⟨rest, ?_⟩
        have := hb.set_ k (bval v)
        rw [List.setIfInBounds_toArray, List.set_append_left _ _ (by simpa using hk), ← List.map_set] at this
        exact this
      · simp only [hA] at hn
        cases hn
      · simp only [List.length_set]
        exact hok.len
    · exact (h.ents z (List.mem_of_getElem? hj)).keep fun g hg => Below.heap_setCell _ _ _ _ (by rintro rfl; exact hap j z hj hji hg)
  · have : fp bp G (es.set i ⟨x.f, x.t, x.b.set k v, x.A, x.c⟩) = fp bp G es := by
      unfold fp
      rw [filterMap_set_self es i x ⟨x.f, x.t, x.b.set k v, x.A, x.c⟩ hx rfl]
    rw [this]
    exact h.nodup

theorem NetAt.spoilt_fp (hx : es[i]? = some x) (b : List UInt8) : fp bp G (es.set i ⟨x.f, x.t, b, x.A, x.c⟩) = fp bp G es := by
  unfold fp
  rw [filterMap_set_self es i x ⟨x.f, x.t, b, x.A, x.c⟩ hx rfl]
end
section
variable {w : World} {bp : Nat} {es : List Ent} {G : Option Nat} {c : Nat}
set_option maxHeartbeats 400000 in
theorem spoil_yes (h : NetAt w 53 bp es G c) (i : Nat) (x : Ent) (hx : es[i]? = some x) (k : Nat) (v : UInt8) (hv : x.b[k]? = some v) (b : Int) (hb : (b % 256 == 0) = false) :
    Calls Try.prog 19 #[.pointer (some ⟨bp, 0, none⟩), .int .i64 i, .int .i64 k, .int .i64 b] w fun e w' => e = .returned (.bool true) ∧ ∃ gA, x.A = some gA ∧ w' = w.setCell ⟨gA, k, none⟩ (bval (spoilt v b)) := by
  have hi : i < es.length := (List.getElem?_eq_some_iff.1 hx).1
  have hk : k < x.b.length := (List.getElem?_eq_some_iff.1 hv).1
  have h0 := h.len_cell
  obtain ⟨g, hg, c0, c1, c2⟩ := h.cells hx
  subst hg
  have hok := h.mem hx
  obtain ⟨gA, hA⟩ : ∃ gA, x.A = some gA := by
    rcases hA : x.A with _ | gA
    · rw [hok.nil hA] at hk
      simp at hk
    · exact ⟨gA, rfl⟩
  obtain ⟨rest, hblk⟩ := hok.blk gA hA
  have hc := hblk.cell k
  have hf := hblk.frozen k
  rw [List.getElem?_toArray, List.getElem?_append_left (by simpa using hk), List.getElem?_map, hv, Option.map_some] at hc
  unfold bval at hc
  unfold sl at h0
  simp only [Option.map_some] at h0
  unfold Ent.bs sl at c2
  rw [hA, Option.map_some] at c2
  have HH := Lib.hid h
  have HA := Lib.hid hA
  have i0 : (0 : Int) ≤ (i : Int) := by omega
  have i1 : (i : Int) < (es.length : Int) := by omega
  have k0 : (0 : Int) ≤ (k : Int) := by omega
  have k1 : (k : Int) < (x.b.length : Int) := by omega
  have kd0 : decide ((k : Int) < 0) = false := by simp
  have kd1 : decide (x.b.length ≤ k) = false := by simp; omega
  clear h hx hi hok hblk hA hk hv
  go_enter Try.func19, Try.ntmps19
  go_wp2_with (first
    | (go_at_call 25; refine (has_yes HH.out _ (by omega)).mono ?_; rintro e w' ⟨rfl, rfl⟩))
  go_ret
  exact ⟨rfl, gA, HA.out, by rw [xor_u8]⟩
set_option maxHeartbeats 400000 in
theorem spoil_no (h : NetAt w 53 bp es G c) (i k b : Int) (hi : (i < 0 ∨ (es.length : Int) ≤ i) ∨ ∃ (j : Nat) (x : Ent), i = j ∧ es[j]? = some x ∧ ((k < 0 ∨ (x.b.length : Int) ≤ k) ∨ b % 256 = 0)) :
    Calls Try.prog 19 #[.pointer (some ⟨bp, 0, none⟩), .int .i64 i, .int .i64 k, .int .i64 b] w fun e w' => e = .returned (.bool false) ∧ w = w' := by
  have HH := Lib.hid h
  by_cases hni : i < 0 ∨ (es.length : Int) ≤ i
  · have HI := Lib.hid hni
    clear h hi hni
    go_enter Try.func19, Try.ntmps19
    go_wp2_with (first
      | (go_at_call 25; refine (has_no HH.out i HI.out).mono ?_; rintro e w' ⟨rfl, rfl⟩))
    go_ret
    exact ⟨rfl, rfl⟩
  · obtain ⟨j, x, rfl, hx, hcs⟩ := hi.resolve_left hni
    have hj : j < es.length := (List.getElem?_eq_some_iff.1 hx).1
    have h0 := h.len_cell
    obtain ⟨g, hg, c0, c1, c2⟩ := h.cells hx
    subst hg
    unfold sl at h0
    simp only [Option.map_some] at h0
    unfold Ent.bs sl at c2
    have i0 : (0 : Int) ≤ (j : Int) := by omega
    have i1 : (j : Int) < (es.length : Int) := by omega
    have HJ := Lib.hid hj
    clear h hi hni hx hj
    by_cases k0 : k < 0
    · have kd0 : decide (k < 0) = true := by simp; omega
      clear hcs
      go_enter Try.func19, Try.ntmps19
      go_wp2_with (first
        | (go_at_call 25; refine (has_yes HH.out _ HJ.out).mono ?_; rintro e w' ⟨rfl, rfl⟩))
      go_ret
      exact ⟨rfl, rfl⟩
    · obtain ⟨m, rfl⟩ : ∃ m : Nat, k = m := ⟨k.toNat, by omega⟩
      have kd0 : decide ((m : Int) < 0) = false := by simp
      by_cases k1 : x.b.length ≤ m
      · have kd1 : decide (x.b.length ≤ m) = true := by simpa using k1
        clear hcs k0
        go_enter Try.func19, Try.ntmps19
        go_wp2_with (first
          | (go_at_call 25; refine (has_yes HH.out _ HJ.out).mono ?_; rintro e w' ⟨rfl, rfl⟩))
        go_ret
        exact ⟨rfl, rfl⟩
      · have kd1 : decide (x.b.length ≤ m) = false := by simpa using k1
        have hb : (b % 256 == 0) = true := by
          have : b % 256 = 0 := by omega
          simpa using this
        clear hcs k0 k1
        go_enter Try.func19, Try.ntmps19
        go_wp2_with (first
          | (go_at_call 25; refine (has_yes HH.out _ HJ.out).mono ?_; rintro e w' ⟨rfl, rfl⟩))
        go_ret
        exact ⟨rfl, rfl⟩
end
end Go.Proofs.Ytgepnglmhalomaa

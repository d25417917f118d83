/-
  Own text. The walks over the document's utf, Of.
-/
import Derived.Test.YtbofkndkgdnbmaaDoorRefA
import Derived.Laws.BytesArg
namespace Go.Proofs.YtbofkndkgdnbmaaDoor
open Go.RowKit

theorem conv_new (w : World) (zs : List Int) (l : List UInt8) (h : zs = l.map fun x => (x.toNat : Int)) (n : Nat) (hn : n = l.length) :
    (convert 47 9 (.slice (some ⟨w.heap.size, 0, none⟩) n n)).run Tryd.prog (w.alloc (.cells (zs.map (Value.int .u8)).toArray 5)) = .ok (.string ⟨l.toArray⟩) (w.alloc (.cells (zs.map (Value.int .u8)).toArray 5)) := by
  subst hn
  have hl : zs.length = l.length := by rw [h, List.length_map]
  have hc : ∀ i, i < l.length → (w.alloc (.cells (zs.map (Value.int .u8)).toArray 5)).cell? ⟨w.heap.size, 0 + i, none⟩ = some (.int .u8 (zs.getD i 0)) := by
    intro i hi
    rw [World.cell?_alloc_new]
    simp [hl, hi]
  rw [run_convert_bytes_arg _ 47 5 Tryd.underlying47 Tryd.underlying5 w.heap.size 0 l.length l.length zs hl hc 9 Tryd.underlying9]
  congr 2
  unfold strOfNums
  subst h
  congr 2
  rw [List.map_map]
  conv => rhs; rw [← List.map_id l]
  apply List.map_congr_left
  intro x _
  simp
theorem conv1 (w : World) {a : Int} (x : UInt8) (ha : a = x.toNat) : (convert 47 9 (.slice (some ⟨w.heap.size, 0, none⟩) 1 1)).run Tryd.prog (w.alloc (.cells #[.int .u8 a] 5)) = .ok (.string ⟨#[x]⟩) (w.alloc (.cells #[.int .u8 a] 5)) :=
  conv_new w [a] [x] (by rw [ha]; rfl) 1 rfl
theorem conv2 (w : World) {a b : Int} (x y : UInt8) (ha : a = x.toNat) (hb : b = y.toNat) : (convert 47 9 (.slice (some ⟨w.heap.size, 0, none⟩) 2 2)).run Tryd.prog (w.alloc (.cells #[.int .u8 a, .int .u8 b] 5)) = .ok (.string ⟨#[x, y]⟩) (w.alloc (.cells #[.int .u8 a, .int .u8 b] 5)) :=
  conv_new w [a, b] [x, y] (by rw [ha, hb]; rfl) 2 rfl
theorem conv3 (w : World) {a b c : Int} (x y z : UInt8) (ha : a = x.toNat) (hb : b = y.toNat) (hc : c = z.toNat) : (convert 47 9 (.slice (some ⟨w.heap.size, 0, none⟩) 3 3)).run Tryd.prog (w.alloc (.cells #[.int .u8 a, .int .u8 b, .int .u8 c] 5)) = .ok (.string ⟨#[x, y, z]⟩) (w.alloc (.cells #[.int .u8 a, .int .u8 b, .int .u8 c] 5)) :=
  conv_new w [a, b, c] [x, y, z] (by rw [ha, hb, hc]; rfl) 3 rfl
theorem conv4 (w : World) {a b c d : Int} (x y z v : UInt8) (ha : a = x.toNat) (hb : b = y.toNat) (hc : c = z.toNat) (hd : d = v.toNat) : (convert 47 9 (.slice (some ⟨w.heap.size, 0, none⟩) 4 4)).run Tryd.prog (w.alloc (.cells #[.int .u8 a, .int .u8 b, .int .u8 c, .int .u8 d] 5)) = .ok (.string ⟨#[x, y, z, v]⟩) (w.alloc (.cells #[.int .u8 a, .int .u8 b, .int .u8 c, .int .u8 d] 5)) :=
  conv_new w [a, b, c, d] [x, y, z, v] (by rw [ha, hb, hc, hd]; rfl) 4 rfl

theorem w64 (k : Int) (h0 : -9223372036854775808 ≤ k) (h1 : k ≤ 9223372036854775807) : wrap64 k = k := IntWalk.wrap64_in k ⟨h0, h1⟩

theorem byte_name (n : Nat) (h : n < 256) : ∃ x : UInt8, Hid (UInt8.ofNat n = x) ∧ x.toNat = n := ⟨_, Lib.hid rfl, ofNat_byte h⟩

set_option maxHeartbeats 1000000 in
set_option maxRecDepth 10000 in
theorem utf_any (r : Nat) (hv : vr r) (w : World) : Calls Tryd.prog 41 #[.int .i64 (r : Int)] w (Mk (.string ⟨(encN r).toArray⟩) w) := by
  have h0 : (0 : Int) ≤ (r : Int) := by omega
  have h1 : (r : Int) ≤ 1114111 := by have := vr_le hv; omega
  have HV := Lib.hid hv
  have A63 := Lib.hid and_63
  clear hv
  by_cases c1 : (r : Int) < 128
  · obtain ⟨x, Hx, hx⟩ := byte_name (r) (by omega)
    have Ix := Lib.hid hx
    clear hx
    go_enter Tryd.func41, Tryd.ntmps41
    go_wp2
    rw [conv1 w x (by rw [Ix.out])]
    simp only [Result.andThen]
    rw [Oper.upon_value]
    go_wp2
    go_ret
    refine ⟨?_, (Below.refl _ _).alloc (Nat.le_refl _) _⟩
    rw [enc_ascii (by omega), Hx.out]
    rfl
  · by_cases c2 : (r : Int) < 2048
    · obtain ⟨x, Hx, hx⟩ := byte_name (192 + r / 64) (by omega)
      have Ix := Lib.hid hx
      clear hx
      obtain ⟨y, Hy, hy⟩ := byte_name (128 + r % 64) (by omega)
      have Iy := Lib.hid hy
      clear hy
      go_enter Tryd.func41, Tryd.ntmps41
      go_wp2
      rw [conv2 w x y (by rw [Ix.out]; omega) (by rw [Iy.out, A63.out, w64 _ (by omega) (by omega)]; omega)]
      simp only [Result.andThen]
      rw [Oper.upon_value]
      go_wp2
      go_ret
      refine ⟨?_, (Below.refl _ _).alloc (Nat.le_refl _) _⟩
      rw [enc_two (by omega) (by omega), Hx.out, Hy.out]
      rfl
    · by_cases c3 : (r : Int) < 65536
      · obtain ⟨x, Hx, hx⟩ := byte_name (224 + r / 4096) (by omega)
        have Ix := Lib.hid hx
        clear hx
        obtain ⟨y, Hy, hy⟩ := byte_name (128 + r / 64 % 64) (by omega)
        have Iy := Lib.hid hy
        clear hy
        obtain ⟨z, Hz, hz⟩ := byte_name (128 + r % 64) (by omega)
        have Iz := Lib.hid hz
        clear hz
        go_enter Tryd.func41, Tryd.ntmps41
        go_wp2
        rw [conv3 w x y z (by rw [Ix.out]; omega) (by rw [Iy.out, A63.out, w64 _ (by omega) (by omega)]; omega) (by rw [Iz.out, A63.out, w64 _ (by omega) (by omega)]; omega)]
        simp only [Result.andThen]
        rw [Oper.upon_value]
        go_wp2
        go_ret
        refine ⟨?_, (Below.refl _ _).alloc (Nat.le_refl _) _⟩
        rw [enc_three (by omega) (by omega) HV.out, Hx.out, Hy.out, Hz.out]
        rfl
      · obtain ⟨x, Hx, hx⟩ := byte_name (240 + r / 262144) (by omega)
        have Ix := Lib.hid hx
        clear hx
        obtain ⟨y, Hy, hy⟩ := byte_name (128 + r / 4096 % 64) (by omega)
        have Iy := Lib.hid hy
        clear hy
        obtain ⟨z, Hz, hz⟩ := byte_name (128 + r / 64 % 64) (by omega)
        have Iz := Lib.hid hz
        clear hz
        obtain ⟨v, Hv, hv⟩ := byte_name (128 + r % 64) (by omega)
        have Iv := Lib.hid hv
        clear hv
        go_enter Tryd.func41, Tryd.ntmps41
        go_wp2
        rw [conv4 w x y z v (by rw [Ix.out]; omega) (by rw [Iy.out, A63.out, w64 _ (by omega) (by omega)]; omega) (by rw [Iz.out, A63.out, w64 _ (by omega) (by omega)]; omega) (by rw [Iv.out, A63.out, w64 _ (by omega) (by omega)]; omega)]
        simp only [Result.andThen]
        rw [Oper.upon_value]
        go_wp2
        go_ret
        refine ⟨?_, (Below.refl _ _).alloc (Nat.le_refl _) _⟩
        rw [enc_four (by omega) HV.out, Hx.out, Hy.out, Hz.out, Hv.out]
        rfl

/-- A rune as an int. -/
def ival (r : Nat) : Value := .int .i64 (r : Int)
/-- The slice at A reads as the runes rs. -/
def Ints (w : World) (A : Option Addr) (rs : List Nat) : Prop := 0 < rs.length → ∃ b o, A = some ⟨b, o, none⟩ ∧ ∀ j r, rs[j]? = some r → w.cell? ⟨b, o + j, none⟩ = some (ival r)
theorem Ints.below {w w' : World} {A : Option Addr} {rs : List Nat} (h : Ints w A rs) (hb : Below w.heap.size w w') : Ints w' A rs := fun hp => by
  obtain ⟨b, o, hA, hc⟩ := h hp
  exact ⟨b, o, hA, fun j r hj => (hb.cell (p := ⟨b, o + j, none⟩) (block_lt_of_cell (hc j r hj))).trans (hc j r hj)⟩

theorem tx_snoc (l : List Nat) (r : Nat) : tx (l ++ [r]) = tx l ++ ⟨(encN r).toArray⟩ := by
  apply bytes_ext
  rw [tx_data, E_snoc, ByteArray.data_append, Array.toList_append, tx_data]

set_option maxHeartbeats 1000000 in
set_option maxRecDepth 10000 in
theorem of_any (A : Option Addr) (rs : List Nat) (n c : Nat) (w : World) (hA : Ints w A rs) (hn : rs.length = n) (hv : ∀ r ∈ rs, vr r) (hl : n ≤ 100000000) : Calls Tryd.prog 22 #[.slice A n c] w (Mk (.string (tx rs)) w) := by
  have HA := Lib.hid hA
  have HV := Lib.hid hv
  have HN := Lib.hid hn
  clear hA hv hn
  go_enter Tryd.func22, Tryd.ntmps22
  go_wp2
  go_loopw [3, 4] (fun s i wr => ∃ k : Nat, k ≤ n ∧ i = .int .i64 k ∧ s = .string (tx (rs.take k)) ∧ Below w.heap.size w wr) (fun _ i _ => n - (intOf i).toNat)
  case atStart => exact ⟨0, Nat.zero_le _, rfl, rfl, Below.refl _ _⟩
  case round =>
    obtain ⟨k, hk, rfl, rfl, hb⟩ := hrel
    have HB := Lib.hid hb
    clear hb
    have k0 : (0 : Int) ≤ (k : Int) := by omega
    by_cases hlt : k < n
    · have hlt' : k < rs.length := by rw [HN.out]; exact hlt
      obtain ⟨b, o, rfl, hc⟩ := (HA.out.below HB.out) (by omega)
      have hcell := hc k rs[k] (List.getElem?_eq_getElem hlt')
      unfold ival at hcell
      have HR := Lib.hid (HV.out _ (List.getElem_mem hlt'))
      have HT := Lib.hid (show rs.take (k + 1) = rs.take k ++ [rs[k]] from List.take_succ_eq_append_getElem hlt')
      generalize rs[k] = r at hcell HR HT
      clear hc
      go_wp2_with fail
      refine (utf_any r HR.out _).mono ?_
      rintro e w1 ⟨rfl, hw1⟩
      have HW1 := Lib.hid hw1
      clear hw1 hcell
      go_wp2
      · exfalso
        have h1 := (tx_size (rs.take k)).2
        have h2 := (enc_len r).2
        rw [List.length_take] at h1
        omega
      · go_roundw
        case rel => exact ⟨k + 1, by omega, by go_num, by rw [HT.out, tx_snoc], HB.out.trans (HW1.out.mono HB.out.size)⟩
        case measure => simp [intOf]; omega
    · obtain rfl : k = n := by omega
      go_wp2
      go_ret
      have hz : rs.take k = rs := List.take_of_length_le (by rw [HN.out]; omega)
      exact ⟨by rw [hz]; rfl, HB.out⟩
end Go.Proofs.YtbofkndkgdnbmaaDoor

/-
  Own text. The walk over the seat's Runes: some text of runes.
-/
import Derived.Test.YtbofkndkgdnbmaaDoorRefD
import Derived.Deep.CutBlock
import Derived.Deep.DeepCutAuto
namespace Go.Proofs.YtbofkndkgdnbmaaDoor
open Go.RowKit

/-- The slice at A reads as the numbers zs. -/
def Nums (w : World) (A : Option Addr) (zs : List Nat) : Prop := 0 < zs.length → ∃ b o, A = some ⟨b, o, none⟩ ∧ ∀ (j z : Nat), zs[j]? = some z → w.cell? ⟨b, o + j, none⟩ = some (.int .u16 (z : Int)) ∧ z ≤ 65535
/-- The call gives a text of n runes; nothing that was there has turned. -/
def MkText (n : Nat) (w : World) (e : Ending) (w' : World) : Prop := ∃ rs : List Nat, e = .returned (.string (tx rs)) ∧ (∀ r ∈ rs, vr r) ∧ rs.length = n ∧ Below w.heap.size w w'

theorem pick8 (d : Nat) (h : d < 8) : ∃ v : Nat, (#[.int .i64 32, .int .i64 32, .int .i64 9, .int .i64 160, .int .i64 8195, .int .i64 12288, .int .i64 133, .int .i64 10] : Array Value)[d]? = some (.int .i64 (v : Int)) ∧ vr v := by
  have hd : d = 0 ∨ d = 1 ∨ d = 2 ∨ d = 3 ∨ d = 4 ∨ d = 5 ∨ d = 6 ∨ d = 7 := by omega
  rcases hd with rfl | rfl | rfl | rfl | rfl | rfl | rfl | rfl
  · exact ⟨32, rfl, by decide⟩
  · exact ⟨32, rfl, by decide⟩
  · exact ⟨9, rfl, by decide⟩
  · exact ⟨160, rfl, by decide⟩
  · exact ⟨8195, rfl, by decide⟩
  · exact ⟨12288, rfl, by decide⟩
  · exact ⟨133, rfl, by decide⟩
  · exact ⟨10, rfl, by decide⟩
theorem pick12 (d : Nat) (h : d < 12) : ∃ v : Nat, (#[.int .i64 0, .int .i64 31, .int .i64 127, .int .i64 65533, .int .i64 8208, .int .i64 128512, .int .i64 215, .int .i64 247, .int .i64 34, .int .i64 92, .int .i64 930, .int .i64 1024] : Array Value)[d]? = some (.int .i64 (v : Int)) ∧ vr v := by
  have hd : d = 0 ∨ d = 1 ∨ d = 2 ∨ d = 3 ∨ d = 4 ∨ d = 5 ∨ d = 6 ∨ d = 7 ∨ d = 8 ∨ d = 9 ∨ d = 10 ∨ d = 11 := by omega
  rcases hd with rfl | rfl | rfl | rfl | rfl | rfl | rfl | rfl | rfl | rfl | rfl | rfl
  · exact ⟨0, rfl, by decide⟩
  · exact ⟨31, rfl, by decide⟩
  · exact ⟨127, rfl, by decide⟩
  · exact ⟨65533, rfl, by decide⟩
  · exact ⟨8208, rfl, by decide⟩
  · exact ⟨128512, rfl, by decide⟩
  · exact ⟨215, rfl, by decide⟩
  · exact ⟨247, rfl, by decide⟩
  · exact ⟨34, rfl, by decide⟩
  · exact ⟨92, rfl, by decide⟩
  · exact ⟨930, rfl, by decide⟩
  · exact ⟨1024, rfl, by decide⟩

set_option maxHeartbeats 2000000 in
set_option maxRecDepth 10000 in
theorem seat_any (A : Option Addr) (zs : List Nat) (n c : Nat) (w : World) (hA : Nums w A zs) (hn : zs.length = n) (hl : n ≤ 100000000) : Calls Tryd.prog 11 #[.slice A n c] w (MkText n w) := by
  have HA := Lib.hid hA
  have HN := Lib.hid hn
  clear hA hn
  go_enter Tryd.func11, Tryd.ntmps11
  go_wp2
  go_loopg [3, 4] n (fun g v i wr => ∃ (k : Nat) (acc : List Nat) (A' : Option Addr) (c' : Nat), k ≤ n ∧ g = n - k ∧ i = .int .i64 k ∧ acc.length = k ∧ v = .slice A' k c' ∧ (∀ r ∈ acc, vr r) ∧ Own w.heap.size wr (.slice A' k c') acc ∧ Below w.heap.size w wr)
  case atStart => exact ⟨0, [], none, 0, Nat.zero_le _, rfl, rfl, rfl, rfl, by simp, Own.nil _ _, Below.refl _ _⟩
  case round =>
    obtain ⟨k, acc, A', c', hk, hg, rfl, hal, rfl, hv, ho, hb⟩ := hrel
    have HG := Lib.hid hg
    have HAL := Lib.hid hal
    have HV := Lib.hid hv
    have HO := Lib.hid ho
    have HB := Lib.hid hb
    clear hg hal hv ho hb
    have k0 : (0 : Int) ≤ (k : Int) := by omega
    by_cases hlt : k < n
    · obtain ⟨b, o, rfl, hc⟩ := HA.out (by rw [HN.out]; omega)
      obtain ⟨z, hz⟩ : ∃ z, zs[k]? = some z := ⟨_, List.getElem?_eq_getElem (by rw [HN.out]; exact hlt)⟩
      obtain ⟨hc, hz2⟩ := hc k z hz
      have HC := Lib.hid (fun (w2 : World) (h2 : Below w.heap.size w w2) => (h2.cell (p := ⟨b, o + k, none⟩) (block_lt_of_cell hc)).trans hc)
      have hcell := HC.out _ HB.out
      have z0 : (0 : Int) ≤ (z : Int) := by omega
      have z1 : (z : Int) ≤ 65535 := by omega
      clear hc hz hz2
      go_upto_block 2 with (fail)
      go_cut [5, 21] (fun s5 _ wx => ∃ r : Nat, s5 = .int .i64 (r : Int) ∧ vr r ∧ Own w.heap.size wx (.slice A' k c') acc ∧ Below w.heap.size w wx)
      case first =>
        obtain ⟨m, hm⟩ : ∃ m : Int, m = (z : Int) % 8 := ⟨_, rfl⟩
        rw [← hm]
        have hm8 : m = 0 ∨ m = 1 ∨ m = 2 ∨ m = 3 ∨ m = 4 ∨ m = 5 ∨ m = 6 ∨ m = 7 := by omega
        clear hm
        rcases hm8 with rfl | rfl | rfl | rfl | rfl | rfl | rfl | rfl
        · have hbl : b < wr.heap.size := block_lt_of_cell hcell
          obtain ⟨v, hv, hvr⟩ := pick8 (z / 8 % 8) (Nat.mod_lt _ (by omega))
          have HVR := Lib.hid hvr
          have hcv : (wr.alloc (.cells #[.int .i64 32, .int .i64 32, .int .i64 9, .int .i64 160, .int .i64 8195, .int .i64 12288, .int .i64 133, .int .i64 10] 3)).cell? ⟨wr.heap.size, z / 8 % 8, none⟩ = some (.int .i64 (v : Int)) := by rw [World.cell?_alloc_new]; exact hv
          clear hvr hv
          go_wp2
          go_meet
          case rel => exact ⟨v, rfl, HVR.out, HO.out.alloc _, HB.out.alloc HB.out.size _⟩
        · have HVR := Lib.hid (show vr (192 + z / 8 % 60) from .inl (by omega))
          go_wp2
          go_meet
          case rel => exact ⟨192 + z / 8 % 60, by go_num, HVR.out, HO.out, HB.out⟩
        · have HVR := Lib.hid (show vr (900 + z / 8 % 200) from .inl (by omega))
          go_wp2
          go_meet
          case rel => exact ⟨900 + z / 8 % 200, by go_num, HVR.out, HO.out, HB.out⟩
        · have hbl : b < wr.heap.size := block_lt_of_cell hcell
          obtain ⟨v, hv, hvr⟩ := pick12 (z / 8 % 12) (Nat.mod_lt _ (by omega))
          have HVR := Lib.hid hvr
          have hcv : (wr.alloc (.cells #[.int .i64 0, .int .i64 31, .int .i64 127, .int .i64 65533, .int .i64 8208, .int .i64 128512, .int .i64 215, .int .i64 247, .int .i64 34, .int .i64 92, .int .i64 930, .int .i64 1024] 3)).cell? ⟨wr.heap.size, z / 8 % 12, none⟩ = some (.int .i64 (v : Int)) := by rw [World.cell?_alloc_new]; exact hv
          clear hvr hv
          go_wp2
          go_meet
          case rel => exact ⟨v, rfl, HVR.out, HO.out.alloc _, HB.out.alloc HB.out.size _⟩
        · have HVR := Lib.hid (show vr (48 + z / 8 % 75) from .inl (by omega))
          go_wp2
          go_meet
          case rel => exact ⟨48 + z / 8 % 75, by go_num, HVR.out, HO.out, HB.out⟩
        · have HVR := Lib.hid (show vr (48 + z / 8 % 75) from .inl (by omega))
          go_wp2
          go_meet
          case rel => exact ⟨48 + z / 8 % 75, by go_num, HVR.out, HO.out, HB.out⟩
        · have HVR := Lib.hid (show vr (97 + z / 8 % 26) from .inl (by omega))
          go_wp2
          go_meet
          case rel => exact ⟨97 + z / 8 % 26, by go_num, HVR.out, HO.out, HB.out⟩
        · have HVR := Lib.hid (show vr (97 + z / 8 % 26) from .inl (by omega))
          go_wp2
          go_meet
          case rel => exact ⟨97 + z / 8 % 26, by go_num, HVR.out, HO.out, HB.out⟩
      case rest =>
        obtain ⟨r, rfl, hr, ho, hb⟩ := hcut
        have HR := Lib.hid hr
        have HO2 := Lib.hid ho
        have HB2 := Lib.hid hb
        clear hr ho hb hcell HO HB
        go_wp2_with (at_builtin; refine wp_append_int rfl _ _ rfl w.heap.size _ acc r rfl (HO2.out.alloc _) wc.heap.size rfl ?_ ?_ ?_ ?_; (rw [World.cell?_alloc_new]; rfl); (have := HAL.out; omega); (have := HB2.out.size; simp; omega); intro A2 c2 w2 HO3 HB3)
        go_roundg (n - (k + 1))
        case measure => have := HG.out; omega
        case rel =>
          have hal := HAL.out
          subst hal
          refine ⟨acc.length + 1, acc ++ [r], A2, c2, by omega, rfl, by go_num, by simp, rfl, ?_, HO3.out, ?_⟩
          · intro x hx
            rcases List.mem_append.1 hx with hx | hx
            · exact HV.out x hx
            · rw [List.mem_singleton] at hx
              rw [hx]
              exact HR.out
          · exact (HB2.out.alloc HB2.out.size _).trans HB3.out
    · obtain rfl : k = n := by omega
      go_wp2_with fail
      refine (of_any A' acc k c' _ HO.out.ints HAL.out HV.out hl).mono ?_
      rintro e w1 ⟨rfl, hw1⟩
      have HW1 := Lib.hid hw1
      clear hw1
      go_wp2_with fail
      go_ret
      exact ⟨acc, rfl, HV.out, HAL.out, HB.out.trans (HW1.out.mono HB.out.size)⟩
end Go.Proofs.YtbofkndkgdnbmaaDoor

/-
  Own text. The walks over the document's clean, Clean, Right.
-/
import Derived.Test.YtbofkndkgdnbmaaDoorRefD
namespace Go.Proofs.YtbofkndkgdnbmaaDoor
open Go.RowKit

/-- What is carried from round to round. -/
def RClean (w : World) (rs : List Nat) (v g i : Value) (wr : World) : Prop :=
  ∃ (k : Nat) (acc : List Nat) (b : Bool) (A : Option Addr) (c : Nat), k ≤ rs.length ∧ i = .int .i64 k ∧ v = .slice A acc.length c ∧ g = .bool b ∧ Own w.heap.size wr (.slice A acc.length c) acc ∧ runC ([], false) (rs.take k) = (acc, b) ∧ Below w.heap.size w wr

theorem rclean_next {w wr : World} {rs acc acc' : List Nat} {b b' : Bool} {A : Option Addr} {c k : Nat} {v : Value} (hk : k < rs.length) (hv : v = .slice A acc'.length c) (hc : runC ([], false) (rs.take k) = (acc, b)) (hst : stepC (acc, b) rs[k] = (acc', b')) (ho : Own w.heap.size wr (.slice A acc'.length c) acc') (hb : Below w.heap.size w wr) :
    RClean w rs v (.bool b') (.int .i64 ((k : Int) + 1)) wr := by
  refine ⟨k + 1, acc', b', A, c, by omega, by go_num, hv, rfl, ho, ?_, hb⟩
  rw [List.take_succ_eq_append_getElem hk, runC_snoc, hc, hst]

set_option maxHeartbeats 2000000 in
set_option maxRecDepth 10000 in
theorem rclean_any (A : Option Addr) (rs : List Nat) (n c : Nat) (w : World) (hA : Ints w A rs) (hn : rs.length = n) (hv : ∀ r ∈ rs, vr r) (hl : n ≤ 100000000) : Calls Tryd.prog 29 #[.slice A n c] w (MkInts (cleanR rs) w) := by
  have HA := Lib.hid hA
  have HV := Lib.hid hv
  have HN := Lib.hid hn
  clear hA hv hn
  go_enter Tryd.func29, Tryd.ntmps29
  go_wp2
  go_loopw [3, 4, 5] (fun v g i wr => RClean w rs v g i wr) (fun _ _ i _ => n - (intOf i).toNat)
  case atStart => exact ⟨0, [], false, none, 0, Nat.zero_le _, rfl, rfl, rfl, Own.nil _ _, rfl, Below.refl _ _⟩
  case round =>
    obtain ⟨k, acc, b, A', c', hk, rfl, rfl, rfl, hown, hc, hb⟩ := hrel
    rw [HN.out] at hk
    have HB := Lib.hid hb
    have HO := Lib.hid hown
    have HC := Lib.hid hc
    have hal := runC_len (rs.take k)
    rw [hc, List.length_take] at hal
    have HAL := Lib.hid (show acc.length ≤ 100000000 by have := HN.out; simp only at hal; omega)
    clear hb hown hc hal
    have k0 : (0 : Int) ≤ (k : Int) := by omega
    have a0 : (0 : Int) ≤ (acc.length : Int) := by omega
    by_cases hlt : k < n
    · have hlt' : k < rs.length := by rw [HN.out]; exact hlt
      have HLT := Lib.hid hlt'
      obtain ⟨ab, o, rfl, hcl⟩ := HA.out (by omega)
      have hcl := hcl k rs[k] (List.getElem?_eq_getElem hlt')
      have HCL := Lib.hid (fun (w2 : World) (h2 : Below w.heap.size w w2) => (show w2.cell? ⟨ab, o + k, none⟩ = some (.int .i64 ((rs[k] : Nat) : Int)) from (h2.cell (p := ⟨ab, o + k, none⟩) (block_lt_of_cell hcl)).trans hcl))
      have hcell := HCL.out _ HB.out
      have hr := vr_le (HV.out _ (List.getElem_mem hlt'))
      have HNX := Lib.hid (fun (acc' : List Nat) (b' : Bool) (A2 : Option Addr) (c2 : Nat) (v2 : Value) (w2 : World) (hv : v2 = .slice A2 acc'.length c2) (hst : stepC (acc, b) rs[k] = (acc', b')) (ho : Own w.heap.size w2 (.slice A2 acc'.length c2) acc') (hb : Below w.heap.size w w2) => rclean_next hlt' hv HC.out hst ho hb)
      generalize rs[k] = r at hcell HCL hr HNX
      clear hcl hlt'
      by_cases hw : whiteN r = true
      · go_wp2_with (go_at_call 46; refine (rwhite_any _ hr _).mono ?_; rintro e w' ⟨rfl, rfl⟩)
        go_roundw
        case rel => exact HNX.out _ _ _ _ _ _ rfl (step_white hw) HO.out HB.out
        case measure => simp [intOf]; omega
      · have hw' : whiteN r = false := by simpa using hw
        clear hw
        by_cases hbr : bareN r = true
        · go_wp2_with (first
            | (go_at_call 46; refine (rwhite_any _ hr _).mono ?_; rintro e w' ⟨rfl, rfl⟩)
            | (go_at_call 47; refine (rbare_any _ hr _).mono ?_; rintro e w' ⟨rfl, rfl⟩))
          go_roundw
          case rel => exact HNX.out _ _ _ _ _ _ rfl (step_bare hbr) HO.out HB.out
          case measure => simp [intOf]; omega
        · have hb' : bareN r = false := by simpa using hbr
          clear hbr
          by_cases hg : b = true ∧ acc ≠ []
          · obtain ⟨rfl, hacc⟩ := hg
            have HST := Lib.hid (step_gap hb' hw' hacc)
            have hpos : (0 : Int) < (acc.length : Int) := by
              have h2 := List.length_pos_iff.2 hacc
              omega
            clear hacc
            go_wp2_with (first
              | (go_at_call 46; refine (rwhite_any _ hr _).mono ?_; rintro e w' ⟨rfl, rfl⟩)
              | (go_at_call 47; refine (rbare_any _ hr _).mono ?_; rintro e w' ⟨rfl, rfl⟩)
              | (at_builtin; refine wp_append_int rfl (.tmp 18) (.tmp 19) rfl w.heap.size _ acc 32 rfl (HO.out.alloc _) wr.heap.size rfl ?_ ?_ ?_ ?_; (rw [World.cell?_alloc_new]; rfl); (have := HAL.out; omega); (have := HB.out.size; simp; omega); intro A2 c2 w2 HO2 HB2; have HB3 := Lib.hid ((HB.out.alloc HB.out.size (.cells #[.int .i64 32] 3)).trans HB2.out); have hcell2 := HCL.out _ HB3.out)
              | (at_builtin; refine wp_append_int rfl (.tmp 21) (.tmp 26) rfl w.heap.size _ (acc ++ [32]) r rfl (HO2.out.alloc _) w2.heap.size rfl ?_ ?_ ?_ ?_; (rw [World.cell?_alloc_new]; rfl); (have := HAL.out; rw [List.length_append, List.length_singleton]; omega); (have := HB3.out.size; simp; omega); intro A3 c3 w3 HO3 HB4; have HB5 := Lib.hid ((HB3.out.alloc HB3.out.size (.cells #[.int .i64 r] 3)).trans HB4.out)))
            go_roundw
            case rel => exact HNX.out _ _ _ _ _ _ (by simp) HST.out HO3.out.re HB5.out
            case measure => simp [intOf]; omega
          · have HST := Lib.hid (step_plain hb' hw' hg)
            cases b
            all_goals
              try (have hac : acc = [] := by simpa using hg)
              try subst hac
              clear hg
              go_wp2_with (first
                | (go_at_call 46; refine (rwhite_any _ hr _).mono ?_; rintro e w' ⟨rfl, rfl⟩)
                | (go_at_call 47; refine (rbare_any _ hr _).mono ?_; rintro e w' ⟨rfl, rfl⟩)
                | (at_builtin; refine wp_append_int rfl (.tmp 21) (.tmp 26) rfl w.heap.size _ _ r rfl (HO.out.alloc _) wr.heap.size rfl ?_ ?_ ?_ ?_; (rw [World.cell?_alloc_new]; rfl); (first | (have := HAL.out; omega) | simp); (have := HB.out.size; simp; omega); intro A3 c3 w3 HO3 HB4; have HB5 := Lib.hid ((HB.out.alloc HB.out.size (.cells #[.int .i64 r] 3)).trans HB4.out)))
              go_roundw
              case rel => exact HNX.out _ _ _ _ _ _ (by simp) HST.out HO3.out.re HB5.out
              case measure => simp [intOf]; omega
    · obtain rfl : k = n := by omega
      go_wp2
      go_ret
      have hc := HC.out
      rw [List.take_of_length_le (by rw [HN.out]; omega)] at hc
      have hz : cleanR rs = acc := by unfold cleanR; rw [hc]
      rw [hz]
      exact ⟨_, _, rfl, HO.out, HB.out⟩
end Go.Proofs.YtbofkndkgdnbmaaDoor

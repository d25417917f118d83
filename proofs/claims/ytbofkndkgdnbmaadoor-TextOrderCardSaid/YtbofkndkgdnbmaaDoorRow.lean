/-
  Own text. A slice of integers that came in, as numbers.
-/
import Derived.Test.YtbofkndkgdnbmaaDoorSeat
import Derived.ChangeSlices
namespace Go.Proofs.YtbofkndkgdnbmaaDoor
open Go.RowKit

/-- A slice of integers that came in: nil, or a row of 'cap' cells. -/
def IsRow (k : IntKind) (w : World) (a : Option Addr) (len cap : Nat) (zs : List Int) : Prop :=
  (a = none ∧ len = 0 ∧ cap = 0 ∧ zs = []) ∨
  ∃ x, a = some x ∧ len ≤ cap ∧ cap ≤ maxLen ∧ zs.length = cap ∧ (∀ i, i < zs.length → w.cell? (x.add i) = some (.int k (zs.getD i 0))) ∧ ∀ n ∈ zs, (Lit.int k n).wf = true

theorem u16_bounds {v : Int} (h : (Lit.int .u16 v).wf = true) : 0 ≤ v ∧ v ≤ 65535 := by
  simpa [Lit.wf, IntKind.min, IntKind.max, IntKind.signed, IntKind.bits] using h
theorem nums_of_row {w : World} {a : Option Addr} {len cap : Nat} {zs : List Int} (h : IsRow .u16 w a len cap zs) : ∃ xs : List Nat, xs.length = len ∧ Nums w a xs := by
  rcases h with ⟨rfl, rfl, rfl, rfl⟩ | ⟨x, rfl, hl, _, hz, hc, hw⟩
  · exact ⟨[], rfl, fun h => by simp at h⟩
  · refine ⟨(zs.take len).map Int.toNat, by rw [List.length_map, List.length_take]; omega, fun hp => ?_⟩
    rw [List.length_map, List.length_take] at hp
    have hx : x = ⟨x.block, x.off, none⟩ := by
      have h0 := hc 0 (by omega)
      simp only [Addr.add, if_pos, World.cell?] at h0
      split at h0
      · rcases x with ⟨b, o, s⟩
        rcases s with _ | s
        · rfl
        · simp at h0
      · cases h0
    refine ⟨x.block, x.off, by rw [← hx], fun j z hj => ?_⟩
    have hkl := (List.getElem?_eq_some_iff.1 hj).1
    rw [List.length_map, List.length_take] at hkl
    have hkz : j < zs.length := by omega
    rw [List.getElem?_map, List.getElem?_take_of_lt (by omega), List.getElem?_eq_getElem hkz] at hj
    injection hj with hj
    have hcell := hc j hkz
    rw [List.getD_eq_getElem?_getD, List.getElem?_eq_getElem hkz, Option.getD_some, hx, Addr.add_lit] at hcell
    have hb := u16_bounds (hw zs[j] (List.getElem_mem hkz))
    refine ⟨?_, by omega⟩
    rw [hcell, ← hj, Int.toNat_of_nonneg hb.1]
theorem u8_bounds {v : Int} (h : (Lit.int .u8 v).wf = true) : 0 ≤ v ∧ v ≤ 255 := by
  simpa [Lit.wf, IntKind.min, IntKind.max, IntKind.signed, IntKind.bits] using h
theorem u32_bounds {v : Int} (h : (Lit.int .u32 v).wf = true) : 0 ≤ v ∧ v ≤ 4294967295 := by
  simpa [Lit.wf, IntKind.min, IntKind.max, IntKind.signed, IntKind.bits] using h
theorem i64_bounds {v : Int} (h : (Lit.int .i64 v).wf = true) : -9223372036854775808 ≤ v ∧ v ≤ 9223372036854775807 := by
  simpa [Lit.wf, IntKind.min, IntKind.max, IntKind.signed, IntKind.bits] using h
end Go.Proofs.YtbofkndkgdnbmaaDoor

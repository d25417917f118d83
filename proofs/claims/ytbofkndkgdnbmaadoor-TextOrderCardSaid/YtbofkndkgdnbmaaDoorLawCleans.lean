/-
  Own text. The walk over the law TextCleans.
-/
import Derived.Test.YtbofkndkgdnbmaaDoorLawFolds
import Derived.Test.YtbofkndkgdnbmaaDoorTextC
namespace Go.Proofs.YtbofkndkgdnbmaaDoor
open Go.RowKit

set_option maxHeartbeats 2000000 in
set_option maxRecDepth 10000 in
theorem cleans_long (s : ByteArray) (A : Option Addr) (n c : Nat) (most : Int) (w : World) (h : 3000 < s.size ∨ 1000 < n) : Calls Tryd.prog 3 #[.string s, .slice A n c, .int .i64 most] w (Mk (.bool true) w) := by
  by_cases h1 : 3000 < s.size
  · have g1 : decide ((3000 : Int) < (s.size : Int)) = true := by simp; omega
    clear h
    go_enter Tryd.func3, Tryd.ntmps3
    go_wp2_with (go_at_call 10; refine (known_any _).mono ?_; rintro e w1 ⟨rfl, hw⟩; have HW := Lib.hid hw; clear hw)
    go_ret
    exact ⟨rfl, HW.out⟩
  · have g1 : decide ((3000 : Int) < (s.size : Int)) = false := by simp; omega
    have g2 : decide ((1000 : Int) < (n : Int)) = true := by simp; omega
    clear h h1
    go_enter Tryd.func3, Tryd.ntmps3
    go_wp2_with (go_at_call 10; refine (known_any _).mono ?_; rintro e w1 ⟨rfl, hw⟩; have HW := Lib.hid hw; clear hw)
    go_ret
    exact ⟨rfl, HW.out⟩

/-- Block g begins with the texts vs. -/
def Txts (w : World) (g : Nat) (vs : List ByteArray) : Prop := ∀ (j : Nat) (v : ByteArray), vs[j]? = some v → w.cell? ⟨g, j, none⟩ = some (.string v)
theorem Txts.below {w w' : World} {g : Nat} {vs : List ByteArray} (h : Txts w g vs) (hb : Below w.heap.size w w') : Txts w' g vs := fun j r hj =>
  (hb.cell (p := ⟨g, j, none⟩) (block_lt_of_cell (h j r hj))).trans (h j r hj)
/-- Block g begins with the numbers ns. -/
def Nos (w : World) (g : Nat) (ns : List Int) : Prop := ∀ (j : Nat) (v : Int), ns[j]? = some v → w.cell? ⟨g, j, none⟩ = some (.int .i64 v)
theorem Nos.below {w w' : World} {g : Nat} {ns : List Int} (h : Nos w g ns) (hb : Below w.heap.size w w') : Nos w' g ns := fun j r hj =>
  (hb.cell (p := ⟨g, j, none⟩) (block_lt_of_cell (h j r hj))).trans (h j r hj)

set_option maxHeartbeats 4000000 in
set_option maxRecDepth 10000 in
theorem cleans_law (s : ByteArray) (A : Option Addr) (zs : List Nat) (n c : Nat) (most : Int) (w : World) (hA : Nums w A zs) (hn : zs.length = n) (hs : s.size ≤ 3000) (hx : n ≤ 1000) : Calls Tryd.prog 3 #[.string s, .slice A n c, .int .i64 most] w (Mk (.bool true) w) := by
  have HA := Lib.hid hA
  have HN := Lib.hid hn
  clear hA hn
  have g1 : decide ((3000 : Int) < (s.size : Int)) = false := by simp; omega
  have g2 : decide ((1000 : Int) < (n : Int)) = false := by simp; omega
  go_enter Tryd.func3, Tryd.ntmps3
  go_wp2_with fail
  refine (known_any _).mono ?_
  rintro e w1 ⟨rfl, hw⟩
  have HW1 := Lib.hid hw
  clear hw
  go_wp2_with fail
  refine (seat_any A zs n c _ (HA.out.below HW1.out) HN.out (by omega)).mono ?_
  rintro e w2 ⟨rs, rfl, hv, hl, hw⟩
  have HW2 := Lib.hid (HW1.out.trans (hw.mono HW1.out.size))
  have hts := (tx_size rs).2
  have HSZ := Lib.hid (show (tx rs).size ≤ 4000 by omega)
  clear hw hv hl hts HW1 g1 g2
  generalize tx rs = t at HSZ ⊢
  have HNS := Lib.hid (no_sum (a := t) (b := s) (by have := HSZ.out; omega) (by omega))
  have HTS := Lib.hid (show (t ++ s).size ≤ 7000 by rw [size_add]; have := HSZ.out; omega)
  go_wp2_with fail
  all_goals
    first
      | (exact absurd (by assumption) HNS.out)
      | skip
  clear HNS
  refine (rcleans_any t _ (by have := HSZ.out; omega)).mono ?_
  intro e w3 h3
  obtain ⟨rfl, hw⟩ := Mk.after HW2.out h3
  have HW3 := Lib.hid hw
  have HC := Lib.hid (show (tx (cleanR (R t))).size ≤ 16000 by
    have h1 := (tx_size (cleanR (R t))).2
    have h2 := clean_len (R t)
    have h3 := R_len t
    have := HSZ.out
    omega)
  clear hw h3 HW2
  generalize tx (cleanR (R t)) = u at HC ⊢
  generalize t ++ s = ts at HTS ⊢
  obtain ⟨vs, hvs⟩ : ∃ vs, vs = [s, t, ts, u] := ⟨_, rfl⟩
  have hsz : ∀ v ∈ vs, v.size ≤ 16000 := by
    intro v hv
    rw [hvs] at hv
    simp only [List.mem_cons, List.mem_nil_iff, or_false] at hv
    have h1 := HSZ.out
    have h2 := HTS.out
    have h3 := HC.out
    rcases hv with rfl | rfl | rfl | rfl <;> omega
  have HVL := Lib.hid (show vs.length = 4 by rw [hvs]; rfl)
  have HVS := Lib.hid hsz
  have HTX := Lib.hid (show Txts (w3.alloc (.cells #[.string s, .string t, .string ts, .string u] 9)) w3.heap.size vs by
    intro j v hj
    rw [World.cell?_alloc_new]
    rw [hvs] at hj
    match j, hj with
    | 0, hj => simp only [List.getElem?_cons_zero, Option.some.injEq] at hj; subst hj; rfl
    | 1, hj => simp only [List.getElem?_cons_succ, List.getElem?_cons_zero, Option.some.injEq] at hj; subst hj; rfl
    | 2, hj => simp only [List.getElem?_cons_succ, List.getElem?_cons_zero, Option.some.injEq] at hj; subst hj; rfl
    | 3, hj => simp only [List.getElem?_cons_succ, List.getElem?_cons_zero, Option.some.injEq] at hj; subst hj; rfl
    | j + 4, hj => simp at hj)
  have HB0 := Lib.hid (HW3.out.alloc HW3.out.size (.cells #[.string s, .string t, .string ts, .string u] 9))
  obtain ⟨g, hg⟩ : ∃ g, g = w3.heap.size := ⟨_, rfl⟩
  rw [← hg] at HTX
  have HG := Lib.hid hg
  clear hvs hsz hg HW3
  go_wp2_with fail
  rw [← HG.out]
  go_loopw [34] (fun i wr => ∃ k : Nat, k ≤ 4 ∧ i = .int .i64 k ∧ Txts wr g vs ∧ Below w.heap.size w wr) (fun i _ => 4 - (intOf i).toNat)
  case atStart => exact ⟨0, by omega, rfl, HTX.out, HB0.out⟩
  case round =>
    obtain ⟨k, hk, rfl, htx, hb⟩ := hrel
    have HT := Lib.hid htx
    have HB := Lib.hid hb
    clear htx hb HTX HB0 HG
    have k0 : (0 : Int) ≤ (k : Int) := by omega
    by_cases hlt : k < 4
    · obtain ⟨v, hv⟩ : ∃ v, vs[k]? = some v := ⟨_, List.getElem?_eq_getElem (by rw [HVL.out]; exact hlt)⟩
      have hcell := HT.out k v hv
      have HZ := Lib.hid (HVS.out v (List.mem_of_getElem? hv))
      have HRL := Lib.hid (show (R v).length ≤ 16000 by have := R_len v; have := HZ.out; omega)
      clear hv
      have i1 : (k : Int) < 4 := by omega
      go_wp2_with fail
      refine (clean_any v _ (by have := HZ.out; omega)).mono ?_
      intro e w4 h3
      obtain ⟨rfl, hw⟩ := Mk.after HB.out h3
      have HT4 := Lib.hid (HT.out.below h3.2)
      have HW4 := Lib.hid hw
      clear hw h3 hcell
      go_wp2_with fail
      refine (rcleans_any v _ (by have := HZ.out; omega)).mono ?_
      intro e w5 h3
      obtain ⟨rfl, hw⟩ := Mk.after HW4.out h3
      have HT5 := Lib.hid (HT4.out.below h3.2)
      have HW5 := Lib.hid hw
      clear hw h3 HT4 HW4
      go_wp2_with fail
      refine (runes_any v _ (by have := HZ.out; omega)).mono ?_
      intro e w6 h3
      obtain ⟨rfl, hw⟩ := Mk.after HW5.out h3
      have HT6 := Lib.hid (HT5.out.below h3.2)
      have HW6 := Lib.hid hw
      clear hw h3 HT5 HW5
      go_wp2_with fail
      refine (rrunes_any v _ (by have := HZ.out; omega)).mono ?_
      rintro e w7 ⟨A7, c7, rfl, _, hw⟩
      have HT7 := Lib.hid (HT6.out.below hw)
      have HW7 := Lib.hid (HW6.out.trans (hw.mono HW6.out.size))
      clear hw HT6 HW6
      go_wp2_with fail
      refine (runes_any v _ (by have := HZ.out; omega)).mono ?_
      intro e w8 h3
      obtain ⟨rfl, hw⟩ := Mk.after HW7.out h3
      have HT8 := Lib.hid (HT7.out.below h3.2)
      have HW8 := Lib.hid hw
      clear hw h3 HT7 HW7
      obtain ⟨r, hr⟩ : ∃ r : Int, r = ((R v).length : Int) := ⟨_, rfl⟩
      have r0 : 0 ≤ r := by omega
      have r1 : r ≤ 16000 := by have := HRL.out; omega
      rw [← hr]
      clear hr
      go_wp2_with fail
      have HB9 := Lib.hid (HW8.out.alloc HW8.out.size (.cells #[.int .i64 most, .int .i64 r, .int .i64 (r - 1)] 3))
      have HT9 := Lib.hid (HT8.out.below ((Below.refl w8.heap.size w8).alloc (Nat.le_refl _) (.cells #[.int .i64 most, .int .i64 r, .int .i64 (r - 1)] 3)))
      have HN9 := Lib.hid (show Nos (w8.alloc (.cells #[.int .i64 most, .int .i64 r, .int .i64 (r - 1)] 3)) w8.heap.size [most, r, r - 1] by
        intro j z hj
        rw [World.cell?_alloc_new]
        match j, hj with
        | 0, hj => simp only [List.getElem?_cons_zero, Option.some.injEq] at hj; subst hj; rfl
        | 1, hj => simp only [List.getElem?_cons_succ, List.getElem?_cons_zero, Option.some.injEq] at hj; subst hj; rfl
        | 2, hj => simp only [List.getElem?_cons_succ, List.getElem?_cons_zero, Option.some.injEq] at hj; subst hj; rfl
        | j + 3, hj => simp at hj)
      obtain ⟨H, hH⟩ : ∃ H, H = w8.heap.size := ⟨_, rfl⟩
      rw [← hH] at HN9 ⊢
      clear hH HT8 HW8
      obtain ⟨wo, rfl⟩ : ∃ wo : World, wo = wr := ⟨_, rfl⟩
      go_loopw [59] (fun i wr => ∃ j : Nat, j ≤ 3 ∧ i = .int .i64 j ∧ Txts wr g vs ∧ Nos wr H [most, r, r - 1] ∧ Below w.heap.size w wr) (fun i _ => 3 - (intOf i).toNat)
      case atStart => exact ⟨0, by omega, rfl, HT9.out, HN9.out, HB9.out⟩
      case round =>
        obtain ⟨j, hj, rfl, htx, hno, hb⟩ := hrel
        have HTa := Lib.hid htx
        have HNa := Lib.hid hno
        have HBa := Lib.hid hb
        clear htx hno hb HT9 HN9 HB9
        have j0 : (0 : Int) ≤ (j : Int) := by omega
        by_cases hj3 : j < 3
        · obtain ⟨z, hz⟩ : ∃ z, [most, r, r - 1][j]? = some z := ⟨_, List.getElem?_eq_getElem (by simpa using hj3)⟩
          have hcell := HNa.out j z hz
          have j1 : (j : Int) < 3 := by omega
          clear hz
          go_wp2_with fail
          refine (right_any v z _ (by have := HZ.out; omega)).mono ?_
          intro e wb h3
          obtain ⟨rfl, hw⟩ := Mk.after HBa.out h3
          have HTb := Lib.hid (HTa.out.below h3.2)
          have HNb := Lib.hid (HNa.out.below h3.2)
          have HBb := Lib.hid hw
          clear hw h3 hcell
          go_wp2_with fail
          refine (rright_any v z _ (by have := HZ.out; omega)).mono ?_
          intro e wc h3
          obtain ⟨rfl, hw⟩ := Mk.after HBb.out h3
          have HTc := Lib.hid (HTb.out.below h3.2)
          have HNc := Lib.hid (HNb.out.below h3.2)
          have HBc := Lib.hid hw
          clear hw h3
          go_wp2_with fail
          go_roundw
          case rel => exact ⟨j + 1, by omega, by go_num, HTc.out, HNc.out, HBc.out⟩
          case measure => simp [intOf]; omega
        · obtain rfl : j = 3 := by omega
          go_wp2_with fail
          go_roundw
          case rel => exact ⟨k + 1, by omega, by go_num, HTa.out, HBa.out⟩
          case measure => simp [intOf]; omega
    · obtain rfl : k = 4 := by omega
      go_wp2_with fail
      go_ret
      exact ⟨rfl, HB.out⟩
end Go.Proofs.YtbofkndkgdnbmaaDoor

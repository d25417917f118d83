/-
  Own text. The walk over text.Less.
-/
import Derived.Test.YtbofkndkgdnbmaaDoorTextB
import Derived.Test.YtbofkndkgdnbmaaDoorOrd
import Derived.Laws.IdiomStrings
import Derived.Deep.QuietTactic
import Derived.BigQuiet
namespace Go.Proofs.YtbofkndkgdnbmaaDoor
open Go.RowKit

/-- Block g begins with the runes l. -/
def Rns (w : World) (g : Nat) (l : List Nat) : Prop := ∀ (j r : Nat), l[j]? = some r → w.cell? ⟨g, j, none⟩ = some (.int .i32 (r : Int))
theorem Rns.below {w w' : World} {g : Nat} {l : List Nat} (h : Rns w g l) (hb : Below w.heap.size w w') : Rns w' g l := fun j r hj =>
  (hb.cell (p := ⟨g, j, none⟩) (block_lt_of_cell (h j r hj))).trans (h j r hj)

theorem drawn (w : World) (n : Nat) : Below w.heap.size w (w.drewN n) := ⟨rfl, rfl, rfl, Nat.le_refl _, fun _ _ => rfl⟩
theorem runes_from (s : ByteArray) : ∀ (f pos : Nat) (acc : Array Value), s.size ≤ pos + f → Conv.runesFrom s f pos acc = acc ++ ((D (s.data.toList.drop pos)).map fun r => Value.int .i32 ((r : Nat) : Int)).toArray
  | 0, pos, acc, h => by rw [D_done s pos (by omega)]; simp [Conv.runesFrom]
  | f + 1, pos, acc, h => by
    unfold Conv.runesFrom
    by_cases hp : pos < s.size
    · have hw := decode_pos s pos
      rw [if_pos hp, D_next s pos hp]
      simp only
      rw [runes_from s f _ _ (by omega)]
      simp
    · rw [if_neg hp, D_done s pos hp]
      simp
theorem conv_runes (w : World) (l : List Nat) (hv : ∀ r ∈ l, vr r) (hl : l.length ≤ 400000000) :
    ∃ c w', (convert 9 65 (.string (tx l))).run Tryd.prog w = .ok (.slice (some ⟨w.heap.size, 0, none⟩) l.length c) w' ∧ Rns w' w.heap.size l ∧ Below w.heap.size w w' := by
  have hf : Conv.runesFrom (tx l) (tx l).size 0 #[] = (l.map fun r => Value.int .i32 ((r : Nat) : Int)).toArray := by
    rw [runes_from (tx l) (tx l).size 0 #[] (by omega)]
    have : D ((tx l).data.toList.drop 0) = l := by
      rw [List.drop_zero, tx_data]
      exact D_E hv
    rw [this]
    simp
  have hs : (Conv.runesFrom (tx l) (tx l).size 0 #[]).size = l.length := by rw [hf]; simp
  have hr := run_runes_of_string (P := Tryd.prog) w 9 65 21 (tx l) Tryd.underlying9 Tryd.underlying65 Tryd.underlying21 (by rw [hs]; omega)
  rw [hs, hf] at hr
  refine ⟨_, _, hr, fun j r hj => ?_, (Below.refl _ _).drew.alloc (Nat.le_refl _) _⟩
  have hjl := (List.getElem?_eq_some_iff.1 hj).1
  have := World.cell?_alloc_new w.drew ((l.map fun r => Value.int .i32 ((r : Nat) : Int)).toArray ++ Array.replicate (grownCap w l.length 0 21 - l.length) (.int .i32 0)) 21 j
  refine Eq.trans this ?_
  rw [Array.getElem?_append_left (by simpa using hjl)]
  simp [hj]

/-- What the order says of two texts whose small runes are x and y. -/
def LessFacts (x y : List Nat) (T lt : Bool) : Prop :=
  (∀ k u v : Nat, x.take k = y.take k → x[k]? = some u → y[k]? = some v → u ≠ v → T = decide (u < v)) ∧
  (x.take (min x.length y.length) = y.take (min x.length y.length) → x.length ≠ y.length → T = decide (x.length < y.length)) ∧
  (x.take (min x.length y.length) = y.take (min x.length y.length) → x.length = y.length → T = lt)
theorem less_facts {a b : ByteArray} {x y : List Nat} (hx : (R a).map smallN = x) (hy : (R b).map smallN = y) : LessFacts x y (lessT a.data.toList b.data.toList) (Op.bytesLess a.data.toList b.data.toList) := by
  subst hx
  subst hy
  exact ⟨fun k u v h1 h2 h3 h4 => lessT_diff h1 h2 h3 h4, fun h1 h2 => lessT_short h1 h2, fun h1 h2 => lessT_same h1 h2⟩

set_option maxHeartbeats 1000000 in
set_option maxRecDepth 10000 in
theorem less_any (a b : ByteArray) (w : World) (ha : a.size ≤ 100000000) (hb : b.size ≤ 100000000) : Calls Tryd.prog 27 #[.string a, .string b] w (Mk (.bool (lessT a.data.toList b.data.toList)) w) := by
  have HVX := Lib.hid (map_vr (R_vr a))
  have HVY := Lib.hid (map_vr (R_vr b))
  have HLX := Lib.hid (show ((R a).map smallN).length ≤ 100000000 by have := R_len a; rw [List.length_map]; omega)
  have HLY := Lib.hid (show ((R b).map smallN).length ≤ 100000000 by have := R_len b; rw [List.length_map]; omega)
  generalize hx : (R a).map smallN = x at HVX HLX
  generalize hy : (R b).map smallN = y at HVY HLY
  have HF := Lib.hid (less_facts hx hy)
  have HX := Lib.hid hx
  have HY := Lib.hid hy
  generalize hT : lessT a.data.toList b.data.toList = T at HF
  clear hx hy hT
  go_enter Tryd.func27, Tryd.ntmps27
  go_wp2_with fail
  refine (fold_any a _ ha).mono ?_
  rw [HX.out]
  rintro e w1 ⟨rfl, hw1⟩
  obtain ⟨cx, w2, hrun, hrx, hw2⟩ := conv_runes w1 x HVX.out (by have := HLX.out; omega)
  have HW2 := Lib.hid (hw1.trans (hw2.mono hw1.size))
  have HRX := Lib.hid hrx
  have HRUN := Lib.hid hrun
  clear hw1 hw2 hrx hrun
  go_wp2_with fail
  rw [HRUN.out]
  simp only [Result.andThen]
  rw [Oper.upon_value]
  go_wp2_with fail
  refine (fold_any b _ hb).mono ?_
  rw [HY.out]
  rintro e w3 ⟨rfl, hw3⟩
  obtain ⟨cy, w4, hrun, hry, hw4⟩ := conv_runes w3 y HVY.out (by have := HLY.out; omega)
  have HW4 := Lib.hid (HW2.out.trans ((hw3.trans (hw4.mono hw3.size)).mono HW2.out.size))
  have HRX4 := Lib.hid (HRX.out.below (hw3.trans (hw4.mono hw3.size)))
  have HRY := Lib.hid hry
  have HRUN := Lib.hid hrun
  clear hw3 hw4 hry hrun HRX HW2
  go_wp2_with fail
  rw [HRUN.out]
  simp only [Result.andThen]
  rw [Oper.upon_value]
  clear HRUN
  generalize w1.heap.size = g1 at HRX4 ⊢
  generalize w3.heap.size = g2 at HRY ⊢
  go_wp2_with fail
  obtain ⟨m, hm⟩ : ∃ m, m = min x.length y.length := ⟨_, rfl⟩
  have e18 : min (x.length : Int) (y.length : Int) = (m : Int) := by omega
  rw [e18]
  rw [LessFacts, ← hm] at HF
  have HM := Lib.hid hm
  clear hm e18
  go_loopw [19] (fun i wr => ∃ k : Nat, k ≤ m ∧ i = .int .i64 k ∧ x.take k = y.take k ∧ Rns wr g1 x ∧ Rns wr g2 y ∧ Below w.heap.size w wr) (fun i _ => m - (intOf i).toNat)
  case atStart => exact ⟨0, Nat.zero_le _, rfl, rfl, HRX4.out, HRY.out, HW4.out⟩
  case round =>
    obtain ⟨k, hk, rfl, htk, hr1, hr2, hbw⟩ := hrel
    have HTK := Lib.hid htk
    have HR1 := Lib.hid hr1
    have HR2 := Lib.hid hr2
    have HBW := Lib.hid hbw
    clear htk hr1 hr2 hbw HRX4 HRY HW4
    have k0 : (0 : Int) ≤ (k : Int) := by omega
    have hmx : m ≤ 100000000 := by have := HM.out; have := HLX.out; omega
    by_cases hlt : k < m
    · have i1 : (k : Int) < (x.length : Int) := by have := HM.out; omega
      have i2 : (k : Int) < (y.length : Int) := by have := HM.out; omega
      obtain ⟨u, hu⟩ : ∃ u, x[k]? = some u := ⟨_, List.getElem?_eq_getElem (by omega)⟩
      obtain ⟨v, hv⟩ : ∃ v, y[k]? = some v := ⟨_, List.getElem?_eq_getElem (by omega)⟩
      have c1 := HR1.out k u hu
      have c2 := HR2.out k v hv
      have HU := Lib.hid hu
      have HV := Lib.hid hv
      clear hu hv
      by_cases huv : u = v
      · subst huv
        go_wp2_with fail
        go_quiet (fail)
        go_wp2_with fail
        go_roundw
        case rel =>
          refine ⟨k + 1, by omega, by go_num, ?_, HR1.out.below (drawn _ _), HR2.out.below (drawn _ _), HBW.out.trans ((drawn _ _).mono HBW.out.size)⟩
          rw [List.take_add_one, List.take_add_one, HTK.out, HU.out, HV.out]
        case measure => simp [intOf]; omega
      · have hne : ((u : Int) != (v : Int)) = true := by simp; omega
        have HT := Lib.hid (HF.out.1 k u v HTK.out HU.out HV.out huv)
        clear huv
        go_wp2_with fail
        go_quiet (fail)
        go_wp2_with fail
        go_quiet (fail)
        go_wp2_with fail
        go_ret
        refine ⟨by rw [HT.out]; rfl, ?_⟩
        exact HBW.out.trans (((drawn wr _).trans (drawn (wr.drewN _) _)).mono HBW.out.size)
    · obtain rfl : k = m := by omega
      by_cases hxy : x.length = y.length
      · have HT := Lib.hid (HF.out.2.2 HTK.out hxy)
        have hxy' : ((x.length : Int) != (y.length : Int)) = false := by simp; omega
        have HQ := Lib.hid hxy
        clear hxy
        go_wp2_with fail
        go_ret
        refine ⟨?_, HBW.out⟩
        rw [HT.out]
        simp only [ByteArray.toList_eq]
        rfl
      · have HT := Lib.hid (HF.out.2.1 HTK.out hxy)
        have hxy' : ((x.length : Int) != (y.length : Int)) = true := by simp; omega
        clear hxy
        go_wp2_with fail
        go_ret
        refine ⟨?_, HBW.out⟩
        rw [HT.out]
        rfl
end Go.Proofs.YtbofkndkgdnbmaaDoor

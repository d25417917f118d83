/-
  Own text. The walk over the document's Cut.
-/
import Derived.Test.YtbofkndkgdnbmaaDoorRefF
namespace Go.Proofs.YtbofkndkgdnbmaaDoor
open Go.RowKit

theorem Ints.take {w : World} {A : Option Addr} {rs : List Nat} (h : Ints w A rs) (k : Nat) : Ints w A (rs.take k) := fun hp => by
  rw [List.length_take] at hp
  obtain ⟨b, o, hA, hc⟩ := h (by omega)
  refine ⟨b, o, hA, fun j r hj => hc j r ?_⟩
  have hjl := (List.getElem?_eq_some_iff.1 hj).1
  rw [List.length_take] at hjl
  rw [List.getElem?_take_of_lt (by omega)] at hj
  exact hj
theorem cut_of {l : List Nat} {k : Nat} (hk : k ≤ l.length) : cutR l k = if (l.take k).getLast? = some 32 then l.take (k - 1) else l.take k := by
  unfold cutR trimR
  split
  · rw [List.dropLast_eq_take, List.take_take, List.length_take, Nat.min_eq_left hk, Nat.min_eq_left (by omega)]
  · rfl
theorem cut_min (l : List Nat) (n : Nat) : cutR l n = cutR l (min n l.length) := by
  unfold cutR
  rw [List.take_eq_take_min]

set_option maxHeartbeats 2000000 in
set_option maxRecDepth 10000 in
theorem rcut_any (s : ByteArray) (n0 : Int) (w : World) (hs : s.size ≤ 100000000) : Calls Tryd.prog 19 #[.string s, .int .i64 n0] w (Mk (.string (tx (cutR (cleanR (R s)) n0.toNat))) w) := by
  have HV := Lib.hid (R_vr s)
  have HL := Lib.hid (show (R s).length ≤ 100000000 by have := R_len s; omega)
  have hg := clean_good (R s)
  have hl2 : (cleanR (R s)).length ≤ 100000000 := by have := R_len s; have := clean_len (R s); omega
  have hv2 := clean_vr (R_vr s)
  have HCL := Lib.hid (fun (A : Option Addr) (c : Nat) (w1 : World) (hA : Ints w1 A (R s)) => rclean_any A (R s) _ c w1 hA rfl HV.out HL.out)
  generalize cleanR (R s) = l at hg hl2 hv2 HCL ⊢
  have HV2 := Lib.hid hv2
  obtain ⟨k, hk⟩ : ∃ k, k = min n0.toNat l.length := ⟨_, rfl⟩
  have hcm := cut_min l n0.toNat
  rw [← hk] at hcm
  have hkl : k ≤ l.length := by omega
  have hco := cut_of hkl
  rw [hcm]
  have HCO := Lib.hid hco
  have HK := Lib.hid hk
  clear hcm hco hk hg hv2
  have k0 : (0 : Int) ≤ (k : Int) := by omega
  have k1 : (k : Int) ≤ 100000000 := by omega
  go_enter Tryd.func19, Tryd.ntmps19
  go_wp2_with fail
  refine (rrunes_any s _ hs).mono ?_
  rintro e w1 ⟨A, c, rfl, ho, hb⟩
  have HO := Lib.hid ho
  have HB := Lib.hid hb
  clear ho hb
  go_wp2_with fail
  refine (HCL.out A c _ HO.out.ints).mono ?_
  rintro e w2 ⟨A2, c2, rfl, ho, hb⟩
  have HO2 := Lib.hid ho
  have HB2 := Lib.hid (HB.out.trans (hb.mono HB.out.size))
  have hcap : l.length ≤ c2 := by
    rcases ho.2 with ⟨hv, h0⟩ | ⟨g, cap, cur, hv, _, _, hnc, _⟩
    · omega
    · injection hv with h1 h2 h3
      omega
  clear ho hb HB HO HCL
  have hmm : min (max n0 0) (l.length : Int) = (k : Int) := by have := HK.out; omega
  have hlc : (k : Int) ≤ (c2 : Int) := by omega
  by_cases hk0 : k = 0
  · subst hk0
    have hce : cutR l 0 = [] := by simp [cutR, trimR]
    rw [hce]
    go_wp2_with fail
    refine (of_any A2 [] 0 _ _ (fun h => by simp at h) rfl (by simp) (by omega)).mono ?_
    rintro e w3 ⟨rfl, hw⟩
    have HB3 := Lib.hid (HB2.out.trans (hw.mono HB2.out.size))
    clear hw
    go_wp2_with fail
    go_ret
    exact ⟨rfl, HB3.out⟩
  · obtain ⟨g, o, rfl, hc⟩ := HO2.out.ints (by omega)
    obtain ⟨r, hr⟩ : ∃ r, l[k - 1]? = some r := ⟨_, List.getElem?_eq_getElem (by omega)⟩
    have hcell := hc (k - 1) r hr
    unfold ival at hcell
    have hlast : (l.take k).getLast? = some r := by
      rw [List.getLast?_eq_getElem?, List.length_take, Nat.min_eq_left hkl, List.getElem?_take_of_lt (by omega)]
      exact hr
    have HKL := Lib.hid hkl
    have HL2 := Lib.hid hl2
    have HCAP := Lib.hid hcap
    have i0 : (0 : Int) ≤ (k : Int) - 1 := by omega
    have i1 : (0 : Int) < (k : Int) := by omega
    have i2 : (k : Int) - 1 ≤ (c2 : Int) := by omega
    have HK0 := Lib.hid hk0
    have HI := Lib.hid (show Ints w2 (some ⟨g, o, none⟩) l from fun _ => ⟨g, o, rfl, hc⟩)
    by_cases h32 : r = 32
    · subst h32
      rw [hlast, if_pos rfl] at HCO
      clear hc hr hkl hl2 hcap hk0 hlast
      go_wp2_with fail
      refine (of_any _ (l.take (k - 1)) (k - 1) _ _ (HI.out.take _) (by rw [List.length_take]; have := HKL.out; omega) (fun r hr => HV2.out r (List.mem_of_mem_take hr)) (by omega)).mono ?_
      rintro e w3 ⟨rfl, hw⟩
      have HB3 := Lib.hid (HB2.out.trans (hw.mono HB2.out.size))
      clear hw
      go_wp2_with fail
      go_ret
      exact ⟨by rw [HCO.out]; rfl, HB3.out⟩
    · rw [hlast, if_neg (by simpa using h32)] at HCO
      have h32' : ((r : Int) == 32) = false := by simp; omega
      clear hc hr hkl hl2 hcap hk0 hlast h32
      go_wp2_with fail
      refine (of_any _ (l.take k) k _ _ (HI.out.take _) (by rw [List.length_take]; have := HKL.out; omega) (fun r hr => HV2.out r (List.mem_of_mem_take hr)) (by omega)).mono ?_
      rintro e w3 ⟨rfl, hw⟩
      have HB3 := Lib.hid (HB2.out.trans (hw.mono HB2.out.size))
      clear hw
      go_wp2_with fail
      go_ret
      exact ⟨by rw [HCO.out]; rfl, HB3.out⟩
end Go.Proofs.YtbofkndkgdnbmaaDoor

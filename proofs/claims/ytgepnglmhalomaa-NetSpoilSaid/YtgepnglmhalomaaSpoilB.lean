/-
  Own text. The walk over the law NetSpoil: the long way.
-/
import Derived.Test.YtgepnglmhalomaaSpoilA
import Derived.IntWalk
namespace Go.Proofs.Ytgepnglmhalomaa
open Go.RowKit
theorem Bts.take {w : World} {A : Option Addr} {bs : List UInt8} (h : Bts w A bs) (k : Nat) : Bts w A (bs.take k) := fun hp => by
  obtain ⟨ad, hA, hc⟩ := h (by rw [List.length_take] at hp; omega)
  refine ⟨ad, hA, fun j u hj => hc j u ?_⟩
  have hjl := (List.getElem?_eq_some_iff.1 hj).1
  rw [List.length_map, List.length_take] at hjl
  rw [List.map_take, List.getElem?_take_of_lt (by omega)] at hj
  exact hj
theorem Bts.drop {w : World} {b o : Nat} {bs : List UInt8} (h : Bts w (some ⟨b, o, none⟩) bs) (k c : Nat) (hc : bs.length ≤ c) : Bts w (if c = k then some ⟨b, o, none⟩ else some ⟨b, o + k, none⟩) (bs.drop k) := fun hp => by
  rw [List.length_drop] at hp
  obtain ⟨ad, hA, hcell⟩ := h (by omega)
  injection hA with hA
  subst hA
  rw [if_neg (by omega)]
  refine ⟨_, rfl, fun j u hj => ?_⟩
  rw [List.map_drop, List.getElem?_drop] at hj
  have := hcell _ u hj
  rw [Addr.add_lit] at this ⊢
  rw [Nat.add_assoc]
  exact this
theorem Bts.cell {w : World} {b o : Nat} {bs : List UInt8} (h : Bts w (some ⟨b, o, none⟩) bs) {k : Nat} {v : UInt8} (hv : bs[k]? = some v) : w.cell? ⟨b, o + k, none⟩ = some (.int .u8 (v.toNat : Int)) := by
  obtain ⟨ad, hA, hcell⟩ := h (by have := (List.getElem?_eq_some_iff.1 hv).1; omega)
  injection hA with hA
  subst hA
  have := hcell k (bval v) (by rw [List.getElem?_map, hv]; rfl)
  rw [Addr.add_lit] at this
  exact this
theorem take_set_lt (bs : List UInt8) (k : Nat) (v : UInt8) : (bs.set k v).take k = bs.take k := by
  rw [List.take_set, List.set_eq_of_length_le (by rw [List.length_take]; omega)]
theorem drop_set_lt (bs : List UInt8) (k : Nat) (v : UInt8) : (bs.set k v).drop (k + 1) = bs.drop (k + 1) := by
  rw [List.drop_set, if_pos (by omega)]

theorem spoilt_back (v : UInt8) (b : Int) : spoilt (spoilt v b) b = v := by
  unfold spoilt
  rw [UInt8.xor_assoc, UInt8.xor_self, UInt8.xor_zero]

set_option maxRecDepth 100000 in
set_option maxHeartbeats 2000000 in
theorem spoil_law_main (ab ao : Nat) (n c : Nat) (bs : List UInt8) (at_ by_ f t : Int) (w : World) (hb : Bts w (some ⟨ab, ao, none⟩) bs) (hl : bs.length = n) (hn : n ≤ 1000) (hn0 : 0 < n) (hcap : n ≤ c) (hby : ¬ by_ % 256 = 0) :
    Calls Try.prog 5 #[.slice (some ⟨ab, ao, none⟩) n c, .int .i64 at_, .int .i64 by_, .int .i64 f, .int .i64 t] w (Quiet (.bool true) w) := by
  obtain ⟨k, hk⟩ : ∃ k : Nat, at_ % (n : Int) = k := ⟨(at_ % (n : Int)).toNat, by have := Int.emod_nonneg at_ (show (n : Int) ≠ 0 by omega); omega⟩
  have hkn : k < n := by have := Int.emod_lt_of_pos at_ (show (0 : Int) < n by omega); omega
  obtain ⟨v, hv⟩ : ∃ v, bs[k]? = some v := ⟨bs[k]'(by omega), List.getElem?_eq_getElem (by omega)⟩
  have HPL := Lib.hid (fun w : World => (place_any at_ n w (by omega) (by omega)).mono fun e w' (h : e = .returned (.int .i64 (at_ % n)) ∧ w = w') => (show e = .returned (.int .i64 k) ∧ w = w' from ⟨by rw [h.1, hk], h.2⟩))
  have HB := Lib.hid hb
  have HL := Lib.hid hl
  have HV := Lib.hid hv
  have hg : decide ((1000 : Int) < (n : Int)) = false := by simp; omega
  have hand := and_255 by_
  have h2 : (by_ % 256 == 0) = false := by simpa using hby
  have h3 : ((n : Int) == 0) = false := by simp; omega
  clear hb hl hv hk hby
  go_enter Try.func5, Try.ntmps5
  go_wp2_with fail
  refine (known_any _).mono ?_
  rintro e w1 ⟨rfl, hw1⟩
  have HW1 := Lib.hid hw1
  clear hw1
  go_wp2_with fail
  refine (new_any _).mono ?_
  rintro e w2 ⟨bp, rfl, hbp, hm⟩
  have HM := Lib.hid (hm.of_new HW1.out)
  clear hm hbp
  go_wp2_with fail
  have HMK := Lib.hid (HM.out.keep (.cells #[.int .i64 f, .int .i64 t, .slice (some ⟨ab, ao, none⟩) n c] 32))
  have HB2 := Lib.hid (Blk.new w2 32 #[.int .i64 f, .int .i64 t, .slice (some ⟨ab, ao, none⟩) n c])
  obtain ⟨P12, hP12⟩ : ∃ P12, P12 = w2.heap.size := ⟨_, rfl⟩
  have HP12 := Lib.hid hP12
  rw [← hP12] at HMK HB2 ⊢
  clear hP12
  refine (HMK.out.send (by simp) ⟨f, t, bs⟩ (HB.out.below' HMK.out.world) HL.out (by omega)).mono ?_
  rintro e w3 ⟨rfl, hm, hp⟩
  have HM3 := Lib.hid hm
  have HB3 := Lib.hid ((hp P12 (by simp)).trans HB2.out)
  clear hm hp HMK HB2
  go_wp2_with fail
  refine (HM3.out.double (by simp) (i := 0) (x := ⟨f, t, bs⟩) rfl).mono ?_
  rintro e w4 ⟨rfl, hm, hp⟩
  have HM4 := Lib.hid hm
  have HB4 := Lib.hid ((hp P12 (by simp)).trans HB3.out)
  clear hm hp HM3 HB3
  go_wp2_with fail
  refine (HPL.out _).mono ?_
  rintro e w' ⟨rfl, rfl⟩
  go_wp2_with fail
  refine (HM4.out.spoil (i := 1) (k := k) (x := ⟨f, t, bs⟩) (v := v) rfl HV.out h2).mono ?_
  rintro e w5 ⟨rfl, hm, hp⟩
  have HM5 := Lib.hid hm
  have HB5 := Lib.hid ((hp P12 (by simp)).trans HB4.out)
  clear hm hp HM4 HB4
  go_wp2_with fail
  refine (HM5.out.at_ (i := 1) (x := ⟨f, t, bs.set k (spoilt v by_)⟩) rfl).mono ?_
  rintro e w6 ⟨g6, rfl, hb6, hg6, hw6⟩
  simp only [List.length_set, HL.out]
  have HM6 := Lib.hid ((HM5.out.below hw6).keep (.cells #[.int .i64 f, .int .i64 t, .slice (some ⟨g6, 0, none⟩) n n] 32))
  have HB6 := Lib.hid ((Blk.below HB5.out hw6 (Blk.lt HB5.out)).alloc (.cells #[.int .i64 f, .int .i64 t, .slice (some ⟨g6, 0, none⟩) n n] 32))
  have HC6 := Lib.hid (hb6.alloc (.cells #[.int .i64 f, .int .i64 t, .slice (some ⟨g6, 0, none⟩) n n] 32))
  have HD6 := Lib.hid (Blk.new w6 32 #[.int .i64 f, .int .i64 t, .slice (some ⟨g6, 0, none⟩) n n])
  have HB6l := Lib.hid (show P12 < w6.heap.size from Nat.lt_of_lt_of_le (Blk.lt HB5.out) hw6.size)
  clear hb6 hg6 hw6 HM5 HB5
  go_wp2_with fail
  obtain ⟨P14, hP14⟩ : ∃ P14, P14 = w6.heap.size := ⟨_, rfl⟩
  have HP14 := Lib.hid hP14
  rw [← hP14] at HM6 HD6 ⊢
  clear hP14
  refine (HM6.out.at_ (i := 0) (x := ⟨f, t, bs⟩) rfl).mono ?_
  rintro e w7 ⟨g7, rfl, hb7, hg7, hw7⟩
  simp only [HL.out]
  have HM7 := Lib.hid ((HM6.out.below hw7).alloc (.cells #[.int .i64 f, .int .i64 t, .slice (some ⟨g7, 0, none⟩) n n] 32))
  have HB7 := Lib.hid ((HB6.out.below hw7 (Blk.lt HB6.out)).alloc (.cells #[.int .i64 f, .int .i64 t, .slice (some ⟨g7, 0, none⟩) n n] 32))
  have HC7 := Lib.hid ((HC6.out.below hw7 (Blk.lt HC6.out)).alloc (.cells #[.int .i64 f, .int .i64 t, .slice (some ⟨g7, 0, none⟩) n n] 32))
  have HD7 := Lib.hid ((HD6.out.below hw7 (Blk.lt HD6.out)).alloc (.cells #[.int .i64 f, .int .i64 t, .slice (some ⟨g7, 0, none⟩) n n] 32))
  have HE7 := Lib.hid (hb7.alloc (.cells #[.int .i64 f, .int .i64 t, .slice (some ⟨g7, 0, none⟩) n n] 32))
  have HG7 := Lib.hid (Blk.new w7 32 #[.int .i64 f, .int .i64 t, .slice (some ⟨g7, 0, none⟩) n n])
  clear hb7 hg7 hw7 HM6 HB6 HC6 HD6
  go_wp2_with fail
  obtain ⟨P16, hP16⟩ : ∃ P16, P16 = w7.heap.size := ⟨_, rfl⟩
  rw [← hP16] at HG7 ⊢
  clear hP16
  generalize w7.alloc (.cells #[.int .i64 f, .int .i64 t, .slice (some ⟨g7, 0, none⟩) n n] 32) = W at HM7 HB7 HC7 HD7 HE7 HG7 ⊢
  obtain ⟨Q1, hQ1⟩ : ∃ Q1 : Option Addr, (if n = k + 1 then some ⟨g6, 0, none⟩ else some ⟨g6, k + 1, none⟩) = Q1 := ⟨_, rfl⟩
  obtain ⟨Q2, hQ2⟩ : ∃ Q2 : Option Addr, (if c = k + 1 then some ⟨ab, ao, none⟩ else some ⟨ab, ao + (k + 1), none⟩) = Q2 := ⟨_, rfl⟩
  have HS := Lib.hid (show ∀ w' : World, Below W.heap.size W w' → (w'.cell? ⟨P12, 0, none⟩ = some (.int .i64 f) ∧ w'.cell? ⟨P12, 1, none⟩ = some (.int .i64 t) ∧ w'.cell? ⟨P12, 2, none⟩ = some (.slice (some ⟨ab, ao, none⟩) n c) ∧
      w'.cell? ⟨P14, 0, none⟩ = some (.int .i64 f) ∧ w'.cell? ⟨P14, 1, none⟩ = some (.int .i64 t) ∧ w'.cell? ⟨P14, 2, none⟩ = some (.slice (some ⟨g6, 0, none⟩) n n) ∧
      w'.cell? ⟨P16, 0, none⟩ = some (.int .i64 f) ∧ w'.cell? ⟨P16, 1, none⟩ = some (.int .i64 t) ∧ w'.cell? ⟨P16, 2, none⟩ = some (.slice (some ⟨g7, 0, none⟩) n n) ∧
      w'.cell? ⟨g6, k, none⟩ = some (.int .u8 ((spoilt v by_).toNat : Int)) ∧ w'.cell? ⟨ab, ao + k, none⟩ = some (.int .u8 (v.toNat : Int)) ∧
      (convert 30 9 (.slice (some ⟨g6, 0, none⟩) k n)).run Try.prog w' = .ok (.string (strOf (bs.take k))) w' ∧
      (convert 30 9 (.slice (some ⟨ab, ao, none⟩) k c)).run Try.prog w' = .ok (.string (strOf (bs.take k))) w' ∧
      (convert 30 9 (.slice Q1 (n - (k + 1)) (n - (k + 1)))).run Try.prog w' = .ok (.string (strOf (bs.drop (k + 1)))) w' ∧
      (convert 30 9 (.slice Q2 (n - (k + 1)) (c - (k + 1)))).run Try.prog w' = .ok (.string (strOf (bs.drop (k + 1)))) w') from fun w' hw' => by
    have b12 := HB7.out.below hw' HB7.out.lt
    have b14 := HD7.out.below hw' HD7.out.lt
    have b16 := HG7.out.below hw' HG7.out.lt
    have b6 := (HC7.out.below hw' HC7.out.lt).bts
    have ba := HB.out.below' (HM7.out.world.trans (hw'.mono HM7.out.world.size))
    have e6 : (bs.set k (spoilt v by_))[k]? = some (spoilt v by_) := by rw [List.getElem?_set_self (by rw [HL.out]; exact hkn)]
    have l6 : (bs.set k (spoilt v by_)).length = n := by rw [List.length_set, HL.out]
    have u5 := Try.underlying5
    have u9 := Try.underlying9
    have u30 := Try.underlying30
    refine ⟨b12.cell 0, b12.cell 1, b12.cell 2, b14.cell 0, b14.cell 1, b14.cell 2, b16.cell 0, b16.cell 1, b16.cell 2, ?_, ba.cell HV.out, ?_, ?_, ?_, ?_⟩
    · have h := b6.cell e6
      rw [Nat.zero_add] at h
      exact h
    · exact run_conv u30 u5 u9 (by have h := b6.take k; rw [take_set_lt] at h; exact h) (by rw [List.length_take, HL.out]; omega)
    · exact run_conv u30 u5 u9 (ba.take k) (by rw [List.length_take, HL.out]; omega)
    · exact run_conv u30 u5 u9 (by have h := b6.drop (k + 1) n (by omega); rw [drop_set_lt, Nat.zero_add, hQ1] at h; exact h) (by rw [List.length_drop, HL.out])
    · exact run_conv u30 u5 u9 (by have h := ba.drop (k + 1) c (by rw [HL.out]; exact hcap); rw [hQ2] at h; exact h) (by rw [List.length_drop, HL.out]))
  have HBA := Lib.hid (HB.out.below' (w' := W) HM7.out.world)
  have hxor : bits .xor .u8 (v.toNat : Int) (by_ % 256) = ((spoilt v by_).toNat : Int) := by
    have h := xor_u8 v by_
    unfold bval at h
    injection h
  have HV2 := Lib.hid (show (bs.set k (spoilt v by_))[k]? = some (spoilt v by_) by rw [List.getElem?_set_self (by rw [HL.out]; exact hkn)])
  have HV3 := Lib.hid (show (spoiltAt (spoiltAt ([] ++ [(⟨f, t, bs⟩ : Pk)] ++ [⟨f, t, bs⟩]) 1 ⟨f, t, bs⟩ k v by_) 1 ⟨f, t, bs.set k (spoilt v by_)⟩ k (spoilt v by_) by_)[1]? = some ⟨f, t, bs⟩ by
    have h := HV.out
    simp only [spoiltAt, List.nil_append, List.singleton_append, List.set_cons_succ, List.set_cons_zero, spoilt_back, List.set_set]
    rw [set_self h]
    rfl)
  have hw8 : IntKind.u8.wrap by_ = by_ % 256 := IntKind.wrap_u8' by_
  have k0 : (0 : Int) ≤ (k : Int) := by omega
  have k1 : (k : Int) < (n : Int) := by omega
  have k2 : (k : Int) ≤ (n : Int) := by omega
  have k3 : (k : Int) ≤ (c : Int) := by omega
  have k4 : (0 : Int) ≤ (k : Int) + 1 := by omega
  have k5 : (k : Int) + 1 ≤ (n : Int) := by omega
  have k6 : (n : Int) ≤ (c : Int) := by omega
  have wr : IntKind.i64.wrap ((k : Int) + 1) = (k : Int) + 1 := IntWalk.i64_in _ (by omega)
  have wt : ((k : Int) + 1).toNat = k + 1 := by omega
  have HK1 := Lib.hid (Below.refl W.heap.size W).drew
  clear hn hn0 hcap hkn
  go_cut [140] (fun s140 wx => s140 = .bool false ∧ Below W.heap.size W wx)
  case first =>
    go_region_held3 (fun w' => w'.cell? ⟨P12, 0, none⟩ = some (.int .i64 f) ∧ w'.cell? ⟨P12, 1, none⟩ = some (.int .i64 t) ∧ w'.cell? ⟨P12, 2, none⟩ = some (.slice (some ⟨ab, ao, none⟩) n c) ∧
        w'.cell? ⟨P14, 0, none⟩ = some (.int .i64 f) ∧ w'.cell? ⟨P14, 1, none⟩ = some (.int .i64 t) ∧ w'.cell? ⟨P14, 2, none⟩ = some (.slice (some ⟨g6, 0, none⟩) n n) ∧
        w'.cell? ⟨P16, 0, none⟩ = some (.int .i64 f) ∧ w'.cell? ⟨P16, 1, none⟩ = some (.int .i64 t) ∧ w'.cell? ⟨P16, 2, none⟩ = some (.slice (some ⟨g7, 0, none⟩) n n) ∧
        w'.cell? ⟨g6, k, none⟩ = some (.int .u8 ((spoilt v by_).toNat : Int)) ∧ w'.cell? ⟨ab, ao + k, none⟩ = some (.int .u8 (v.toNat : Int)) ∧
        (convert 30 9 (.slice (some ⟨g6, 0, none⟩) k n)).run Try.prog w' = .ok (.string (strOf (bs.take k))) w' ∧
        (convert 30 9 (.slice (some ⟨ab, ao, none⟩) k c)).run Try.prog w' = .ok (.string (strOf (bs.take k))) w' ∧
        (convert 30 9 (.slice Q1 (n - (k + 1)) (n - (k + 1)))).run Try.prog w' = .ok (.string (strOf (bs.drop (k + 1)))) w' ∧
        (convert 30 9 (.slice Q2 (n - (k + 1)) (c - (k + 1)))).run Try.prog w' = .ok (.string (strOf (bs.drop (k + 1)))) w')
      (first | exact HS.out _ HK1.out | exact HS.out _ HK2.out | fail)
      (first
        | (go_at_call 14; refine (same_yes f t _ _ _ _ _ bs _ ?_ ?_ HL.out).mono ?_; (exact Blk.bts HE7.out.drew); (exact HBA.out.below' HK1.out); rintro e w8 ⟨rfl, hw8⟩; have HK2 := Lib.hid (HK1.out.trans hw8); clear hw8))
    go_wp2_with fail
    go_meet
    exact ⟨rfl, HK2.out⟩
  case rest =>
    obtain ⟨rfl, hwc⟩ := hcut
    have HM8 := Lib.hid (HM7.out.below hwc)
    have HB8 := Lib.hid (HB7.out.below hwc HB7.out.lt)
    have HD8 := Lib.hid (HD7.out.below hwc HD7.out.lt)
    clear hQ1 hQ2 hwc HS HBA HK1 HM7 HB7 HC7 HD7 HE7 HG7 k0 k1 k2 k3 k4 k5 k6 wr wt hxor hw8
    go_wp2_with fail
    refine (HM8.out.spoil (i := 1) (k := k) (x := ⟨f, t, bs.set k (spoilt v by_)⟩) (v := spoilt v by_) rfl HV2.out h2).mono ?_
    rintro e w9 ⟨rfl, hm, hp⟩
    have HM9 := Lib.hid hm
    have HB9 := Lib.hid ((hp P12 (by simp)).trans HB8.out)
    have HD9 := Lib.hid ((hp P14 (by simp)).trans HD8.out)
    clear hm hp HM8 HB8 HD8
    go_wp2_with fail
    refine (HM9.out.at_ (i := 1) (x := ⟨f, t, bs⟩) HV3.out).mono ?_
    rintro e w10 ⟨g10, rfl, hb10, hg10, hw10⟩
    simp only [HL.out]
    have HMa := Lib.hid (HM9.out.below hw10)
    have HBa := Lib.hid (Blk.below HB9.out hw10 (Blk.lt HB9.out))
    have HDa := Lib.hid (Blk.below HD9.out hw10 (Blk.lt HD9.out))
    have HEa := Lib.hid hb10
    have HGa := Lib.hid hg10
    have c0 := HDa.out.cell 0
    have c1 := HDa.out.cell 1
    have c2 := HDa.out.cell 2
    have cf := HDa.out.frozen
    have d0 := HBa.out.cell 0
    have d1 := HBa.out.cell 1
    have d2 := HBa.out.cell 2
    have n1 : P12 ≠ P14 := by have := HP12.out; have := HP14.out; have := HB6l.out; omega
    simp at c0 c1 c2 d0 d1 d2
    clear hb10 hg10 hw10
    go_wp2_with fail
    have hP : w.heap.size ≤ P14 := by
      rw [HP14.out]
      exact Nat.le_trans (Nat.le_trans HM.out.world.size (by rw [← HP12.out]; exact Nat.le_refl _)) (Nat.le_of_lt HB6l.out)
    have HX := Lib.hid (((HMa.out.store (p := ⟨P14, 0, none⟩) (by simp) hP (.int .i64 f)).store (p := ⟨P14, 1, none⟩) (by simp) hP (.int .i64 t)).store (p := ⟨P14, 2, none⟩) (by simp) hP (.slice (some ⟨g10, 0, none⟩) n n))
    have hg : g10 ≠ P14 := by
      have h1 := HGa.out
      have h2 := Blk.lt HD9.out
      omega
    refine (same_yes f t _ _ _ _ _ bs _ (((HEa.out.far hg _).far hg _).far hg _).bts (HB.out.below' HX.out.world) HL.out).mono ?_
    rintro e w11 ⟨rfl, hw11⟩
    have HM11 := Lib.hid (HX.out.below hw11)
    clear hw11 c0 c1 c2 d0 d1 d2 cf
    go_wp2_with fail
    refine (HM11.out.spoil_out (i := 2) (k := k) (b := by_) (.inl (.inr (by simp [spoiltAt])))).mono ?_
    rintro e w12 ⟨rfl, hm, _⟩
    have HM12 := Lib.hid hm
    clear hm
    go_wp2_with fail
    refine (HM12.out.spoil_out (i := -1) (k := k) (b := by_) (.inl (.inl (by omega)))).mono ?_
    rintro e w13 ⟨rfl, hm, _⟩
    have HM13 := Lib.hid hm
    clear hm
    go_wp2_with fail
    go_ret
    exact ⟨rfl, HM13.out.world⟩
end Go.Proofs.Ytgepnglmhalomaa

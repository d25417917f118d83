/-
  Own text. The walk over the law TextOrder.
-/
import Derived.Test.YtbofkndkgdnbmaaDoorLawRunes
import Derived.Deep.QuietTactic
import Derived.BigQuiet
import Derived.Deep.RegionWith
import Derived.Test.YtbofkndkgdnbmaaDoorHelp
namespace Go.Proofs.YtbofkndkgdnbmaaDoor
open Go.RowKit

set_option maxHeartbeats 2000000 in
set_option maxRecDepth 10000 in
theorem order_long (a b d : ByteArray) (A : Option Addr) (n c : Nat) (k : Int) (w : World) (h : 1000 < a.size ∨ 1000 < b.size ∨ 1000 < d.size ∨ 300 < n) : Calls Tryd.prog 9 #[.string a, .string b, .string d, .slice A n c, .int .u8 k] w (Mk (.bool true) w) := by
  by_cases h1 : 1000 < a.size
  · have g1 : decide ((1000 : Int) < (a.size : Int)) = true := by simp; omega
    clear h
    go_enter Tryd.func9, Tryd.ntmps9
    go_wp2_with (go_at_call 10; refine (known_any _).mono ?_; rintro e w1 ⟨rfl, hw⟩; have HW := Lib.hid hw; clear hw)
    go_ret
    exact ⟨rfl, HW.out⟩
  · have g1 : decide ((1000 : Int) < (a.size : Int)) = false := by simp; omega
    by_cases h2 : 1000 < b.size
    · have g2 : decide ((1000 : Int) < (b.size : Int)) = true := by simp; omega
      clear h h1
      go_enter Tryd.func9, Tryd.ntmps9
      go_wp2_with (go_at_call 10; refine (known_any _).mono ?_; rintro e w1 ⟨rfl, hw⟩; have HW := Lib.hid hw; clear hw)
      go_ret
      exact ⟨rfl, HW.out⟩
    · have g2 : decide ((1000 : Int) < (b.size : Int)) = false := by simp; omega
      by_cases h3 : 1000 < d.size
      · have g3 : decide ((1000 : Int) < (d.size : Int)) = true := by simp; omega
        clear h h1 h2
        go_enter Tryd.func9, Tryd.ntmps9
        go_wp2_with (go_at_call 10; refine (known_any _).mono ?_; rintro e w1 ⟨rfl, hw⟩; have HW := Lib.hid hw; clear hw)
        go_ret
        exact ⟨rfl, HW.out⟩
      · have g3 : decide ((1000 : Int) < (d.size : Int)) = false := by simp; omega
        have g4 : decide ((300 : Int) < (n : Int)) = true := by simp; omega
        clear h h1 h2 h3
        go_enter Tryd.func9, Tryd.ntmps9
        go_wp2_with (go_at_call 10; refine (known_any _).mono ?_; rintro e w1 ⟨rfl, hw⟩; have HW := Lib.hid hw; clear hw)
        go_ret
        exact ⟨rfl, HW.out⟩

/-- A world behind w: nothing that was there has turned. -/
structure Later (w : World) where
  world : World
  below : Below w.heap.size w world
instance (w : World) : Nonempty (Later w) := ⟨⟨w, Below.refl _ _⟩⟩
/-- A region that draws its order, whose operations and callees turn nothing that was there: one walk, in the order of the text. -/
theorem wp_region_later {id : Nat} {Q : Exit → Go.Act → World → Prop} {a : Go.Act} {w : World} {l : List Oper} (hB : Region.lexB .any l.toArray = true)
    (h : wpQuiet Tryd.prog l.toArray (fun w' => ∃ t : Later w, w' = t.world) (fun a' => ∀ w', (∃ t : Later w, w' = t.world) → Q .normal a' w') l a) : (Code.region id l.toArray true).wp Tryd.prog Q a w :=
  wp_region_quiet (C := fun w' => ∃ t : Later w, w' = t.world) (by kernel_rfl) hB ⟨⟨_, (Below.refl w.heap.size w).drew⟩, rfl⟩ (by simpa using h)
theorem Calls.later {f : FuncId} {args : Array Value} {w : World} {t : Later w} {v : Value} (h : Calls Tryd.prog f args t.world (Mk v t.world)) : Calls Tryd.prog f args t.world fun e w'' => e = .returned v ∧ ∃ t' : Later w, w'' = t'.world :=
  h.mono fun _ w' ⟨he, hb⟩ => ⟨he, ⟨w', t.below.trans (hb.mono t.below.size)⟩, rfl⟩

/-- Block g begins with the texts ts. -/
def Sevn (w : World) (g : Nat) (ts : List ByteArray) : Prop := ∀ (j : Nat) (s : ByteArray), ts[j]? = some s → w.cell? ⟨g, j, none⟩ = some (.string s)
theorem Sevn.below {w w' : World} {g : Nat} {ts : List ByteArray} (h : Sevn w g ts) (hb : Below w.heap.size w w') : Sevn w' g ts := fun j s hj =>
  (hb.cell (p := ⟨g, j, none⟩) (block_lt_of_cell (h j s hj))).trans (h j s hj)
theorem sevn_new (w : World) (a b c d e f h : ByteArray) : Sevn (w.alloc (.cells #[.string a, .string b, .string c, .string d, .string e, .string f, .string h] 9)) w.heap.size [a, b, c, d, e, f, h] := by
  intro j s hj
  rw [World.cell?_alloc_new]
  match j, hj with
  | 0, hj => simp only [List.getElem?_cons_zero, Option.some.injEq] at hj; subst hj; rfl
  | 1, hj => simp only [List.getElem?_cons_succ, List.getElem?_cons_zero, Option.some.injEq] at hj; subst hj; rfl
  | 2, hj => simp only [List.getElem?_cons_succ, List.getElem?_cons_zero, Option.some.injEq] at hj; subst hj; rfl
  | 3, hj => simp only [List.getElem?_cons_succ, List.getElem?_cons_zero, Option.some.injEq] at hj; subst hj; rfl
  | 4, hj => simp only [List.getElem?_cons_succ, List.getElem?_cons_zero, Option.some.injEq] at hj; subst hj; rfl
  | 5, hj => simp only [List.getElem?_cons_succ, List.getElem?_cons_zero, Option.some.injEq] at hj; subst hj; rfl
  | 6, hj => simp only [List.getElem?_cons_succ, List.getElem?_cons_zero, Option.some.injEq] at hj; subst hj; rfl
  | j + 7, hj => simp at hj

theorem Nums.take {w : World} {A : Option Addr} {zs : List Nat} (h : Nums w A zs) (k : Nat) : Nums w A (zs.take k) := fun hp => by
  rw [List.length_take] at hp
  obtain ⟨b, o, hA, hc⟩ := h (by omega)
  refine ⟨b, o, hA, fun j r hj => hc j r ?_⟩
  have hjl := (List.getElem?_eq_some_iff.1 hj).1
  rw [List.length_take] at hjl
  rw [List.getElem?_take_of_lt (by omega)] at hj
  exact hj

set_option maxHeartbeats 2000000 in
set_option maxRecDepth 10000 in
theorem order_law (a b d : ByteArray) (A : Option Addr) (zs : List Nat) (n c : Nat) (k : Int) (w : World) (hA : Nums w A zs) (hn : zs.length = n) (hcap : n ≤ c) (ha : a.size ≤ 1000) (hb : b.size ≤ 1000) (hd : d.size ≤ 1000) (hx : n ≤ 300) (hk0 : 0 ≤ k) (hk1 : k ≤ 255) (hA0 : (∃ x, A = some x) ∨ (A = none ∧ n = 0 ∧ c = 0)) : Calls Tryd.prog 9 #[.string a, .string b, .string d, .slice A n c, .int .u8 k] w (Mk (.bool true) w) := by
  have HA := Lib.hid hA
  have HN := Lib.hid hn
  clear hA hn
  have g1 : decide ((1000 : Int) < (a.size : Int)) = false := by simp; omega
  have g2 : decide ((1000 : Int) < (b.size : Int)) = false := by simp; omega
  have g3 : decide ((1000 : Int) < (d.size : Int)) = false := by simp; omega
  have g4 : decide ((300 : Int) < (n : Int)) = false := by simp; omega
  go_enter Tryd.func9, Tryd.ntmps9
  go_wp2_with fail
  refine (known_any _).mono ?_
  rintro e w1 ⟨rfl, hw⟩
  have HW1 := Lib.hid hw
  clear hw
  go_wp2_with fail
  refine (seat_any A zs n c _ (HA.out.below HW1.out) HN.out (by omega)).mono ?_
  rintro e w2 ⟨rs, rfl, hv, hl, hw⟩
  have HW2 := Lib.hid (HW1.out.trans (hw.mono HW1.out.size))
  have hts := (tx_size rs).2
  have HT := Lib.hid (show (tx rs).size ≤ 1200 by omega)
  clear hw hv hl hts HW1 g1 g2 g3 g4
  generalize tx rs = t at HT ⊢
  go_wp2_with fail
  refine (place_any k ((n : Int) + 1) _ hk0 (by omega) (by omega)).mono ?_
  rintro e w3 ⟨rfl, rfl⟩
  obtain ⟨q, hq, hqn⟩ : ∃ q : Nat, (q : Int) = k % ((n : Int) + 1) ∧ q ≤ n := ⟨(k % ((n : Int) + 1)).toNat, by
    have := Int.emod_nonneg k (show (n : Int) + 1 ≠ 0 by omega)
    omega, by
    have := Int.emod_nonneg k (show (n : Int) + 1 ≠ 0 by omega)
    have := Int.emod_lt_of_pos k (show (0 : Int) < (n : Int) + 1 by omega)
    omega⟩
  rw [← hq]
  clear hq
  have HQ := Lib.hid (show (zs.take q).length = q by have := HN.out; rw [List.length_take]; omega)
  have HAQ := Lib.hid ((HA.out.below HW2.out).take q)
  clear HA HN
  go_upto_region 7 with (fail)
  go_cut [13] (fun s13 wx => ∃ u : ByteArray, s13 = .string u ∧ u.size ≤ 1200 ∧ Below w.heap.size w wx)
  case first =>
    rcases hA0 with ⟨x, rfl⟩ | ⟨rfl, rfl, rfl⟩
    · go_wp2_with fail
      refine (seat_any _ (zs.take q) q c _ HAQ.out HQ.out (by omega)).mono ?_
      rintro e w4 ⟨us, rfl, _, hl, hw⟩
      have hus := (tx_size us).2
      have HW4 := Lib.hid (HW2.out.trans (hw.mono HW2.out.size))
      go_wp2_with fail
      go_meet
      case rel => exact ⟨_, rfl, by omega, HW4.out⟩
    · obtain rfl : q = 0 := by omega
      go_wp2_with fail
      refine (seat_any none (zs.take 0) 0 0 _ HAQ.out HQ.out (by omega)).mono ?_
      rintro e w4 ⟨us, rfl, _, hl, hw⟩
      have hus := (tx_size us).2
      have HW4 := Lib.hid (HW2.out.trans (hw.mono HW2.out.size))
      go_wp2_with fail
      go_meet
      case rel => exact ⟨_, rfl, by omega, HW4.out⟩
  case rest =>
    obtain ⟨u, rfl, hu, hb4⟩ := hcut
    have HU := Lib.hid hu
    have HW4 := Lib.hid hb4
    clear hu hb4 HAQ HQ HW2 hA0
    have HF := Lib.hid (show (tx ((R t).map smallN)).size ≤ 5000 by
      have h1 := (tx_size ((R t).map smallN)).2
      have h2 := R_len t
      have := HT.out
      rw [List.length_map] at h1
      omega)
    have HFC := Lib.hid (fun w1 => fold_any t w1 (by have := HT.out; omega))
    generalize tx ((R t).map smallN) = f at HF HFC
    have HNS := Lib.hid (no_sum (a := t) (b := a) (by have := HT.out; omega) (by omega))
    have HTA := Lib.hid (show (t ++ a).size ≤ 2200 by rw [size_add]; have := HT.out; omega)
    go_wp2_with fail
    refine (HFC.out _).mono ?_
    intro e w5 h3
    obtain ⟨rfl, hw⟩ := Mk.after HW4.out h3
    have HW5 := Lib.hid hw
    clear hw h3 HW4 HFC
    go_wp2_with fail
    all_goals
      first
        | (exact absurd (by assumption) HNS.out)
        | skip
    have HW6 := Lib.hid (HW5.out.alloc HW5.out.size (.cells #[.string a, .string b, .string d, .string t, .string u, .string f, .string (t ++ a)] 9))
    obtain ⟨ts, hts⟩ : ∃ ts, ts = [a, b, d, t, u, f, t ++ a] := ⟨_, rfl⟩
    have HS0 := Lib.hid (show Sevn (w5.alloc (.cells #[.string a, .string b, .string d, .string t, .string u, .string f, .string (t ++ a)] 9)) w5.heap.size ts from by rw [hts]; exact sevn_new w5 _ _ _ _ _ _ _)
    have HTL := Lib.hid (show ts.length = 7 by rw [hts]; rfl)
    have HTZ := Lib.hid (show ∀ s ∈ ts, s.size ≤ 5000 by
      intro s hs
      rw [hts] at hs
      have := HT.out
      have := HU.out
      have := HF.out
      have := HTA.out
      simp only [List.mem_cons, List.mem_nil_iff, or_false] at hs
      rcases hs with rfl | rfl | rfl | rfl | rfl | rfl | rfl <;> omega)
    clear hts HT HU HF HTA HW5 ha hb hd hx hk0 hk1 hqn hcap
    obtain ⟨g, hg⟩ : ∃ g, g = w5.heap.size := ⟨_, rfl⟩
    rw [← hg] at HS0 ⊢
    clear hg
    go_loopw [15] (fun i wr => ∃ k : Nat, k ≤ 7 ∧ i = .int .i64 k ∧ Sevn wr g ts ∧ Below w.heap.size w wr) (fun i _ => 7 - (intOf i).toNat)
    case atStart => exact ⟨0, by omega, rfl, HS0.out, HW6.out⟩
    case round =>
      obtain ⟨i, hi, rfl, hsv, hbl⟩ := hrel
      have HSI := Lib.hid hsv
      have HBI := Lib.hid hbl
      clear hsv hbl HS0 HW6
      have i0 : (0 : Int) ≤ (i : Int) := by omega
      by_cases hlt : i < 7
      · have i1 : (i : Int) < 7 := by omega
        obtain ⟨x, hx⟩ : ∃ x, ts[i]? = some x := ⟨_, List.getElem?_eq_getElem (by rw [HTL.out]; exact hlt)⟩
        have HX := Lib.hid hx
        have HXZ := Lib.hid (HTZ.out x (List.mem_of_getElem? hx))
        clear hx
        go_wp2_with fail
        go_loopw [16] (fun j wr => ∃ k : Nat, k ≤ 7 ∧ j = .int .i64 k ∧ Sevn wr g ts ∧ Below w.heap.size w wr) (fun j _ => 7 - (intOf j).toNat)
        case atStart => exact ⟨0, by omega, rfl, HSI.out, HBI.out⟩
        case round =>
          obtain ⟨j, hj, rfl, hsv, hbl⟩ := hrel
          have HSJ := Lib.hid hsv
          have HBJ := Lib.hid hbl
          clear hsv hbl HSI HBI
          have j0 : (0 : Int) ≤ (j : Int) := by omega
          by_cases hlj : j < 7
          · have j1 : (j : Int) < 7 := by omega
            obtain ⟨y, hy⟩ : ∃ y, ts[j]? = some y := ⟨_, List.getElem?_eq_getElem (by rw [HTL.out]; exact hlj)⟩
            have HY := Lib.hid hy
            have HYZ := Lib.hid (HTZ.out y (List.mem_of_getElem? hy))
            clear hy
            have HL1 := Lib.hid (fun w1 => less_any x y w1 (by have := HXZ.out; omega) (by have := HYZ.out; omega))
            have HL2 := Lib.hid (fun w1 => less_any y x w1 (by have := HYZ.out; omega) (by have := HXZ.out; omega))
            have HR1 := Lib.hid (fun w1 => rless_any x y w1 (by have := HXZ.out; omega) (by have := HYZ.out; omega))
            have hs1 : ∀ t : Later wr, t.world.cell? ⟨g, i, none⟩ = some (.string x) := fun t => HSJ.out.below t.below i x HX.out
            have hs2 : ∀ t : Later wr, t.world.cell? ⟨g, j, none⟩ = some (.string y) := fun t => HSJ.out.below t.below j y HY.out
            have e1 : decide ((i : Int) < 0) = false := by simp
            have e2 : decide (7 ≤ i) = false := by simp; omega
            have e3 : decide ((j : Int) < 0) = false := by simp
            have e4 : decide (7 ≤ j) = false := by simp; omega
            have HAS := Lib.hid (lessT_asymm (a := x.data.toList) (b := y.data.toList))
            have HTO := Lib.hid (lessT_total (a := x.data.toList) (b := y.data.toList))
            have HTR := Lib.hid (fun (z : ByteArray) => lessT_trans (a := x.data.toList) (b := y.data.toList) (c := z.data.toList))
            generalize hv : lessT x.data.toList y.data.toList = v at HL1 HR1 HAS HTO HTR
            generalize hv2 : lessT y.data.toList x.data.toList = v2 at HL2 HAS HTO
            clear hv hv2
            go_wp2_with fail
            refine wp_region_later (by kernel_rfl) ?_
            repeat (go_big_quiet_step ((go_at_call 27; exact Calls.later (HL1.out _))))
            refine wpQuiet_nil ?_
            rintro _ ⟨t2, rfl⟩
            have HSJ2 := Lib.hid (HSJ.out.below t2.below)
            have HBJ2 := Lib.hid (HBJ.out.trans (t2.below.mono HBJ.out.size))
            generalize t2.world = w8 at HSJ2 HBJ2 ⊢
            clear hs1 hs2 t2 HSJ HBJ HL1
            have hs1 : ∀ t : Later w8, t.world.cell? ⟨g, i, none⟩ = some (.string x) := fun t => HSJ2.out.below t.below i x HX.out
            have hs2 : ∀ t : Later w8, t.world.cell? ⟨g, j, none⟩ = some (.string y) := fun t => HSJ2.out.below t.below j y HY.out
            cases v
            · cases v2
              · have hxy := HTO.out rfl rfl
                obtain rfl : x = y := bytes_ext hxy
                clear hxy
                go_wp2_with fail
                refine wp_region_later (by kernel_rfl) ?_
                repeat (go_big_quiet_step (first | (go_at_call 27; exact Calls.later (HL2.out _)) | (go_at_call 28; exact Calls.later (HR1.out _))))
                refine wpQuiet_nil ?_
                rintro _ ⟨t2, rfl⟩
                have HSJ3 := Lib.hid (HSJ2.out.below t2.below)
                have HBJ3 := Lib.hid (HBJ2.out.trans (t2.below.mono HBJ2.out.size))
                generalize t2.world = w9 at HSJ3 HBJ3 ⊢
                clear hs1 hs2 t2 HSJ2 HBJ2 HR1 HL2
                go_wp2_with fail
                go_loopw [18] (fun s18 wr => s18 = .int .i64 0 ∧ Sevn wr g ts ∧ Below w.heap.size w wr) (fun _ _ => 0)
                case atStart => exact ⟨rfl, HSJ3.out, HBJ3.out⟩
                case round =>
                  obtain ⟨rfl, hsv, hbl⟩ := hrel
                  have HSM := Lib.hid hsv
                  have HBM := Lib.hid hbl
                  clear hsv hbl HSJ3 HBJ3
                  go_wp2_with fail
                  go_roundw
                  case rel => exact ⟨j + 1, by omega, by go_num, HSM.out, HBM.out⟩
                  case measure => simp [intOf]; omega
              · clear HTO HAS
                go_wp2_with fail
                refine wp_region_later (by kernel_rfl) ?_
                repeat (go_big_quiet_step (first | (go_at_call 27; exact Calls.later (HL2.out _)) | (go_at_call 28; exact Calls.later (HR1.out _))))
                refine wpQuiet_nil ?_
                rintro _ ⟨t2, rfl⟩
                have HSJ3 := Lib.hid (HSJ2.out.below t2.below)
                have HBJ3 := Lib.hid (HBJ2.out.trans (t2.below.mono HBJ2.out.size))
                generalize t2.world = w9 at HSJ3 HBJ3 ⊢
                clear hs1 hs2 t2 HSJ2 HBJ2 HR1 HL2
                go_wp2_with fail
                go_loopw [18] (fun s18 wr => s18 = .int .i64 0 ∧ Sevn wr g ts ∧ Below w.heap.size w wr) (fun _ _ => 0)
                case atStart => exact ⟨rfl, HSJ3.out, HBJ3.out⟩
                case round =>
                  obtain ⟨rfl, hsv, hbl⟩ := hrel
                  have HSM := Lib.hid hsv
                  have HBM := Lib.hid hbl
                  clear hsv hbl HSJ3 HBJ3
                  go_wp2_with fail
                  go_roundw
                  case rel => exact ⟨j + 1, by omega, by go_num, HSM.out, HBM.out⟩
                  case measure => simp [intOf]; omega
            · obtain rfl : v2 = false := HAS.out rfl
              go_wp2_with fail
              refine wp_region_later (by kernel_rfl) ?_
              repeat (go_big_quiet_step (first | (go_at_call 27; exact Calls.later (HL2.out _)) | (go_at_call 28; exact Calls.later (HR1.out _))))
              refine wpQuiet_nil ?_
              rintro _ ⟨t2, rfl⟩
              have HSJ3 := Lib.hid (HSJ2.out.below t2.below)
              have HBJ3 := Lib.hid (HBJ2.out.trans (t2.below.mono HBJ2.out.size))
              generalize t2.world = w9 at HSJ3 HBJ3 ⊢
              clear hs1 hs2 t2 HSJ2 HBJ2 HR1 HL2
              go_wp2_with fail
              go_loopw [18] (fun s18 wr => ∃ p : Nat, p ≤ 7 ∧ s18 = .int .i64 p ∧ Sevn wr g ts ∧ Below w.heap.size w wr) (fun s18 _ => 7 - (intOf s18).toNat)
              case atStart => exact ⟨0, by omega, rfl, HSJ3.out, HBJ3.out⟩
              case round =>
                obtain ⟨p, hp, rfl, hsv, hbl⟩ := hrel
                have HSM := Lib.hid hsv
                have HBM := Lib.hid hbl
                clear hsv hbl HSJ3 HBJ3
                have p0 : (0 : Int) ≤ (p : Int) := by omega
                by_cases hlp : p < 7
                · have p1 : (p : Int) < 7 := by omega
                  obtain ⟨z, hz⟩ : ∃ z, ts[p]? = some z := ⟨_, List.getElem?_eq_getElem (by rw [HTL.out]; exact hlp)⟩
                  have HZ := Lib.hid hz
                  have HZZ := Lib.hid (HTZ.out z (List.mem_of_getElem? hz))
                  clear hz
                  have HL3 := Lib.hid (fun w1 => less_any y z w1 (by have := HYZ.out; omega) (by have := HZZ.out; omega))
                  have HL4 := Lib.hid (fun w1 => less_any x z w1 (by have := HXZ.out; omega) (by have := HZZ.out; omega))
                  have hs1 : ∀ t : Later wr, t.world.cell? ⟨g, i, none⟩ = some (.string x) := fun t => HSM.out.below t.below i x HX.out
                  have hs2 : ∀ t : Later wr, t.world.cell? ⟨g, j, none⟩ = some (.string y) := fun t => HSM.out.below t.below j y HY.out
                  have hs3 : ∀ t : Later wr, t.world.cell? ⟨g, p, none⟩ = some (.string z) := fun t => HSM.out.below t.below p z HZ.out
                  have e5 : decide ((p : Int) < 0) = false := by simp
                  have e6 : decide (7 ≤ p) = false := by simp; omega
                  have HTZ1 := Lib.hid (HTR.out z (by trivial))
                  generalize hv : lessT y.data.toList z.data.toList = v at HL3 HTZ1
                  generalize hv2 : lessT x.data.toList z.data.toList = v2 at HL4 HTZ1
                  clear hv hv2
                  cases v
                  · go_wp2_with fail
                    refine wp_region_later (by kernel_rfl) ?_
                    repeat (go_big_quiet_step ((go_at_call 27; exact Calls.later (HL3.out _))))
                    refine wpQuiet_nil ?_
                    rintro _ ⟨t2, rfl⟩
                    have HSJ3 := Lib.hid (HSM.out.below t2.below)
                    have HBJ3 := Lib.hid (HBM.out.trans (t2.below.mono HBM.out.size))
                    generalize t2.world = w9 at HSJ3 HBJ3 ⊢
                    clear hs1 hs2 hs3 t2 HSM HBM HL3 HL4
                    go_wp2_with fail
                    go_roundw
                    case rel => exact ⟨p + 1, by omega, by go_num, HSJ3.out, HBJ3.out⟩
                    case measure => simp [intOf]; omega
                  · obtain rfl : v2 = true := HTZ1.out rfl
                    go_wp2_with fail
                    refine wp_region_later (by kernel_rfl) ?_
                    repeat (go_big_quiet_step (first | (go_at_call_of 27 (Value.string y); exact Calls.later (HL3.out _)) | (go_at_call_of 27 (Value.string x); exact Calls.later (HL4.out _))))
                    refine wpQuiet_nil ?_
                    rintro _ ⟨t2, rfl⟩
                    have HSJ3 := Lib.hid (HSM.out.below t2.below)
                    have HBJ3 := Lib.hid (HBM.out.trans (t2.below.mono HBM.out.size))
                    generalize t2.world = w9 at HSJ3 HBJ3 ⊢
                    clear hs1 hs2 hs3 t2 HSM HBM HL3 HL4
                    go_wp2_with fail
                    go_roundw
                    case rel => exact ⟨p + 1, by omega, by go_num, HSJ3.out, HBJ3.out⟩
                    case measure => simp [intOf]; omega
                · obtain rfl : p = 7 := by omega
                  go_wp2_with fail
                  go_roundw
                  case rel => exact ⟨j + 1, by omega, by go_num, HSM.out, HBM.out⟩
                  case measure => simp [intOf]; omega
          · obtain rfl : j = 7 := by omega
            go_wp2_with fail
            go_roundw
            case rel => exact ⟨i + 1, by omega, by go_num, HSJ.out, HBJ.out⟩
            case measure => simp [intOf]; omega
      · obtain rfl : i = 7 := by omega
        go_wp2_with fail
        go_ret
        exact ⟨rfl, HBI.out⟩
end Go.Proofs.YtbofkndkgdnbmaaDoor

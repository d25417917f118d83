/-
  Own text. NetPlays: the acts that came in; the walk over the law.
-/
import Derived.Test.YtgepnglmhalomaaPair
import Derived.Deep.QuietTactic
import Derived.BigQuiet
import Derived.IntWalk
import Derived.Deep.LoopGhost
import Derived.Deep.CutBlock
import Derived.Deep.RegionHeld3
namespace Go.Proofs.Ytgepnglmhalomaa
open Go.RowKit

/-- An act that came in. -/
structure ActV where
  wh : Int
  i : Int
  j : Int
  by_ : Int
  f : Int
  t : Int
  A : Option Addr
  n : Nat
  c : Nat
  b : List UInt8

def inI64 (k : Int) : Prop := -9223372036854775808 ≤ k ∧ k ≤ 9223372036854775807

/-- The slice at ⟨lb, lo⟩ holds the acts as. -/
def Acts (w : World) (lb lo : Nat) (as_ : List ActV) : Prop := ∀ k e, as_[k]? = some e →
  w.cell? ⟨lb, lo + k * 7, none⟩ = some (.int .u8 e.wh) ∧ w.cell? ⟨lb, lo + k * 7 + 1, none⟩ = some (.int .i64 e.i) ∧ w.cell? ⟨lb, lo + k * 7 + 2, none⟩ = some (.int .i64 e.j) ∧ w.cell? ⟨lb, lo + k * 7 + 3, none⟩ = some (.int .i64 e.by_) ∧
  w.cell? ⟨lb, lo + k * 7 + 4, none⟩ = some (.int .i64 e.f) ∧ w.cell? ⟨lb, lo + k * 7 + 5, none⟩ = some (.int .i64 e.t) ∧ w.cell? ⟨lb, lo + k * 7 + 6, none⟩ = some (.slice e.A e.n e.c) ∧
  (0 ≤ e.wh ∧ e.wh ≤ 255) ∧ Bts w e.A e.b ∧ e.b.length = e.n

set_option maxRecDepth 100000 in
set_option maxHeartbeats 4000000 in
theorem plays_walk (lb lo cl : Nat) (AL : Option Addr) (as_ : List ActV) (w : World) (hal : 0 < as_.length → AL = some ⟨lb, lo, none⟩) (hacts : Acts w lb lo as_) (hl : as_.length ≤ 100) :
    Calls Try.prog 3 #[.slice AL as_.length cl] w (Quiet (.bool true) w) := by
  have HAL := Lib.hid hal
  have HAC := Lib.hid hacts
  have HLL := Lib.hid hl
  have g1 : decide ((100 : Int) < (as_.length : Int)) = false := by simp; omega
  clear hal hacts
  go_enter Try.func3, Try.ntmps3
  go_wp2_with fail
  refine (known_any _).mono ?_
  rintro e w1 ⟨rfl, hw1⟩
  have HW1 := Lib.hid hw1
  clear hw1
  go_wp2_with fail
  refine (new_any _).mono ?_
  rintro e w2 ⟨bp, rfl, hbp, hm⟩
  have HM := Lib.hid (hm.of_new HW1.out)
  clear hm hbp
  go_wp2_with fail
  have HB0 := Lib.hid (show Both w [] (w2.alloc (.cells #[.slice none 0 0] 29)) 53 bp [] 29 w2.heap.size [] by
    obtain ⟨F, hn, hF, hw, _⟩ := HM.out
    refine ⟨F, [w2.heap.size], hn.below ((Below.refl _ _).alloc (Nat.le_refl _) _), Net.new w2 29, fun k hk => ⟨(hF k hk).1, by simp, fun hm => ?_⟩, fun k hk => ?_, hw.alloc hw.size _, by simp⟩
    · have := hn.lt k hk
      simp at hm
      omega
    · simp at hk
      subst hk
      exact ⟨hw.size, by simp⟩)
  obtain ⟨b2, hb2⟩ : ∃ b2, b2 = w2.heap.size := ⟨_, rfl⟩
  rw [← hb2] at HB0 ⊢
  clear hb2
  go_loopg [5] as_.length (fun g i wr => ∃ (k : Nat) (L : List Pk), k ≤ as_.length ∧ i = .int .i64 k ∧ L.length ≤ k ∧ g = as_.length - k ∧ Both w [] wr 53 bp L 29 b2 L)
  case atStart => exact ⟨0, [], Nat.zero_le _, rfl, Nat.le_refl _, rfl, HB0.out⟩
  case round =>
    obtain ⟨k, L, hk, rfl, hLk, hg, hB⟩ := hrel
    have HG := Lib.hid hg
    clear hg
    have HB := Lib.hid hB
    have HLK := Lib.hid hLk
    clear hB hLk HB0
    by_cases hlt : k < as_.length
    · have hal := HAL.out (by omega)
      subst hal
      obtain ⟨e, he⟩ : ∃ e, as_[k]? = some e := ⟨_, List.getElem?_eq_getElem hlt⟩
      obtain ⟨c0, c1, c2, c3, c4, c5, c6, ⟨w0, w1'⟩, hbt, hbl⟩ := HAC.out k e he
      have hB := HB.out.world
      have d0 := (hB.cell (p := ⟨lb, lo + k * 7, none⟩) (block_lt_of_cell c0)).trans c0
      have d1 := (hB.cell (p := ⟨lb, lo + k * 7 + 1, none⟩) (block_lt_of_cell c1)).trans c1
      have d2 := (hB.cell (p := ⟨lb, lo + k * 7 + 2, none⟩) (block_lt_of_cell c2)).trans c2
      have d3 := (hB.cell (p := ⟨lb, lo + k * 7 + 3, none⟩) (block_lt_of_cell c3)).trans c3
      have d4 := (hB.cell (p := ⟨lb, lo + k * 7 + 4, none⟩) (block_lt_of_cell c4)).trans c4
      have d5 := (hB.cell (p := ⟨lb, lo + k * 7 + 5, none⟩) (block_lt_of_cell c5)).trans c5
      have d6 := (hB.cell (p := ⟨lb, lo + k * 7 + 6, none⟩) (block_lt_of_cell c6)).trans c6
      have HBT := Lib.hid hbt
      have HBL := Lib.hid hbl
      have i0 : (0 : Int) ≤ (k : Int) := by omega
      have i1 : (k : Int) < (as_.length : Int) := by omega
      clear c0 c1 c2 c3 c4 c5 c6 hbt hbl hB he
      by_cases hn : 100 < e.n
      · go_wp2_with fail
        go_ret
        exact ⟨rfl, HB.out.world.alloc HB.out.world.size _⟩
      · go_wp2_with fail
        have HBW := Lib.hid (HB.out.keep (.cells #[.int .u8 e.wh, .int .i64 e.i, .int .i64 e.j, .int .i64 e.by_, .int .i64 e.f, .int .i64 e.t, .slice e.A e.n e.c] 34))
        have HPA := Lib.hid (Blk.new wr 34 #[.int .u8 e.wh, .int .i64 e.i, .int .i64 e.j, .int .i64 e.by_, .int .i64 e.f, .int .i64 e.t, .slice e.A e.n e.c])
        obtain ⟨PA, hPA⟩ : ∃ PA, PA = wr.heap.size := ⟨_, rfl⟩
        rw [← hPA] at HPA HBW ⊢
        clear hPA d0 d1 d2 d3 d4 d5 d6 HB
        generalize wr.alloc (.cells #[.int .u8 e.wh, .int .i64 e.i, .int .i64 e.j, .int .i64 e.by_, .int .i64 e.f, .int .i64 e.t, .slice e.A e.n e.c] 34) = W1 at HPA HBW ⊢
        have p0 := HPA.out.cell 0
        have p1 := HPA.out.cell 1
        have p2 := HPA.out.cell 2
        simp only [List.getElem?_toArray, List.getElem?_cons_zero, List.getElem?_cons_succ] at p0 p1 p2
        go_quiet (fail)
        have HBW := Lib.hid (HBW.out.below (below_drewN (Below.refl _ _) nq))
        have HPA := Lib.hid (HPA.out.drewN nq)
        clear p0 p1 p2
        generalize W1.drewN nq = W at HPA HBW ⊢
        have p0 := HPA.out.cell 0
        simp only [List.getElem?_toArray, List.getElem?_cons_zero] at p0
        go_upto_if 56 with (fail)
        go_cut [7, 8] (fun s7 s8 wx => ∃ a t : Int, s7 = .int .i64 a ∧ s8 = .int .i64 t ∧ Both w [PA] wx 53 bp L 29 b2 L ∧ Blk wx PA 34 #[.int .u8 e.wh, .int .i64 e.i, .int .i64 e.j, .int .i64 e.by_, .int .i64 e.f, .int .i64 e.t, .slice e.A e.n e.c])
        case first =>
          have l0 : (0 : Int) ≤ (L.length : Int) := by omega
          have l1 : (L.length : Int) ≤ 100 := by have := HLK.out; omega
          by_cases hbit : (bits .and .u8 e.wh 16 == 0) = true
          · go_wp2_with (first
              | (go_at_call 9; refine (HBW.out.len1).mono ?_; rintro e1 w' ⟨rfl, rfl⟩)
              | (go_at_call 8; refine (place_any _ _ _ (by omega) (by omega)).mono ?_; rintro e1 w' ⟨rfl, rfl⟩))
            go_meet
            case rel => exact ⟨_, _, rfl, rfl, HBW.out, HPA.out⟩
          · go_wp2_with fail
            go_meet
            case rel => exact ⟨_, _, rfl, rfl, HBW.out, HPA.out⟩
        case rest =>
          clear p0 HBW HPA
          obtain ⟨a, t, rfl, rfl, hB, hP⟩ := hcut
          have HB := Lib.hid hB
          have HP := Lib.hid hP
          have p0 := HP.out.cell 0
          simp only [List.getElem?_toArray, List.getElem?_cons_zero] at p0
          clear hB hP
          go_upto_block 2 with (fail)
          go_cut [9, 10, 69] (fun s9 s10 _ wx => ∃ (x : Bool) (L' : List Pk), s9 = .bool x ∧ s10 = .bool x ∧ L'.length ≤ k + 1 ∧ Both w [] wx 53 bp L' 29 b2 L')
          case first =>
            have p3 := HP.out.cell 3
            have p4 := HP.out.cell 4
            have p5 := HP.out.cell 5
            have p6 := HP.out.cell 6
            simp only [List.getElem?_toArray, List.getElem?_cons_zero, List.getElem?_cons_succ] at p3 p4 p5 p6
            obtain ⟨m, hm⟩ : ∃ m, m = e.wh % 8 := ⟨_, rfl⟩
            rw [← hm]
            have m0 : m = 0 ∨ m = 1 ∨ m = 2 ∨ m = 3 ∨ m = 4 ∨ m = 5 ∨ m = 6 ∨ m = 7 := by omega
            clear hm
            have hl : L.length ≤ 1000000 := by have := HLK.out; have := HLL.out; omega
            have HL := Lib.hid hl
            clear hl
            rcases m0 with rfl | rfl | rfl | rfl | rfl | rfl | rfl | rfl
            · as_aux_lemma =>
              go_wp2_with fail
              refine (HB.out.send1 HL.out ⟨e.f, e.t, e.b⟩ (HBT.out.below' HB.out.world) HBL.out (by omega)).mono ?_
              rintro e1 wa ⟨rfl, hb, hp⟩
              have HBa := Lib.hid hb
              have HPa := Lib.hid (show Blk wa PA 34 _ from (hp PA (by simp)).trans HP.out)
              clear hb hp p0 p3 p4 p5 p6
              have p4 := HPa.out.cell 4
              have p5 := HPa.out.cell 5
              have p6 := HPa.out.cell 6
              simp only [List.getElem?_toArray, List.getElem?_cons_zero, List.getElem?_cons_succ] at p4 p5 p6
              go_wp2_with fail
              refine (HBa.out.send2 HL.out ⟨e.f, e.t, e.b⟩ (HBT.out.below' HBa.out.world) HBL.out (by omega)).mono ?_
              rintro e1 wb ⟨rfl, hb, hp⟩
              have HBb := Lib.hid hb
              clear hb hp p4 p5 p6
              go_wp2_with fail
              go_meet
              case rel => exact ⟨true, L ++ [⟨e.f, e.t, e.b⟩], rfl, rfl, by rw [List.length_append]; have := HLK.out; simp; omega, HBb.out.weak (by simp)⟩
            · as_aux_lemma =>
              go_wp2_with fail
              refine (HB.out.send1 HL.out ⟨e.f, e.t, e.b⟩ (HBT.out.below' HB.out.world) HBL.out (by omega)).mono ?_
              rintro e1 wa ⟨rfl, hb, hp⟩
              have HBa := Lib.hid hb
              have HPa := Lib.hid (show Blk wa PA 34 _ from (hp PA (by simp)).trans HP.out)
              clear hb hp p0 p3 p4 p5 p6
              have p4 := HPa.out.cell 4
              have p5 := HPa.out.cell 5
              have p6 := HPa.out.cell 6
              simp only [List.getElem?_toArray, List.getElem?_cons_zero, List.getElem?_cons_succ] at p4 p5 p6
              go_wp2_with fail
              refine (HBa.out.send2 HL.out ⟨e.f, e.t, e.b⟩ (HBT.out.below' HBa.out.world) HBL.out (by omega)).mono ?_
              rintro e1 wb ⟨rfl, hb, hp⟩
              have HBb := Lib.hid hb
              clear hb hp p4 p5 p6
              go_wp2_with fail
              go_meet
              case rel => exact ⟨true, L ++ [⟨e.f, e.t, e.b⟩], rfl, rfl, by rw [List.length_append]; have := HLK.out; simp; omega, HBb.out.weak (by simp)⟩
            · as_aux_lemma =>
              go_wp2_with fail
              refine (HB.out.send1 HL.out ⟨e.f, e.t, e.b⟩ (HBT.out.below' HB.out.world) HBL.out (by omega)).mono ?_
              rintro e1 wa ⟨rfl, hb, hp⟩
              have HBa := Lib.hid hb
              have HPa := Lib.hid (show Blk wa PA 34 _ from (hp PA (by simp)).trans HP.out)
              clear hb hp p0 p3 p4 p5 p6
              have p4 := HPa.out.cell 4
              have p5 := HPa.out.cell 5
              have p6 := HPa.out.cell 6
              simp only [List.getElem?_toArray, List.getElem?_cons_zero, List.getElem?_cons_succ] at p4 p5 p6
              go_wp2_with fail
              refine (HBa.out.send2 HL.out ⟨e.f, e.t, e.b⟩ (HBT.out.below' HBa.out.world) HBL.out (by omega)).mono ?_
              rintro e1 wb ⟨rfl, hb, hp⟩
              have HBb := Lib.hid hb
              clear hb hp p4 p5 p6
              go_wp2_with fail
              go_meet
              case rel => exact ⟨true, L ++ [⟨e.f, e.t, e.b⟩], rfl, rfl, by rw [List.length_append]; have := HLK.out; simp; omega, HBb.out.weak (by simp)⟩
            · as_aux_lemma =>
              by_cases hok : okAt L a = true
              · have HOK := Lib.hid hok
                clear hok p0 p3 p4 p5 p6
                go_wp2_with fail
                refine (HB.out.take1 HL.out a).mono ?_
                rintro e1 wa ⟨A, n, c, Qs, rfl, hn, hb, hq, ht, _⟩
                have HN := Lib.hid hn
                have HQ := Lib.hid hq
                have HBb := Lib.hid (hb.below' ((Below.refl _ _).alloc (Nat.le_refl _) (.cells #[.int .i64 (pkAt L a).f, .int .i64 (pkAt L a).t, .slice A n c] 32)))
                have HT := Lib.hid (ht.keep (.cells #[.int .i64 (pkAt L a).f, .int .i64 (pkAt L a).t, .slice A n c] 32))
                have HP1 := Lib.hid (Blk.new wa 32 #[.int .i64 (pkAt L a).f, .int .i64 (pkAt L a).t, .slice A n c])
                clear hn hb hq ht
                have hok := HOK.out
                rw [hok]
                clear hok
                go_wp2_with fail
                obtain ⟨P1, hP1⟩ : ∃ P1, P1 = wa.heap.size := ⟨_, rfl⟩
                rw [← hP1] at HP1 HT ⊢
                clear hP1
                refine (HT.out.take2 HL.out a).mono ?_
                rintro e2 wb ⟨A', n', c', rfl, hn, hb, ht, hp, hk⟩
                obtain rfl : n = n' := HN.out.symm.trans hn
                have HB2 := Lib.hid (ht.keep (.cells #[.int .i64 (pkAt L a).f, .int .i64 (pkAt L a).t, .slice A' n c'] 32))
                have HBd := Lib.hid (hb.below' ((Below.refl _ _).alloc (Nat.le_refl _) (.cells #[.int .i64 (pkAt L a).f, .int .i64 (pkAt L a).t, .slice A' n c'] 32)))
                have HBe := Lib.hid ((hk A _ HBb.out HQ.out).below' ((Below.refl _ _).alloc (Nat.le_refl _) (.cells #[.int .i64 (pkAt L a).f, .int .i64 (pkAt L a).t, .slice A' n c'] 32)))
                have HP1' := Lib.hid ((show Blk wb P1 32 _ from (hp P1 (by simp)).trans HP1.out).alloc (.cells #[.int .i64 (pkAt L a).f, .int .i64 (pkAt L a).t, .slice A' n c'] 32))
                have HP2 := Lib.hid (Blk.new wb 32 #[.int .i64 (pkAt L a).f, .int .i64 (pkAt L a).t, .slice A' n c'])
                clear hn hb ht hp hk HP1 HBb
                have hok := HOK.out
                rw [hok]
                clear hok
                go_upto_region 30 with (fail)
                obtain ⟨P2, hP2⟩ : ∃ P2, P2 = wb.heap.size := ⟨_, rfl⟩
                rw [← hP2] at HP2 HB2 ⊢
                clear hP2
                generalize wb.alloc (.cells #[.int .i64 (pkAt L a).f, .int .i64 (pkAt L a).t, .slice A' n c'] 32) = W at HB2 HBd HBe HP2 HP1' ⊢
                have p0 := HP1'.out.cell 0
                have p1 := HP1'.out.cell 1
                have p2 := HP1'.out.cell 2
                have r0 := HP2.out.cell 0
                have r1 := HP2.out.cell 1
                have r2 := HP2.out.cell 2
                simp only [List.getElem?_toArray, List.getElem?_cons_zero, List.getElem?_cons_succ] at p0 p1 p2 r0 r1 r2
                go_wp2_with fail
                refine (same_yes _ _ _ _ _ _ _ (pkAt L a).b _ HBe.out HBd.out HN.out).mono ?_
                rintro e3 w8 ⟨rfl, hw8⟩
                have HB8 := Lib.hid (HB2.out.below hw8)
                clear hw8 p0 p1 p2 r0 r1 r2
                go_wp2_with fail
                go_meet
                case rel => exact ⟨true, dropAt L a, rfl, rfl, by have := len_drop L a; have := HLK.out; omega, HB8.out.weak (by simp)⟩
              · have hok : okAt L a = false := by simpa using hok
                have HOK := Lib.hid hok
                clear hok p0 p3 p4 p5 p6
                go_wp2_with fail
                refine (HB.out.take1 HL.out a).mono ?_
                rintro e1 wa ⟨A, n, c, Qs, rfl, hn, hb, hq, ht, _⟩
                have HN := Lib.hid hn
                have HQ := Lib.hid hq
                have HBb := Lib.hid (hb.below' ((Below.refl _ _).alloc (Nat.le_refl _) (.cells #[.int .i64 (pkAt L a).f, .int .i64 (pkAt L a).t, .slice A n c] 32)))
                have HT := Lib.hid (ht.keep (.cells #[.int .i64 (pkAt L a).f, .int .i64 (pkAt L a).t, .slice A n c] 32))
                have HP1 := Lib.hid (Blk.new wa 32 #[.int .i64 (pkAt L a).f, .int .i64 (pkAt L a).t, .slice A n c])
                clear hn hb hq ht
                have hok := HOK.out
                rw [hok]
                clear hok
                go_wp2_with fail
                obtain ⟨P1, hP1⟩ : ∃ P1, P1 = wa.heap.size := ⟨_, rfl⟩
                rw [← hP1] at HP1 HT ⊢
                clear hP1
                refine (HT.out.take2 HL.out a).mono ?_
                rintro e2 wb ⟨A', n', c', rfl, hn, hb, ht, hp, hk⟩
                obtain rfl : n = n' := HN.out.symm.trans hn
                have HB2 := Lib.hid (ht.keep (.cells #[.int .i64 (pkAt L a).f, .int .i64 (pkAt L a).t, .slice A' n c'] 32))
                have HBd := Lib.hid (hb.below' ((Below.refl _ _).alloc (Nat.le_refl _) (.cells #[.int .i64 (pkAt L a).f, .int .i64 (pkAt L a).t, .slice A' n c'] 32)))
                have HBe := Lib.hid ((hk A _ HBb.out HQ.out).below' ((Below.refl _ _).alloc (Nat.le_refl _) (.cells #[.int .i64 (pkAt L a).f, .int .i64 (pkAt L a).t, .slice A' n c'] 32)))
                have HP1' := Lib.hid ((show Blk wb P1 32 _ from (hp P1 (by simp)).trans HP1.out).alloc (.cells #[.int .i64 (pkAt L a).f, .int .i64 (pkAt L a).t, .slice A' n c'] 32))
                have HP2 := Lib.hid (Blk.new wb 32 #[.int .i64 (pkAt L a).f, .int .i64 (pkAt L a).t, .slice A' n c'])
                clear hn hb ht hp hk HP1 HBb
                have hok := HOK.out
                rw [hok]
                clear hok
                go_upto_region 30 with (fail)
                obtain ⟨P2, hP2⟩ : ∃ P2, P2 = wb.heap.size := ⟨_, rfl⟩
                rw [← hP2] at HP2 HB2 ⊢
                clear hP2
                generalize wb.alloc (.cells #[.int .i64 (pkAt L a).f, .int .i64 (pkAt L a).t, .slice A' n c'] 32) = W at HB2 HBd HBe HP2 HP1' ⊢
                have p0 := HP1'.out.cell 0
                have p1 := HP1'.out.cell 1
                have p2 := HP1'.out.cell 2
                have r0 := HP2.out.cell 0
                have r1 := HP2.out.cell 1
                have r2 := HP2.out.cell 2
                simp only [List.getElem?_toArray, List.getElem?_cons_zero, List.getElem?_cons_succ] at p0 p1 p2 r0 r1 r2
                go_wp2_with fail
                go_meet
                case rel => exact ⟨false, dropAt L a, rfl, rfl, by have := len_drop L a; have := HLK.out; omega, HB2.out.weak (by simp)⟩
            · as_aux_lemma =>
              go_wp2_with fail
              refine (HB.out.double1 HL.out a).mono ?_
              rintro e1 wa ⟨rfl, hb, _⟩
              have HBa := Lib.hid hb
              clear hb p0 p3 p4 p5 p6
              go_wp2_with fail
              refine (HBa.out.double2 HL.out a).mono ?_
              rintro e1 wb ⟨rfl, hb, _⟩
              have HBb := Lib.hid hb
              clear hb
              go_wp2_with fail
              go_meet
              case rel => exact ⟨_, addAt L a, rfl, rfl, by have := len_add L a; have := HLK.out; omega, HBb.out.weak (by simp)⟩
            · as_aux_lemma =>
              go_wp2_with fail
              refine (HB.out.swap1 a t).mono ?_
              rintro e1 wa ⟨rfl, hb, _⟩
              have HBa := Lib.hid hb
              clear hb p0 p3 p4 p5 p6
              go_wp2_with fail
              refine (HBa.out.swap2 a t).mono ?_
              rintro e1 wb ⟨rfl, hb, _⟩
              have HBb := Lib.hid hb
              clear hb
              go_wp2_with fail
              go_meet
              case rel => exact ⟨_, swapAt L a t, rfl, rfl, by have := len_swap L a t; have := HLK.out; omega, HBb.out.weak (by simp)⟩
            · as_aux_lemma =>
              have HBd := Lib.hid (HB.out.drewN 1)
              have HPd := Lib.hid (HP.out.drewN 1)
              have HX := Lib.hid (show wc.drew.cell? ⟨PA, 3, none⟩ = some (.int .i64 e.by_) from p3)
              clear p0 p3 p4 p5 p6
              go_upto_region 36 with (fail)
              go_region_held3 (fun w' => w'.cell? ⟨PA, 3, none⟩ = some (.int .i64 e.by_))
                (first | exact HX.out | exact HXa.out | exact HXb.out | fail)
                (first
                  | (go_at_call 19; refine (HBd.out.spoil1 a t e.by_).mono ?_; rintro e1 wa ⟨rfl, hb, hp⟩; have HBa := Lib.hid hb; have HXa := Lib.hid (show wa.cell? ⟨PA, 3, none⟩ = some (.int .i64 e.by_) from (Blk.cell (show Blk wa PA 34 _ from (hp PA (by simp)).trans HPd.out) 3)); clear hb hp)
                  | (go_at_call 20; refine (HBa.out.spoil2 a t e.by_).mono ?_; rintro e1 wb ⟨rfl, hb, hp⟩; have HBb := Lib.hid hb; have HXb := Lib.hid (show wb.cell? ⟨PA, 3, none⟩ = some (.int .i64 e.by_) from ((World.cell?_of_block (hp PA (by simp))).trans HXa.out)); clear hb hp))
              go_wp2_with fail
              go_meet
              case rel => exact ⟨_, spoilAt L a t e.by_, rfl, rfl, by have := len_spoil L a t e.by_; have := HLK.out; omega, HBb.out.weak (by simp)⟩
            · as_aux_lemma =>
              by_cases hok : okAt L a = true
              · have HOK := Lib.hid hok
                clear hok p0 p3 p4 p5 p6
                go_wp2_with fail
                refine (HB.out.at1 a).mono ?_
                rintro e1 wa ⟨A, n, c, rfl, hn, hb, hw⟩
                have HN := Lib.hid hn
                have HBb := Lib.hid (hb.below' ((Below.refl _ _).alloc (Nat.le_refl _) (.cells #[.int .i64 (pkAt L a).f, .int .i64 (pkAt L a).t, .slice A n c] 32)))
                have HT := Lib.hid ((HB.out.below hw).keep (.cells #[.int .i64 (pkAt L a).f, .int .i64 (pkAt L a).t, .slice A n c] 32))
                have HP1 := Lib.hid (Blk.new wa 32 #[.int .i64 (pkAt L a).f, .int .i64 (pkAt L a).t, .slice A n c])
                clear hn hb hw
                have hok := HOK.out
                rw [hok]
                clear hok
                go_wp2_with fail
                obtain ⟨P1, hP1⟩ : ∃ P1, P1 = wa.heap.size := ⟨_, rfl⟩
                rw [← hP1] at HP1 HT ⊢
                clear hP1
                refine (HT.out.at2 a).mono ?_
                rintro e2 wb ⟨A', n', c', rfl, hn, hb, hw⟩
                obtain rfl : n = n' := HN.out.symm.trans hn
                have HB2 := Lib.hid ((HT.out.below hw).keep (.cells #[.int .i64 (pkAt L a).f, .int .i64 (pkAt L a).t, .slice A' n c'] 32))
                have HBd := Lib.hid (hb.below' ((Below.refl _ _).alloc (Nat.le_refl _) (.cells #[.int .i64 (pkAt L a).f, .int .i64 (pkAt L a).t, .slice A' n c'] 32)))
                have HBe := Lib.hid ((HBb.out.below' hw).below' ((Below.refl _ _).alloc (Nat.le_refl _) (.cells #[.int .i64 (pkAt L a).f, .int .i64 (pkAt L a).t, .slice A' n c'] 32)))
                have HP1' := Lib.hid ((HP1.out.below hw HP1.out.lt).alloc (.cells #[.int .i64 (pkAt L a).f, .int .i64 (pkAt L a).t, .slice A' n c'] 32))
                have HP2 := Lib.hid (Blk.new wb 32 #[.int .i64 (pkAt L a).f, .int .i64 (pkAt L a).t, .slice A' n c'])
                clear hn hb hw HP1 HBb
                have hok := HOK.out
                rw [hok]
                clear hok
                go_upto_region 21 with (fail)
                obtain ⟨P2, hP2⟩ : ∃ P2, P2 = wb.heap.size := ⟨_, rfl⟩
                rw [← hP2] at HP2 HB2 ⊢
                clear hP2
                generalize wb.alloc (.cells #[.int .i64 (pkAt L a).f, .int .i64 (pkAt L a).t, .slice A' n c'] 32) = W at HB2 HBd HBe HP2 HP1' ⊢
                have p0 := HP1'.out.cell 0
                have p1 := HP1'.out.cell 1
                have p2 := HP1'.out.cell 2
                have r0 := HP2.out.cell 0
                have r1 := HP2.out.cell 1
                have r2 := HP2.out.cell 2
                simp only [List.getElem?_toArray, List.getElem?_cons_zero, List.getElem?_cons_succ] at p0 p1 p2 r0 r1 r2
                go_wp2_with fail
                refine (same_yes _ _ _ _ _ _ _ (pkAt L a).b _ HBe.out HBd.out HN.out).mono ?_
                rintro e3 w8 ⟨rfl, hw8⟩
                have HB8 := Lib.hid (HB2.out.below hw8)
                clear hw8 p0 p1 p2 r0 r1 r2
                go_wp2_with fail
                go_meet
                case rel => exact ⟨true, L, rfl, rfl, by have := HLK.out; omega, HB8.out.weak (by simp)⟩
              · have hok : okAt L a = false := by simpa using hok
                have HOK := Lib.hid hok
                clear hok p0 p3 p4 p5 p6
                go_wp2_with fail
                refine (HB.out.at1 a).mono ?_
                rintro e1 wa ⟨A, n, c, rfl, hn, hb, hw⟩
                have HN := Lib.hid hn
                have HBb := Lib.hid (hb.below' ((Below.refl _ _).alloc (Nat.le_refl _) (.cells #[.int .i64 (pkAt L a).f, .int .i64 (pkAt L a).t, .slice A n c] 32)))
                have HT := Lib.hid ((HB.out.below hw).keep (.cells #[.int .i64 (pkAt L a).f, .int .i64 (pkAt L a).t, .slice A n c] 32))
                have HP1 := Lib.hid (Blk.new wa 32 #[.int .i64 (pkAt L a).f, .int .i64 (pkAt L a).t, .slice A n c])
                clear hn hb hw
                have hok := HOK.out
                rw [hok]
                clear hok
                go_wp2_with fail
                obtain ⟨P1, hP1⟩ : ∃ P1, P1 = wa.heap.size := ⟨_, rfl⟩
                rw [← hP1] at HP1 HT ⊢
                clear hP1
                refine (HT.out.at2 a).mono ?_
                rintro e2 wb ⟨A', n', c', rfl, hn, hb, hw⟩
                obtain rfl : n = n' := HN.out.symm.trans hn
                have HB2 := Lib.hid ((HT.out.below hw).keep (.cells #[.int .i64 (pkAt L a).f, .int .i64 (pkAt L a).t, .slice A' n c'] 32))
                have HBd := Lib.hid (hb.below' ((Below.refl _ _).alloc (Nat.le_refl _) (.cells #[.int .i64 (pkAt L a).f, .int .i64 (pkAt L a).t, .slice A' n c'] 32)))
                have HBe := Lib.hid ((HBb.out.below' hw).below' ((Below.refl _ _).alloc (Nat.le_refl _) (.cells #[.int .i64 (pkAt L a).f, .int .i64 (pkAt L a).t, .slice A' n c'] 32)))
                have HP1' := Lib.hid ((HP1.out.below hw HP1.out.lt).alloc (.cells #[.int .i64 (pkAt L a).f, .int .i64 (pkAt L a).t, .slice A' n c'] 32))
                have HP2 := Lib.hid (Blk.new wb 32 #[.int .i64 (pkAt L a).f, .int .i64 (pkAt L a).t, .slice A' n c'])
                clear hn hb hw HP1 HBb
                have hok := HOK.out
                rw [hok]
                clear hok
                go_upto_region 21 with (fail)
                obtain ⟨P2, hP2⟩ : ∃ P2, P2 = wb.heap.size := ⟨_, rfl⟩
                rw [← hP2] at HP2 HB2 ⊢
                clear hP2
                generalize wb.alloc (.cells #[.int .i64 (pkAt L a).f, .int .i64 (pkAt L a).t, .slice A' n c'] 32) = W at HB2 HBd HBe HP2 HP1' ⊢
                have p0 := HP1'.out.cell 0
                have p1 := HP1'.out.cell 1
                have p2 := HP1'.out.cell 2
                have r0 := HP2.out.cell 0
                have r1 := HP2.out.cell 1
                have r2 := HP2.out.cell 2
                simp only [List.getElem?_toArray, List.getElem?_cons_zero, List.getElem?_cons_succ] at p0 p1 p2 r0 r1 r2
                go_wp2_with fail
                go_meet
                case rel => exact ⟨false, L, rfl, rfl, by have := HLK.out; omega, HB2.out.weak (by simp)⟩
          case rest =>
            clear p0 HB HP HLK
            obtain ⟨x, M, rfl, rfl, hM, hB⟩ := hcut
            have HB := Lib.hid hB
            have HM2 := Lib.hid hM
            clear hB hM
            go_upto_region 37 with (fail)
            go_cut [166] (fun s wx => s = .bool false ∧ Both w [] wx 53 bp M 29 b2 M)
            case first =>
              obtain ⟨A2, C2, h2⟩ := HB.out.hd2
              cases x
              all_goals
                go_quiet ((go_at_call 9; exact Calls.quiet_of_same ((HB.out.drewN _).len1.mono fun e w' ⟨h1, h2⟩ => ⟨h1, h2.symm⟩)))
                go_wp2_with fail
                go_meet
                case rel => exact ⟨rfl, HB.out.drewN _⟩
            case rest =>
              obtain ⟨rfl, hB⟩ := hcut
              have HB := Lib.hid hB
              clear hB
              go_wp2_with fail
              obtain ⟨wo, rfl⟩ : ∃ wo : World, wo = wr := ⟨_, rfl⟩
              go_loopg [19] (M.length + 2) (fun g s wr => ∃ q : Int, s = .int .i64 q ∧ -1 ≤ q ∧ q ≤ (M.length : Int) + 1 ∧ g = ((M.length : Int) + 1 - q).toNat ∧ Both w [] wr 53 bp M 29 b2 M)
              case atStart => exact ⟨-1, rfl, by omega, by omega, by omega, HB.out⟩
              case round =>
                obtain ⟨q, rfl, q0, q1, hg2, hB⟩ := hrel
                have HG2 := Lib.hid hg2
                have HB := Lib.hid hB
                clear hg2 hB
                obtain ⟨A2, C2, h2⟩ := HB.out.hd2
                have l1 : (M.length : Int) ≤ 101 := by have := HM2.out; have := HLL.out; omega
                by_cases hq : q ≤ (M.length : Int)
                · as_aux_lemma =>
                  go_wp2_with fail
                  refine (HB.out.at1 q).mono ?_
                  rintro e1 wa ⟨A, n, c, rfl, hn, hb, hw⟩
                  have HN := Lib.hid hn
                  have HBa := Lib.hid (HB.out.below (hw.alloc hw.size (.cells #[.int .i64 (pkAt M q).f, .int .i64 (pkAt M q).t, .slice A n c] 32)))
                  have HBb := Lib.hid (hb.below' ((Below.refl _ _).alloc (Nat.le_refl _) (.cells #[.int .i64 (pkAt M q).f, .int .i64 (pkAt M q).t, .slice A n c] 32)))
                  have HP1 := Lib.hid (Blk.new wa 32 #[.int .i64 (pkAt M q).f, .int .i64 (pkAt M q).t, .slice A n c])
                  clear hn hb hw h2
                  go_wp2_with fail
                  refine (HBa.out.at2 q).mono ?_
                  rintro e2 wb ⟨A', n', c', rfl, hn, hb, hw⟩
                  obtain rfl : n = n' := HN.out.symm.trans hn
                  have HBc := Lib.hid (HBa.out.below (hw.alloc hw.size (.cells #[.int .i64 (pkAt M q).f, .int .i64 (pkAt M q).t, .slice A' n c'] 32)))
                  have HBd := Lib.hid (hb.below' ((Below.refl _ _).alloc (Nat.le_refl _) (.cells #[.int .i64 (pkAt M q).f, .int .i64 (pkAt M q).t, .slice A' n c'] 32)))
                  have HBe := Lib.hid (HBb.out.below' (hw.alloc hw.size (.cells #[.int .i64 (pkAt M q).f, .int .i64 (pkAt M q).t, .slice A' n c'] 32)))
                  have HP2 := Lib.hid (Blk.new wb 32 #[.int .i64 (pkAt M q).f, .int .i64 (pkAt M q).t, .slice A' n c'])
                  have HP1' := Lib.hid ((HP1.out.below hw HP1.out.lt).alloc (.cells #[.int .i64 (pkAt M q).f, .int .i64 (pkAt M q).t, .slice A' n c'] 32))
                  clear hn hb hw HBa HBb HP1
                  obtain ⟨P1, hP1⟩ : ∃ P1, P1 = wa.heap.size := ⟨_, rfl⟩
                  rw [← hP1] at HP1' ⊢
                  clear hP1
                  go_upto_region 44 with (fail)
                  obtain ⟨P2, hP2⟩ : ∃ P2, P2 = wb.heap.size := ⟨_, rfl⟩
                  rw [← hP2] at HP2 ⊢
                  clear hP2
                  generalize wb.alloc (.cells #[.int .i64 (pkAt M q).f, .int .i64 (pkAt M q).t, .slice A' n c'] 32) = W at HBc HBd HBe HP2 HP1' ⊢
                  have p0 := HP1'.out.cell 0
                  have p1 := HP1'.out.cell 1
                  have p2 := HP1'.out.cell 2
                  have r0 := HP2.out.cell 0
                  have r1 := HP2.out.cell 1
                  have r2 := HP2.out.cell 2
                  simp only [List.getElem?_toArray, List.getElem?_cons_zero, List.getElem?_cons_succ] at p0 p1 p2 r0 r1 r2
                  go_wp2_with fail
                  refine (same_yes _ _ _ _ _ _ _ (pkAt M q).b _ HBe.out HBd.out HN.out).mono ?_
                  rintro e3 w8 ⟨rfl, hw8⟩
                  have HB8 := Lib.hid (HBc.out.below hw8)
                  clear hw8 p0 p1 p2 r0 r1 r2
                  go_wp2_with fail
                  go_roundg ((M.length : Int) + 1 - (q + 1)).toNat
                  case measure => have := HG2.out; omega
                  case rel => exact ⟨q + 1, rfl, by omega, by omega, rfl, HB8.out⟩
                · have HQ := Lib.hid hq
                  have hqd : decide (q ≤ (M.length : Int)) = false := by simpa using hq
                  clear hq
                  go_wp2_with fail
                  go_roundg (as_.length - (k + 1))
                  case measure => have := HG.out; omega
                  case rel => exact ⟨k + 1, M, by omega, by go_num, HM2.out, rfl, HB.out⟩
    · go_wp2_with fail
      go_ret
      exact ⟨rfl, HB.out.world⟩
end Go.Proofs.Ytgepnglmhalomaa
